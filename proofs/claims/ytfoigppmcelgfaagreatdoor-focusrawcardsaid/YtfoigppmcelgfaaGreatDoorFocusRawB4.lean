/-
  Part 4 of the texts under the law FocusRaw: the calculus, the plain functions, their walks, plain facts.
-/
import Derived.Test.YtfoigppmcelgfaaGreatDoorFocusRawB3
import Derived.Test.YtfoigppmcelgfaaGreatDoorProg
import Derived.KernelRfl
section
set_option maxRecDepth 100000
namespace Go.Proofs.YtfoigppmcelgfaaGreatDoor
open Go Go.E2
theorem qz (t:Tree) (st:(List Styled)) {r:focus_sight} (hr:jA t st=some r):Con Tryz.prog 58 [.agg (tC t),aV (((lM Styled.cs st)))] [] (.s (.agg [dV ((lI r.order)),.d (.mp true (encM (kInt .i64) Node.cs r.nodes)),.d (.mp false (encM (kInt .i64) eBool r.visible)),.d (.mp false (encM (kInt .i64) eBool r.disabled))])) []:=by
 unfold jA at hr
 refine ap 99 0 [.cell 4 105] [(0,.s (.agg (tC t))),(1,.s (aV (((lM Styled.cs st)))))] Tryz.func58 zz zz zz zz zz zz zz zz fun w g M ρ _=>(af (ac (ak 0 (aP (j:=0) (cs:=(tC t)) zz zz zz zz zz) (ak 0 (aw (j:=1) (cs:=[.d (.v (.slice none 0 0)),.d (.v (.map none)),.d (.v (.map none)),.d (.v (.map none))]) zz zz zz zz) (ab (af (ac (aa (.agg (tC t)) ?_))))))))
 obtain ⟨x1,hx1,hr⟩:=bq hr
 refine ae (aL (tau []) (.s (aV (((lI x1))))) [] (tR _ hx1) zz ⟨.inl zz,tv⟩ tv yU tv) (ak 0 (g9 (j:=2) true zz zz) (ak 0 (g9 (j:=3) false zz zz) (ak 0 (g9 (j:=4) false zz zz) (ae (pM (x:=.agg [dV ((lI x1)),.own 2,.own 3,.own 4]) zz zz tv zz) (ak 0 (aw (j:=5) (cs:=[.d (.v (.slice none 0 0)),.d (.v (.map none)),.d (.v (.map none)),.d (.v (.map none))]) zz zz zz zz) (aq (gt (cs':=[dV ((lI x1)),.own 2,.own 3,.own 4]) zz zz zz zz zz zz zz zz) (ab (af (af (ac (aa (.c (.loc 5 0)) (aa (aV (((lI x1)))) (ae (aK (enc:=eI) x1 zz zz tv zz) (aa (aB ((x1.length:Int)==0)) (ab ?_)))))))))))))))
 refine ah (b:=(x1.length:Int)==0) zz (fun h2=>?_) (fun h2=>?_)
 have hr:=selT h2 hr
 refine af (ac (aa (.agg [dV ((lI x1)),.own 2,.own 3,.own 4]) (aq (gt (cs':=[dV ((lI x1)),.own 2,.own 3,.own 4]) zz zz zz zz zz zz zz zz) (ab (Ok.conv (bH [(18,.s (.c (.d (.mp true (encM (kInt .i64) Node.cs ([]:(List (Int×Node)))))))),(21,.s (.agg [dV ((lI x1)),.d (.mp true (encM (kInt .i64) Node.cs ([]:(List (Int×Node))))),.own 3,.own 4])),(26,.s (.agg [dV ((lI x1)),.d (.mp true (encM (kInt .i64) Node.cs ([]:(List (Int×Node))))),.own 3,.own 4]))] [(1,.blk [dV ((lI x1)),.d (.mp true (encM (kInt .i64) Node.cs ([]:(List (Int×Node))))),.own 3,.own 4] 105),(5,.blk [dV ((lI x1)),.d (.mp true (encM (kInt .i64) Node.cs ([]:(List (Int×Node))))),.own 3,.own 4] 105)] 2 0 zz ⟨⟨_,zz,zz⟩,⟨_,zz,zz⟩,⟨_,zz,zz⟩,tv⟩ ⟨⟨_,_,zz,zz⟩,⟨_,_,zz,zz⟩,tv⟩) (Ok.conv (bH [(19,.s (.c (.d (.mp false (encM (kInt .i64) eBool ([]:(List (Int×Bool)))))))),(21,.s (.agg [dV ((lI x1)),.d (.mp true (encM (kInt .i64) Node.cs ([]:(List (Int×Node))))),.d (.mp false (encM (kInt .i64) eBool ([]:(List (Int×Bool))))),.own 4])),(26,.s (.agg [dV ((lI x1)),.d (.mp true (encM (kInt .i64) Node.cs ([]:(List (Int×Node))))),.d (.mp false (encM (kInt .i64) eBool ([]:(List (Int×Bool))))),.own 4]))] [(1,.blk [dV ((lI x1)),.d (.mp true (encM (kInt .i64) Node.cs ([]:(List (Int×Node))))),.d (.mp false (encM (kInt .i64) eBool ([]:(List (Int×Bool))))),.own 4] 105),(5,.blk [dV ((lI x1)),.d (.mp true (encM (kInt .i64) Node.cs ([]:(List (Int×Node))))),.d (.mp false (encM (kInt .i64) eBool ([]:(List (Int×Bool))))),.own 4] 105)] 3 0 zz ⟨⟨_,zz,zz⟩,⟨_,zz,zz⟩,⟨_,zz,zz⟩,tv⟩ ⟨⟨_,_,zz,zz⟩,⟨_,_,zz,zz⟩,tv⟩) (Ok.conv (bH [(20,.s (.c (.d (.mp false (encM (kInt .i64) eBool ([]:(List (Int×Bool)))))))),(21,.s (.agg [dV ((lI x1)),.d (.mp true (encM (kInt .i64) Node.cs ([]:(List (Int×Node))))),.d (.mp false (encM (kInt .i64) eBool ([]:(List (Int×Bool))))),.d (.mp false (encM (kInt .i64) eBool ([]:(List (Int×Bool)))))])),(26,.s (.agg [dV ((lI x1)),.d (.mp true (encM (kInt .i64) Node.cs ([]:(List (Int×Node))))),.d (.mp false (encM (kInt .i64) eBool ([]:(List (Int×Bool))))),.d (.mp false (encM (kInt .i64) eBool ([]:(List (Int×Bool)))))]))] [(1,.blk [dV ((lI x1)),.d (.mp true (encM (kInt .i64) Node.cs ([]:(List (Int×Node))))),.d (.mp false (encM (kInt .i64) eBool ([]:(List (Int×Bool))))),.d (.mp false (encM (kInt .i64) eBool ([]:(List (Int×Bool)))))] 105),(5,.blk [dV ((lI x1)),.d (.mp true (encM (kInt .i64) Node.cs ([]:(List (Int×Node))))),.d (.mp false (encM (kInt .i64) eBool ([]:(List (Int×Bool))))),.d (.mp false (encM (kInt .i64) eBool ([]:(List (Int×Bool)))))] 105)] 4 0 zz ⟨⟨_,zz,zz⟩,⟨_,zz,zz⟩,⟨_,zz,zz⟩,tv⟩ ⟨⟨_,_,zz,zz⟩,⟨_,_,zz,zz⟩,tv⟩) (ao ?_))))))))
 obtain rfl:=sq hr
 exact ⟨_,zz,.inl zz,tv⟩
 have hr:=selF h2 hr
 refine aj ?_
 obtain ⟨k4,hk4,hr⟩:=ax hr
 refine ay (fun (s3:(List (Int×Node)))=>⟨[(1,.s (aV (((lM Styled.cs st))))),(2,.s (.c (.loc 0 0))),(4,.s (.c (.loc 1 0))),(5,.s (.c (.loc 5 0)))],[(0,.blk (tC t) 30),(1,.blk [.d (.v (.slice none 0 0)),.d (.v (.map none)),.d (.v (.map none)),.d (.v (.map none))] 105),(2,.mp true (encM (kInt .i64) Node.cs s3)),(3,.mp false (encM (kInt .i64) eBool ([]:(List (Int×Bool))))),(4,.mp false (encM (kInt .i64) eBool ([]:(List (Int×Bool))))),(5,.blk [dV ((lI x1)),.own 2,.own 3,.own 4] 105)],0⟩) k4 r (fun s3 hr=>?_) ?_
 rw [hk4] at hr
 refine af (ac (ak 0 (g9 (j:=6) false zz zz) (aa (.c (.own 6)) (ab ?_))))
 obtain ⟨k6,hk6,hr⟩:=ax hr
 refine ay (fun (s5:(List (Int×Bool)))=>⟨[(1,.s (aV (((lM Styled.cs st))))),(4,.s (.c (.loc 1 0))),(5,.s (.c (.loc 5 0))),(8,.s (.c (.own 6)))],[(1,.blk [.d (.v (.slice none 0 0)),.d (.v (.map none)),.d (.v (.map none)),.d (.v (.map none))] 105),(2,.mp true (encM (kInt .i64) Node.cs s3)),(3,.mp false (encM (kInt .i64) eBool ([]:(List (Int×Bool))))),(4,.mp false (encM (kInt .i64) eBool ([]:(List (Int×Bool))))),(5,.blk [dV ((lI x1)),.own 2,.own 3,.own 4] 105),(6,.mp false (encM (kInt .i64) eBool s5))],0⟩) k6 r (fun s5 hr=>?_) ?_
 rw [hk6] at hr
 obtain ⟨k8,hk8,hr⟩:=ax hr
 refine ay (fun (s7:(List (Int×Bool)))=>⟨[(4,.s (.c (.loc 1 0))),(5,.s (.c (.loc 5 0)))],[(1,.blk [.d (.v (.slice none 0 0)),.d (.v (.map none)),.d (.v (.map none)),.d (.v (.map none))] 105),(2,.mp true (encM (kInt .i64) Node.cs s3)),(3,.mp false (encM (kInt .i64) eBool s7)),(4,.mp false (encM (kInt .i64) eBool ([]:(List (Int×Bool))))),(5,.blk [dV ((lI x1)),.own 2,.own 3,.own 4] 105)],0⟩) k8 r (fun s7 hr=>?_) ?_
 rw [hk8] at hr
 obtain ⟨k10,hk10,hr⟩:=ax hr
 refine ay (fun (s9:(List (Int×Bool)))=>⟨[(4,.s (.c (.loc 1 0))),(5,.s (.c (.loc 5 0)))],[(1,.blk [.d (.v (.slice none 0 0)),.d (.v (.map none)),.d (.v (.map none)),.d (.v (.map none))] 105),(2,.mp true (encM (kInt .i64) Node.cs s3)),(3,.mp false (encM (kInt .i64) eBool s7)),(4,.mp false (encM (kInt .i64) eBool s9)),(5,.blk [dV ((lI x1)),.own 2,.own 3,.own 4] 105)],0⟩) k10 r (fun s9 hr=>?_) ?_
 rw [hk10] at hr
 refine af (ac (aa (.agg [dV ((lI x1)),.own 2,.own 3,.own 4]) (aq (gt (cs':=[dV ((lI x1)),.own 2,.own 3,.own 4]) zz zz zz zz zz zz zz zz) (ab (Ok.conv (bH [(98,.s (.agg [dV ((lI x1)),.d (.mp true (encM (kInt .i64) Node.cs s3)),.own 3,.own 4]))] [(1,.blk [dV ((lI x1)),.d (.mp true (encM (kInt .i64) Node.cs s3)),.own 3,.own 4] 105),(5,.blk [dV ((lI x1)),.d (.mp true (encM (kInt .i64) Node.cs s3)),.own 3,.own 4] 105)] 2 0 zz ⟨⟨_,zz,zz⟩,tv⟩ ⟨⟨_,_,zz,zz⟩,⟨_,_,zz,zz⟩,tv⟩) (Ok.conv (bH [(98,.s (.agg [dV ((lI x1)),.d (.mp true (encM (kInt .i64) Node.cs s3)),.d (.mp false (encM (kInt .i64) eBool s7)),.own 4]))] [(1,.blk [dV ((lI x1)),.d (.mp true (encM (kInt .i64) Node.cs s3)),.d (.mp false (encM (kInt .i64) eBool s7)),.own 4] 105),(5,.blk [dV ((lI x1)),.d (.mp true (encM (kInt .i64) Node.cs s3)),.d (.mp false (encM (kInt .i64) eBool s7)),.own 4] 105)] 3 0 zz ⟨⟨_,zz,zz⟩,tv⟩ ⟨⟨_,_,zz,zz⟩,⟨_,_,zz,zz⟩,tv⟩) (Ok.conv (bH [(98,.s (.agg [dV ((lI x1)),.d (.mp true (encM (kInt .i64) Node.cs s3)),.d (.mp false (encM (kInt .i64) eBool s7)),.d (.mp false (encM (kInt .i64) eBool s9))]))] [(1,.blk [dV ((lI x1)),.d (.mp true (encM (kInt .i64) Node.cs s3)),.d (.mp false (encM (kInt .i64) eBool s7)),.d (.mp false (encM (kInt .i64) eBool s9))] 105),(5,.blk [dV ((lI x1)),.d (.mp true (encM (kInt .i64) Node.cs s3)),.d (.mp false (encM (kInt .i64) eBool s7)),.d (.mp false (encM (kInt .i64) eBool s9))] 105)] 4 0 zz ⟨⟨_,zz,zz⟩,tv⟩ ⟨⟨_,_,zz,zz⟩,⟨_,_,zz,zz⟩,tv⟩) (ao ?_))))))))
 obtain rfl:=sq hr
 exact ⟨_,zz,.inl zz,tv⟩
 clear hk10
 refine af (ac (aa (.c (.loc 5 0)) (aa (aV (((lI x1)))) (ae (aK (enc:=eI) x1 zz zz tv zz) (aa (aI 0) (ab (am (az (fun (s11:Int×(List (Int×Bool)))=>⟨[(4,.s (.c (.loc 1 0))),(5,.s (.c (.loc 5 0))),(74,.s (aV (((lI x1))))),(75,.s (aI (x1.length:Int))),(76,.s (aI s11.1))],[(1,.blk [.d (.v (.slice none 0 0)),.d (.v (.map none)),.d (.v (.map none)),.d (.v (.map none))] 105),(2,.mp true (encM (kInt .i64) Node.cs s3)),(3,.mp false (encM (kInt .i64) eBool s7)),(4,.mp false (encM (kInt .i64) eBool s11.2)),(5,.blk [dV ((lI x1)),.own 2,.own 3,.own 4] 105)],0⟩) hr (Conv.mk (tau []) ⟨cl zz,cl zz,cl zz,cl zz,cl zz,tv⟩ ⟨zz,zz,zz,zz,zz,tv⟩ zz zz zz zz) ?_))))))))
 clear hr
 intro again12 s11 hr
 unfold jY at hr
 refine af (ac (aa (aB (decide (s11.1<(x1.length:Int)))) (ab (af ?_))))
 refine ah (b:=decide (s11.1<(x1.length:Int))) zz (fun h13=>?_) (fun h13=>?_)
 have hr:=selT h13 hr
 refine aj (af (am (af (ac ?_))))
 obtain ⟨x14,hx14,hr⟩:=bq hr
 refine ae (aM (enc:=eI) (L:=x1) (row:=[dI x14]) hx14 zz zz zz zz (fun _=>zz) tv zz) (aa (aI x14) (aa (aI x14) (ab (af (ac (aa (.c (.loc 5 1)) (aa (.c (.own 2)) (aa (aI x14) ?_))))))))
 obtain ⟨x15,hx15,hr⟩:=bq hr
 refine ae (gv (agg:=true) (ek:=(kInt .i64)) (ev:=Node.cs) (L:=s3) (r:=.agg [cI x15.1.ID,cI x15.1.Parent,cI x15.1.Kind,cS x15.1.Key,dV ((lM Attr.cs x15.1.Attrs)),dV ((lM Action.cs x15.1.Actions)),dV ((lI x15.1.Kids))]) hx15 zz zz zz (keyInt Tryz.underlying3) zz zz (fun h=>by cases h) zz tv zz) ?_
 refine ak 0 (aw (j:=7) (cs:=[cI 0,cI 0,cI 0,cS ByteArray.empty,.d (.v (.slice none 0 0)),.d (.v (.slice none 0 0)),.d (.v (.slice none 0 0))]) zz zz zz zz) (aq (al (cs':=[cI x15.1.ID,cI x15.1.Parent,cI x15.1.Kind,cS x15.1.Key,dV ((lM Attr.cs x15.1.Attrs)),dV ((lM Action.cs x15.1.Actions)),dV ((lI x15.1.Kids))]) zz zz zz zz zz zz zz zz zz) (ab (aF (by kernel_rfl) (ar (.c (.loc 5 3)) zz tv zz (ar (.c (.own 4)) zz tv zz (ar (aI x14) zz tv zz (ar (.c (.loc 5 3)) zz tv zz (ar (.c (.own 4)) zz tv zz (ar (.c (.loc 7 1)) zz tv zz (ar (aI x15.1.Parent) zz tv zz ?_))))))))))
 obtain ⟨x16,hx16,hr⟩:=bq hr
 refine av (gv (agg:=false) (ek:=(kInt .i64)) (ev:=eBool) (L:=s11.2) (r:=aB x16.1) hx16 zz zz zz (keyInt Tryz.underlying3) zz zz (fun _ _=>zz) zz tv zz) (ar (aB x16.1) zz tv zz (av (ai (x:=.c (.loc 7 4)) zz zz tv zz) (av (ai (x:=aV (((lM Attr.cs x15.1.Attrs)))) zz zz ⟨fun h=>h,tv⟩ zz) ?_)))
 obtain ⟨x17,hx17,hr⟩:=bq hr
 refine av (a9 (x:=aB x17) (fun hg=>mG _ _ (cQ hx17 hg)) zz zz ⟨.inl zz,.inl zz,tv⟩ ⟨fun h=>h,tv⟩ rR zz zz zz) ?_
 refine av (bj zz zz (fun h=>by rw [h];rfl) zz) ?_
 refine iz (hC (ek:=(kInt .i64)) (ev:=eBool) (L:=s11.2) (z:=x16.1||x17) zz zz zz zz zz zz (keyInt Tryz.underlying3) (fun _ _=>zz) zz tv) (aY (by kernel_rfl) (ac (aa (aI (wq (s11.1+1))) (aa (aI (wq (s11.1+1))) (ab ?_)))))
 exact ⟨(wq (s11.1+1),msetL s11.2 x14 (x16.1||x17)),hr,(Conv.mk (tau []) ⟨cl zz,cl zz,cl zz,cl zz,cl zz,tv⟩ ⟨zz,zz,zz,zz,zz,tv⟩ zz zz zz zz)⟩
 have hr:=selF h13 hr
 refine aE ?_
 exact ⟨s11.2,hr,(Conv.mk (tau []) ⟨cl zz,cl zz,tv⟩ ⟨zz,zz,zz,zz,zz,tv⟩ zz zz zz zz)⟩
 clear hk8
 refine af (ac (aa (aV (((lM Styled.cs st)))) (ae (aK (enc:=Styled.cs) st zz zz tv zz) (aa (aI 0) (ab (am (az (fun (s18:Int×(List (Int×Bool)))=>⟨[(4,.s (.c (.loc 1 0))),(5,.s (.c (.loc 5 0))),(8,.s (.c (.own 6))),(52,.s (aV (((lM Styled.cs st))))),(53,.s (aI (st.length:Int))),(54,.s (aI s18.1))],[(1,.blk [.d (.v (.slice none 0 0)),.d (.v (.map none)),.d (.v (.map none)),.d (.v (.map none))] 105),(2,.mp true (encM (kInt .i64) Node.cs s3)),(3,.mp false (encM (kInt .i64) eBool s18.2)),(4,.mp false (encM (kInt .i64) eBool ([]:(List (Int×Bool))))),(5,.blk [dV ((lI x1)),.own 2,.own 3,.own 4] 105),(6,.mp false (encM (kInt .i64) eBool s5))],0⟩) hr (Conv.mk (tau []) ⟨cl zz,cl zz,cl zz,cl zz,cl zz,cl zz,tv⟩ ⟨zz,zz,zz,zz,zz,zz,tv⟩ zz zz zz zz) ?_)))))))
 clear hr
 intro again19 s18 hr
 unfold jX at hr
 refine af (ac (aa (aB (decide (s18.1<(st.length:Int)))) (ab (af ?_))))
 refine ah (b:=decide (s18.1<(st.length:Int))) zz (fun h20=>?_) (fun h20=>?_)
 have hr:=selT h20 hr
 refine aj (af (am (af (ac ?_))))
 obtain ⟨x21,hx21,hr⟩:=bq hr
 refine ae (aM (enc:=Styled.cs) (L:=st) (row:=[dI x21.ID,dI (x21.Style 0),dI (x21.Style 1),dI (x21.Style 2),dI (x21.Style 3),dI (x21.Style 4),dI (x21.Style 5),dI (x21.Style 6),dI (x21.Style 7),dI (x21.Style 8),dI (x21.Style 9),dI (x21.Style 10),dI (x21.Style 11),dI (x21.Style 12),dI (x21.Style 13),dI (x21.Style 14),dI (x21.Style 15),dI (x21.Style 16),dI (x21.Style 17),dI (x21.Style 18),dI (x21.Style 19),dI (x21.Style 20),dI (x21.Style 21)]) hx21 zz zz zz zz (fun _=>zz) tv zz) (aa (.agg [cI x21.ID,cI (x21.Style 0),cI (x21.Style 1),cI (x21.Style 2),cI (x21.Style 3),cI (x21.Style 4),cI (x21.Style 5),cI (x21.Style 6),cI (x21.Style 7),cI (x21.Style 8),cI (x21.Style 9),cI (x21.Style 10),cI (x21.Style 11),cI (x21.Style 12),cI (x21.Style 13),cI (x21.Style 14),cI (x21.Style 15),cI (x21.Style 16),cI (x21.Style 17),cI (x21.Style 18),cI (x21.Style 19),cI (x21.Style 20),cI (x21.Style 21)]) (ak 0 (aw (j:=8) (cs:=[cI 0,cI 0,cI 0,cI 0,cI 0,cI 0,cI 0,cI 0,cI 0,cI 0,cI 0,cI 0,cI 0,cI 0,cI 0,cI 0,cI 0,cI 0,cI 0,cI 0,cI 0,cI 0,cI 0]) zz zz zz zz) (aq (al (cs':=[cI x21.ID,cI (x21.Style 0),cI (x21.Style 1),cI (x21.Style 2),cI (x21.Style 3),cI (x21.Style 4),cI (x21.Style 5),cI (x21.Style 6),cI (x21.Style 7),cI (x21.Style 8),cI (x21.Style 9),cI (x21.Style 10),cI (x21.Style 11),cI (x21.Style 12),cI (x21.Style 13),cI (x21.Style 14),cI (x21.Style 15),cI (x21.Style 16),cI (x21.Style 17),cI (x21.Style 18),cI (x21.Style 19),cI (x21.Style 20),cI (x21.Style 21)]) zz zz zz zz zz zz zz zz (by kernel_rfl)) (ab (ac (aa (.c (.loc 5 2)) (aa (.c (.own 3)) (aa (.c (.loc 8 0)) (aa (aI x21.ID) (aa (.c (.own 6)) (aa (.c (.loc 8 0)) (aa (aI x21.ID) ?_))))))))))))
 obtain ⟨x22,hx22,hr⟩:=bq hr
 refine ae (gv (agg:=false) (ek:=(kInt .i64)) (ev:=eBool) (L:=s5) (r:=aB x22.1) hx22 zz zz zz (keyInt Tryz.underlying3) zz zz (fun _ _=>zz) zz tv zz) (aa (aB x22.1) (ae (ai (x:=.c (.loc 8 1)) zz zz tv zz) (ae (ai (x:=.c (.loc 8 22)) zz zz ⟨fun h=>h,tv⟩ zz) (ae (ai (x:=aI (x21.Style 21)) zz zz ⟨fun h=>h,tv⟩ zz) (ae (ai (x:=aB ((x21.Style 21)==0)) zz zz ⟨fun h=>h,tv⟩ zz) (ae (bb zz zz (fun h=>h) zz) (aq (hC (ek:=(kInt .i64)) (ev:=eBool) (L:=s18.2) (z:=x22.1&&((x21.Style 21)==0)) zz zz zz zz zz zz (keyInt Tryz.underlying3) (fun _ _=>zz) zz tv) (ab (ac (aa (aI (wq (s18.1+1))) (aa (aI (wq (s18.1+1))) (ab ?_))))))))))))
 exact ⟨(wq (s18.1+1),msetL s18.2 x21.ID (x22.1&&((x21.Style 21)==0))),hr,(Conv.mk (tau []) ⟨cl zz,cl zz,cl zz,cl zz,cl zz,cl zz,tv⟩ ⟨zz,zz,zz,zz,zz,zz,tv⟩ zz zz zz zz)⟩
 have hr:=selF h20 hr
 refine aE ?_
 exact ⟨s18.2,hr,(Conv.mk (tau []) ⟨cl zz,cl zz,tv⟩ ⟨zz,zz,zz,zz,zz,tv⟩ zz zz zz zz)⟩
 clear hk6
 refine af (ac (aa (.agg (tC t)) (aa (aV (((lM Styled.cs st)))) ?_)))
 obtain ⟨x23,hx23,hr⟩:=bq hr
 refine ae (aL (tau []) (.s (aV (((lI x23))))) [] (iR _ _ hx23) zz ⟨.inl zz,.inl zz,tv⟩ tv yZ tv) (ae (aK (enc:=eI) x23 zz zz tv zz) (aa (aI 0) (ab (am (az (fun (s24:Int×(List (Int×Bool)))=>⟨[(1,.s (aV (((lM Styled.cs st))))),(4,.s (.c (.loc 1 0))),(5,.s (.c (.loc 5 0))),(8,.s (.c (.own 6))),(43,.s (aV (((lI x23))))),(44,.s (aI (x23.length:Int))),(45,.s (aI s24.1))],[(1,.blk [.d (.v (.slice none 0 0)),.d (.v (.map none)),.d (.v (.map none)),.d (.v (.map none))] 105),(2,.mp true (encM (kInt .i64) Node.cs s3)),(3,.mp false (encM (kInt .i64) eBool ([]:(List (Int×Bool))))),(4,.mp false (encM (kInt .i64) eBool ([]:(List (Int×Bool))))),(5,.blk [dV ((lI x1)),.own 2,.own 3,.own 4] 105),(6,.mp false (encM (kInt .i64) eBool s24.2))],0⟩) hr (Conv.mk (tau []) ⟨cl zz,cl zz,cl zz,cl zz,cl zz,cl zz,cl zz,tv⟩ ⟨zz,zz,zz,zz,zz,zz,tv⟩ zz zz zz zz) ?_)))))
 clear hr
 intro again25 s24 hr
 unfold jW at hr
 refine af (ac (aa (aB (decide (s24.1<(x23.length:Int)))) (ab (af ?_))))
 refine ah (b:=decide (s24.1<(x23.length:Int))) zz (fun h26=>?_) (fun h26=>?_)
 have hr:=selT h26 hr
 refine aj (af (am (af (ac ?_))))
 obtain ⟨x27,hx27,hr⟩:=bq hr
 refine ae (aM (enc:=eI) (L:=x23) (row:=[dI x27]) hx27 zz zz zz zz (fun _=>zz) tv zz) (aa (aI x27) (aa (aI x27) (ab (ac (aa (.c (.own 6)) (aa (aI x27) (aq (hC (ek:=(kInt .i64)) (ev:=eBool) (L:=s24.2) (z:=true) zz zz zz zz zz zz (keyInt Tryz.underlying3) (fun _ _=>zz) zz tv) (ab (ac (aa (aI (wq (s24.1+1))) (aa (aI (wq (s24.1+1))) (ab ?_))))))))))))
 exact ⟨(wq (s24.1+1),msetL s24.2 x27 true),hr,(Conv.mk (tau []) ⟨cl zz,cl zz,cl zz,cl zz,cl zz,cl zz,cl zz,tv⟩ ⟨zz,zz,zz,zz,zz,zz,tv⟩ zz zz zz zz)⟩
 have hr:=selF h26 hr
 refine aE ?_
 exact ⟨s24.2,hr,(Conv.mk (tau []) ⟨cl zz,cl zz,cl zz,cl zz,tv⟩ ⟨zz,zz,zz,zz,zz,zz,tv⟩ zz zz zz zz)⟩
 clear hk4
 refine af (ac (aa (.c (.loc 0 2)) (aa (aV (((lM Node.cs t.Nodes)))) (ae (aK (enc:=Node.cs) t.Nodes zz zz tv zz) (aa (aI 0) (ab (am (az (fun (s28:Int×(List (Int×Node)))=>⟨[(1,.s (aV (((lM Styled.cs st))))),(2,.s (.c (.loc 0 0))),(4,.s (.c (.loc 1 0))),(5,.s (.c (.loc 5 0))),(28,.s (aV (((lM Node.cs t.Nodes))))),(29,.s (aI (t.Nodes.length:Int))),(30,.s (aI s28.1))],[(0,.blk (tC t) 30),(1,.blk [.d (.v (.slice none 0 0)),.d (.v (.map none)),.d (.v (.map none)),.d (.v (.map none))] 105),(2,.mp true (encM (kInt .i64) Node.cs s28.2)),(3,.mp false (encM (kInt .i64) eBool ([]:(List (Int×Bool))))),(4,.mp false (encM (kInt .i64) eBool ([]:(List (Int×Bool))))),(5,.blk [dV ((lI x1)),.own 2,.own 3,.own 4] 105)],0⟩) hr (Conv.mk (tau []) ⟨cl zz,cl zz,cl zz,cl zz,cl zz,cl zz,cl zz,tv⟩ ⟨zz,zz,zz,zz,zz,zz,tv⟩ zz zz zz zz) ?_))))))))
 clear hr
 intro again29 s28 hr
 unfold jV at hr
 refine af (ac (aa (aB (decide (s28.1<(t.Nodes.length:Int)))) (ab (af ?_))))
 refine ah (b:=decide (s28.1<(t.Nodes.length:Int))) zz (fun h30=>?_) (fun h30=>?_)
 have hr:=selT h30 hr
 refine aj (af (am (af (ac ?_))))
 obtain ⟨x31,hx31,hr⟩:=bq hr
 refine ae (aM (enc:=Node.cs) (L:=t.Nodes) (row:=[dI x31.ID,dI x31.Parent,dI x31.Kind,dS x31.Key,.sl (lM Attr.cs x31.Attrs),.sl (lM Action.cs x31.Actions),.sl (lI x31.Kids)]) hx31 zz zz zz zz (fun _=>zz) tv zz) (aa (.agg [cI x31.ID,cI x31.Parent,cI x31.Kind,cS x31.Key,dV ((lM Attr.cs x31.Attrs)),dV ((lM Action.cs x31.Actions)),dV ((lI x31.Kids))]) (ak 0 (aw (j:=9) (cs:=[cI 0,cI 0,cI 0,cS ByteArray.empty,.d (.v (.slice none 0 0)),.d (.v (.slice none 0 0)),.d (.v (.slice none 0 0))]) zz zz zz zz) (aq (al (cs':=[cI x31.ID,cI x31.Parent,cI x31.Kind,cS x31.Key,dV ((lM Attr.cs x31.Attrs)),dV ((lM Action.cs x31.Actions)),dV ((lI x31.Kids))]) zz zz zz zz zz zz zz zz zz) (ab (ac (aa (.c (.loc 5 1)) (aa (.c (.own 2)) (aa (.c (.loc 9 0)) (aa (aI x31.ID) (aa (.agg [cI x31.ID,cI x31.Parent,cI x31.Kind,cS x31.Key,dV ((lM Attr.cs x31.Attrs)),dV ((lM Action.cs x31.Actions)),dV ((lI x31.Kids))]) ?_))))))))))
 refine aq (hC (ek:=(kInt .i64)) (ev:=Node.cs) (L:=s28.2) (z:=x31) zz zz zz zz zz zz (keyInt Tryz.underlying3) (fun h=>by cases h) zz tv) ?_
 refine ab (ac (aa (aI (wq (s28.1+1))) (aa (aI (wq (s28.1+1))) (ab ?_))))
 exact ⟨(wq (s28.1+1),msetL s28.2 x31.ID x31),hr,(Conv.mk (tau []) ⟨cl zz,cl zz,cl zz,cl zz,cl zz,cl zz,cl zz,tv⟩ ⟨zz,zz,zz,zz,zz,zz,tv⟩ zz zz zz zz)⟩
 have hr:=selF h30 hr
 refine aE ?_
 exact ⟨s28.2,hr,(Conv.mk (tau []) ⟨cl zz,cl zz,cl zz,cl zz,tv⟩ ⟨zz,zz,zz,zz,zz,zz,tv⟩ zz zz zz zz)⟩
theorem ci (L:(List Int)):Con Tryz.prog 91 [aV (((lI L)))] [] (.s (.c (.fn 126 [(0,0)]))) [(0,.blk [dV ((lI L))] 57)]:=by
 refine ap 4 0 [.tmp 2] [(0,.s (aV (((lI L)))))] Tryz.func91 zz zz zz zz zz zz zz zz fun w g M ρ _=>(af (ac (ak 0 (aP (j:=0) (cs:=[dV ((lI L))]) zz zz zz zz zz) (aa (.c (.d (.v .nilFunc))) (ab (af (ac (ae (mI [(0,0)] zz tv zz) (aa (.c (.fn 126 [(0,0)])) (ab (ao ?_)))))))))))
 exact ⟨_,zz,.inl zz,⟨zz,tv⟩⟩
theorem jf (p_s:focus_sight) {r:Int} (hr:cN p_s=some r):Con Tryz.prog 59 [.agg [dV ((lI p_s.order)),.d (.mp true (encM (kInt .i64) Node.cs p_s.nodes)),.d (.mp false (encM (kInt .i64) eBool p_s.visible)),.d (.mp false (encM (kInt .i64) eBool p_s.disabled))]] [] (.s (aI r)) []:=by
 unfold cN at hr
 refine ap 31 0 [.cell 2 3] [(0,.s (.agg [dV ((lI p_s.order)),.d (.mp true (encM (kInt .i64) Node.cs p_s.nodes)),.d (.mp false (encM (kInt .i64) eBool p_s.visible)),.d (.mp false (encM (kInt .i64) eBool p_s.disabled))]))] Tryz.func59 zz zz zz zz zz zz zz zz fun w g M ρ _=>(af (ac (ak 0 (aP (j:=0) (cs:=[dV ((lI p_s.order)),.d (.mp true (encM (kInt .i64) Node.cs p_s.nodes)),.d (.mp false (encM (kInt .i64) eBool p_s.visible)),.d (.mp false (encM (kInt .i64) eBool p_s.disabled))]) zz zz zz zz zz) (ak 0 (aw (j:=1) (cs:=[cI 0]) zz zz zz zz) (ab ?_)))))
 obtain ⟨k2,hk2,hr⟩:=ax hr
 refine ay (fun (s1:Unit)=>⟨[(1,.s (.c (.loc 0 0))),(2,.s (.c (.loc 1 0)))],[(0,.blk [dV ((lI p_s.order)),.d (.mp true (encM (kInt .i64) Node.cs p_s.nodes)),.d (.mp false (encM (kInt .i64) eBool p_s.visible)),.d (.mp false (encM (kInt .i64) eBool p_s.disabled))] 105),(1,.blk [cI 0] 3)],0⟩) k2 r (fun s1 hr=>?_) ?_
 rw [hk2] at hr
 refine af (af (ac (aa (.c (.loc 0 0)) (aa (aV (((lI p_s.order)))) (ae (aK (enc:=eI) p_s.order zz zz tv zz) (aa (aB ((p_s.order.length:Int)==0)) (ab ?_)))))))
 refine ah (b:=(p_s.order.length:Int)==0) zz (fun h3=>?_) (fun h3=>?_)
 have hr:=selT h3 hr
 refine af (ac (aq (al (cs':=[cI 0]) zz zz zz zz zz zz zz zz zz) (ab (ao ?_))))
 obtain rfl:=sq hr
 exact ⟨_,zz,.inl zz,tv⟩
 have hr:=selF h3 hr
 refine aj (af (ac (aa (.c (.loc 0 0)) (aa (aV (((lI p_s.order)))) ?_))))
 obtain ⟨x4,hx4,hr⟩:=bq hr
 refine ae (aM (enc:=eI) (L:=p_s.order) (row:=[dI x4]) hx4 zz zz zz zz (fun _=>zz) tv zz) (aa (aI x4) (aq (al (cs':=[cI x4]) zz zz zz zz zz zz zz zz zz) (ab (ao ?_))))
 obtain rfl:=sq hr
 exact ⟨_,zz,.inl zz,tv⟩
 clear hk2
 refine af (ac (aa (.c (.loc 0 0)) (aa (aV (((lI p_s.order)))) (ak 0 (bQ (tau [(0,2)]) (.s (.c (.fn 126 [(2,0)]))) [(2,.blk [dV ((lI p_s.order))] 57)] (ci p_s.order) zz ⟨.inl zz,tv⟩ tv rP tv zz zz zz zz ⟨zz,tv⟩ zz zz zz) (ab (am ?_))))))
 refine ny (jl:=3) (nx:=0) (nx1:=0) (caps:=[(2,0)]) zz zz tv Tryz.func126 zz zz zz zz zz zz (fun l ρ1 M1 ob hT1 E=>?_)
 refine af (ac (aa (aV (((lI p_s.order)))) (ae (aK (enc:=eI) p_s.order zz zz tv zz) (aa (aI (wq ((p_s.order.length:Int) - 1))) (aa (aI (wq ((p_s.order.length:Int) - 1))) (ab ?_))))))
 obtain ⟨k6,hk6,hr⟩:=ax hr
 refine bZ (fun (s5:Unit)=>⟨[],[(0,.blk [dV ((lI p_s.order)),.d (.mp true (encM (kInt .i64) Node.cs p_s.nodes)),.d (.mp false (encM (kInt .i64) eBool p_s.visible)),.d (.mp false (encM (kInt .i64) eBool p_s.disabled))] 105),(1,.blk [cI 0] 3),(2,.blk [dV ((lI p_s.order))] 57),(3,.obj (ob .ready none))],0⟩) k6 r (fun s5 hr=>?_) ?_
 rw [hk6] at hr
 refine ⟨.inr zz,.inl ⟨zz,?_⟩⟩
 exact ⟨(),hr,(Conv.mk (tau []) ⟨cl zz,cl zz,tv⟩ ⟨zz,zz,tv⟩ zz zz zz zz)⟩
 clear hk6
 refine am (az (fun (s7:Int)=>⟨[(0,.s (.c (.d (.v (yl l))))),(1,.s (.c (.loc 2 0))),(3,.s (aI s7))],[(0,.blk [dV ((lI p_s.order)),.d (.mp true (encM (kInt .i64) Node.cs p_s.nodes)),.d (.mp false (encM (kInt .i64) eBool p_s.visible)),.d (.mp false (encM (kInt .i64) eBool p_s.disabled))] 105),(1,.blk [cI 0] 3),(2,.blk [dV ((lI p_s.order))] 57),(3,.obj (ob .ready none))],0⟩) hr (Conv.mk (tau []) ⟨cl zz,cl zz,cl zz,tv⟩ ⟨zz,zz,zz,zz,tv⟩ zz zz zz zz) ?_)
 clear hr
 intro again8 s7 hr
 unfold bA at hr
 refine af (af (ac (aa (aI s7) (aa (aB (decide (s7≥0))) (ab ?_)))))
 refine ah (b:=decide (s7≥0)) zz (fun h9=>?_) (fun h9=>?_)
 have hr:=selT h9 hr
 refine aj (af (am (af (ac (aa (.c (.d (.v (yl l)))) (aa (aI s7) (aa (aV (((lI p_s.order)))) (aa (aI s7) ?_))))))))
 obtain ⟨x10,hx10,hr⟩:=bq hr
 refine ae (aM (enc:=eI) (L:=p_s.order) (row:=[dI x10]) hx10 zz zz zz zz (fun _=>zz) tv zz) (aa (aI x10) ?_)
 refine OkOps.yield (jl:=3) (v1:=aI s7) (v2:=aI x10) (nx:=0) E (by decide) zz zz zz zz tv zz zz pv pu (fun ρc Mc hT2=>?_)
 refine ac (aa (aI x10) (ab ?_))
 refine ⟨zz,zz,?_⟩
 refine am (af (ac (aa (.c (.loc 0 1)) (aa (.c (.d (.mp true (encM (kInt .i64) Node.cs p_s.nodes)))) (aa (aI x10) ?_)))))
 obtain ⟨x11,hx11,hr⟩:=bq hr
 refine ae (gv (agg:=true) (ek:=(kInt .i64)) (ev:=Node.cs) (L:=p_s.nodes) (r:=.agg [cI x11.1.ID,cI x11.1.Parent,cI x11.1.Kind,cS x11.1.Key,dV ((lM Attr.cs x11.1.Attrs)),dV ((lM Action.cs x11.1.Actions)),dV ((lI x11.1.Kids))]) hx11 zz zz zz (keyInt Tryz.underlying3) zz zz (fun h=>by cases h) zz tv zz) ?_
 refine aa (aI x11.1.Kind) (aa (aB (x11.1.Kind==12)) (aa (aB (x11.1.Kind==12)) (ae (ai (x:=.c (.loc 0 2)) zz zz tv zz) (ae (ai (x:=.c (.d (.mp false (encM (kInt .i64) eBool p_s.visible)))) zz zz ⟨fun h=>h,tv⟩ zz) (ae (ai (x:=aI x10) zz zz tv zz) ?_)))))
 obtain ⟨x12,hx12,hr⟩:=bq hr
 refine ae (kN (agg:=false) (ek:=(kInt .i64)) (ev:=eBool) (L:=p_s.visible) (r:=aB x12.1) (cQ hx12) zz zz zz zz (keyInt Tryz.underlying3) zz zz (fun _ _=>zz) zz ⟨fun h=>h,⟨fun h=>h,tv⟩⟩ zz) (ae (bb zz zz (fun h=>h) zz) (ab ?_))
 refine ah (b:=(x11.1.Kind==12)&&x12.1) zz (fun h13=>?_) (fun h13=>?_)
 have hr:=selT h13 hr
 refine af (ac (aa (aI x10) (aq (al (cs':=[cI x10]) zz zz zz zz zz zz zz zz zz) (ab (ao ?_)))))
 refine ⟨zz,?_⟩
 refine aa (aB (!false)) (ab ?_)
 refine ah (b:=!false) zz (fun _=>?_) (fun h=>by cases h)
 refine ao ?_
 refine ⟨.inl zz,.inr ⟨.ret,_,zz,zz,?_⟩⟩
 obtain rfl:=sq hr
 exact ⟨_,zz,.inl zz,tv⟩
 have hr:=selF h13 hr
 refine aj ?_
 refine ⟨zz,?_⟩
 refine aa (aB (!true)) (ab ?_)
 refine ah (b:=!true) zz (fun h=>by cases h) (fun _=>?_)
 refine aj (ac (aa (aI s7) (aa (aI (wq (s7 - 1))) (aa (aI (wq (s7 - 1))) (ab ?_)))))
 exact ⟨wq (s7 - 1),hr,(Conv.mk (tau []) ⟨cl zz,cl zz,cl zz,tv⟩ ⟨zz,zz,zz,zz,tv⟩ zz zz zz zz)⟩
 have hr:=selF h9 hr
 refine aE ?_
 exact ⟨(),hr,(Conv.mk (tau []) tv ⟨zz,zz,zz,zz,tv⟩ zz zz zz zz)⟩
theorem lk (self0:focus_sight→Int→Option (List Int)) (hself0:∀ (p_s:focus_sight) (id:Int) {r:(List Int)},self0 p_s id=some r→Con Tryz.prog 82 [.agg [dV ((lI p_s.order)),.d (.mp true (encM (kInt .i64) Node.cs p_s.nodes)),.d (.mp false (encM (kInt .i64) eBool p_s.visible)),.d (.mp false (encM (kInt .i64) eBool p_s.disabled))],aI id] [] (.s (aV (((lI r))))) []) (p_s:focus_sight) (id:Int) {r:(List Int)} (hr:dd self0 p_s id=some r):Con Tryz.prog 82 [.agg [dV ((lI p_s.order)),.d (.mp true (encM (kInt .i64) Node.cs p_s.nodes)),.d (.mp false (encM (kInt .i64) eBool p_s.visible)),.d (.mp false (encM (kInt .i64) eBool p_s.disabled))],aI id] [] (.s (aV (((lI r))))) []:=by
 unfold dd at hr
 refine ap 27 0 [.tmp 4] [(0,.s (.agg [dV ((lI p_s.order)),.d (.mp true (encM (kInt .i64) Node.cs p_s.nodes)),.d (.mp false (encM (kInt .i64) eBool p_s.visible)),.d (.mp false (encM (kInt .i64) eBool p_s.disabled))])),(1,.s (aI id))] Tryz.func82 zz zz zz zz zz zz zz zz fun w g M ρ _=>(af (ac (ak 0 (aP (j:=0) (cs:=[dV ((lI p_s.order)),.d (.mp true (encM (kInt .i64) Node.cs p_s.nodes)),.d (.mp false (encM (kInt .i64) eBool p_s.visible)),.d (.mp false (encM (kInt .i64) eBool p_s.disabled))]) zz zz zz zz zz) (aa (.c (.d (.v (.slice none 0 0)))) (ab (af (ac (aa (aI id) (ak 0 (cp (sz:=1) (enc:=eI) (j:=1) ([id]) zz zz zz zz zz zz zz zz (fun _=>zz) tv zz zz) (aa (.c (.tl 1 (lI ([id])))) (ab ?_)))))))))))
 obtain ⟨k2,hk2,hr⟩:=ax hr
 refine ay (fun (s1:(List Int))=>⟨[(5,.s (.c (.tl 1003 (lI s1))))],[(1003,.tail 1)],0⟩) k2 r (fun s1 hr=>?_) ?_
 rw [hk2] at hr
 refine af (ac (aa (.c (.tl 1003 (lI s1))) (aa (.c (.tl 1003 (lI s1))) (ab (ao ?_)))))
 obtain rfl:=sq hr
 exact ⟨_,zz,.inr zz,tv⟩
 clear hk2
 refine af (ac (aa (.c (.loc 0 1)) (aa (.c (.d (.mp true (encM (kInt .i64) Node.cs p_s.nodes)))) (aa (aI id) ?_))))
 obtain ⟨x3,hx3,hr⟩:=bq hr
 refine ae (gv (agg:=true) (ek:=(kInt .i64)) (ev:=Node.cs) (L:=p_s.nodes) (r:=.agg [cI x3.1.ID,cI x3.1.Parent,cI x3.1.Kind,cS x3.1.Key,dV ((lM Attr.cs x3.1.Attrs)),dV ((lM Action.cs x3.1.Actions)),dV ((lI x3.1.Kids))]) hx3 zz zz zz (keyInt Tryz.underlying3) zz zz (fun h=>by cases h) zz tv zz) ?_
 refine aa (aV (((lI x3.1.Kids)))) (ae (aK (enc:=eI) x3.1.Kids zz zz tv zz) (aa (aI 0) (ab (am (az (fun (s4:(List Int)×Int)=>⟨[(2,.s (.c (.loc 0 0))),(5,.s (.c (.tl 1005 (lI s4.1)))),(14,.s (aV (((lI x3.1.Kids))))),(15,.s (aI (x3.1.Kids.length:Int))),(16,.s (aI s4.2))],[(0,.blk [dV ((lI p_s.order)),.d (.mp true (encM (kInt .i64) Node.cs p_s.nodes)),.d (.mp false (encM (kInt .i64) eBool p_s.visible)),.d (.mp false (encM (kInt .i64) eBool p_s.disabled))] 105),(1005,.tail 1)],0⟩) hr (Conv.mk (tau [(1005,1)]) ⟨cl zz,cl zz,cl zz,cl zz,cl zz,tv⟩ ⟨zz,zz,tv⟩ zz zz zz zz) ?_)))))
 clear hr
 intro again5 s4 hr
 unfold dL at hr
 refine af (ac (aa (aB (decide (s4.2<(x3.1.Kids.length:Int)))) (ab (af ?_))))
 refine ah (b:=decide (s4.2<(x3.1.Kids.length:Int))) zz (fun h6=>?_) (fun h6=>?_)
 have hr:=selT h6 hr
 refine aj (af (am (af (ac ?_))))
 obtain ⟨x7,hx7,hr⟩:=bq hr
 refine ae (aM (enc:=eI) (L:=x3.1.Kids) (row:=[dI x7]) hx7 zz zz zz zz (fun _=>zz) tv zz) (aa (aI x7) (aa (aI x7) (ab (ac (aa (.c (.tl 1005 (lI s4.1))) (aa (.agg [dV ((lI p_s.order)),.d (.mp true (encM (kInt .i64) Node.cs p_s.nodes)),.d (.mp false (encM (kInt .i64) eBool p_s.visible)),.d (.mp false (encM (kInt .i64) eBool p_s.disabled))]) (aa (aI x7) ?_)))))))
 obtain ⟨x8,hx8,hr⟩:=bq hr
 refine ae (aL (tau []) (.s (aV (((lI x8))))) [] (hself0 _ _ hx8) zz ⟨.inl zz,.inl zz,tv⟩ tv vS tv) ?_
 obtain ⟨x9,hx9,hr⟩:=bq hr
 refine bW 0 (dQ (enc:=eI) (L:=s4.1) (X:=x8) (j:=1005) (j':=2) hx9 zz zz zz zz zz zz (fun _=>zz) (fun _=>zz) (by decide) tv zz zz) (aa (.c (.tl 2 (lI x9))) (ab (ac (aa (aI (wq (s4.2+1))) (aa (aI (wq (s4.2+1))) (ab ?_))))))
 exact ⟨(x9,wq (s4.2+1)),hr,(Conv.mk (tau [(1005,2)]) ⟨cl zz,cl zz,cl zz,cl zz,cl zz,tv⟩ ⟨zz,zz,tv⟩ zz zz zz zz)⟩
 have hr:=selF h6 hr
 refine aE ?_
 exact ⟨s4.1,hr,(Conv.mk (tau [(1003,1005)]) ⟨cl zz,tv⟩ ⟨zz,tv⟩ zz zz zz zz)⟩
theorem lj:∀ n:Nat,(∀ (p_s:focus_sight) (id:Int) {r:(List Int)},cO n p_s id=some r→Con Tryz.prog 82 [.agg [dV ((lI p_s.order)),.d (.mp true (encM (kInt .i64) Node.cs p_s.nodes)),.d (.mp false (encM (kInt .i64) eBool p_s.visible)),.d (.mp false (encM (kInt .i64) eBool p_s.disabled))],aI id] [] (.s (aV (((lI r))))) [])∧True:=by
 intro n
 induction n with
 | zero=>exact ⟨(by intros;rename_i hr;cases hr),tv⟩
 | succ n ih=>exact ⟨(by intros;rename_i hr;exact lk _ ih.1 _ _ hr),tv⟩
theorem mm (n:Nat) (p_s:focus_sight) (id:Int) {r:(List Int)} (hr:cO n p_s id=some r):Con Tryz.prog 82 [.agg [dV ((lI p_s.order)),.d (.mp true (encM (kInt .i64) Node.cs p_s.nodes)),.d (.mp false (encM (kInt .i64) eBool p_s.visible)),.d (.mp false (encM (kInt .i64) eBool p_s.disabled))],aI id] [] (.s (aV (((lI r))))) []:=(lj n).1 p_s id hr
theorem mn (a:Action) {r:Bool} (hr:fE a=some r):Con Tryz.prog 121 [.agg [cS a.Event,cS a.Instance,cS a.Handler,dV ((lM AValue.cs a.Args))]] [] (.s (aB r)) []:=by
 unfold fE at hr
 refine ap 6 0 [.tmp 2] [(0,.s (.agg [cS a.Event,cS a.Instance,cS a.Handler,dV ((lM AValue.cs a.Args))]))] Tryz.func121 zz zz zz zz zz zz zz zz fun w g M ρ _=>(af (ac (ak 0 (aP (j:=0) (cs:=[cS a.Event,cS a.Instance,cS a.Handler,dV ((lM AValue.cs a.Args))]) zz zz zz zz zz) (aa (aB false) (ab (af (ac (aa (.c (.loc 0 0)) (aa (aS a.Event) (aa (aB (a.Event.toList==(ByteArray.mk #[112,114,101,115,115]).toList)) (aa (aB (a.Event.toList==(ByteArray.mk #[112,114,101,115,115]).toList)) (ab (ao ?_)))))))))))))
 obtain rfl:=sq hr
 exact ⟨_,zz,.inl zz,tv⟩
theorem j5 (p_s:(List Action)) {r:Int} (hr:di p_s=some r):Con Tryz.prog 85 [aV (((lM Action.cs p_s))),.c (.fn 121 [])] [] (.s (aI r)) []:=by
 unfold di at hr
 refine ap 19 0 [.tmp 4] [(0,.s (aV (((lM Action.cs p_s))))),(1,.s (.c (.fn 121 [])))] Tryz.func85 zz zz zz zz zz zz zz zz fun w g M ρ _=>(af (ac (aa (aI 0) (ab ?_))))
 obtain ⟨k2,hk2,hr⟩:=ax hr
 refine ay (fun (s1:Unit)=>⟨[],[],0⟩) k2 r (fun s1 hr=>?_) ?_
 rw [hk2] at hr
 refine af (ac (aa (aI (-1)) (ab (ao ?_))))
 obtain rfl:=sq hr
 exact ⟨_,zz,.inl zz,tv⟩
 clear hk2
 refine af (ac (aa (aV (((lM Action.cs p_s)))) (ae (aK (enc:=Action.cs) p_s zz zz tv zz) (aa (aI 0) (ab (am (az (fun (s3:Int)=>⟨[(0,.s (aV (((lM Action.cs p_s))))),(1,.s (.c (.fn 121 []))),(7,.s (aI (p_s.length:Int))),(8,.s (aI s3))],[],0⟩) hr (Conv.mk (tau []) ⟨cl zz,cl zz,cl zz,cl zz,tv⟩ tv zz zz zz zz) ?_)))))))
 clear hr
 intro again4 s3 hr
 unfold cE at hr
 refine af (ac (aa (aB (decide (s3<(p_s.length:Int)))) (ab (af ?_))))
 refine ah (b:=decide (s3<(p_s.length:Int))) zz (fun h5=>?_) (fun h5=>?_)
 have hr:=selT h5 hr
 refine aj (af (am (af (ac (aa (aI s3) (aa (aI s3) (ab (af (ac (aa (.c (.fn 121 [])) (aa (aV (((lM Action.cs p_s)))) (aa (aI s3) ?_))))))))))))
 obtain ⟨x6,hx6,hr⟩:=bq hr
 refine ae (aM (enc:=Action.cs) (L:=p_s) (row:=[dS x6.Event,dS x6.Instance,dS x6.Handler,.sl (lM AValue.cs x6.Args)]) hx6 zz zz zz zz (fun _=>zz) tv zz) (aa (.agg [cS x6.Event,cS x6.Instance,cS x6.Handler,dV ((lM AValue.cs x6.Args))]) ?_)
 obtain ⟨x7,hx7,hr⟩:=bq hr
 refine ae (dg (caps:=[]) (tau []) (.s (aB x7)) [] zz (mn _ hx7) zz ⟨.inl zz,tv⟩ tv xE tv zz zz zz zz tv zz zz zz) (ab ?_)
 refine ah (b:=x7) zz (fun h8=>?_) (fun h8=>?_)
 have hr:=selT h8 hr
 refine af (ac (aa (aI s3) (aa (aI s3) (ab (ao ?_)))))
 obtain rfl:=sq hr
 exact ⟨_,zz,.inl zz,tv⟩
 have hr:=selF h8 hr
 refine aj (ac (aa (aI (wq (s3+1))) (aa (aI (wq (s3+1))) (ab ?_))))
 exact ⟨wq (s3+1),hr,(Conv.mk (tau []) ⟨cl zz,cl zz,cl zz,cl zz,tv⟩ tv zz zz zz zz)⟩
 have hr:=selF h5 hr
 refine aE ?_
 exact ⟨(),hr,(Conv.mk (tau []) tv tv zz zz zz zz)⟩
theorem iU (p_s:(List Action)) {r:Bool} (hr:bw p_s=some r):Con Tryz.prog 48 [aV (((lM Action.cs p_s))),.c (.fn 121 [])] [] (.s (aB r)) []:=by
 unfold bw at hr
 refine ap 9 0 [.tmp 4] [(0,.s (aV (((lM Action.cs p_s))))),(1,.s (.c (.fn 121 [])))] Tryz.func48 zz zz zz zz zz zz zz zz fun w g M ρ _=>(af (ac (aa (aB false) (ab (af (ac (aa (aV (((lM Action.cs p_s)))) (aa (.c (.fn 121 [])) ?_))))))))
 obtain ⟨x1,hx1,hr⟩:=bq hr
 refine ae (aL (tau []) (.s (aI x1)) [] (j5 _ hx1) zz ⟨.inl zz,.inl zz,tv⟩ tv yV tv) (aa (aB (decide (x1≥0))) (aa (aB (decide (x1≥0))) (ab (ao ?_))))
 obtain rfl:=sq hr
 exact ⟨_,zz,.inl zz,tv⟩
theorem nH (p_n:Node) {r:Bool} (hr:eE p_n=some r):Con Tryz.prog 81 [.agg [cI p_n.ID,cI p_n.Parent,cI p_n.Kind,cS p_n.Key,dV ((lM Attr.cs p_n.Attrs)),dV ((lM Action.cs p_n.Actions)),dV ((lI p_n.Kids))]] [] (.s (aB r)) []:=by
 unfold eE at hr
 refine ap 25 0 [.tmp 2] [(0,.s (.agg [cI p_n.ID,cI p_n.Parent,cI p_n.Kind,cS p_n.Key,dV ((lM Attr.cs p_n.Attrs)),dV ((lM Action.cs p_n.Actions)),dV ((lI p_n.Kids))]))] Tryz.func81 zz zz zz zz zz zz zz zz fun w g M ρ _=>(af (ac (ak 0 (aP (j:=0) (cs:=[cI p_n.ID,cI p_n.Parent,cI p_n.Kind,cS p_n.Key,dV ((lM Attr.cs p_n.Attrs)),dV ((lM Action.cs p_n.Actions)),dV ((lI p_n.Kids))]) zz zz zz zz zz) (aa (aB false) (ab (af (af (ac (aa (.c (.loc 0 2)) (aa (aI p_n.Kind) (ab (am ?_))))))))))))
 obtain ⟨k2,hk2,hr⟩:=ax hr
 refine ay (fun (s1:Bool)=>⟨[(1,.s (.c (.loc 0 0))),(6,.s (aB s1))],[(0,.blk [cI p_n.ID,cI p_n.Parent,cI p_n.Kind,cS p_n.Key,dV ((lM Attr.cs p_n.Attrs)),dV ((lM Action.cs p_n.Actions)),dV ((lI p_n.Kids))] 61)],0⟩) k2 r (fun s1 hr=>?_) ?_
 rw [hk2] at hr
 refine ah (b:=s1) zz (fun h3=>?_) (fun h3=>?_)
 have hr:=selT h3 hr
 refine af (ac (aa (aB true) (ab (ao ?_))))
 obtain rfl:=sq hr
 exact ⟨_,zz,.inl zz,tv⟩
 have hr:=selF h3 hr
 refine aj (af (ac (aa (.c (.loc 0 2)) (aa (aI p_n.Kind) (aa (aB (p_n.Kind==4)) (aa (aB (p_n.Kind==4)) (ae (ai (x:=.c (.loc 0 2)) zz zz tv zz) (ae (ai (x:=aI p_n.Kind) zz zz ⟨fun h=>h,tv⟩ zz) (ae (ai (x:=aB (p_n.Kind==13)) zz zz ⟨fun h=>h,tv⟩ zz) ?_)))))))))
 refine ae (bj zz zz (fun h=>by rw [h];rfl) zz) ?_
 refine aa (aB ((p_n.Kind==4)||(p_n.Kind==13))) (ab (af (ac (aa (aB ((p_n.Kind==4)||(p_n.Kind==13))) (aa (aB (!((p_n.Kind==4)||(p_n.Kind==13)))) (aa (aB (!((p_n.Kind==4)||(p_n.Kind==13)))) (ae (ai (x:=.c (.loc 0 5)) zz zz tv zz) (ae (ai (x:=aV (((lM Action.cs p_n.Actions)))) zz zz ⟨fun h=>h,tv⟩ zz) ?_))))))))
 obtain ⟨x4,hx4,hr⟩:=bq hr
 refine ae (a9 (x:=aB x4) (fun hg=>iU _ (cQ hx4 hg)) zz zz ⟨.inl zz,.inl zz,tv⟩ ⟨fun h=>h,tv⟩ zb zz zz zz) (ae (bb zz zz (fun h=>h) zz) (aa (aB ((!((p_n.Kind==4)||(p_n.Kind==13)))&&x4)) (ab (ao ?_))))
 obtain rfl:=sq hr
 exact ⟨_,zz,.inl zz,tv⟩
 clear hk2
 refine af (ac (aa (aB (p_n.Kind==3)) (aa (aB (p_n.Kind==3)) (ab ?_))))
 refine ah (b:=p_n.Kind==3) zz (fun h5=>?_) (fun h5=>?_)
 have hr:=selT h5 hr
 refine aj ?_
 exact ⟨p_n.Kind==3,hr,(Conv.mk (tau []) ⟨cl zz,cl zz,tv⟩ ⟨zz,tv⟩ zz zz zz zz)⟩
 have hr:=selF h5 hr
 refine af (ac (aa (aB (p_n.Kind==6)) (aa (aB (p_n.Kind==6)) (ab ?_))))
 refine ah (b:=p_n.Kind==6) zz (fun h6=>?_) (fun h6=>?_)
 have hr:=selT h6 hr
 refine aj ?_
 exact ⟨p_n.Kind==6,hr,(Conv.mk (tau []) ⟨cl zz,cl zz,tv⟩ ⟨zz,tv⟩ zz zz zz zz)⟩
 have hr:=selF h6 hr
 refine ac (aa (aB (p_n.Kind==7)) (aa (aB (p_n.Kind==7)) (ab ?_)))
 exact ⟨p_n.Kind==7,hr,(Conv.mk (tau []) ⟨cl zz,cl zz,tv⟩ ⟨zz,tv⟩ zz zz zz zz)⟩
theorem j7 (p_s:focus_sight) (id:Int) {r:Bool} (hr:cH p_s id=some r):Con Tryz.prog 83 [.agg [dV ((lI p_s.order)),.d (.mp true (encM (kInt .i64) Node.cs p_s.nodes)),.d (.mp false (encM (kInt .i64) eBool p_s.visible)),.d (.mp false (encM (kInt .i64) eBool p_s.disabled))],aI id] [] (.s (aB r)) []:=by
 unfold cH at hr
 refine ap 38 0 [.tmp 4] [(0,.s (.agg [dV ((lI p_s.order)),.d (.mp true (encM (kInt .i64) Node.cs p_s.nodes)),.d (.mp false (encM (kInt .i64) eBool p_s.visible)),.d (.mp false (encM (kInt .i64) eBool p_s.disabled))])),(1,.s (aI id))] Tryz.func83 zz zz zz zz zz zz zz zz fun w g M ρ _=>(af (ac (ak 0 (aP (j:=0) (cs:=[dV ((lI p_s.order)),.d (.mp true (encM (kInt .i64) Node.cs p_s.nodes)),.d (.mp false (encM (kInt .i64) eBool p_s.visible)),.d (.mp false (encM (kInt .i64) eBool p_s.disabled))]) zz zz zz zz zz) (aa (aB false) (ab (af (ac (aa (.c (.loc 0 1)) (aa (.c (.d (.mp true (encM (kInt .i64) Node.cs p_s.nodes)))) (aa (aI id) ?_))))))))))
 obtain ⟨x1,hx1,hr⟩:=bq hr
 refine ae (gv (agg:=true) (ek:=(kInt .i64)) (ev:=Node.cs) (L:=p_s.nodes) (r:=.agg [cI x1.1.ID,cI x1.1.Parent,cI x1.1.Kind,cS x1.1.Key,dV ((lM Attr.cs x1.1.Attrs)),dV ((lM Action.cs x1.1.Actions)),dV ((lI x1.1.Kids))]) hx1 zz zz zz (keyInt Tryz.underlying3) zz zz (fun h=>by cases h) zz tv zz) ?_
 refine ak 0 (aw (j:=1) (cs:=[cI 0,cI 0,cI 0,cS ByteArray.empty,.d (.v (.slice none 0 0)),.d (.v (.slice none 0 0)),.d (.v (.slice none 0 0))]) zz zz zz zz) (aq (al (cs':=[cI x1.1.ID,cI x1.1.Parent,cI x1.1.Kind,cS x1.1.Key,dV ((lM Attr.cs x1.1.Attrs)),dV ((lM Action.cs x1.1.Actions)),dV ((lI x1.1.Kids))]) zz zz zz zz zz zz zz zz zz) (ab (af (af (ac (aa (.c (.loc 0 2)) (aa (.c (.d (.mp false (encM (kInt .i64) eBool p_s.visible)))) (aa (aI id) ?_))))))))
 obtain ⟨x2,hx2,hr⟩:=bq hr
 refine ae (gv (agg:=false) (ek:=(kInt .i64)) (ev:=eBool) (L:=p_s.visible) (r:=aB x2.1) hx2 zz zz zz (keyInt Tryz.underlying3) zz zz (fun _ _=>zz) zz tv zz) (aa (aB (!x2.1)) (aa (aB (!x2.1)) (ae (ai (x:=.c (.loc 0 3)) zz zz tv zz) (ae (ai (x:=.c (.d (.mp false (encM (kInt .i64) eBool p_s.disabled)))) zz zz ⟨fun h=>h,tv⟩ zz) (ae (ai (x:=aI id) zz zz tv zz) ?_)))))
 obtain ⟨x3,hx3,hr⟩:=bq hr
 refine ae (kN (agg:=false) (ek:=(kInt .i64)) (ev:=eBool) (L:=p_s.disabled) (r:=aB x3.1) (cQ hx3) zz zz zz zz (keyInt Tryz.underlying3) zz zz (fun _ _=>zz) zz ⟨fun h=>h,⟨fun h=>h,tv⟩⟩ zz) ?_
 refine ae (bj zz zz (fun h=>by rw [h];rfl) zz) ?_
 refine ab ?_
 refine ah (b:=(!x2.1)||x3.1) zz (fun h4=>?_) (fun h4=>?_)
 have hr:=selT h4 hr
 refine af (ac (aa (aB false) (ab (ao ?_))))
 obtain rfl:=sq hr
 exact ⟨_,zz,.inl zz,tv⟩
 have hr:=selF h4 hr
 refine aj (af (ac (aa (.agg [cI x1.1.ID,cI x1.1.Parent,cI x1.1.Kind,cS x1.1.Key,dV ((lM Attr.cs x1.1.Attrs)),dV ((lM Action.cs x1.1.Actions)),dV ((lI x1.1.Kids))]) ?_)))
 obtain ⟨x5,hx5,hr⟩:=bq hr
 refine ae (aL (tau []) (.s (aB x5)) [] (nH _ hx5) zz ⟨.inl zz,tv⟩ tv yX tv) (aa (aB x5) (ae (ai (x:=.c (.loc 1 2)) zz zz tv zz) (ae (ai (x:=aI x1.1.Kind) zz zz ⟨fun h=>h,tv⟩ zz) (ae (ai (x:=aB (x1.1.Kind==4)) zz zz ⟨fun h=>h,tv⟩ zz) ?_))))
 refine ae (bj zz zz (fun h=>by rw [h];rfl) zz) ?_
 refine aa (aB (x5||(x1.1.Kind==4))) (ae (ai (x:=.c (.loc 1 2)) zz zz tv zz) (ae (ai (x:=aI x1.1.Kind) zz zz ⟨fun h=>h,tv⟩ zz) (ae (ai (x:=aB (x1.1.Kind==13)) zz zz ⟨fun h=>h,tv⟩ zz) ?_)))
 refine ae (bj zz zz (fun h=>by rw [h];rfl) zz) ?_
 refine aa (aB ((x5||(x1.1.Kind==4))||(x1.1.Kind==13))) (ae (ai (x:=.c (.loc 1 4)) zz zz tv zz) (ae (ai (x:=aV (((lM Attr.cs x1.1.Attrs)))) zz zz ⟨fun h=>h,tv⟩ zz) ?_))
 obtain ⟨x6,hx6,hr⟩:=bq hr
 refine ae (a9 (x:=aB x6) (fun hg=>mG _ _ (cQ hx6 hg)) zz zz ⟨.inl zz,.inl zz,tv⟩ ⟨fun h=>h,tv⟩ rR zz zz zz) ?_
 refine ae (bj zz zz (fun h=>by rw [h];rfl) zz) ?_
 refine aa (aB (((x5||(x1.1.Kind==4))||(x1.1.Kind==13))||x6)) (ab (ao ?_))
 obtain rfl:=sq hr
 exact ⟨_,zz,.inl zz,tv⟩
theorem jC (t:Tree) (st:(List Styled)) {r:(List Int)} (hr:db t st=some r):Con Tryz.prog 43 [.agg (tC t),aV (((lM Styled.cs st)))] [] (.s (.c (.own 2000))) [(2000,.vec 1 (lI r))]:=by
 unfold db at hr
 refine ap 34 0 [.tmp 4] [(0,.s (.agg (tC t))),(1,.s (aV (((lM Styled.cs st)))))] Tryz.func43 zz zz zz zz zz zz zz zz fun w g M ρ _=>(af (ac (ak 0 (aP (j:=0) (cs:=(tC t)) zz zz zz zz zz) (aa (.c (.d (.v (.slice none 0 0)))) (ab (af (ac (aa (.agg (tC t)) (aa (aV (((lM Styled.cs st)))) ?_)))))))))
 obtain ⟨x1,hx1,hr⟩:=bq hr
 refine ae (aL (tau []) (.s (.agg [dV ((lI x1.order)),.d (.mp true (encM (kInt .i64) Node.cs x1.nodes)),.d (.mp false (encM (kInt .i64) eBool x1.visible)),.d (.mp false (encM (kInt .i64) eBool x1.disabled))])) [] (qz _ _ hx1) zz ⟨.inl zz,.inl zz,tv⟩ tv v5 tv) (ak 0 (aw (j:=1) (cs:=[.d (.v (.slice none 0 0)),.d (.v (.map none)),.d (.v (.map none)),.d (.v (.map none))]) zz zz zz zz) (aq (al (cs':=[dV ((lI x1.order)),.d (.mp true (encM (kInt .i64) Node.cs x1.nodes)),.d (.mp false (encM (kInt .i64) eBool x1.visible)),.d (.mp false (encM (kInt .i64) eBool x1.disabled))]) zz zz zz zz zz zz zz zz zz) (ab (af (af (ac (aa (.c (.loc 1 0)) (aa (aV (((lI x1.order)))) (ae (aK (enc:=eI) x1.order zz zz tv zz) (aa (aB ((x1.order.length:Int)==0)) (ab ?_)))))))))))
 refine ah (b:=(x1.order.length:Int)==0) zz (fun h2=>?_) (fun h2=>?_)
 have hr:=selT h2 hr
 refine af (ac (aa (.c (.d (.v (.slice none 0 0)))) (ab (Ok.conv (nA (enc:=eI) 4 2 1 0 zz zz) (Ok.conv (T:=⟨[(4,.s (.c (.own 2000)))],[(2000,.vec 1 (lI ([]:(List Int))))],0⟩) (Conv.mk (tau [(2000,2)]) ⟨cl zz,tv⟩ ⟨zz,tv⟩ zz zz zz zz) (ao ?_))))))
 obtain rfl:=sq hr
 exact ⟨_,zz,.inl zz,⟨zz,tv⟩⟩
 have hr:=selF h2 hr
 refine aj (af (ac (aa (.c (.d (.v (.slice none 0 0)))) (OkOps.conv (nA (enc:=eI) 6 3 1 0 zz zz) (ab ?_)))))
 obtain ⟨k4,hk4,hr⟩:=ax hr
 refine ay (fun (s3:(List Int))=>⟨[(6,.s (.c (.own 1006)))],[(1006,.vec 1 (lI s3))],0⟩) k4 r (fun s3 hr=>?_) ?_
 rw [hk4] at hr
 refine af (ac (aa (.c (.own 1006)) (aa (.c (.own 1006)) (ab (Ok.conv (T:=⟨[(4,.s (.c (.own 2000)))],[(2000,.vec 1 (lI s3))],0⟩) (Conv.mk (tau [(2000,1006)]) ⟨cl zz,tv⟩ ⟨zz,tv⟩ zz zz zz zz) (ao ?_))))))
 obtain rfl:=sq hr
 exact ⟨_,zz,.inl zz,⟨zz,tv⟩⟩
 clear hk4
 refine af (aF (by kernel_rfl) (ar (.agg [dV ((lI x1.order)),.d (.mp true (encM (kInt .i64) Node.cs x1.nodes)),.d (.mp false (encM (kInt .i64) eBool x1.visible)),.d (.mp false (encM (kInt .i64) eBool x1.disabled))]) zz tv zz (ar (.agg [dV ((lI x1.order)),.d (.mp true (encM (kInt .i64) Node.cs x1.nodes)),.d (.mp false (encM (kInt .i64) eBool x1.visible)),.d (.mp false (encM (kInt .i64) eBool x1.disabled))]) zz tv zz ?_)))
 obtain ⟨x5,hx5,hr⟩:=bq hr
 refine av (aL (tau []) (.s (aI x5)) [] (jf _ hx5) zz ⟨.inl zz,tv⟩ tv vZ tv) ?_
 obtain ⟨x6,hx6,hr⟩:=bq hr
 refine av (aL (tau []) (.s (aV (((lI x6))))) [] (mm _ _ _ hx6) zz ⟨.inl zz,.inl zz,tv⟩ tv vS tv) (av (aK (enc:=eI) x6 zz zz tv zz) (ar (aI 0) zz tv zz (aY (by kernel_rfl) (am (az (fun (s7:(List Int)×Int)=>⟨[(5,.s (.c (.loc 1 0))),(6,.s (.c (.own 1009))),(19,.s (aV (((lI x6))))),(20,.s (aI (x6.length:Int))),(21,.s (aI s7.2))],[(1,.blk [dV ((lI x1.order)),.d (.mp true (encM (kInt .i64) Node.cs x1.nodes)),.d (.mp false (encM (kInt .i64) eBool x1.visible)),.d (.mp false (encM (kInt .i64) eBool x1.disabled))] 105),(1009,.vec 1 (lI s7.1))],0⟩) hr (Conv.mk (tau [(1009,3)]) ⟨cl zz,cl zz,cl zz,cl zz,cl zz,tv⟩ ⟨zz,zz,tv⟩ zz zz zz zz) ?_)))))
 clear hr
 intro again8 s7 hr
 unfold d8 at hr
 refine af (ac (aa (aB (decide (s7.2<(x6.length:Int)))) (ab (af ?_))))
 refine ah (b:=decide (s7.2<(x6.length:Int))) zz (fun h9=>?_) (fun h9=>?_)
 have hr:=selT h9 hr
 refine aj ?_
 obtain ⟨k11,hk11,hr⟩:=ax hr
 refine ay (fun (s10:(List Int))=>⟨[(5,.s (.c (.loc 1 0))),(6,.s (.c (.own 1012))),(19,.s (aV (((lI x6))))),(20,.s (aI (x6.length:Int))),(21,.s (aI s7.2))],[(1,.blk [dV ((lI x1.order)),.d (.mp true (encM (kInt .i64) Node.cs x1.nodes)),.d (.mp false (encM (kInt .i64) eBool x1.visible)),.d (.mp false (encM (kInt .i64) eBool x1.disabled))] 105),(1012,.vec 1 (lI s10))],0⟩) k11 r (fun s10 hr=>?_) ?_
 rw [hk11] at hr
 refine ac (aa (aI (wq (s7.2+1))) (aa (aI (wq (s7.2+1))) (ab ?_)))
 exact ⟨(s10,wq (s7.2+1)),hr,(Conv.mk (tau [(1009,1012)]) ⟨cl zz,cl zz,cl zz,cl zz,cl zz,tv⟩ ⟨zz,zz,tv⟩ zz zz zz zz)⟩
 clear hk11
 refine am (af (ac ?_))
 obtain ⟨x12,hx12,hr⟩:=bq hr
 refine ae (aM (enc:=eI) (L:=x6) (row:=[dI x12]) hx12 zz zz zz zz (fun _=>zz) tv zz) (aa (aI x12) (aa (aI x12) (ab (af (ac (aa (.agg [dV ((lI x1.order)),.d (.mp true (encM (kInt .i64) Node.cs x1.nodes)),.d (.mp false (encM (kInt .i64) eBool x1.visible)),.d (.mp false (encM (kInt .i64) eBool x1.disabled))]) (aa (aI x12) ?_)))))))
 obtain ⟨x13,hx13,hr⟩:=bq hr
 refine ae (aL (tau []) (.s (aB x13)) [] (j7 _ _ hx13) zz ⟨.inl zz,.inl zz,tv⟩ tv yW tv) (ab ?_)
 refine ah (b:=x13) zz (fun h14=>?_) (fun h14=>?_)
 have hr:=selT h14 hr
 refine ac (aa (.c (.own 1009)) (aa (aI x12) (ak 0 (cp (sz:=1) (enc:=eI) (j:=4) ([x12]) zz zz zz zz zz zz zz zz (fun _=>zz) tv zz zz) ?_)))
 obtain ⟨x15,hx15,hr⟩:=bq hr
 refine bW 0 (qT (enc:=eI) (L:=s7.1) (X:=[x12]) (j:=1009) (j':=5) hx15 zz zz zz zz zz zz (fun _=>zz) (fun _=>zz) tv zz zz) (aa (.c (.own 5)) (ab ?_))
 exact ⟨x15,hr,(Conv.mk (tau [(1012,5)]) ⟨cl zz,cl zz,cl zz,cl zz,cl zz,tv⟩ ⟨zz,zz,tv⟩ zz zz zz zz)⟩
 have hr:=selF h14 hr
 refine aj ?_
 exact ⟨s7.1,hr,(Conv.mk (tau [(1012,1009)]) ⟨cl zz,cl zz,cl zz,cl zz,cl zz,tv⟩ ⟨zz,zz,tv⟩ zz zz zz zz)⟩
 have hr:=selF h9 hr
 refine aE ?_
 exact ⟨s7.1,hr,(Conv.mk (tau [(1006,1009)]) ⟨cl zz,tv⟩ ⟨zz,tv⟩ zz zz zz zz)⟩
theorem ug (t:Tree) (st:(List Styled)) {r:Int} (hr:io t st=some r):Con Tryz.prog 18 [.agg (tC t),aV (((lM Styled.cs st)))] [] (.s (aI r)) []:=by
 unfold io at hr
 refine ap 9 0 [.tmp 4] [(0,.s (.agg (tC t))),(1,.s (aV (((lM Styled.cs st)))))] Tryz.func18 zz zz zz zz zz zz zz zz fun w g M ρ _=>(af (ac (ak 0 (aP (j:=0) (cs:=(tC t)) zz zz zz zz zz) (aa (aI 0) (ab (af (ac (aa (.agg (tC t)) (aa (aV (((lM Styled.cs st)))) ?_)))))))))
 obtain ⟨x1,hx1,hr⟩:=bq hr
 refine ae (aL (tau []) (.s (.agg [dV ((lI x1.order)),.d (.mp true (encM (kInt .i64) Node.cs x1.nodes)),.d (.mp false (encM (kInt .i64) eBool x1.visible)),.d (.mp false (encM (kInt .i64) eBool x1.disabled))])) [] (qz _ _ hx1) zz ⟨.inl zz,.inl zz,tv⟩ tv v5 tv) ?_
 obtain ⟨x2,hx2,hr⟩:=bq hr
 refine ae (aL (tau []) (.s (aI x2)) [] (jf _ hx2) zz ⟨.inl zz,tv⟩ tv vZ tv) (aa (aI x2) (ab (ao ?_)))
 obtain rfl:=sq hr
 exact ⟨_,zz,.inl zz,tv⟩
end Go.Proofs.YtfoigppmcelgfaaGreatDoor
end
section
set_option maxRecDepth 100000
namespace Go.Proofs.YtfoigppmcelgfaaGreatDoor
open Go Go.E2
theorem jG (p_x:Int) {r:Bool} (hr:dM p_x=some r):Con Tryz.prog 98 [aI p_x] [] (.s (aB r)) []:=by
 unfold dM at hr
 refine ap 6 0 [.tmp 2] [(0,.s (aI p_x))] Tryz.func98 zz zz zz zz zz zz zz zz fun w g M ρ _=>(af (ac (aa (aB false) (ab (af (ac (aa (aI p_x) (aa (aI p_x) (aa (aB (p_x != p_x)) (aa (aB (p_x != p_x)) (ab (ao ?_))))))))))))
 obtain rfl:=sq hr
 exact ⟨_,zz,.inl zz,tv⟩
theorem iN (p_x:Int) (y:Int) {r:Int} (hr:cW p_x y=some r):Con Tryz.prog 65 [aI p_x,aI y] [] (.s (aI r)) []:=by
 unfold cW at hr
 refine ap 20 0 [.tmp 4] [(0,.s (aI p_x)),(1,.s (aI y))] Tryz.func65 zz zz zz zz zz zz zz zz fun w g M ρ _=>(af (ac (aa (aI 0) (ab (af (ac (aa (aI p_x) ?_)))))))
 obtain ⟨x1,hx1,hr⟩:=bq hr
 refine ae (aL (tau []) (.s (aB x1)) [] (jG _ hx1) zz ⟨.inl zz,tv⟩ tv vM tv) (aa (aB x1) (ab (af (ac (aa (aI y) ?_)))))
 obtain ⟨x2,hx2,hr⟩:=bq hr
 refine ae (aL (tau []) (.s (aB x2)) [] (jG _ hx2) zz ⟨.inl zz,tv⟩ tv vM tv) (aa (aB x2) (ab (af (af (ac (aa (aB x1) (ab ?_)))))))
 refine ah (b:=x1) zz (fun h3=>?_) (fun h3=>?_)
 have hr:=selT h3 hr
 refine af (af (ac (aa (aB x2) (ab ?_))))
 refine ah (b:=x2) zz (fun h4=>?_) (fun h4=>?_)
 have hr:=selT h4 hr
 refine af (ac (aa (aI 0) (ab (ao ?_))))
 obtain rfl:=sq hr
 exact ⟨_,zz,.inl zz,tv⟩
 have hr:=selF h4 hr
 refine aj (af (ac (aa (aI (-1)) (ab (ao ?_)))))
 obtain rfl:=sq hr
 exact ⟨_,zz,.inl zz,tv⟩
 have hr:=selF h3 hr
 refine aj (af (af (ac (aa (aB x2) (ab ?_)))))
 refine ah (b:=x2) zz (fun h5=>?_) (fun h5=>?_)
 have hr:=selT h5 hr
 refine af (ac (aa (aI 1) (ab (ao ?_))))
 obtain rfl:=sq hr
 exact ⟨_,zz,.inl zz,tv⟩
 have hr:=selF h5 hr
 refine aj (af (af (ac (aa (aI p_x) (aa (aI y) (aa (aB (decide (p_x<y))) (ab ?_)))))))
 refine ah (b:=decide (p_x<y)) zz (fun h6=>?_) (fun h6=>?_)
 have hr:=selT h6 hr
 refine af (ac (aa (aI (-1)) (ab (ao ?_))))
 obtain rfl:=sq hr
 exact ⟨_,zz,.inl zz,tv⟩
 have hr:=selF h6 hr
 refine aj (af (af (ac (aa (aI p_x) (aa (aI y) (aa (aB (decide (p_x>y))) (ab ?_)))))))
 refine ah (b:=decide (p_x>y)) zz (fun h7=>?_) (fun h7=>?_)
 have hr:=selT h7 hr
 refine af (ac (aa (aI 1) (ab (ao ?_))))
 obtain rfl:=sq hr
 exact ⟨_,zz,.inl zz,tv⟩
 have hr:=selF h7 hr
 refine aj (af (ac (aa (aI 0) (ab (ao ?_)))))
 obtain rfl:=sq hr
 exact ⟨_,zz,.inl zz,tv⟩
theorem l8 (id:Int) (c0:Tree) {r:Int} (hr:gn id c0=some r):Con Tryz.prog 62 [aI id,.c (.loc 0 0)] [(0,.blk [cI c0.Root,cI c0.Next,dV ((lM Node.cs c0.Nodes))] 30)] (.s (aI r)) [(0,.blk [cI c0.Root,cI c0.Next,dV ((lM Node.cs c0.Nodes))] 30)]:=by
 unfold gn at hr
 refine ap 16 0 [.tmp 3] [(0,.s (aI id)),(1,.s (.c (.loc 0 0)))] Tryz.func62 zz zz zz zz zz zz zz zz fun w g M ρ _=>(af (ac (aa (aI 0) (ab (af (ac (aa (.agg [cI c0.Root,cI c0.Next,dV ((lM Node.cs c0.Nodes))]) (aa (aI id) ?_))))))))
 obtain ⟨x1,hx1,hr⟩:=bq hr
 refine ae (aL (tau []) (.tup [.agg [cI x1.1.ID,cI x1.1.Parent,cI x1.1.Kind,cS x1.1.Key,dV ((lM Attr.cs x1.1.Attrs)),dV ((lM Action.cs x1.1.Actions)),dV ((lI x1.1.Kids))],aB x1.2]) [] (pJ _ _ hx1) zz ⟨.inl zz,.inl zz,tv⟩ tv v9 tv) (ae (dk (v:=.tup [.agg [cI x1.1.ID,cI x1.1.Parent,cI x1.1.Kind,cS x1.1.Key,dV ((lM Attr.cs x1.1.Attrs)),dV ((lM Action.cs x1.1.Actions)),dV ((lI x1.1.Kids))],aB x1.2]) zz zz) (aa (.agg [cI x1.1.ID,cI x1.1.Parent,cI x1.1.Kind,cS x1.1.Key,dV ((lM Attr.cs x1.1.Attrs)),dV ((lM Action.cs x1.1.Actions)),dV ((lI x1.1.Kids))]) (aa (aB x1.2) (ak 0 (aw (j:=1) (cs:=[cI 0,cI 0,cI 0,cS ByteArray.empty,.d (.v (.slice none 0 0)),.d (.v (.slice none 0 0)),.d (.v (.slice none 0 0))]) zz zz zz zz) (aq (al (cs':=[cI x1.1.ID,cI x1.1.Parent,cI x1.1.Kind,cS x1.1.Key,dV ((lM Attr.cs x1.1.Attrs)),dV ((lM Action.cs x1.1.Actions)),dV ((lI x1.1.Kids))]) zz zz zz zz zz zz zz zz zz) (aa (aB x1.2) (ab (af (ac (aa (.c (.loc 1 4)) (aa (aV (((lM Attr.cs x1.1.Attrs)))) ?_)))))))))))
 obtain ⟨x2,hx2,hr⟩:=bq hr
 refine ae (aL (tau []) (.s (aI x2)) [] (qR _ _ _ hx2) zz ⟨.inl zz,.inl zz,.inl zz,tv⟩ tv zc tv) (aa (aI (mxI x2 0)) (aa (aI (mxI x2 0)) (ab (ao ?_))))
 obtain rfl:=sq hr
 exact ⟨_,zz,.inl zz,⟨zz,tv⟩⟩
theorem qA (a:Int) (b:Int) (c1:Tree) {r:Int} (hr:eF a b c1=some r):Con Tryz.prog 64 [aI a,aI b,.c (.loc 0 0)] [(0,.blk [.fn 62 [(1,0)]] 112),(1,.blk [cI c1.Root,cI c1.Next,dV ((lM Node.cs c1.Nodes))] 30)] (.s (aI r)) [(0,.blk [.fn 62 [(1,0)]] 112),(1,.blk [cI c1.Root,cI c1.Next,dV ((lM Node.cs c1.Nodes))] 30)]:=by
 unfold eF at hr
 refine ap 26 0 [.tmp 5] [(0,.s (aI a)),(1,.s (aI b)),(2,.s (.c (.loc 0 0)))] Tryz.func64 zz zz zz zz zz zz zz zz fun w g M ρ _=>(af (ac (aa (aI 0) (ab (af (aF (by kernel_rfl) (ar (.c (.fn 62 [(1,0)])) zz tv zz (ar (aI a) zz tv zz ?_))))))))
 obtain ⟨x1,hx1,hr⟩:=bq hr
 refine av (TriL.keep (dg (caps:=[(1,0)]) (tau [(0,1)]) (.s (aI x1)) [(1,.blk [cI c1.Root,cI c1.Next,dV ((lM Node.cs c1.Nodes))] 30)] zz (l8 _ _ hx1) zz ⟨.inl zz,.inl zz,tv⟩ tv vW ⟨zz,tv⟩ zz zz zz zz tv zz zz zz) ⟨zz,tv⟩) (ar (.c (.fn 62 [(1,0)])) zz tv zz (ar (aI b) zz tv zz ?_))
 obtain ⟨x2,hx2,hr⟩:=bq hr
 refine av (TriL.keep (dg (caps:=[(1,0)]) (tau [(0,1)]) (.s (aI x2)) [(1,.blk [cI c1.Root,cI c1.Next,dV ((lM Node.cs c1.Nodes))] 30)] zz (l8 _ _ hx2) zz ⟨.inl zz,.inl zz,tv⟩ tv vW ⟨zz,tv⟩ zz zz zz zz tv zz zz zz) ⟨zz,tv⟩) (ar (aI x1) zz tv zz (ar (aI x2) zz tv zz (aY (by kernel_rfl) (af (af (ac (aa (aI x1) (aa (aB (x1==0)) (aa (aB (x1==0)) (ae (ai (x:=aI x2) zz zz tv zz) (ae (ai (x:=aB (x2==0)) zz zz ⟨fun h=>h,tv⟩ zz) ?_)))))))))))
 refine ae (bj zz zz (fun h=>by rw [h];rfl) zz) ?_
 refine ab ?_
 refine ah (b:=(x1==0)||(x2==0)) zz (fun h3=>?_) (fun h3=>?_)
 have hr:=selT h3 hr
 refine af (ac (aa (aI x2) (aa (aI x1) ?_)))
 obtain ⟨x4,hx4,hr⟩:=bq hr
 refine ae (aL (tau []) (.s (aI x4)) [] (iN _ _ hx4) zz ⟨.inl zz,.inl zz,tv⟩ tv vV tv) (aa (aI x4) (ab (ao ?_)))
 obtain rfl:=sq hr
 exact ⟨_,zz,.inl zz,⟨zz,zz,tv⟩⟩
 have hr:=selF h3 hr
 refine aj (af (ac (aa (aI x1) (aa (aI x2) ?_))))
 obtain ⟨x5,hx5,hr⟩:=bq hr
 refine ae (aL (tau []) (.s (aI x5)) [] (iN _ _ hx5) zz ⟨.inl zz,.inl zz,tv⟩ tv vV tv) (aa (aI x5) (ab (ao ?_)))
 obtain rfl:=sq hr
 exact ⟨_,zz,.inl zz,⟨zz,zz,tv⟩⟩
theorem cC (data:(List Int)) (a:Int) (b:Int) (cmp_1:Tree) {r:(List Int)} (hr:aQ data a b cmp_1=some r):Con Tryz.prog 134 [.c (.own 0),aI a,aI b,.c (.fn 64 [(1,0)])] [(0,.vec 1 (lI data)),(1,.blk [.fn 62 [(2,0)]] 112),(2,.blk [cI cmp_1.Root,cI cmp_1.Next,dV ((lM Node.cs cmp_1.Nodes))] 30)] (.tup []) [(0,.vec 1 (lI r)),(1,.blk [.fn 62 [(2,0)]] 112),(2,.blk [cI cmp_1.Root,cI cmp_1.Next,dV ((lM Node.cs cmp_1.Nodes))] 30)]:=by
 unfold aQ at hr
 refine ap 53 0 [] [(0,.s (.c (.own 0))),(1,.s (aI a)),(2,.s (aI b)),(3,.s (.c (.fn 64 [(1,0)])))] Tryz.func134 zz zz zz zz zz zz zz zz fun w g M ρ _=>(af (ac (aa (aI a) (aa (aI (wq (a+1))) (aa (aI (wq (a+1))) (ab ?_))))))
 obtain ⟨k2,hk2,hr⟩:=ax hr
 refine bZ (fun (s1:(List Int))=>⟨[],[(0,.vec 1 (lI s1)),(1,.blk [.fn 62 [(2,0)]] 112),(2,.blk [cI cmp_1.Root,cI cmp_1.Next,dV ((lM Node.cs cmp_1.Nodes))] 30)],0⟩) k2 r (fun s1 hr=>?_) ?_
 rw [hk2] at hr
 obtain rfl:=sq hr
 exact ⟨_,zz,.inl zz,⟨zz,zz,zz,tv⟩⟩
 clear hk2
 refine am (az (fun (s3:Int×(List Int))=>⟨[(0,.s (.c (.own 0))),(1,.s (aI a)),(2,.s (aI b)),(3,.s (.c (.fn 64 [(1,0)]))),(8,.s (aI s3.1))],[(0,.vec 1 (lI s3.2)),(1,.blk [.fn 62 [(2,0)]] 112),(2,.blk [cI cmp_1.Root,cI cmp_1.Next,dV ((lM Node.cs cmp_1.Nodes))] 30)],0⟩) hr (Conv.mk (tau []) ⟨cl zz,cl zz,cl zz,cl zz,cl zz,tv⟩ ⟨zz,zz,zz,tv⟩ zz zz zz zz) ?_)
 clear hr
 intro again4 s3 hr
 unfold cw at hr
 refine af (af (ac (aa (aI s3.1) (aa (aI b) (aa (aB (decide (s3.1<b))) (ab ?_))))))
 refine ah (b:=decide (s3.1<b)) zz (fun h5=>?_) (fun h5=>?_)
 have hr:=selT h5 hr
 refine aj ?_
 obtain ⟨k7,hk7,hr⟩:=ax hr
 refine ay (fun (s6:(List Int))=>⟨[(0,.s (.c (.own 0))),(1,.s (aI a)),(2,.s (aI b)),(3,.s (.c (.fn 64 [(1,0)]))),(8,.s (aI s3.1))],[(0,.vec 1 (lI s6)),(1,.blk [.fn 62 [(2,0)]] 112),(2,.blk [cI cmp_1.Root,cI cmp_1.Next,dV ((lM Node.cs cmp_1.Nodes))] 30)],0⟩) k7 r (fun s6 hr=>?_) ?_
 rw [hk7] at hr
 refine ac (aa (aI s3.1) (aa (aI (wq (s3.1+1))) (aa (aI (wq (s3.1+1))) (ab ?_))))
 exact ⟨(wq (s3.1+1),s6),hr,(Conv.mk (tau []) ⟨cl zz,cl zz,cl zz,cl zz,cl zz,tv⟩ ⟨zz,zz,zz,tv⟩ zz zz zz zz)⟩
 clear hk7
 refine am (af (ac (aa (aI s3.1) (aa (aI s3.1) (ab ?_)))))
 obtain ⟨k9,hk9,hr⟩:=ax hr
 refine bZ (fun (s8:(List Int))=>⟨[(0,.s (.c (.own 0))),(1,.s (aI a)),(2,.s (aI b)),(3,.s (.c (.fn 64 [(1,0)]))),(8,.s (aI s3.1))],[(0,.vec 1 (lI s8)),(1,.blk [.fn 62 [(2,0)]] 112),(2,.blk [cI cmp_1.Root,cI cmp_1.Next,dV ((lM Node.cs cmp_1.Nodes))] 30)],0⟩) k9 r (fun s8 hr=>?_) ?_
 rw [hk9] at hr
 exact ⟨s8,hr,(Conv.mk (tau []) ⟨cl zz,cl zz,cl zz,cl zz,cl zz,tv⟩ ⟨zz,zz,zz,tv⟩ zz zz zz zz)⟩
 clear hk9
 refine am (az (fun (s10:Int×(List Int))=>⟨[(0,.s (.c (.own 0))),(1,.s (aI a)),(2,.s (aI b)),(3,.s (.c (.fn 64 [(1,0)]))),(8,.s (aI s3.1)),(9,.s (aI s10.1))],[(0,.vec 1 (lI s10.2)),(1,.blk [.fn 62 [(2,0)]] 112),(2,.blk [cI cmp_1.Root,cI cmp_1.Next,dV ((lM Node.cs cmp_1.Nodes))] 30)],0⟩) hr (Conv.mk (tau []) ⟨cl zz,cl zz,cl zz,cl zz,cl zz,cl zz,tv⟩ ⟨zz,zz,zz,tv⟩ zz zz zz zz) ?_)
 clear hr
 intro again11 s10 hr
 unfold cx at hr
 refine af (af (aF (by kernel_rfl) (ar (aI s10.1) zz tv zz (ar (aI a) zz tv zz (ar (aB (decide (s10.1>a))) zz tv zz (ar (aB (decide (s10.1>a))) zz tv zz (av (ai (x:=.c (.fn 64 [(1,0)])) zz zz tv zz) (av (ai (x:=.c (.own 0)) zz zz tv zz) (av (ai (x:=aI s10.1) zz zz tv zz) ?_)))))))))
 obtain ⟨x12,hx12,hr⟩:=bq hr
 refine av (sc (enc:=eI) (L:=s10.2) (cQ hx12) zz zz zz zz zz ⟨fun h=>h,⟨fun h=>h,tv⟩⟩ zz) ?_
 obtain ⟨x13,hx13,hr⟩:=bq hr
 refine av (pL (enc:=eI) (L:=s10.2) (row:=[dI x13]) (r:=aI x13) (cQ hx13) zz zz zz zz (fun _=>zz) zz ⟨fun h=>h,tv⟩ zz) (av (ai (x:=.c (.own 0)) zz zz tv zz) (av (ai (x:=aI s10.1) zz zz tv zz) (av (ai (x:=aI (wq (s10.1 - 1))) zz zz ⟨fun h=>h,tv⟩ zz) ?_)))
 obtain ⟨x14,hx14,hr⟩:=bq hr
 refine av (sc (enc:=eI) (L:=s10.2) (cQ hx14) zz zz zz zz zz ⟨fun h=>h,⟨fun h=>h,tv⟩⟩ zz) ?_
 obtain ⟨x15,hx15,hr⟩:=bq hr
 refine av (pL (enc:=eI) (L:=s10.2) (row:=[dI x15]) (r:=aI x15) (cQ hx15) zz zz zz zz (fun _=>zz) zz ⟨fun h=>h,tv⟩ zz) ?_
 obtain ⟨x16,hx16,hr⟩:=bq hr
 refine av (TriL.guard (x:=aI x16) zz zz (fun hg=>TriL.keep (dg (caps:=[(1,0)]) (tau [(0,1),(1,2)]) (.s (aI x16)) [(1,.blk [.fn 62 [(2,0)]] 112),(2,.blk [cI cmp_1.Root,cI cmp_1.Next,dV ((lM Node.cs cmp_1.Nodes))] 30)] zz (qA _ _ _ (cQ hx16 hg)) zz ⟨.inl zz,.inl zz,.inl zz,tv⟩ ⟨fun _=>hg,⟨fun _=>hg,⟨fun _=>hg,tv⟩⟩⟩ y7 ⟨zz,zz,tv⟩ zz zz zz zz tv zz zz zz) ⟨zz,zz,tv⟩)) (av (ai (x:=aB (decide (x16<0))) zz zz ⟨fun h=>h,tv⟩ zz) (av (bb zz zz (fun h=>h) zz) (aY (by kernel_rfl) ?_)))
 refine ah (b:=(decide (s10.1>a))&&(decide (x16<0))) zz (fun h17=>?_) (fun h17=>?_)
 have hr:=selT h17 hr
 refine aj (af (am (aF (by kernel_rfl) (ar (.c (.own 0)) zz tv zz (ar (aI s10.1) zz tv zz (ar (.c (.own 0)) zz tv zz (ar (aI s10.1) zz tv zz (ar (aI (wq (s10.1 - 1))) zz tv zz (ar (.c (.own 0)) zz tv zz (ar (aI s10.1) zz tv zz (ar (aI (wq (s10.1 - 1))) zz tv zz ?_)))))))))))
 obtain ⟨x18,hx18,hr⟩:=bq hr
 refine av (gw (enc:=eI) (L:=s10.2) hx18 zz zz zz zz tv zz) ?_
 obtain ⟨x19,hx19,hr⟩:=bq hr
 refine av (jJ (enc:=eI) (L:=s10.2) (row:=[dI x19]) (r:=aI x19) hx19 zz zz zz (fun _=>zz) zz  zz) (ar (.c (.own 0)) zz tv zz (ar (aI s10.1) zz tv zz ?_))
 obtain ⟨x20,hx20,hr⟩:=bq hr
 refine av (gw (enc:=eI) (L:=s10.2) hx20 zz zz zz zz tv zz) ?_
 obtain ⟨x21,hx21,hr⟩:=bq hr
 refine av (jJ (enc:=eI) (L:=s10.2) (row:=[dI x21]) (r:=aI x21) hx21 zz zz zz (fun _=>zz) zz  zz) ?_
 obtain ⟨x22,hx22,hr⟩:=bq hr
 refine av (gw (enc:=eI) (L:=s10.2) hx22 zz zz zz zz tv zz) (iz (kM (enc:=eI) (L:=s10.2) x19 (.inr (e9 hx22).2) zz zz zz zz zz zz (fun _=>zz) zz) ?_)
 obtain ⟨x23,hx23,hr⟩:=bq hr
 refine av (gw (enc:=eI) (L:=List.set s10.2 x22 x19) hx23 zz zz zz zz tv zz) (iz (kM (enc:=eI) (L:=List.set s10.2 x22 x19) x21 (.inr (e9 hx23).2) zz zz zz zz zz zz (fun _=>zz) zz) (aY (by kernel_rfl) (ac (aa (aI s10.1) (aa (aI (wq (s10.1 - 1))) (aa (aI (wq (s10.1 - 1))) (ab ?_)))))))
 exact ⟨(wq (s10.1 - 1),List.set (List.set s10.2 x22 x19) x23 x21),hr,(Conv.mk (tau []) ⟨cl zz,cl zz,cl zz,cl zz,cl zz,cl zz,tv⟩ ⟨zz,zz,zz,tv⟩ zz zz zz zz)⟩
 have hr:=selF h17 hr
 refine aE ?_
 exact ⟨s10.2,hr,(Conv.mk (tau []) ⟨cl zz,cl zz,cl zz,cl zz,cl zz,tv⟩ ⟨zz,zz,zz,tv⟩ zz zz zz zz)⟩
 have hr:=selF h5 hr
 refine aE ?_
 exact ⟨s3.2,hr,(Conv.mk (tau []) tv ⟨zz,zz,zz,tv⟩ zz zz zz zz)⟩
theorem gX (data:(List Int)) (p_n:Int) (cmp_1:Tree) {r:(List Int)} (hr:ce data p_n cmp_1=some r):Con Tryz.prog 97 [.c (.own 0),aI p_n,.c (.fn 64 [(1,0)])] [(0,.vec 1 (lI data)),(1,.blk [.fn 62 [(2,0)]] 112),(2,.blk [cI cmp_1.Root,cI cmp_1.Next,dV ((lM Node.cs cmp_1.Nodes))] 30)] (.tup []) [(0,.vec 1 (lI r)),(1,.blk [.fn 62 [(2,0)]] 112),(2,.blk [cI cmp_1.Root,cI cmp_1.Next,dV ((lM Node.cs cmp_1.Nodes))] 30)]:=by
 unfold ce at hr
 refine ap 63 0 [] [(0,.s (.c (.own 0))),(1,.s (aI p_n)),(2,.s (.c (.fn 64 [(1,0)])))] Tryz.func97 zz zz zz zz zz zz zz zz fun w g M ρ _=>(af (ac (aa (aI 20) (ab (af (ac (aa (aI 20) (aa (aI 0) (aa (aI 20) (ab ?_))))))))))
 obtain ⟨k2,hk2,hr⟩:=ax hr
 refine ay (fun (s1:Int×(List Int))=>⟨[(0,.s (.c (.own 0))),(1,.s (aI p_n)),(2,.s (.c (.fn 64 [(1,0)]))),(6,.s (aI 20)),(7,.s (aI s1.1))],[(0,.vec 1 (lI s1.2)),(1,.blk [.fn 62 [(2,0)]] 112),(2,.blk [cI cmp_1.Root,cI cmp_1.Next,dV ((lM Node.cs cmp_1.Nodes))] 30)],0⟩) k2 r (fun s1 hr=>?_) ?_
 rw [hk2] at hr
 refine af (ac (aa (.c (.own 0)) (aa (aI s1.1) (aa (aI p_n) (aa (.c (.fn 64 [(1,0)])) ?_)))))
 obtain ⟨x3,hx3,hr⟩:=bq hr
 refine OkOps.m3 0 (aL (tau [(0,0),(1,1),(2,2)]) (.tup []) [(0,.vec 1 (lI x3)),(1,.blk [.fn 62 [(2,0)]] 112),(2,.blk [cI cmp_1.Root,cI cmp_1.Next,dV ((lM Node.cs cmp_1.Nodes))] 30)] (cC _ _ _ _ hx3) zz ⟨.inl zz,.inl zz,.inl zz,.inl zz,tv⟩ tv tm ⟨zz,zz,zz,tv⟩) (ab ?_)
 obtain ⟨k5,hk5,hr⟩:=ax hr
 refine bZ (fun (s4:Unit)=>⟨[],[(0,.vec 1 (lI x3)),(1,.blk [.fn 62 [(2,0)]] 112),(2,.blk [cI cmp_1.Root,cI cmp_1.Next,dV ((lM Node.cs cmp_1.Nodes))] 30)],0⟩) k5 r (fun s4 hr=>?_) ?_
 rw [hk5] at hr
 obtain rfl:=sq hr
 exact ⟨_,zz,.inl zz,⟨zz,zz,zz,tv⟩⟩
 clear hk5
 refine am (az (fun (s6:Int)=>⟨[(0,.s (.c (.own 0))),(1,.s (aI p_n)),(2,.s (.c (.fn 64 [(1,0)]))),(6,.s (aI s6))],[(0,.vec 1 (lI x3)),(1,.blk [.fn 62 [(2,0)]] 112),(2,.blk [cI cmp_1.Root,cI cmp_1.Next,dV ((lM Node.cs cmp_1.Nodes))] 30)],0⟩) hr (Conv.mk (tau []) ⟨cl zz,cl zz,cl zz,cl zz,tv⟩ ⟨zz,zz,zz,tv⟩ zz zz zz zz) ?_)
 clear hr
 intro again7 s6 hr
 unfold bm at hr
 refine af (af (ac (aa (aI s6) (aa (aI p_n) (aa (aB (decide (s6<p_n))) (ab ?_))))))
 refine ah (b:=decide (s6<p_n)) zz (fun h8=>?_) (fun h8=>?_)
 have hr:=selT h8 hr
 refine aj ?_
 obtain ⟨k10,hk10,hr⟩:=ax hr
 refine bZ (fun (s9:Unit)=>⟨[(0,.s (.c (.own 0))),(1,.s (aI p_n)),(2,.s (.c (.fn 64 [(1,0)]))),(6,.s (aI (wq (s6*2))))],[(0,.vec 1 (lI x3)),(1,.blk [.fn 62 [(2,0)]] 112),(2,.blk [cI cmp_1.Root,cI cmp_1.Next,dV ((lM Node.cs cmp_1.Nodes))] 30)],0⟩) k10 r (fun s9 hr=>?_) ?_
 rw [hk10] at hr
 exact ⟨wq (s6*2),hr,(Conv.mk (tau []) ⟨cl zz,cl zz,cl zz,cl zz,tv⟩ ⟨zz,zz,zz,tv⟩ zz zz zz zz)⟩
 clear hk10
 refine am (af (ac (aa (aI s6) (aa (aI (wq (2*s6))) (aa (aI 0) (aa (aI (wq (2*s6))) (ab ?_)))))))
 obtain ⟨k12,hk12,hr⟩:=ax hr
 refine ay (fun (s11:Unit)=>⟨[(0,.s (.c (.own 0))),(1,.s (aI p_n)),(2,.s (.c (.fn 64 [(1,0)]))),(6,.s (aI s6)),(7,.s (aI 0))],[(0,.vec 1 (lI x3)),(1,.blk [.fn 62 [(2,0)]] 112),(2,.blk [cI cmp_1.Root,cI cmp_1.Next,dV ((lM Node.cs cmp_1.Nodes))] 30)],0⟩) k12 r (fun s11 hr=>?_) ?_
 rw [hk12] at hr
 obtain ⟨k14,hk14,hr⟩:=ax hr
 refine ay (fun (s13:Unit)=>⟨[(0,.s (.c (.own 0))),(1,.s (aI p_n)),(2,.s (.c (.fn 64 [(1,0)]))),(6,.s (aI s6))],[(0,.vec 1 (lI x3)),(1,.blk [.fn 62 [(2,0)]] 112),(2,.blk [cI cmp_1.Root,cI cmp_1.Next,dV ((lM Node.cs cmp_1.Nodes))] 30)],0⟩) k14 r (fun s13 hr=>?_) ?_
 rw [hk14] at hr
 refine ac (aa (aI s6) (aa (aI (wq (s6*2))) (aa (aI (wq (s6*2))) (ab ?_))))
 exact ⟨(),hr,(Conv.mk (tau []) ⟨cl zz,cl zz,cl zz,cl zz,tv⟩ ⟨zz,zz,zz,tv⟩ zz zz zz zz)⟩
 clear hk14
 refine af (ac (aa (aI 0) (aa (aI s6) (aa (aI (wq (0+s6))) (aa (aI (wq (0+s6))) (ab (af (ac (aa (aI (wq (0+s6))) (aa (aI p_n) (aa (aB (decide ((wq (0+s6))<p_n))) (ab ?_))))))))))))
 refine ah (b:=decide ((wq (0+s6))<p_n)) zz (fun h15=>?_) (fun h15=>?_)
 have hr:=selT h15 hr
 refine ac (aa (.c (.own 0)) (aa (aI 0) (aa (aI (wq (0+s6))) (aa (aI p_n) (aa (.c (.fn 64 [(1,0)])) ?_)))))
 cases hr
 have hr:=selF h15 hr
 refine aj ?_
 exact ⟨(),hr,(Conv.mk (tau []) ⟨cl zz,cl zz,cl zz,cl zz,tv⟩ ⟨zz,zz,zz,tv⟩ zz zz zz zz)⟩
 clear hk12
 refine am (az (fun (s16:Unit)=>⟨[(0,.s (.c (.own 0))),(1,.s (aI p_n)),(2,.s (.c (.fn 64 [(1,0)]))),(6,.s (aI s6)),(7,.s (aI 0)),(8,.s (aI (wq (2*s6))))],[(0,.vec 1 (lI x3)),(1,.blk [.fn 62 [(2,0)]] 112),(2,.blk [cI cmp_1.Root,cI cmp_1.Next,dV ((lM Node.cs cmp_1.Nodes))] 30)],0⟩) hr (Conv.mk (tau []) ⟨cl zz,cl zz,cl zz,cl zz,cl zz,cl zz,tv⟩ ⟨zz,zz,zz,tv⟩ zz zz zz zz) ?_)
 clear hr
 intro again17 s16 hr
 unfold dl at hr
 refine af (af (ac (aa (aI (wq (2*s6))) (aa (aI p_n) (aa (aB (decide ((wq (2*s6))≤p_n))) (ab ?_))))))
 refine ah (b:=decide ((wq (2*s6))≤p_n)) zz (fun h18=>?_) (fun h18=>?_)
 have hr:=selT h18 hr
 refine aj (am (af (ac (aa (.c (.own 0)) (aa (aI 0) (aa (aI 0) (aa (aI s6) (aa (aI (wq (0+s6))) (aa (aI (wq (2*s6))) (aa (.c (.fn 64 [(1,0)])) ?_))))))))))
 cases hr
 have hr:=selF h18 hr
 refine aE ?_
 exact ⟨(),hr,(Conv.mk (tau []) ⟨cl zz,cl zz,cl zz,cl zz,cl zz,tv⟩ ⟨zz,zz,zz,tv⟩ zz zz zz zz)⟩
 have hr:=selF h8 hr
 refine aE ?_
 exact ⟨(),hr,(Conv.mk (tau []) tv ⟨zz,zz,zz,tv⟩ zz zz zz zz)⟩
 clear hk2
 refine am (az (fun (s19:Int×Int×(List Int))=>⟨[(0,.s (.c (.own 0))),(1,.s (aI p_n)),(2,.s (.c (.fn 64 [(1,0)]))),(6,.s (aI 20)),(7,.s (aI s19.1)),(8,.s (aI s19.2.1))],[(0,.vec 1 (lI s19.2.2)),(1,.blk [.fn 62 [(2,0)]] 112),(2,.blk [cI cmp_1.Root,cI cmp_1.Next,dV ((lM Node.cs cmp_1.Nodes))] 30)],0⟩) hr (Conv.mk (tau []) ⟨cl zz,cl zz,cl zz,cl zz,cl zz,cl zz,tv⟩ ⟨zz,zz,zz,tv⟩ zz zz zz zz) ?_)
 clear hr
 intro again20 s19 hr
 unfold aT at hr
 refine af (af (ac (aa (aI s19.2.1) (aa (aI p_n) (aa (aB (decide (s19.2.1≤p_n))) (ab ?_))))))
 refine ah (b:=decide (s19.2.1≤p_n)) zz (fun h21=>?_) (fun h21=>?_)
 have hr:=selT h21 hr
 refine aj (am (af (ac (aa (.c (.own 0)) (aa (aI s19.1) (aa (aI s19.2.1) (aa (.c (.fn 64 [(1,0)])) ?_)))))))
 obtain ⟨x22,hx22,hr⟩:=bq hr
 refine OkOps.m3 0 (aL (tau [(0,0),(1,1),(2,2)]) (.tup []) [(0,.vec 1 (lI x22)),(1,.blk [.fn 62 [(2,0)]] 112),(2,.blk [cI cmp_1.Root,cI cmp_1.Next,dV ((lM Node.cs cmp_1.Nodes))] 30)] (cC _ _ _ _ hx22) zz ⟨.inl zz,.inl zz,.inl zz,.inl zz,tv⟩ tv tm ⟨zz,zz,zz,tv⟩) (ab (af (ac (aa (aI s19.2.1) (aa (aI s19.2.1) (ab (ac (aa (aI s19.2.1) (aa (aI 20) (aa (aI (wq (s19.2.1+20))) (aa (aI (wq (s19.2.1+20))) (ab ?_))))))))))))
 exact ⟨(s19.2.1,wq (s19.2.1+20),x22),hr,(Conv.mk (tau []) ⟨cl zz,cl zz,cl zz,cl zz,cl zz,cl zz,tv⟩ ⟨zz,zz,zz,tv⟩ zz zz zz zz)⟩
 have hr:=selF h21 hr
 refine aE ?_
 exact ⟨(s19.1,s19.2.2),hr,(Conv.mk (tau []) ⟨cl zz,cl zz,cl zz,cl zz,cl zz,tv⟩ ⟨zz,zz,zz,tv⟩ zz zz zz zz)⟩
theorem eG (p_x:(List Int)) (cmp_1:Tree) {r:(List Int)} (hr:aZ p_x cmp_1=some r):Con Tryz.prog 63 [.c (.own 0),.c (.fn 64 [(1,0)])] [(0,.vec 1 (lI p_x)),(1,.blk [.fn 62 [(2,0)]] 112),(2,.blk [cI cmp_1.Root,cI cmp_1.Next,dV ((lM Node.cs cmp_1.Nodes))] 30)] (.tup []) [(0,.vec 1 (lI r)),(1,.blk [.fn 62 [(2,0)]] 112),(2,.blk [cI cmp_1.Root,cI cmp_1.Next,dV ((lM Node.cs cmp_1.Nodes))] 30)]:=by
 unfold aZ at hr
 refine ap 9 0 [] [(0,.s (.c (.own 0))),(1,.s (.c (.fn 64 [(1,0)])))] Tryz.func63 zz zz zz zz zz zz zz zz fun w g M ρ _=>(ac (aa (.c (.own 0)) (aa (.c (.own 0)) (ae (ly (enc:=eI) p_x zz zz zz zz) (aa (.c (.fn 64 [(1,0)])) ?_)))))
 obtain ⟨x1,hx1,hr⟩:=bq hr
 refine OkOps.m3 0 (aL (tau [(0,0),(1,1),(2,2)]) (.tup []) [(0,.vec 1 (lI x1)),(1,.blk [.fn 62 [(2,0)]] 112),(2,.blk [cI cmp_1.Root,cI cmp_1.Next,dV ((lM Node.cs cmp_1.Nodes))] 30)] (gX _ _ _ hx1) zz ⟨.inl zz,.inl zz,.inl zz,tv⟩ tv yR ⟨zz,zz,zz,tv⟩) (ab ?_)
 obtain rfl:=sq hr
 exact ⟨_,zz,.inl zz,⟨zz,zz,zz,tv⟩⟩
theorem jZ (t:Tree) (st:(List Styled)) {r:(List Int)} (hr:d7 t st=some r):Con Tryz.prog 21 [.agg (tC t),aV (((lM Styled.cs st)))] [] (.s (aV (((lI r))))) []:=by
 unfold d7 at hr
 refine ap 15 0 [.tmp 4] [(0,.s (.agg (tC t))),(1,.s (aV (((lM Styled.cs st)))))] Tryz.func21 zz zz zz zz zz zz zz zz fun w g M ρ _=>(af (ac (ak 0 (aP (j:=0) (cs:=(tC t)) zz zz zz zz zz) (aa (.c (.d (.v (.slice none 0 0)))) (ab (af (ac (aa (.agg (tC t)) (aa (aV (((lM Styled.cs st)))) ?_)))))))))
 obtain ⟨x1,hx1,hr⟩:=bq hr
 refine ak 0 (bQ (tau [(2000,1)]) (.s (.c (.own 1))) [(1,.vec 1 (lI x1))] (jC _ _ hx1) zz ⟨.inl zz,.inl zz,tv⟩ tv v7 tv zz zz zz zz ⟨zz,tv⟩ zz zz zz) (aa (.c (.own 1)) (ab (af (ac (ae (mI [(0,0)] zz tv zz) (ak 0 (aw (j:=2) (cs:=[.d (.v .nilFunc)]) zz zz zz zz) (aq (al (cs':=[.fn 62 [(0,0)]]) zz zz zz zz zz zz zz zz zz) (ab (af (ac (aa (.c (.own 1)) (ae (mI [(2,0)] zz tv zz) ?_))))))))))))
 obtain ⟨x2,hx2,hr⟩:=bq hr
 refine OkOps.m3 0 (aL (tau [(0,1),(1,2),(2,0)]) (.tup []) [(1,.vec 1 (lI x2)),(2,.blk [.fn 62 [(0,0)]] 112),(0,.blk (tC t) 30)] (eG _ _ hx2) zz ⟨.inl zz,.inl zz,tv⟩ tv y8 ⟨zz,zz,zz,tv⟩) (ab (af (ac (aa (.c (.own 1)) (aa (.c (.own 1)) (ab (Ok.conv (jc (enc:=eI) (L:=x2) [4,5,9,11,14] 1 3 1 0 ⟨zz,zz,zz,zz,zz,tv⟩ zz (fun _=>zz) zz) (ao ?_))))))))
 obtain rfl:=sq hr
 exact ⟨_,zz,.inr zz,tv⟩
end Go.Proofs.YtfoigppmcelgfaaGreatDoor
end
section
set_option maxRecDepth 100000
namespace Go.Proofs.YtfoigppmcelgfaaGreatDoor
open Go Go.E2
theorem j9 (p_x:Int) (c0:Int) {r:Bool} (hr:eC p_x c0=some r):Con Tryz.prog 88 [aI p_x,.c (.loc 0 0)] [(0,.blk [cI c0] 3)] (.s (aB r)) [(0,.blk [cI c0] 3)]:=by
 unfold eC at hr
 refine ap 7 0 [.tmp 3] [(0,.s (aI p_x)),(1,.s (.c (.loc 0 0)))] Tryz.func88 zz zz zz zz zz zz zz zz fun w g M ρ _=>(af (ac (aa (aB false) (ab (af (ac (aa (aI p_x) (aa (aI c0) (aa (aB (p_x==c0)) (aa (aB (p_x==c0)) (ab (ao ?_))))))))))))
 obtain rfl:=sq hr
 exact ⟨_,zz,.inl zz,⟨zz,tv⟩⟩
theorem lz (p_s:(List Int)) (f_0:Int) {r:Int×(List Int)} (hr:gz p_s f_0=some r):Con Tryz.prog 124 [.c (.own 0),.c (.fn 88 [(1,0)])] [(0,.vec 1 (lI p_s)),(1,.blk [cI f_0] 3)] (.s (aI r.1)) [(0,.vec 1 (lI r.2)),(1,.blk [cI f_0] 3)]:=by
 unfold gz at hr
 refine ap 19 0 [.tmp 4] [(0,.s (.c (.own 0))),(1,.s (.c (.fn 88 [(1,0)])))] Tryz.func124 zz zz zz zz zz zz zz zz fun w g M ρ _=>(af (ac (aa (aI 0) (ab ?_))))
 obtain ⟨k2,hk2,hr⟩:=ax hr
 refine ay (fun (s1:Unit)=>⟨[],[(0,.vec 1 (lI p_s)),(1,.blk [cI f_0] 3)],0⟩) k2 r (fun s1 hr=>?_) ?_
 rw [hk2] at hr
 refine af (ac (aa (aI (-1)) (ab (ao ?_))))
 obtain rfl:=sq hr
 exact ⟨_,zz,.inl zz,⟨zz,zz,tv⟩⟩
 clear hk2
 refine af (ac (aa (.c (.own 0)) (ae (ly (enc:=eI) p_s zz zz zz zz) (aa (aI 0) (ab (am (az (fun (s3:Int)=>⟨[(0,.s (.c (.own 0))),(1,.s (.c (.fn 88 [(1,0)]))),(7,.s (aI (p_s.length:Int))),(8,.s (aI s3))],[(0,.vec 1 (lI p_s)),(1,.blk [cI f_0] 3)],0⟩) hr (Conv.mk (tau []) ⟨cl zz,cl zz,cl zz,cl zz,tv⟩ ⟨zz,zz,tv⟩ zz zz zz zz) ?_)))))))
 clear hr
 intro again4 s3 hr
 unfold hE at hr
 refine af (ac (aa (aB (decide (s3<(p_s.length:Int)))) (ab (af ?_))))
 refine ah (b:=decide (s3<(p_s.length:Int))) zz (fun h5=>?_) (fun h5=>?_)
 have hr:=selT h5 hr
 refine aj (af (am (af (ac (aa (aI s3) (aa (aI s3) (ab (af (ac (aa (.c (.fn 88 [(1,0)])) (aa (.c (.own 0)) (aa (aI s3) ?_))))))))))))
 obtain ⟨x6,hx6,hr⟩:=bq hr
 refine ae (gw (enc:=eI) (L:=p_s) hx6 zz zz zz zz tv zz) ?_
 obtain ⟨x7,hx7,hr⟩:=bq hr
 refine ae (jJ (enc:=eI) (L:=p_s) (row:=[dI x7]) (r:=aI x7) hx7 zz zz zz (fun _=>zz) zz  zz) ?_
 obtain ⟨x8,hx8,hr⟩:=bq hr
 refine ae (TriL.keep (dg (caps:=[(1,0)]) (tau [(0,1)]) (.s (aB x8)) [(1,.blk [cI f_0] 3)] zz (j9 _ _ hx8) zz ⟨.inl zz,.inl zz,tv⟩ tv vP ⟨zz,tv⟩ zz zz zz zz tv zz zz zz) ⟨zz,tv⟩) (ab ?_)
 refine ah (b:=x8) zz (fun h9=>?_) (fun h9=>?_)
 have hr:=selT h9 hr
 refine af (ac (aa (aI s3) (aa (aI s3) (ab (ao ?_)))))
 obtain rfl:=sq hr
 exact ⟨_,zz,.inl zz,⟨zz,zz,tv⟩⟩
 have hr:=selF h9 hr
 refine aj (ac (aa (aI (wq (s3+1))) (aa (aI (wq (s3+1))) (ab ?_))))
 exact ⟨wq (s3+1),hr,(Conv.mk (tau []) ⟨cl zz,cl zz,cl zz,cl zz,tv⟩ ⟨zz,zz,tv⟩ zz zz zz zz)⟩
 have hr:=selF h5 hr
 refine aE ?_
 exact ⟨(),hr,(Conv.mk (tau []) tv ⟨zz,zz,tv⟩ zz zz zz zz)⟩
theorem kT (p_s:(List Int)) (del_0:Int) {r:(List Int)} (hr:fS p_s del_0=some r):Con Tryz.prog 87 [.c (.own 0),.c (.fn 88 [(1,0)])] [(0,.vec 1 (lI p_s)),(1,.blk [cI del_0] 3)] (.s (.c (.tl 2000 (lI r)))) [(1,.blk [cI del_0] 3),(0,.dead),(2000,.tail 1)]:=by
 unfold fS at hr
 refine ap 42 0 [.tmp 4] [(0,.s (.c (.own 0))),(1,.s (.c (.fn 88 [(1,0)])))] Tryz.func87 zz zz zz zz zz zz zz zz fun w g M ρ _=>(af (ac (aa (.c (.d (.v (.slice none 0 0)))) (ab (af (ac (aa (.c (.own 0)) (aa (.c (.fn 88 [(1,0)])) ?_))))))))
 obtain ⟨x1,hx1,hr⟩:=bq hr
 refine bW 0 (aL (tau [(0,0),(1,1)]) (.s (aI x1.1)) [(0,.vec 1 (lI x1.2)),(1,.blk [cI del_0] 3)] (lz _ _ hx1) zz ⟨.inl zz,.inl zz,tv⟩ tv tq ⟨zz,zz,tv⟩) (aa (aI x1.1) (ab (af (af (ac (aa (aI x1.1) (aa (aB (x1.1==(-1))) (ab ?_))))))))
 refine ah (b:=x1.1==(-1)) zz (fun h2=>?_) (fun h2=>?_)
 have hr:=selT h2 hr
 refine af (ac (aa (.c (.own 0)) (aa (.c (.own 0)) (ab (Ok.conv (jc (enc:=eI) (L:=x1.2) [0,4,8,13] 0 2 1 0 ⟨zz,zz,zz,zz,tv⟩ zz (fun _=>zz) zz) (Ok.conv (T:=⟨[(4,.s (.c (.tl 2000 (lI x1.2))))],[(0,.dead),(1,.blk [cI del_0] 3),(2000,.tail 1)],0⟩) (Conv.mk (tau [(2000,2)]) ⟨cl zz,tv⟩ ⟨zz,zz,tv⟩ zz zz zz zz) (ao ?_)))))))
 obtain rfl:=sq hr
 exact ⟨_,zz,.inl zz,⟨zz,(fun h=>by cases h),zz,tv⟩⟩
 have hr:=selF h2 hr
 refine aj ?_
 obtain ⟨k4,hk4,hr⟩:=ax hr
 refine ay (fun (s3:Int×(List Int))=>⟨[(0,.s (.c (.own 0))),(5,.s (aI s3.1))],[(0,.vec 1 (lI s3.2)),(1,.blk [cI del_0] 3)],0⟩) k4 r (fun s3 hr=>?_) ?_
 rw [hk4] at hr
 refine af (ac (aa (.c (.own 0)) (aa (aI s3.1) ?_)))
 obtain ⟨x5,hx5,hr⟩:=bq hr
 refine ow (enc:=eI) (L:=s3.2) 0 hx5 zz zz zz zz zz zz zz (fun _=>zz) tv zz zz (ab (af (ac (aa (.c (.own 0)) (aa (aI s3.1) ?_)))))
 obtain ⟨x6,hx6,hr⟩:=bq hr
 refine bW 0 (ux (enc:=eI) (L:=List.take x5 s3.2++List.replicate (s3.2.length - x5) 0) (j:=0) (j':=3) hx6 zz zz zz zz (fun _=>zz) tv zz zz) (aa (.c (.tl 3 (lI (List.take x6 (List.take x5 s3.2++List.replicate (s3.2.length - x5) 0))))) (ab (Ok.conv (T:=⟨[(4,.s (.c (.tl 2000 (lI (List.take x6 (List.take x5 s3.2++List.replicate (s3.2.length - x5) 0))))))],[(0,.dead),(1,.blk [cI del_0] 3),(2000,.tail 1)],0⟩) (Conv.mk (tau [(2000,3)]) ⟨cl zz,tv⟩ ⟨zz,zz,tv⟩ zz zz zz zz) (ao ?_))))
 obtain rfl:=sq hr
 exact ⟨_,zz,.inl zz,⟨zz,(fun h=>by cases h),zz,tv⟩⟩
 clear hk4
 refine af (ac (aa (aI x1.1) (aa (aI (wq (x1.1+1))) (aa (aI (wq (x1.1+1))) (ab (am (az (fun (s7:Int×Int×(List Int))=>⟨[(0,.s (.c (.own 0))),(1,.s (.c (.fn 88 [(1,0)]))),(5,.s (aI s7.1)),(6,.s (aI s7.2.1))],[(0,.vec 1 (lI s7.2.2)),(1,.blk [cI del_0] 3)],0⟩) hr (Conv.mk (tau []) ⟨cl zz,cl zz,cl zz,cl zz,tv⟩ ⟨zz,zz,tv⟩ zz zz zz zz) ?_)))))))
 clear hr
 intro again8 s7 hr
 unfold gB at hr
 refine af (af (ac (aa (aI s7.2.1) (aa (.c (.own 0)) (ae (ly (enc:=eI) s7.2.2 zz zz zz zz) (aa (aB (decide (s7.2.1<(s7.2.2.length:Int)))) (ab ?_)))))))
 refine ah (b:=decide (s7.2.1<(s7.2.2.length:Int))) zz (fun h9=>?_) (fun h9=>?_)
 have hr:=selT h9 hr
 refine aj ?_
 obtain ⟨k11,hk11,hr⟩:=ax hr
 refine ay (fun (s10:Int×(List Int))=>⟨[(0,.s (.c (.own 0))),(1,.s (.c (.fn 88 [(1,0)]))),(5,.s (aI s10.1)),(6,.s (aI s7.2.1))],[(0,.vec 1 (lI s10.2)),(1,.blk [cI del_0] 3)],0⟩) k11 r (fun s10 hr=>?_) ?_
 rw [hk11] at hr
 refine ac (aa (aI s7.2.1) (aa (aI (wq (s7.2.1+1))) (aa (aI (wq (s7.2.1+1))) (ab ?_))))
 exact ⟨(s10.1,wq (s7.2.1+1),s10.2),hr,(Conv.mk (tau []) ⟨cl zz,cl zz,cl zz,cl zz,tv⟩ ⟨zz,zz,tv⟩ zz zz zz zz)⟩
 clear hk11
 refine am (af (ac (aa (.c (.own 0)) (aa (aI s7.2.1) ?_))))
 obtain ⟨x12,hx12,hr⟩:=bq hr
 refine ae (gw (enc:=eI) (L:=s7.2.2) hx12 zz zz zz zz tv zz) ?_
 obtain ⟨x13,hx13,hr⟩:=bq hr
 refine ae (jJ (enc:=eI) (L:=s7.2.2) (row:=[dI x13]) (r:=aI x13) hx13 zz zz zz (fun _=>zz) zz  zz) (aa (aI x13) (ab (af (ac (aa (.c (.fn 88 [(1,0)])) (aa (aI x13) ?_))))))
 obtain ⟨x14,hx14,hr⟩:=bq hr
 refine ae (TriL.keep (dg (caps:=[(1,0)]) (tau [(0,1)]) (.s (aB x14)) [(1,.blk [cI del_0] 3)] zz (j9 _ _ hx14) zz ⟨.inl zz,.inl zz,tv⟩ tv vP ⟨zz,tv⟩ zz zz zz zz tv zz zz zz) ⟨zz,tv⟩) (aa (aB (!x14)) (ab ?_))
 refine ah (b:=!x14) zz (fun h15=>?_) (fun h15=>?_)
 have hr:=selT h15 hr
 refine af (ac (aa (.c (.own 0)) (aa (aI s7.1) (aa (aI x13) ?_))))
 obtain ⟨x16,hx16,hr⟩:=bq hr
 refine ae (gw (enc:=eI) (L:=s7.2.2) hx16 zz zz zz zz tv zz) (aq (kM (enc:=eI) (L:=s7.2.2) x13 (.inr (e9 hx16).2) zz zz zz zz zz zz (fun _=>zz) zz) (ab (ac (aa (aI s7.1) (aa (aI (wq (s7.1+1))) (aa (aI (wq (s7.1+1))) (ab ?_)))))))
 exact ⟨(wq (s7.1+1),List.set s7.2.2 x16 x13),hr,(Conv.mk (tau []) ⟨cl zz,cl zz,cl zz,cl zz,tv⟩ ⟨zz,zz,tv⟩ zz zz zz zz)⟩
 have hr:=selF h15 hr
 refine aj ?_
 exact ⟨(s7.1,s7.2.2),hr,(Conv.mk (tau []) ⟨cl zz,cl zz,cl zz,cl zz,tv⟩ ⟨zz,zz,tv⟩ zz zz zz zz)⟩
 have hr:=selF h9 hr
 refine aE ?_
 exact ⟨(s7.1,s7.2.2),hr,(Conv.mk (tau []) ⟨cl zz,cl zz,tv⟩ ⟨zz,zz,tv⟩ zz zz zz zz)⟩
theorem cz (s:(List Int)) {r:(List Int)} (hr:bn s=some r):Con Tryz.prog 54 [aV (((lI s)))] [] (.s (.c (.own 2000))) [(2000,.vec 1 (lI r))]:=by
 unfold bn at hr
 refine ap 8 0 [.tmp 2] [(0,.s (aV (((lI s)))))] Tryz.func54 zz zz zz zz zz zz zz zz fun w g M ρ _=>(af (ac (ae (r8 (x:=.c (.d (.v (.slice none 0 0)))) zz tv zz) (ab (af (af (ac (ae (r8 (x:=aV (((lI s)))) zz tv zz) ?_))))))))
 refine nw (e:=3) zz (by kernel_rfl) tv zz (fun b hb=>?_)
 refine ab ?_
 refine ah (b:=b) zz (fun h=>?_) (fun h=>?_)
 obtain rfl:s=[]:=by simpa using hb h
 obtain rfl:r=[]:=((lr hr).2:_)
 refine af (ac (ae (r8 (x:=.c (.d (.v (.slice none 0 0)))) zz tv zz) (ab (Ok.conv (nA (enc:=eI) 2 2000 1 0 zz zz) (ao ?_)))))
 exact ⟨_,zz,.inl zz,⟨zz,tv⟩⟩
 refine aj (af (ac (ak 0 (zA (sz:=1) (enc:=eI) (j:=0) [] zz zz zz zz zz zz zz zz (fun _=>zz) tv zz zz) (ae (r8 (x:=aV (((lI s)))) zz tv zz) (bW 0 (qT (enc:=eI) (L:=[]) (X:=s) (j:=0) (j':=2000) hr zz zz zz zz zz zz (fun _=>zz) (fun _=>zz) tv zz zz) (ae (r8 (x:=.c (.own 2000)) zz tv zz) (ab (ao ?_))))))))
 exact ⟨_,zz,.inl zz,⟨zz,tv⟩⟩
theorem im (l:(List Int)) (id:Int) {r:(List Int)} (hr:eD l id=some r):Con Tryz.prog 55 [aV (((lI l))),aI id] [] (.s (.c (.tl 2000 (lI r)))) [(2000,.tail 1)]:=by
 unfold eD at hr
 refine ap 9 0 [.tmp 4] [(0,.s (aV (((lI l))))),(1,.s (aI id))] Tryz.func55 zz zz zz zz zz zz zz zz fun w g M ρ _=>(af (ac (ak 0 (aP (j:=0) (cs:=[cI id]) zz zz zz zz zz) (aa (.c (.d (.v (.slice none 0 0)))) (ab (af (ac (aa (aV (((lI l)))) ?_))))))))
 obtain ⟨x1,hx1,hr⟩:=bq hr
 refine ak 0 (bQ (tau [(2000,1)]) (.s (.c (.own 1))) [(1,.vec 1 (lI x1))] (cz _ hx1) zz ⟨.inl zz,tv⟩ tv ph tv zz zz zz zz ⟨zz,tv⟩ zz zz zz) (ae (mI [(0,0)] zz tv zz) ?_)
 obtain ⟨x2,hx2,hr⟩:=bq hr
 refine OkOps.m3 0 (bQ (tau [(0,1),(1,0),(2000,2)]) (.s (.c (.tl 2 (lI x2)))) [(0,.blk [cI id] 3),(1,.dead),(2,.tail 1)] (kT _ _ hx2) zz ⟨.inl zz,.inl zz,tv⟩ tv vQ ⟨zz,zz,tv⟩ zz zz zz zz ⟨zz,tv⟩ zz zz zz) (aa (.c (.tl 2 (lI x2))) (ab (Ok.conv (T:=⟨[(4,.s (.c (.tl 2000 (lI x2))))],[(2000,.tail 1)],0⟩) (Conv.mk (tau [(2000,2)]) ⟨cl zz,tv⟩ ⟨zz,tv⟩ zz zz zz zz) (ao ?_))))
 obtain rfl:=sq hr
 exact ⟨_,zz,.inl zz,⟨zz,tv⟩⟩
theorem ll (past:(List Int)) (id:Int) {r:(List Int)} (hr:fp past id=some r):Con Tryz.prog 56 [aV (((lI past))),aI id] [] (.s (aV (((lI r))))) []:=by
 unfold fp at hr
 refine ap 17 0 [.tmp 4] [(0,.s (aV (((lI past))))),(1,.s (aI id))] Tryz.func56 zz zz zz zz zz zz zz zz fun w g M ρ _=>(af (ac (aa (.c (.d (.v (.slice none 0 0)))) (ab (af (ac (aa (aV (((lI past)))) (aa (aI id) ?_))))))))
 obtain ⟨x1,hx1,hr⟩:=bq hr
 refine ak 0 (bQ (tau [(2000,0)]) (.s (.c (.tl 0 (lI x1)))) [(0,.tail 1)] (im _ _ hx1) zz ⟨.inl zz,.inl zz,tv⟩ tv pg tv zz zz zz zz ⟨zz,tv⟩ zz zz zz) (aa (aI id) (ak 0 (cp (sz:=1) (enc:=eI) (j:=1) ([id]) zz zz zz zz zz zz zz zz (fun _=>zz) tv zz zz) ?_))
 obtain ⟨x2,hx2,hr⟩:=bq hr
 refine bW 0 (dQ (enc:=eI) (L:=x1) (X:=[id]) (j:=0) (j':=2) hx2 zz zz zz zz zz zz (fun _=>zz) (fun _=>zz) (by decide) tv zz zz) (aa (.c (.tl 2 (lI x2))) (ab (af (ac (aa (.c (.tl 2 (lI x2))) (aa (.c (.tl 2 (lI x2))) (ae (aK (enc:=eI) x2 zz zz tv zz) (aa (aI (wq ((x2.length:Int) - 16))) (aa (aI (mxI 0 (wq ((x2.length:Int) - 16)))) ?_)))))))))
 obtain ⟨x3,hx3,hr⟩:=bq hr
 refine ae (lR (enc:=eI) (L:=x2) hx3 zz zz zz (.inr ⟨_,zz⟩) (.inl ⟨zz,zz⟩) zz (fun _=>zz) tv zz) (aa (aV (((lI x3)))) (ab (ao ?_)))
 obtain rfl:=sq hr
 exact ⟨_,zz,.inl zz,tv⟩
theorem ln (id:Int) (c0:Tree) {r:Bool} (hr:i8 id c0=some r):Con Tryz.prog 101 [aI id,.c (.loc 0 0)] [(0,.blk [cI c0.Root,cI c0.Next,dV ((lM Node.cs c0.Nodes))] 30)] (.s (aB r)) [(0,.blk [cI c0.Root,cI c0.Next,dV ((lM Node.cs c0.Nodes))] 30)]:=by
 unfold i8 at hr
 refine ap 13 0 [.tmp 3] [(0,.s (aI id)),(1,.s (.c (.loc 0 0)))] Tryz.func101 zz zz zz zz zz zz zz zz fun w g M ρ _=>(af (ac (aa (aB false) (ab (af (ac (aa (.agg [cI c0.Root,cI c0.Next,dV ((lM Node.cs c0.Nodes))]) (aa (aI id) ?_))))))))
 obtain ⟨x1,hx1,hr⟩:=bq hr
 refine ae (aL (tau []) (.tup [.agg [cI x1.1.ID,cI x1.1.Parent,cI x1.1.Kind,cS x1.1.Key,dV ((lM Attr.cs x1.1.Attrs)),dV ((lM Action.cs x1.1.Actions)),dV ((lI x1.1.Kids))],aB x1.2]) [] (pJ _ _ hx1) zz ⟨.inl zz,.inl zz,tv⟩ tv v9 tv) (ae (dk (v:=.tup [.agg [cI x1.1.ID,cI x1.1.Parent,cI x1.1.Kind,cS x1.1.Key,dV ((lM Attr.cs x1.1.Attrs)),dV ((lM Action.cs x1.1.Actions)),dV ((lI x1.1.Kids))],aB x1.2]) zz zz) (aa (.agg [cI x1.1.ID,cI x1.1.Parent,cI x1.1.Kind,cS x1.1.Key,dV ((lM Attr.cs x1.1.Attrs)),dV ((lM Action.cs x1.1.Actions)),dV ((lI x1.1.Kids))]) (aa (aB x1.2) (ak 0 (aw (j:=1) (cs:=[cI 0,cI 0,cI 0,cS ByteArray.empty,.d (.v (.slice none 0 0)),.d (.v (.slice none 0 0)),.d (.v (.slice none 0 0))]) zz zz zz zz) (aq (al (cs':=[cI x1.1.ID,cI x1.1.Parent,cI x1.1.Kind,cS x1.1.Key,dV ((lM Attr.cs x1.1.Attrs)),dV ((lM Action.cs x1.1.Actions)),dV ((lI x1.1.Kids))]) zz zz zz zz zz zz zz zz zz) (aa (aB x1.2) (ab (af (ac (aa (aB x1.2) (aa (aB x1.2) (ab (ao ?_)))))))))))))
 obtain rfl:=sq hr
 exact ⟨_,zz,.inl zz,⟨zz,tv⟩⟩
theorem lm (id:Int) (c1:Tree) {r:Bool} (hr:i7 id c1=some r):Con Tryz.prog 102 [aI id,.c (.loc 0 0)] [(0,.blk [.fn 101 [(1,0)]] 136),(1,.blk [cI c1.Root,cI c1.Next,dV ((lM Node.cs c1.Nodes))] 30)] (.s (aB r)) [(0,.blk [.fn 101 [(1,0)]] 136),(1,.blk [cI c1.Root,cI c1.Next,dV ((lM Node.cs c1.Nodes))] 30)]:=by
 unfold i7 at hr
 refine ap 8 0 [.tmp 3] [(0,.s (aI id)),(1,.s (.c (.loc 0 0)))] Tryz.func102 zz zz zz zz zz zz zz zz fun w g M ρ _=>(af (ac (aa (aB false) (ab (af (ac (aa (.c (.fn 101 [(1,0)])) (aa (aI id) ?_))))))))
 obtain ⟨x1,hx1,hr⟩:=bq hr
 refine ae (TriL.keep (dg (caps:=[(1,0)]) (tau [(0,1)]) (.s (aB x1)) [(1,.blk [cI c1.Root,cI c1.Next,dV ((lM Node.cs c1.Nodes))] 30)] zz (ln _ _ hx1) zz ⟨.inl zz,.inl zz,tv⟩ tv tA ⟨zz,tv⟩ zz zz zz zz tv zz zz zz) ⟨zz,tv⟩) (aa (aB (!x1)) (aa (aB (!x1)) (ab (ao ?_))))
 obtain rfl:=sq hr
 exact ⟨_,zz,.inl zz,⟨zz,zz,tv⟩⟩
theorem kS (p_s:(List Int)) (f_1:Tree) {r:Int×(List Int)} (hr:fR p_s f_1=some r):Con Tryz.prog 124 [.c (.own 0),.c (.fn 102 [(1,0)])] [(0,.vec 1 (lI p_s)),(1,.blk [.fn 101 [(2,0)]] 136),(2,.blk [cI f_1.Root,cI f_1.Next,dV ((lM Node.cs f_1.Nodes))] 30)] (.s (aI r.1)) [(0,.vec 1 (lI r.2)),(1,.blk [.fn 101 [(2,0)]] 136),(2,.blk [cI f_1.Root,cI f_1.Next,dV ((lM Node.cs f_1.Nodes))] 30)]:=by
 unfold fR at hr
 refine ap 19 0 [.tmp 4] [(0,.s (.c (.own 0))),(1,.s (.c (.fn 102 [(1,0)])))] Tryz.func124 zz zz zz zz zz zz zz zz fun w g M ρ _=>(af (ac (aa (aI 0) (ab ?_))))
 obtain ⟨k2,hk2,hr⟩:=ax hr
 refine ay (fun (s1:Unit)=>⟨[],[(0,.vec 1 (lI p_s)),(1,.blk [.fn 101 [(2,0)]] 136),(2,.blk [cI f_1.Root,cI f_1.Next,dV ((lM Node.cs f_1.Nodes))] 30)],0⟩) k2 r (fun s1 hr=>?_) ?_
 rw [hk2] at hr
 refine af (ac (aa (aI (-1)) (ab (ao ?_))))
 obtain rfl:=sq hr
 exact ⟨_,zz,.inl zz,⟨zz,zz,zz,tv⟩⟩
 clear hk2
 refine af (ac (aa (.c (.own 0)) (ae (ly (enc:=eI) p_s zz zz zz zz) (aa (aI 0) (ab (am (az (fun (s3:Int)=>⟨[(0,.s (.c (.own 0))),(1,.s (.c (.fn 102 [(1,0)]))),(7,.s (aI (p_s.length:Int))),(8,.s (aI s3))],[(0,.vec 1 (lI p_s)),(1,.blk [.fn 101 [(2,0)]] 136),(2,.blk [cI f_1.Root,cI f_1.Next,dV ((lM Node.cs f_1.Nodes))] 30)],0⟩) hr (Conv.mk (tau []) ⟨cl zz,cl zz,cl zz,cl zz,tv⟩ ⟨zz,zz,zz,tv⟩ zz zz zz zz) ?_)))))))
 clear hr
 intro again4 s3 hr
 unfold gA at hr
 refine af (ac (aa (aB (decide (s3<(p_s.length:Int)))) (ab (af ?_))))
 refine ah (b:=decide (s3<(p_s.length:Int))) zz (fun h5=>?_) (fun h5=>?_)
 have hr:=selT h5 hr
 refine aj (af (am (af (ac (aa (aI s3) (aa (aI s3) (ab (af (ac (aa (.c (.fn 102 [(1,0)])) (aa (.c (.own 0)) (aa (aI s3) ?_))))))))))))
 obtain ⟨x6,hx6,hr⟩:=bq hr
 refine ae (gw (enc:=eI) (L:=p_s) hx6 zz zz zz zz tv zz) ?_
 obtain ⟨x7,hx7,hr⟩:=bq hr
 refine ae (jJ (enc:=eI) (L:=p_s) (row:=[dI x7]) (r:=aI x7) hx7 zz zz zz (fun _=>zz) zz  zz) ?_
 obtain ⟨x8,hx8,hr⟩:=bq hr
 refine ae (TriL.keep (dg (caps:=[(1,0)]) (tau [(0,1),(1,2)]) (.s (aB x8)) [(1,.blk [.fn 101 [(2,0)]] 136),(2,.blk [cI f_1.Root,cI f_1.Next,dV ((lM Node.cs f_1.Nodes))] 30)] zz (lm _ _ hx8) zz ⟨.inl zz,.inl zz,tv⟩ tv tz ⟨zz,zz,tv⟩ zz zz zz zz tv zz zz zz) ⟨zz,zz,tv⟩) (ab ?_)
 refine ah (b:=x8) zz (fun h9=>?_) (fun h9=>?_)
 have hr:=selT h9 hr
 refine af (ac (aa (aI s3) (aa (aI s3) (ab (ao ?_)))))
 obtain rfl:=sq hr
 exact ⟨_,zz,.inl zz,⟨zz,zz,zz,tv⟩⟩
 have hr:=selF h9 hr
 refine aj (ac (aa (aI (wq (s3+1))) (aa (aI (wq (s3+1))) (ab ?_))))
 exact ⟨wq (s3+1),hr,(Conv.mk (tau []) ⟨cl zz,cl zz,cl zz,cl zz,tv⟩ ⟨zz,zz,zz,tv⟩ zz zz zz zz)⟩
 have hr:=selF h5 hr
 refine aE ?_
 exact ⟨(),hr,(Conv.mk (tau []) tv ⟨zz,zz,zz,tv⟩ zz zz zz zz)⟩
theorem kh (p_s:(List Int)) (del_1:Tree) {r:(List Int)} (hr:fi p_s del_1=some r):Con Tryz.prog 87 [.c (.own 0),.c (.fn 102 [(1,0)])] [(0,.vec 1 (lI p_s)),(1,.blk [.fn 101 [(2,0)]] 136),(2,.blk [cI del_1.Root,cI del_1.Next,dV ((lM Node.cs del_1.Nodes))] 30)] (.s (.c (.tl 2000 (lI r)))) [(1,.blk [.fn 101 [(2,0)]] 136),(2,.blk [cI del_1.Root,cI del_1.Next,dV ((lM Node.cs del_1.Nodes))] 30),(0,.dead),(2000,.tail 1)]:=by
 unfold fi at hr
 refine ap 42 0 [.tmp 4] [(0,.s (.c (.own 0))),(1,.s (.c (.fn 102 [(1,0)])))] Tryz.func87 zz zz zz zz zz zz zz zz fun w g M ρ _=>(af (ac (aa (.c (.d (.v (.slice none 0 0)))) (ab (af (ac (aa (.c (.own 0)) (aa (.c (.fn 102 [(1,0)])) ?_))))))))
 obtain ⟨x1,hx1,hr⟩:=bq hr
 refine OkOps.m3 0 (aL (tau [(0,0),(1,1),(2,2)]) (.s (aI x1.1)) [(0,.vec 1 (lI x1.2)),(1,.blk [.fn 101 [(2,0)]] 136),(2,.blk [cI del_1.Root,cI del_1.Next,dV ((lM Node.cs del_1.Nodes))] 30)] (kS _ _ hx1) zz ⟨.inl zz,.inl zz,tv⟩ tv tq ⟨zz,zz,zz,tv⟩) (aa (aI x1.1) (ab (af (af (ac (aa (aI x1.1) (aa (aB (x1.1==(-1))) (ab ?_))))))))
 refine ah (b:=x1.1==(-1)) zz (fun h2=>?_) (fun h2=>?_)
 have hr:=selT h2 hr
 refine af (ac (aa (.c (.own 0)) (aa (.c (.own 0)) (ab (Ok.conv (jc (enc:=eI) (L:=x1.2) [0,4,8,13] 0 3 1 0 ⟨zz,zz,zz,zz,tv⟩ zz (fun _=>zz) zz) (Ok.conv (T:=⟨[(4,.s (.c (.tl 2000 (lI x1.2))))],[(0,.dead),(1,.blk [.fn 101 [(2,0)]] 136),(2,.blk [cI del_1.Root,cI del_1.Next,dV ((lM Node.cs del_1.Nodes))] 30),(2000,.tail 1)],0⟩) (Conv.mk (tau [(2000,3)]) ⟨cl zz,tv⟩ ⟨zz,zz,zz,tv⟩ zz zz zz zz) (ao ?_)))))))
 obtain rfl:=sq hr
 exact ⟨_,zz,.inl zz,⟨zz,zz,(fun h=>by cases h),zz,tv⟩⟩
 have hr:=selF h2 hr
 refine aj ?_
 obtain ⟨k4,hk4,hr⟩:=ax hr
 refine ay (fun (s3:Int×(List Int))=>⟨[(0,.s (.c (.own 0))),(5,.s (aI s3.1))],[(0,.vec 1 (lI s3.2)),(1,.blk [.fn 101 [(2,0)]] 136),(2,.blk [cI del_1.Root,cI del_1.Next,dV ((lM Node.cs del_1.Nodes))] 30)],0⟩) k4 r (fun s3 hr=>?_) ?_
 rw [hk4] at hr
 refine af (ac (aa (.c (.own 0)) (aa (aI s3.1) ?_)))
 obtain ⟨x5,hx5,hr⟩:=bq hr
 refine ow (enc:=eI) (L:=s3.2) 0 hx5 zz zz zz zz zz zz zz (fun _=>zz) tv zz zz (ab (af (ac (aa (.c (.own 0)) (aa (aI s3.1) ?_)))))
 obtain ⟨x6,hx6,hr⟩:=bq hr
 refine bW 0 (ux (enc:=eI) (L:=List.take x5 s3.2++List.replicate (s3.2.length - x5) 0) (j:=0) (j':=4) hx6 zz zz zz zz (fun _=>zz) tv zz zz) (aa (.c (.tl 4 (lI (List.take x6 (List.take x5 s3.2++List.replicate (s3.2.length - x5) 0))))) (ab (Ok.conv (T:=⟨[(4,.s (.c (.tl 2000 (lI (List.take x6 (List.take x5 s3.2++List.replicate (s3.2.length - x5) 0))))))],[(0,.dead),(1,.blk [.fn 101 [(2,0)]] 136),(2,.blk [cI del_1.Root,cI del_1.Next,dV ((lM Node.cs del_1.Nodes))] 30),(2000,.tail 1)],0⟩) (Conv.mk (tau [(2000,4)]) ⟨cl zz,tv⟩ ⟨zz,zz,zz,tv⟩ zz zz zz zz) (ao ?_))))
 obtain rfl:=sq hr
 exact ⟨_,zz,.inl zz,⟨zz,zz,(fun h=>by cases h),zz,tv⟩⟩
 clear hk4
 refine af (ac (aa (aI x1.1) (aa (aI (wq (x1.1+1))) (aa (aI (wq (x1.1+1))) (ab (am (az (fun (s7:Int×Int×(List Int))=>⟨[(0,.s (.c (.own 0))),(1,.s (.c (.fn 102 [(1,0)]))),(5,.s (aI s7.1)),(6,.s (aI s7.2.1))],[(0,.vec 1 (lI s7.2.2)),(1,.blk [.fn 101 [(2,0)]] 136),(2,.blk [cI del_1.Root,cI del_1.Next,dV ((lM Node.cs del_1.Nodes))] 30)],0⟩) hr (Conv.mk (tau []) ⟨cl zz,cl zz,cl zz,cl zz,tv⟩ ⟨zz,zz,zz,tv⟩ zz zz zz zz) ?_)))))))
 clear hr
 intro again8 s7 hr
 unfold fT at hr
 refine af (af (ac (aa (aI s7.2.1) (aa (.c (.own 0)) (ae (ly (enc:=eI) s7.2.2 zz zz zz zz) (aa (aB (decide (s7.2.1<(s7.2.2.length:Int)))) (ab ?_)))))))
 refine ah (b:=decide (s7.2.1<(s7.2.2.length:Int))) zz (fun h9=>?_) (fun h9=>?_)
 have hr:=selT h9 hr
 refine aj ?_
 obtain ⟨k11,hk11,hr⟩:=ax hr
 refine ay (fun (s10:Int×(List Int))=>⟨[(0,.s (.c (.own 0))),(1,.s (.c (.fn 102 [(1,0)]))),(5,.s (aI s10.1)),(6,.s (aI s7.2.1))],[(0,.vec 1 (lI s10.2)),(1,.blk [.fn 101 [(2,0)]] 136),(2,.blk [cI del_1.Root,cI del_1.Next,dV ((lM Node.cs del_1.Nodes))] 30)],0⟩) k11 r (fun s10 hr=>?_) ?_
 rw [hk11] at hr
 refine ac (aa (aI s7.2.1) (aa (aI (wq (s7.2.1+1))) (aa (aI (wq (s7.2.1+1))) (ab ?_))))
 exact ⟨(s10.1,wq (s7.2.1+1),s10.2),hr,(Conv.mk (tau []) ⟨cl zz,cl zz,cl zz,cl zz,tv⟩ ⟨zz,zz,zz,tv⟩ zz zz zz zz)⟩
 clear hk11
 refine am (af (ac (aa (.c (.own 0)) (aa (aI s7.2.1) ?_))))
 obtain ⟨x12,hx12,hr⟩:=bq hr
 refine ae (gw (enc:=eI) (L:=s7.2.2) hx12 zz zz zz zz tv zz) ?_
 obtain ⟨x13,hx13,hr⟩:=bq hr
 refine ae (jJ (enc:=eI) (L:=s7.2.2) (row:=[dI x13]) (r:=aI x13) hx13 zz zz zz (fun _=>zz) zz  zz) (aa (aI x13) (ab (af (ac (aa (.c (.fn 102 [(1,0)])) (aa (aI x13) ?_))))))
 obtain ⟨x14,hx14,hr⟩:=bq hr
 refine ae (TriL.keep (dg (caps:=[(1,0)]) (tau [(0,1),(1,2)]) (.s (aB x14)) [(1,.blk [.fn 101 [(2,0)]] 136),(2,.blk [cI del_1.Root,cI del_1.Next,dV ((lM Node.cs del_1.Nodes))] 30)] zz (lm _ _ hx14) zz ⟨.inl zz,.inl zz,tv⟩ tv tz ⟨zz,zz,tv⟩ zz zz zz zz tv zz zz zz) ⟨zz,zz,tv⟩) (aa (aB (!x14)) (ab ?_))
 refine ah (b:=!x14) zz (fun h15=>?_) (fun h15=>?_)
 have hr:=selT h15 hr
 refine af (ac (aa (.c (.own 0)) (aa (aI s7.1) (aa (aI x13) ?_))))
 obtain ⟨x16,hx16,hr⟩:=bq hr
 refine ae (gw (enc:=eI) (L:=s7.2.2) hx16 zz zz zz zz tv zz) (aq (kM (enc:=eI) (L:=s7.2.2) x13 (.inr (e9 hx16).2) zz zz zz zz zz zz (fun _=>zz) zz) (ab (ac (aa (aI s7.1) (aa (aI (wq (s7.1+1))) (aa (aI (wq (s7.1+1))) (ab ?_)))))))
 exact ⟨(wq (s7.1+1),List.set s7.2.2 x16 x13),hr,(Conv.mk (tau []) ⟨cl zz,cl zz,cl zz,cl zz,tv⟩ ⟨zz,zz,zz,tv⟩ zz zz zz zz)⟩
 have hr:=selF h15 hr
 refine aj ?_
 exact ⟨(s7.1,s7.2.2),hr,(Conv.mk (tau []) ⟨cl zz,cl zz,cl zz,cl zz,tv⟩ ⟨zz,zz,zz,tv⟩ zz zz zz zz)⟩
 have hr:=selF h9 hr
 refine aE ?_
 exact ⟨(s7.1,s7.2.2),hr,(Conv.mk (tau []) ⟨cl zz,cl zz,tv⟩ ⟨zz,zz,zz,tv⟩ zz zz zz zz)⟩
theorem cL (p_s:(List Int)) (v:Int) {r:Int} (hr:bg p_s v=some r):Con Tryz.prog 67 [aV (((lI p_s))),aI v] [] (.s (aI r)) []:=by
 unfold bg at hr
 refine ap 19 0 [.tmp 4] [(0,.s (aV (((lI p_s))))),(1,.s (aI v))] Tryz.func67 zz zz zz zz zz zz zz zz fun w g M ρ _=>(af (ac (aa (aI 0) (ab ?_))))
 obtain ⟨k2,hk2,hr⟩:=ax hr
 refine ay (fun (s1:Unit)=>⟨[],[],0⟩) k2 r (fun s1 hr=>?_) ?_
 rw [hk2] at hr
 refine af (ac (aa (aI (-1)) (ab (ao ?_))))
 obtain rfl:=sq hr
 exact ⟨_,zz,.inl zz,tv⟩
 clear hk2
 refine af (ac (aa (aV (((lI p_s)))) (ae (aK (enc:=eI) p_s zz zz tv zz) (aa (aI 0) (ab (am (az (fun (s3:Int)=>⟨[(0,.s (aV (((lI p_s))))),(1,.s (aI v)),(7,.s (aI (p_s.length:Int))),(8,.s (aI s3))],[],0⟩) hr (Conv.mk (tau []) ⟨cl zz,cl zz,cl zz,cl zz,tv⟩ tv zz zz zz zz) ?_)))))))
 clear hr
 intro again4 s3 hr
 unfold bp at hr
 refine af (ac (aa (aB (decide (s3<(p_s.length:Int)))) (ab (af ?_))))
 refine ah (b:=decide (s3<(p_s.length:Int))) zz (fun h5=>?_) (fun h5=>?_)
 have hr:=selT h5 hr
 refine aj (af (am (af (ac (aa (aI s3) (aa (aI s3) (ab (af (ac (aa (aI v) (aa (aV (((lI p_s)))) (aa (aI s3) ?_))))))))))))
 obtain ⟨x6,hx6,hr⟩:=bq hr
 refine ae (aM (enc:=eI) (L:=p_s) (row:=[dI x6]) hx6 zz zz zz zz (fun _=>zz) tv zz) (aa (aI x6) (aa (aB (v==x6)) (ab ?_)))
 refine ah (b:=v==x6) zz (fun h7=>?_) (fun h7=>?_)
 have hr:=selT h7 hr
 refine af (ac (aa (aI s3) (aa (aI s3) (ab (ao ?_)))))
 obtain rfl:=sq hr
 exact ⟨_,zz,.inl zz,tv⟩
 have hr:=selF h7 hr
 refine aj (ac (aa (aI (wq (s3+1))) (aa (aI (wq (s3+1))) (ab ?_))))
 exact ⟨wq (s3+1),hr,(Conv.mk (tau []) ⟨cl zz,cl zz,cl zz,cl zz,tv⟩ tv zz zz zz zz)⟩
 have hr:=selF h5 hr
 refine aE ?_
 exact ⟨(),hr,(Conv.mk (tau []) tv tv zz zz zz zz)⟩
theorem dh (p_s:(List Int)) (v:Int) {r:Bool} (hr:bV p_s v=some r):Con Tryz.prog 39 [aV (((lI p_s))),aI v] [] (.s (aB r)) []:=by
 unfold bV at hr
 refine ap 9 0 [.tmp 4] [(0,.s (aV (((lI p_s))))),(1,.s (aI v))] Tryz.func39 zz zz zz zz zz zz zz zz fun w g M ρ _=>(af (ac (aa (aB false) (ab (af (ac (aa (aV (((lI p_s)))) (aa (aI v) ?_))))))))
 obtain ⟨x1,hx1,hr⟩:=bq hr
 refine ae (aL (tau []) (.s (aI x1)) [] (cL _ _ hx1) zz ⟨.inl zz,.inl zz,tv⟩ tv rQ tv) (aa (aB (decide (x1≥0))) (aa (aB (decide (x1≥0))) (ab (ao ?_))))
 obtain rfl:=sq hr
 exact ⟨_,zz,.inl zz,tv⟩
theorem ky (id:Int) (c0:(List Int)) {r:Bool} (hr:jB id c0=some r):Con Tryz.prog 141 [aI id,.c (.loc 0 0)] [(0,.blk [dV ((lI c0))] 57)] (.s (aB r)) [(0,.blk [dV ((lI c0))] 57)]:=by
 unfold jB at hr
 refine ap 7 0 [.tmp 3] [(0,.s (aI id)),(1,.s (.c (.loc 0 0)))] Tryz.func141 zz zz zz zz zz zz zz zz fun w g M ρ _=>(af (ac (aa (aB false) (ab (af (ac (aa (aV (((lI c0)))) (aa (aI id) ?_))))))))
 obtain ⟨x1,hx1,hr⟩:=bq hr
 refine ae (aL (tau []) (.s (aB x1)) [] (dh _ _ hx1) zz ⟨.inl zz,.inl zz,tv⟩ tv v8 tv) (aa (aB x1) (ab (ao ?_)))
 obtain rfl:=sq hr
 exact ⟨_,zz,.inl zz,⟨zz,tv⟩⟩
theorem vE (order:(List Int)) (past:(List Int)) (candidates:(List Int)) (now:(List Int)) (lost:Int) {r:Int} (hr:rG order past candidates now lost=some r):Con Tryz.prog 103 [aV (((lI order))),aV (((lI past))),aV (((lI candidates))),aV (((lI now))),aI lost] [] (.s (aI r)) []:=by
 unfold rG at hr
 refine ap 63 0 [.cell 10 3] [(0,.s (aV (((lI order))))),(1,.s (aV (((lI past))))),(2,.s (aV (((lI candidates))))),(3,.s (aV (((lI now))))),(4,.s (aI lost))] Tryz.func103 zz zz zz zz zz zz zz zz fun w g M ρ _=>(af (ac (ak 0 (aP (j:=0) (cs:=[dV ((lI candidates))]) zz zz zz zz zz) (ak 0 (aw (j:=1) (cs:=[cI 0]) zz zz zz zz) (ab (af (ac (ae (mI [(0,0)] zz tv zz) (ak 0 (aw (j:=2) (cs:=[.d (.v .nilFunc)]) zz zz zz zz) (aq (al (cs':=[.fn 141 [(0,0)]]) zz zz zz zz zz zz zz zz zz) (ab ?_)))))))))))
 obtain ⟨k2,hk2,hr⟩:=ax hr
 refine ay (fun (s1:Unit)=>⟨[(0,.s (aV (((lI order))))),(3,.s (aV (((lI now))))),(4,.s (aI lost)),(10,.s (.c (.loc 1 0))),(11,.s (.c (.loc 2 0)))],[(0,.blk [dV ((lI candidates))] 57),(1,.blk [cI 0] 3),(2,.blk [.fn 141 [(0,0)]] 136)],0⟩) k2 r (fun s1 hr=>?_) ?_
 rw [hk2] at hr
 obtain ⟨k4,hk4,hr⟩:=ax hr
 refine ay (fun (s3:Unit)=>⟨[(3,.s (aV (((lI now))))),(10,.s (.c (.loc 1 0)))],[(1,.blk [cI 0] 3)],0⟩) k4 r (fun s3 hr=>?_) ?_
 rw [hk4] at hr
 refine af (af (ac (aa (aV (((lI now)))) (ae (aK (enc:=eI) now zz zz tv zz) (aa (aB (decide ((now.length:Int)>0))) (ab ?_))))))
 refine ah (b:=decide ((now.length:Int)>0)) zz (fun h5=>?_) (fun h5=>?_)
 have hr:=selT h5 hr
 refine af (ac (aa (aV (((lI now)))) ?_))
 obtain ⟨x6,hx6,hr⟩:=bq hr
 refine ae (aM (enc:=eI) (L:=now) (row:=[dI x6]) hx6 zz zz zz zz (fun _=>zz) tv zz) (aa (aI x6) (aq (al (cs':=[cI x6]) zz zz zz zz zz zz zz zz zz) (ab (ao ?_))))
 obtain rfl:=sq hr
 exact ⟨_,zz,.inl zz,tv⟩
 have hr:=selF h5 hr
 refine aj (af (ac (aq (al (cs':=[cI 0]) zz zz zz zz zz zz zz zz zz) (ab (ao ?_)))))
 obtain rfl:=sq hr
 exact ⟨_,zz,.inl zz,tv⟩
 clear hk4
 refine af (ac (aa (aV (((lI order)))) (aa (aI lost) ?_)))
 obtain ⟨x7,hx7,hr⟩:=bq hr
 refine ae (aL (tau []) (.s (aI x7)) [] (cL _ _ hx7) zz ⟨.inl zz,.inl zz,tv⟩ tv rQ tv) (aa (aI x7) (ab (af (ac (aa (aI x7) (aa (aB (decide (x7≥0))) (ab ?_)))))))
 refine ah (b:=decide (x7≥0)) zz (fun h8=>?_) (fun h8=>?_)
 have hr:=selT h8 hr
 obtain ⟨k10,hk10,hr⟩:=ax hr
 refine ay (fun (s9:Unit)=>⟨[(0,.s (aV (((lI order))))),(3,.s (aV (((lI now))))),(10,.s (.c (.loc 1 0))),(11,.s (.c (.loc 2 0))),(14,.s (aI x7))],[(0,.blk [dV ((lI candidates))] 57),(1,.blk [cI 0] 3),(2,.blk [.fn 141 [(0,0)]] 136)],0⟩) k10 r (fun s9 hr=>?_) ?_
 rw [hk10] at hr
 refine af (ac (aa (aV (((lI order)))) (aa (aI x7) ?_)))
 obtain ⟨x11,hx11,hr⟩:=bq hr
 refine ae (lR (enc:=eI) (L:=order) hx11 zz zz zz (.inl ⟨zz,zz⟩) (.inr ⟨_,zz⟩) zz (fun _=>zz) tv zz) (ak 0 (bQ (tau [(0,3)]) (.s (.c (.fn 126 [(3,0)]))) [(3,.blk [dV ((lI x11))] 57)] (ci x11) zz ⟨.inl zz,tv⟩ tv rP tv zz zz zz zz ⟨zz,tv⟩ zz zz zz) (ab (am ?_)))
 refine ny (jl:=4) (nx:=0) (nx1:=0) (caps:=[(3,0)]) zz zz tv Tryz.func126 zz zz zz zz zz zz (fun l ρ1 M1 ob hT1 E=>?_)
 refine af (ac (aa (aV (((lI x11)))) (ae (aK (enc:=eI) x11 zz zz tv zz) (aa (aI (wq ((x11.length:Int) - 1))) (aa (aI (wq ((x11.length:Int) - 1))) (ab ?_))))))
 obtain ⟨k13,hk13,hr⟩:=ax hr
 refine bZ (fun (s12:Unit)=>⟨[],[(0,.blk [dV ((lI candidates))] 57),(1,.blk [cI 0] 3),(2,.blk [.fn 141 [(0,0)]] 136),(3,.blk [dV ((lI x11))] 57),(4,.obj (ob .ready none))],0⟩) k13 r (fun s12 hr=>?_) ?_
 rw [hk13] at hr
 refine ⟨.inr zz,.inl ⟨zz,?_⟩⟩
 exact ⟨(),hr,(Conv.mk (tau []) ⟨cl zz,cl zz,tv⟩ ⟨zz,tv⟩ zz zz zz zz)⟩
 clear hk13
 refine am (az (fun (s14:Int)=>⟨[(0,.s (.c (.d (.v (yl l))))),(1,.s (.c (.loc 3 0))),(3,.s (aI s14))],[(0,.blk [dV ((lI candidates))] 57),(1,.blk [cI 0] 3),(2,.blk [.fn 141 [(0,0)]] 136),(3,.blk [dV ((lI x11))] 57),(4,.obj (ob .ready none))],0⟩) hr (Conv.mk (tau []) ⟨cl zz,cl zz,cl zz,tv⟩ ⟨zz,zz,zz,zz,zz,tv⟩ zz zz zz zz) ?_)
 clear hr
 intro again15 s14 hr
 unfold n9 at hr
 refine af (af (ac (aa (aI s14) (aa (aB (decide (s14≥0))) (ab ?_)))))
 refine ah (b:=decide (s14≥0)) zz (fun h16=>?_) (fun h16=>?_)
 have hr:=selT h16 hr
 refine aj (af (am (af (ac (aa (.c (.d (.v (yl l)))) (aa (aI s14) (aa (aV (((lI x11)))) (aa (aI s14) ?_))))))))
 obtain ⟨x17,hx17,hr⟩:=bq hr
 refine ae (aM (enc:=eI) (L:=x11) (row:=[dI x17]) hx17 zz zz zz zz (fun _=>zz) tv zz) (aa (aI x17) ?_)
 refine OkOps.yield (jl:=4) (v1:=aI s14) (v2:=aI x17) (nx:=0) E (by decide) zz zz zz zz tv zz zz pv pu (fun ρc Mc hT2=>?_)
 refine ac (aa (aI x17) (ab ?_))
 refine ⟨zz,zz,?_⟩
 refine am (af (ac (aa (.c (.fn 141 [(0,0)])) (aa (aI x17) ?_))))
 obtain ⟨x18,hx18,hr⟩:=bq hr
 refine ae (TriL.keep (dg (caps:=[(0,0)]) (tau [(0,0)]) (.s (aB x18)) [(0,.blk [dV ((lI candidates))] 57)] zz (ky _ _ hx18) zz ⟨.inl zz,.inl zz,tv⟩ tv pm ⟨zz,tv⟩ zz zz zz zz tv zz zz zz) ⟨zz,tv⟩) (ab ?_)
 refine ah (b:=x18) zz (fun h19=>?_) (fun h19=>?_)
 have hr:=selT h19 hr
 refine af (ac (aa (aI x17) (aq (al (cs':=[cI x17]) zz zz zz zz zz zz zz zz zz) (ab (ao ?_)))))
 refine ⟨zz,?_⟩
 refine aa (aB (!false)) (ab ?_)
 refine ah (b:=!false) zz (fun _=>?_) (fun h=>by cases h)
 refine ao ?_
 refine ⟨.inl zz,.inr ⟨.ret,_,zz,zz,?_⟩⟩
 obtain rfl:=sq hr
 exact ⟨_,zz,.inl zz,tv⟩
 have hr:=selF h19 hr
 refine aj ?_
 refine ⟨zz,?_⟩
 refine aa (aB (!true)) (ab ?_)
 refine ah (b:=!true) zz (fun h=>by cases h) (fun _=>?_)
 refine aj (ac (aa (aI s14) (aa (aI (wq (s14 - 1))) (aa (aI (wq (s14 - 1))) (ab ?_)))))
 exact ⟨wq (s14 - 1),hr,(Conv.mk (tau []) ⟨cl zz,cl zz,cl zz,tv⟩ ⟨zz,zz,zz,zz,zz,tv⟩ zz zz zz zz)⟩
 have hr:=selF h16 hr
 refine aE ?_
 exact ⟨(),hr,(Conv.mk (tau []) tv ⟨zz,zz,zz,zz,zz,tv⟩ zz zz zz zz)⟩
 clear hk10
 refine af (ac (aa (aV (((lI order)))) (aa (aI x7) (aa (aI (wq (x7+1))) ?_))))
 obtain ⟨x22,hx22,hr⟩:=bq hr
 refine ae (lR (enc:=eI) (L:=order) hx22 zz zz zz (.inr ⟨_,zz⟩) (.inl ⟨zz,zz⟩) zz (fun _=>zz) tv zz) (ae (aK (enc:=eI) x22 zz zz tv zz) (aa (aI 0) (ab (am (az (fun (s23:Int)=>⟨[(0,.s (aV (((lI order))))),(3,.s (aV (((lI now))))),(10,.s (.c (.loc 1 0))),(11,.s (.c (.loc 2 0))),(14,.s (aI x7)),(36,.s (aV (((lI x22))))),(37,.s (aI (x22.length:Int))),(38,.s (aI s23))],[(0,.blk [dV ((lI candidates))] 57),(1,.blk [cI 0] 3),(2,.blk [.fn 141 [(0,0)]] 136)],0⟩) hr (Conv.mk (tau []) ⟨cl zz,cl zz,cl zz,cl zz,cl zz,cl zz,cl zz,cl zz,tv⟩ ⟨zz,zz,zz,tv⟩ zz zz zz zz) ?_)))))
 clear hr
 intro again24 s23 hr
 unfold n8 at hr
 refine af (ac (aa (aB (decide (s23<(x22.length:Int)))) (ab (af ?_))))
 refine ah (b:=decide (s23<(x22.length:Int))) zz (fun h25=>?_) (fun h25=>?_)
 have hr:=selT h25 hr
 refine aj (af (am (af (ac ?_))))
 obtain ⟨x26,hx26,hr⟩:=bq hr
 refine ae (aM (enc:=eI) (L:=x22) (row:=[dI x26]) hx26 zz zz zz zz (fun _=>zz) tv zz) (aa (aI x26) (aa (aI x26) (ab (af (ac (aa (.c (.fn 141 [(0,0)])) (aa (aI x26) ?_)))))))
 obtain ⟨x27,hx27,hr⟩:=bq hr
 refine ae (TriL.keep (dg (caps:=[(0,0)]) (tau [(0,0)]) (.s (aB x27)) [(0,.blk [dV ((lI candidates))] 57)] zz (ky _ _ hx27) zz ⟨.inl zz,.inl zz,tv⟩ tv pm ⟨zz,tv⟩ zz zz zz zz tv zz zz zz) ⟨zz,tv⟩) (ab ?_)
 refine ah (b:=x27) zz (fun h28=>?_) (fun h28=>?_)
 have hr:=selT h28 hr
 refine af (ac (aa (aI x26) (aq (al (cs':=[cI x26]) zz zz zz zz zz zz zz zz zz) (ab (ao ?_)))))
 obtain rfl:=sq hr
 exact ⟨_,zz,.inl zz,tv⟩
 have hr:=selF h28 hr
 refine aj (ac (aa (aI (wq (s23+1))) (aa (aI (wq (s23+1))) (ab ?_))))
 exact ⟨wq (s23+1),hr,(Conv.mk (tau []) ⟨cl zz,cl zz,cl zz,cl zz,cl zz,cl zz,cl zz,cl zz,tv⟩ ⟨zz,zz,zz,tv⟩ zz zz zz zz)⟩
 have hr:=selF h25 hr
 refine aE ?_
 exact ⟨(),hr,(Conv.mk (tau []) ⟨cl zz,cl zz,cl zz,cl zz,cl zz,tv⟩ ⟨zz,zz,zz,tv⟩ zz zz zz zz)⟩
 have hr:=selF h8 hr
 refine aj ?_
 exact ⟨(),hr,(Conv.mk (tau []) ⟨cl zz,cl zz,tv⟩ ⟨zz,tv⟩ zz zz zz zz)⟩
 clear hk2
 refine af (ac (aa (aV (((lI past)))) (ak 0 (bQ (tau [(0,5)]) (.s (.c (.fn 126 [(5,0)]))) [(5,.blk [dV ((lI past))] 57)] (ci past) zz ⟨.inl zz,tv⟩ tv rP tv zz zz zz zz ⟨zz,tv⟩ zz zz zz) (ab (am ?_)))))
 refine ny (jl:=6) (nx:=0) (nx1:=0) (caps:=[(5,0)]) zz zz tv Tryz.func126 zz zz zz zz zz zz (fun l ρ1 M1 ob hT1 E=>?_)
 refine af (ac (aa (aV (((lI past)))) (ae (aK (enc:=eI) past zz zz tv zz) (aa (aI (wq ((past.length:Int) - 1))) (aa (aI (wq ((past.length:Int) - 1))) (ab ?_))))))
 obtain ⟨k30,hk30,hr⟩:=ax hr
 refine bZ (fun (s29:Unit)=>⟨[],[(0,.blk [dV ((lI candidates))] 57),(1,.blk [cI 0] 3),(2,.blk [.fn 141 [(0,0)]] 136),(5,.blk [dV ((lI past))] 57),(6,.obj (ob .ready none))],0⟩) k30 r (fun s29 hr=>?_) ?_
 rw [hk30] at hr
 refine ⟨.inr zz,.inl ⟨zz,?_⟩⟩
 exact ⟨(),hr,(Conv.mk (tau []) ⟨cl zz,cl zz,cl zz,cl zz,cl zz,tv⟩ ⟨zz,zz,zz,tv⟩ zz zz zz zz)⟩
 clear hk30
 refine am (az (fun (s31:Int)=>⟨[(0,.s (.c (.d (.v (yl l))))),(1,.s (.c (.loc 5 0))),(3,.s (aI s31))],[(0,.blk [dV ((lI candidates))] 57),(1,.blk [cI 0] 3),(2,.blk [.fn 141 [(0,0)]] 136),(5,.blk [dV ((lI past))] 57),(6,.obj (ob .ready none))],0⟩) hr (Conv.mk (tau []) ⟨cl zz,cl zz,cl zz,tv⟩ ⟨zz,zz,zz,zz,zz,tv⟩ zz zz zz zz) ?_)
 clear hr
 intro again32 s31 hr
 unfold n7 at hr
 refine af (af (ac (aa (aI s31) (aa (aB (decide (s31≥0))) (ab ?_)))))
 refine ah (b:=decide (s31≥0)) zz (fun h33=>?_) (fun h33=>?_)
 have hr:=selT h33 hr
 refine aj (af (am (af (ac (aa (.c (.d (.v (yl l)))) (aa (aI s31) (aa (aV (((lI past)))) (aa (aI s31) ?_))))))))
 obtain ⟨x34,hx34,hr⟩:=bq hr
 refine ae (aM (enc:=eI) (L:=past) (row:=[dI x34]) hx34 zz zz zz zz (fun _=>zz) tv zz) (aa (aI x34) ?_)
 refine OkOps.yield (jl:=6) (v1:=aI s31) (v2:=aI x34) (nx:=0) E (by decide) zz zz zz zz tv zz zz pv pu (fun ρc Mc hT2=>?_)
 refine ac (aa (aI x34) (ab ?_))
 refine ⟨zz,zz,?_⟩
 refine am (af (ac (aa (.c (.fn 141 [(0,0)])) (aa (aI x34) ?_))))
 obtain ⟨x35,hx35,hr⟩:=bq hr
 refine ae (TriL.keep (dg (caps:=[(0,0)]) (tau [(0,0)]) (.s (aB x35)) [(0,.blk [dV ((lI candidates))] 57)] zz (ky _ _ hx35) zz ⟨.inl zz,.inl zz,tv⟩ tv pm ⟨zz,tv⟩ zz zz zz zz tv zz zz zz) ⟨zz,tv⟩) (ab ?_)
 refine ah (b:=x35) zz (fun h36=>?_) (fun h36=>?_)
 have hr:=selT h36 hr
 refine af (ac (aa (aI x34) (aq (al (cs':=[cI x34]) zz zz zz zz zz zz zz zz zz) (ab (ao ?_)))))
 refine ⟨zz,?_⟩
 refine aa (aB (!false)) (ab ?_)
 refine ah (b:=!false) zz (fun _=>?_) (fun h=>by cases h)
 refine ao ?_
 refine ⟨.inl zz,.inr ⟨.ret,_,zz,zz,?_⟩⟩
 obtain rfl:=sq hr
 exact ⟨_,zz,.inl zz,tv⟩
 have hr:=selF h36 hr
 refine aj ?_
 refine ⟨zz,?_⟩
 refine aa (aB (!true)) (ab ?_)
 refine ah (b:=!true) zz (fun h=>by cases h) (fun _=>?_)
 refine aj (ac (aa (aI s31) (aa (aI (wq (s31 - 1))) (aa (aI (wq (s31 - 1))) (ab ?_)))))
 exact ⟨wq (s31 - 1),hr,(Conv.mk (tau []) ⟨cl zz,cl zz,cl zz,tv⟩ ⟨zz,zz,zz,zz,zz,tv⟩ zz zz zz zz)⟩
 have hr:=selF h33 hr
 refine aE ?_
 exact ⟨(),hr,(Conv.mk (tau []) tv ⟨zz,zz,zz,zz,zz,tv⟩ zz zz zz zz)⟩
theorem nb (old:Tree) (t:Tree) (oldStyles:(List Styled)) (st:(List Styled)) (f:FocusState) {r:FocusState} (hr:lp old t oldStyles st f=some r):Con Tryz.prog 69 [.agg [cI old.Root,cI old.Next,dV ((lM Node.cs old.Nodes))],.agg (tC t),aV (((lM Styled.cs oldStyles))),aV (((lM Styled.cs st))),.agg [cI f.Focused,cB_ f.Visible,dV ((lI f.Past))]] [] (.s (.agg [cI r.Focused,cB_ r.Visible,dV ((lI r.Past))])) []:=by
 unfold lp at hr
 refine ap 72 0 [.cell 10 59] [(0,.s (.agg [cI old.Root,cI old.Next,dV ((lM Node.cs old.Nodes))])),(1,.s (.agg (tC t))),(2,.s (aV (((lM Styled.cs oldStyles))))),(3,.s (aV (((lM Styled.cs st))))),(4,.s (.agg [cI f.Focused,cB_ f.Visible,dV ((lI f.Past))]))] Tryz.func69 zz zz zz zz zz zz zz zz fun w g M ρ _=>(af (ac (ak 0 (aP (j:=0) (cs:=[cI old.Root,cI old.Next,dV ((lM Node.cs old.Nodes))]) zz zz zz zz zz) (ak 0 (aP (j:=1) (cs:=(tC t)) zz zz zz zz zz) (ak 0 (aP (j:=2) (cs:=[cI f.Focused,cB_ f.Visible,dV ((lI f.Past))]) zz zz zz zz zz) (ak 0 (aw (j:=3) (cs:=[cI 0,cB_ false,.d (.v (.slice none 0 0))]) zz zz zz zz) (ab (af (ac (ae (mI [(1,0)] zz tv zz) (ak 0 (aw (j:=4) (cs:=[.d (.v .nilFunc)]) zz zz zz zz) (aq (al (cs':=[.fn 101 [(1,0)]]) zz zz zz zz zz zz zz zz zz) (ab (af (ac ?_)))))))))))))))
 refine aa (.c (.loc 2 2)) (aa (aV (((lI f.Past)))) ?_)
 obtain ⟨x1,hx1,hr⟩:=bq hr
 refine ak 0 (bQ (tau [(2000,5)]) (.s (.c (.own 5))) [(5,.vec 1 (lI x1))] (cz _ hx1) zz ⟨.inl zz,tv⟩ tv ph tv zz zz zz zz ⟨zz,tv⟩ zz zz zz) (ae (mI [(4,0)] zz tv zz) ?_)
 obtain ⟨x2,hx2,hr⟩:=bq hr
 refine OkOps.wq [(4,.blk [.fn 101 [(1,0)]] 136),(1,.blk (tC t) 30),(5,.dead),(6,.tail 1)] (bQ (tau [(0,5),(1,4),(2,1),(2000,6)]) (.s (.c (.tl 6 (lI x2)))) [(4,.blk [.fn 101 [(1,0)]] 136),(1,.blk (tC t) 30),(5,.dead),(6,.tail 1)] (kh _ _ hx2) zz ⟨.inl zz,.inl zz,tv⟩ tv vQ ⟨zz,zz,zz,tv⟩ zz zz zz zz ⟨zz,tv⟩ zz zz zz) (aa (.c (.loc 2 2)) (aq (al (cs':=[cI f.Focused,cB_ f.Visible,.tl 6 (lI x2)]) zz zz zz zz zz zz zz zz zz) (ab (af (ac (aa (.agg (tC t)) (aa (aV (((lM Styled.cs st)))) ?_)))))))
 obtain ⟨x3,hx3,hr⟩:=bq hr
 refine ak 0 (bQ (tau [(2000,7)]) (.s (.c (.own 7))) [(7,.vec 1 (lI x3))] (jC _ _ hx3) zz ⟨.inl zz,.inl zz,tv⟩ tv v7 tv zz zz zz zz ⟨zz,tv⟩ zz zz zz) (aa (.c (.own 7)) (ab (af (af (ac (aa (.c (.loc 2 0)) (aa (aI f.Focused) (aa (aB (f.Focused==0)) (aa (aB (f.Focused==0)) (ae (ai (x:=.c (.own 7)) zz zz tv zz) (ae (ai (x:=.c (.loc 2 0)) zz zz tv zz) (ae (ai (x:=aI f.Focused) zz zz ⟨fun h=>h,tv⟩ zz) ?_))))))))))))
 obtain ⟨x4,hx4,hr⟩:=bq hr
 refine ae (wJ (x:=aB x4) (fun hg=>dh _ _ (cQ hx4 hg)) zz zz ⟨.inr ⟨_,_,_,zz,zz,zz⟩,.inl (.inl zz),tv⟩ ⟨fun h=>h,⟨fun h=>h,tv⟩⟩ v8 zz zz zz) ?_
 refine ae (bj zz zz (fun h=>by rw [h];rfl) zz) ?_
 refine ab ?_
 refine ah (b:=(f.Focused==0)||x4) zz (fun h5=>?_) (fun h5=>?_)
 have hr:=selT h5 hr
 refine af (ac (aa (.agg [cI f.Focused,cB_ f.Visible,.tl 6 (lI x2)]) (aq (al (cs':=[cI f.Focused,cB_ f.Visible,.tl 6 (lI x2)]) zz zz zz zz zz zz zz zz zz) (ab (ao ?_)))))
 obtain rfl:=sq hr
 exact ⟨_,zz,.inr zz,tv⟩
 have hr:=selF h5 hr
 refine aj (af (ac (aa (.c (.loc 2 0)) (aa (aI f.Focused) (aa (aI f.Focused) (ab (af (aF (by kernel_rfl) (ar (.agg [cI old.Root,cI old.Next,dV ((lM Node.cs old.Nodes))]) zz tv zz (ar (aV (((lM Styled.cs oldStyles)))) zz tv zz ?_))))))))))
 obtain ⟨x6,hx6,hr⟩:=bq hr
 refine av (aL (tau []) (.s (aV (((lI x6))))) [] (jZ _ _ hx6) zz ⟨.inl zz,.inl zz,tv⟩ tv pj tv) (ar (.c (.loc 2 2)) zz tv zz (ar (.c (.tl 6 (lI x2))) zz tv zz (ar (.c (.own 7)) zz tv zz (ar (.agg (tC t)) zz tv zz (ar (aV (((lM Styled.cs st)))) zz tv zz ?_)))))
 obtain ⟨x7,hx7,hr⟩:=bq hr
 refine av (aL (tau []) (.s (aV (((lI x7))))) [] (jZ _ _ hx7) zz ⟨.inl zz,.inl zz,tv⟩ tv pj tv) (ar (aI f.Focused) zz tv zz ?_)
 obtain ⟨x8,hx8,hr⟩:=bq hr
 refine av (uz (vE _ _ _ _ _ hx8) zz ⟨.inl (.inl zz),.inl (.inr zz),.inr ⟨_,_,_,zz,zz,zz⟩,.inl (.inl zz),.inl (.inl zz),tv⟩ tv xK zz zz zz) (ar (.c (.loc 2 0)) zz tv zz (iz (al (cs':=[cI x8,cB_ f.Visible,.tl 6 (lI x2)]) zz zz zz zz zz zz zz zz zz) (aY (by kernel_rfl) (af (ac (aa (.c (.loc 2 2)) (aa (.c (.tl 6 (lI x2))) (aa (.c (.loc 2 0)) (aa (aI x8) ?_)))))))))
 obtain ⟨x9,hx9,hr⟩:=bq hr
 refine ak 0 (bQ (tau [(2000,8)]) (.s (.c (.tl 8 (lI x9)))) [(8,.tail 1)] (im _ _ hx9) zz ⟨.inr zz,.inl zz,tv⟩ tv pg tv zz zz zz zz ⟨zz,tv⟩ zz zz zz) (aa (.c (.loc 2 2)) (aq (al (cs':=[cI x8,cB_ f.Visible,.tl 8 (lI x9)]) zz zz zz zz zz zz zz zz zz) (ab ?_)))
 obtain ⟨k11,hk11,hr⟩:=ax hr
 refine ay (fun (s10:(List Int))=>⟨[(9,.s (.c (.loc 2 0))),(10,.s (.c (.loc 3 0)))],[(2,.blk [cI x8,cB_ f.Visible,dV ((lI s10))] 59),(3,.blk [cI 0,cB_ false,.d (.v (.slice none 0 0))] 59)],0⟩) k11 r (fun s10 hr=>?_) ?_
 rw [hk11] at hr
 refine af (ac (aa (.c (.loc 2 2)) (aa (aV (((lI s10)))) (aa (.c (.loc 2 2)) (aa (aV (((lI s10)))) (ae (aK (enc:=eI) s10 zz zz tv zz) (aa (aI (wq ((s10.length:Int) - 16))) (aa (aI (mxI 0 (wq ((s10.length:Int) - 16)))) ?_))))))))
 obtain ⟨x12,hx12,hr⟩:=bq hr
 refine ae (lR (enc:=eI) (L:=s10) hx12 zz zz zz (.inr ⟨_,zz⟩) (.inl ⟨zz,zz⟩) zz (fun _=>zz) tv zz) (aa (.c (.loc 2 2)) (aq (al (cs':=[cI x8,cB_ f.Visible,dV ((lI x12))]) zz zz zz zz zz zz zz zz zz) (ab (af (ac (aa (.agg [cI x8,cB_ f.Visible,dV ((lI x12))]) (aq (al (cs':=[cI x8,cB_ f.Visible,dV ((lI x12))]) zz zz zz zz zz zz zz zz zz) (ab (ao ?_)))))))))
 obtain rfl:=sq hr
 exact ⟨_,zz,.inl zz,tv⟩
 clear hk11
 refine af (ac (aa (.c (.fn 101 [(1,0)])) (aa (aI f.Focused) ?_)))
 obtain ⟨x13,hx13,hr⟩:=bq hr
 refine ae (TriL.keep (dg (caps:=[(1,0)]) (tau [(0,1)]) (.s (aB x13)) [(1,.blk (tC t) 30)] zz (ln _ _ hx13) zz ⟨.inl zz,.inl zz,tv⟩ tv tA ⟨zz,tv⟩ zz zz zz zz tv zz zz zz) ⟨zz,tv⟩) (ab ?_)
 refine ah (b:=x13) zz (fun h14=>?_) (fun h14=>?_)
 have hr:=selT h14 hr
 refine ac (aa (.c (.loc 2 2)) (aa (.c (.tl 8 (lI x9))) (aa (aI f.Focused) ?_)))
 obtain ⟨x15,hx15,hr⟩:=bq hr
 refine ae (aL (tau []) (.s (aV (((lI x15))))) [] (ll _ _ hx15) zz ⟨.inr zz,.inl zz,tv⟩ tv v6 tv) (aa (.c (.loc 2 2)) (aq (al (cs':=[cI x8,cB_ f.Visible,dV ((lI x15))]) zz zz zz zz zz zz zz zz zz) (ab ?_)))
 exact ⟨x15,hr,(Conv.mk (tau []) ⟨cl zz,cl zz,tv⟩ ⟨zz,zz,tv⟩ zz zz zz zz)⟩
 have hr:=selF h14 hr
 refine aj ?_
 exact ⟨x9,hr,(Conv.trans (Conv.norm 2 [cI x8,cB_ f.Visible,.tl 8 (lI x9)] [cI x8,cB_ f.Visible,dV ((lI x9))] 59 0 zz zz) (Conv.mk (tau []) ⟨cl zz,cl zz,tv⟩ ⟨zz,zz,tv⟩ zz zz zz zz))⟩
theorem w5 (f:FocusState) (id:Int) (visible:Bool) {r:FocusState} (hr:oa f id visible=some r):Con Tryz.prog 16 [.agg [cI f.Focused,cB_ f.Visible,dV ((lI f.Past))],aI id,aB visible] [] (.s (.agg [cI r.Focused,cB_ r.Visible,dV ((lI r.Past))])) []:=by
 unfold oa at hr
 refine ap 47 0 [.cell 6 59] [(0,.s (.agg [cI f.Focused,cB_ f.Visible,dV ((lI f.Past))])),(1,.s (aI id)),(2,.s (aB visible))] Tryz.func16 zz zz zz zz zz zz zz zz fun w g M ρ _=>(af (ac (ak 0 (aP (j:=0) (cs:=[cI f.Focused,cB_ f.Visible,dV ((lI f.Past))]) zz zz zz zz zz) (ak 0 (aw (j:=1) (cs:=[cI 0,cB_ false,.d (.v (.slice none 0 0))]) zz zz zz zz) (ab (af (ac (aa (aI id) (aa (aB visible) (aa (.c (.loc 0 2)) (aa (aV (((lI f.Past)))) ?_)))))))))))
 obtain ⟨x1,hx1,hr⟩:=bq hr
 refine ak 0 (bQ (tau [(2000,2)]) (.s (.c (.own 2))) [(2,.vec 1 (lI x1))] (cz _ hx1) zz ⟨.inl zz,tv⟩ tv ph tv zz zz zz zz ⟨zz,tv⟩ zz zz zz) (OkOps.conv (jc (enc:=eI) (L:=x1) [12] 2 3 1 0 ⟨zz,tv⟩ zz (fun _=>zz) zz) (aa (.agg [cI id,cB_ visible,.tl 3 (lI x1)]) (ak 0 (aw (j:=4) (cs:=[cI 0,cB_ false,.d (.v (.slice none 0 0))]) zz zz zz zz) (aq (al (cs':=[cI id,cB_ visible,.tl 3 (lI x1)]) zz zz zz zz zz zz zz zz zz) (ab (af (af (ac (aa (aI id) (aa (.c (.loc 0 0)) (aa (aI f.Focused) (aa (aB (id==f.Focused)) (ab ?_)))))))))))))
 refine ah (b:=id==f.Focused) zz (fun h2=>?_) (fun h2=>?_)
 have hr:=selT h2 hr
 refine af (ac (aa (.agg [cI id,cB_ visible,.tl 3 (lI x1)]) (aq (al (cs':=[cI id,cB_ visible,.tl 3 (lI x1)]) zz zz zz zz zz zz zz zz zz) (ab (ao ?_)))))
 obtain rfl:=sq hr
 exact ⟨_,zz,.inr zz,tv⟩
 have hr:=selF h2 hr
 refine aj (af (ac (aa (.c (.loc 4 2)) (aa (.c (.tl 3 (lI x1))) (aa (aI id) ?_)))))
 obtain ⟨x3,hx3,hr⟩:=bq hr
 refine ak 0 (bQ (tau [(2000,5)]) (.s (.c (.tl 5 (lI x3)))) [(5,.tail 1)] (im _ _ hx3) zz ⟨.inr zz,.inl zz,tv⟩ tv pg tv zz zz zz zz ⟨zz,tv⟩ zz zz zz) (aa (.c (.loc 4 2)) (aq (al (cs':=[cI id,cB_ visible,.tl 5 (lI x3)]) zz zz zz zz zz zz zz zz zz) (ab ?_)))
 obtain ⟨k5,hk5,hr⟩:=ax hr
 refine ay (fun (s4:(List Int))=>⟨[(6,.s (.c (.loc 1 0))),(7,.s (.c (.loc 4 0)))],[(1,.blk [cI 0,cB_ false,.d (.v (.slice none 0 0))] 59),(4,.blk [cI id,cB_ visible,dV ((lI s4))] 59)],0⟩) k5 r (fun s4 hr=>?_) ?_
 rw [hk5] at hr
 refine af (ac (aa (.c (.loc 4 2)) (aa (aV (((lI s4)))) (aa (.c (.loc 4 2)) (aa (aV (((lI s4)))) (ae (aK (enc:=eI) s4 zz zz tv zz) (aa (aI (wq ((s4.length:Int) - 16))) (aa (aI (mxI 0 (wq ((s4.length:Int) - 16)))) ?_))))))))
 obtain ⟨x6,hx6,hr⟩:=bq hr
 refine ae (lR (enc:=eI) (L:=s4) hx6 zz zz zz (.inr ⟨_,zz⟩) (.inl ⟨zz,zz⟩) zz (fun _=>zz) tv zz) (aa (.c (.loc 4 2)) (aq (al (cs':=[cI id,cB_ visible,dV ((lI x6))]) zz zz zz zz zz zz zz zz zz) (ab (af (ac (aa (.agg [cI id,cB_ visible,dV ((lI x6))]) (aq (al (cs':=[cI id,cB_ visible,dV ((lI x6))]) zz zz zz zz zz zz zz zz zz) (ab (ao ?_)))))))))
 obtain rfl:=sq hr
 exact ⟨_,zz,.inl zz,tv⟩
 clear hk5
 refine af (ac (aa (.c (.loc 0 0)) (aa (aI f.Focused) (aa (aB (f.Focused != 0)) (ab ?_)))))
 refine ah (b:=f.Focused != 0) zz (fun h7=>?_) (fun h7=>?_)
 have hr:=selT h7 hr
 refine ac (aa (.c (.loc 4 2)) (aa (.c (.tl 5 (lI x3))) (aa (.c (.loc 0 0)) (aa (aI f.Focused) ?_))))
 obtain ⟨x8,hx8,hr⟩:=bq hr
 refine ae (aL (tau []) (.s (aV (((lI x8))))) [] (ll _ _ hx8) zz ⟨.inr zz,.inl zz,tv⟩ tv v6 tv) (aa (.c (.loc 4 2)) (aq (al (cs':=[cI id,cB_ visible,dV ((lI x8))]) zz zz zz zz zz zz zz zz zz) (ab ?_)))
 exact ⟨x8,hr,(Conv.mk (tau []) ⟨cl zz,cl zz,tv⟩ ⟨zz,zz,tv⟩ zz zz zz zz)⟩
 have hr:=selF h7 hr
 refine ac (aa (.c (.loc 4 2)) (aa (.c (.tl 5 (lI x3))) ?_))
 obtain ⟨x9,hx9,hr⟩:=bq hr
 refine ak 0 (bQ (tau [(2000,6)]) (.s (.c (.tl 6 (lI x9)))) [(6,.tail 1)] (im _ _ hx9) zz ⟨.inr zz,.inl zz,tv⟩ tv pg tv zz zz zz zz ⟨zz,tv⟩ zz zz zz) (aa (.c (.loc 4 2)) (aq (al (cs':=[cI id,cB_ visible,.tl 6 (lI x9)]) zz zz zz zz zz zz zz zz zz) (ab ?_)))
 exact ⟨x9,hr,(Conv.trans (Conv.norm 4 [cI id,cB_ visible,.tl 6 (lI x9)] [cI id,cB_ visible,dV ((lI x9))] 59 0 zz zz) (Conv.mk (tau []) ⟨cl zz,cl zz,tv⟩ ⟨zz,zz,tv⟩ zz zz zz zz))⟩
theorem vF (t:Tree) (st:(List Styled)) (f:FocusState) (back:Bool) {r:Int} (hr:i9 t st f back=some r):Con Tryz.prog 23 [.agg (tC t),aV (((lM Styled.cs st))),.agg [cI f.Focused,cB_ f.Visible,dV ((lI f.Past))],aB back] [] (.s (aI r)) []:=by
 unfold i9 at hr
 refine ap 59 0 [.tmp 8] [(0,.s (.agg (tC t))),(1,.s (aV (((lM Styled.cs st))))),(2,.s (.agg [cI f.Focused,cB_ f.Visible,dV ((lI f.Past))])),(3,.s (aB back))] Tryz.func23 zz zz zz zz zz zz zz zz fun w g M ρ _=>(af (ac (ak 0 (aP (j:=0) (cs:=(tC t)) zz zz zz zz zz) (ak 0 (aP (j:=1) (cs:=[cI f.Focused,cB_ f.Visible,dV ((lI f.Past))]) zz zz zz zz zz) (aa (aI 0) (ab (af (ac (aa (.agg (tC t)) (aa (aV (((lM Styled.cs st)))) ?_))))))))))
 obtain ⟨x1,hx1,hr⟩:=bq hr
 refine ae (aL (tau []) (.s (aV (((lI x1))))) [] (jZ _ _ hx1) zz ⟨.inl zz,.inl zz,tv⟩ tv pj tv) (aa (aV (((lI x1)))) (ab (af (ac (aa (aV (((lI x1)))) (ae (aK (enc:=eI) x1 zz zz tv zz) (aa (aI (x1.length:Int)) (ab (af (ac (aa (aV (((lI x1)))) (aa (.c (.loc 1 0)) (aa (aI f.Focused) ?_)))))))))))))
 obtain ⟨x2,hx2,hr⟩:=bq hr
 refine ae (aL (tau []) (.s (aI x2)) [] (cL _ _ hx2) zz ⟨.inl zz,.inl zz,tv⟩ tv rQ tv) (aa (aI x2) (ab (af (am (af (ac (aa (aI (x1.length:Int)) (aa (aB ((x1.length:Int)==0)) (aa (aB ((x1.length:Int)==0)) (ab ?_))))))))))
 refine ah (b:=(x1.length:Int)==0) zz (fun h3=>?_) (fun h3=>?_)
 have hr:=selT h3 hr
 refine af (ac (aa (aI 0) (ab (ao ?_))))
 obtain rfl:=sq hr
 exact ⟨_,zz,.inl zz,tv⟩
 have hr:=selF h3 hr
 refine af (ac (aa (aI x2) (aa (aB (decide (x2<0))) (aa (aB (decide (x2<0))) (ae (ai (x:=aB back) zz zz tv zz) (ae (bb zz zz (fun h=>h) zz) (aa (aB ((decide (x2<0))&&back)) (ab ?_))))))))
 refine ah (b:=(decide (x2<0))&&back) zz (fun h4=>?_) (fun h4=>?_)
 have hr:=selT h4 hr
 refine af (ac (aa (aV (((lI x1)))) (aa (aI (x1.length:Int)) (aa (aI (wq ((x1.length:Int) - 1))) ?_))))
 obtain ⟨x5,hx5,hr⟩:=bq hr
 refine ae (aM (enc:=eI) (L:=x1) (row:=[dI x5]) hx5 zz zz zz zz (fun _=>zz) tv zz) (aa (aI x5) (aa (aI x5) (ab (ao ?_))))
 obtain rfl:=sq hr
 exact ⟨_,zz,.inl zz,tv⟩
 have hr:=selF h4 hr
 refine af (ac (aa (aI x2) (aa (aB (decide (x2<0))) (aa (aB (decide (x2<0))) (ab ?_)))))
 refine ah (b:=decide (x2<0)) zz (fun h6=>?_) (fun h6=>?_)
 have hr:=selT h6 hr
 refine af (ac (aa (aV (((lI x1)))) ?_))
 obtain ⟨x7,hx7,hr⟩:=bq hr
 refine ae (aM (enc:=eI) (L:=x1) (row:=[dI x7]) hx7 zz zz zz zz (fun _=>zz) tv zz) (aa (aI x7) (aa (aI x7) (ab (ao ?_))))
 obtain rfl:=sq hr
 exact ⟨_,zz,.inl zz,tv⟩
 have hr:=selF h6 hr
 refine af (ac (aa (aB back) (aa (aB back) (ab ?_))))
 refine ah (b:=back) zz (fun h8=>?_) (fun h8=>?_)
 have hr:=selT h8 hr
 refine af (ac (aa (aV (((lI x1)))) (aa (aI x2) (aa (aI (x1.length:Int)) (aa (aI (wq (x2+(x1.length:Int)))) (aa (aI (wq ((wq (x2+(x1.length:Int))) - 1))) (aa (aI (x1.length:Int)) ?_)))))))
 obtain ⟨x9,hx9,hr⟩:=bq hr
 refine ae (r7 hx9 zz zz tv zz) ?_
 obtain ⟨x10,hx10,hr⟩:=bq hr
 refine ae (aM (enc:=eI) (L:=x1) (row:=[dI x10]) hx10 zz zz zz zz (fun _=>zz) tv zz) (aa (aI x10) (aa (aI x10) (ab (ao ?_))))
 obtain rfl:=sq hr
 exact ⟨_,zz,.inl zz,tv⟩
 have hr:=selF h8 hr
 refine aj (af (ac (aa (aV (((lI x1)))) (aa (aI x2) (aa (aI (wq (x2+1))) (aa (aI (x1.length:Int)) ?_))))))
 obtain ⟨x11,hx11,hr⟩:=bq hr
 refine ae (r7 hx11 zz zz tv zz) ?_
 obtain ⟨x12,hx12,hr⟩:=bq hr
 refine ae (aM (enc:=eI) (L:=x1) (row:=[dI x12]) hx12 zz zz zz zz (fun _=>zz) tv zz) (aa (aI x12) (aa (aI x12) (ab (ao ?_))))
 obtain rfl:=sq hr
 exact ⟨_,zz,.inl zz,tv⟩
end Go.Proofs.YtfoigppmcelgfaaGreatDoor
end
section
set_option maxRecDepth 100000
namespace Go.Proofs.YtfoigppmcelgfaaGreatDoor
open Go Go.E2
theorem qn (self0:AType→AType→Option (AType×Bool)) (hself0:∀ (a:AType) (b:AType) {r:AType×Bool},self0 a b=some r→Con Tryz.prog 192 [.agg [cI a.Kind,dV ((lM AType.cs a.Of))],.agg [cI b.Kind,dV ((lM AType.cs b.Of))]] [] (.tup [.agg [cI r.1.Kind,dV ((lM AType.cs r.1.Of))],aB r.2]) []) (a:AType) (b:AType) {r:AType×Bool} (hr:gj self0 a b=some r):Con Tryz.prog 192 [.agg [cI a.Kind,dV ((lM AType.cs a.Of))],.agg [cI b.Kind,dV ((lM AType.cs b.Of))]] [] (.tup [.agg [cI r.1.Kind,dV ((lM AType.cs r.1.Of))],aB r.2]) []:=by
 unfold gj at hr
 refine ap 44 0 [.cell 4 196,.tmp 5] [(0,.s (.agg [cI a.Kind,dV ((lM AType.cs a.Of))])),(1,.s (.agg [cI b.Kind,dV ((lM AType.cs b.Of))]))] Tryz.func192 zz zz zz zz zz zz zz zz fun w g M ρ _=>(af (ac (ak 0 (aP (j:=0) (cs:=[cI a.Kind,dV ((lM AType.cs a.Of))]) zz zz zz zz zz) (ak 0 (aP (j:=1) (cs:=[cI b.Kind,dV ((lM AType.cs b.Of))]) zz zz zz zz zz) (ak 0 (aw (j:=2) (cs:=[cI 0,.d (.v (.slice none 0 0))]) zz zz zz zz) (aa (aB false) (ab (af (af (ac (aa (.c (.loc 0 0)) (aa (aI a.Kind) (aa (.c (.loc 1 0)) (aa (aI b.Kind) (aa (aB (a.Kind != b.Kind)) ?_)))))))))))))))
 refine ab ?_
 refine ah (b:=a.Kind != b.Kind) zz (fun h1=>?_) (fun h1=>?_)
 have hr:=selT h1 hr
 refine af (ac (aa (.agg [cI 0,.d (.v (.slice none 0 0))]) (aq (al (cs':=[cI 0,.d (.v (.slice none 0 0))]) zz zz zz zz zz zz zz zz zz) (aa (aB false) (ab (ao ?_))))))
 obtain rfl:=sq hr
 exact ⟨_,zz,.inr zz,tv⟩
 have hr:=selF h1 hr
 refine aj (af (af (ac (aa (.c (.loc 0 1)) (aa (aV (((lM AType.cs a.Of)))) (ae (aK (enc:=AType.cs) a.Of zz zz tv zz) (aa (aB ((a.Of.length:Int)==0)) (ab ?_))))))))
 refine ah (b:=(a.Of.length:Int)==0) zz (fun h2=>?_) (fun h2=>?_)
 have hr:=selT h2 hr
 refine af (ac (aa (.agg [cI b.Kind,dV ((lM AType.cs b.Of))]) (aq (al (cs':=[cI b.Kind,dV ((lM AType.cs b.Of))]) zz zz zz zz zz zz zz zz zz) (aa (aB true) (ab (ao ?_))))))
 obtain rfl:=sq hr
 exact ⟨_,zz,.inl zz,tv⟩
 have hr:=selF h2 hr
 refine aj (af (af (ac (aa (.c (.loc 1 1)) (aa (aV (((lM AType.cs b.Of)))) (ae (aK (enc:=AType.cs) b.Of zz zz tv zz) (aa (aB ((b.Of.length:Int)==0)) (ab ?_))))))))
 refine ah (b:=(b.Of.length:Int)==0) zz (fun h3=>?_) (fun h3=>?_)
 have hr:=selT h3 hr
 refine af (ac (aa (.agg [cI a.Kind,dV ((lM AType.cs a.Of))]) (aq (al (cs':=[cI a.Kind,dV ((lM AType.cs a.Of))]) zz zz zz zz zz zz zz zz zz) (aa (aB true) (ab (ao ?_))))))
 obtain rfl:=sq hr
 exact ⟨_,zz,.inl zz,tv⟩
 have hr:=selF h3 hr
 refine aj (af (aF (by kernel_rfl) (ar (.c (.loc 0 1)) zz tv zz (ar (aV (((lM AType.cs a.Of)))) zz tv zz ?_))))
 obtain ⟨x4,hx4,hr⟩:=bq hr
 refine av (aM (enc:=AType.cs) (L:=a.Of) (row:=[dI x4.Kind,.sl (lM AType.cs x4.Of)]) hx4 (AType.cs_eq _) zz zz zz (fun x=>by rw [AType.cs_eq];rfl) tv zz) ?_
 refine ar (.agg [cI x4.Kind,dV ((lM AType.cs x4.Of))]) zz tv zz (ar (.c (.loc 1 1)) zz tv zz (ar (aV (((lM AType.cs b.Of)))) zz tv zz ?_))
 obtain ⟨x5,hx5,hr⟩:=bq hr
 refine av (aM (enc:=AType.cs) (L:=b.Of) (row:=[dI x5.Kind,.sl (lM AType.cs x5.Of)]) hx5 (AType.cs_eq _) zz zz zz (fun x=>by rw [AType.cs_eq];rfl) tv zz) ?_
 refine ar (.agg [cI x5.Kind,dV ((lM AType.cs x5.Of))]) zz tv zz ?_
 obtain ⟨x6,hx6,hr⟩:=bq hr
 refine av (aL (tau []) (.tup [.agg [cI x6.1.Kind,dV ((lM AType.cs x6.1.Of))],aB x6.2]) [] (hself0 _ _ hx6) zz ⟨.inl zz,.inl zz,tv⟩ tv s0 tv) (av (dk (v:=.tup [.agg [cI x6.1.Kind,dV ((lM AType.cs x6.1.Of))],aB x6.2]) zz zz) (ar (.agg [cI x6.1.Kind,dV ((lM AType.cs x6.1.Of))]) zz tv zz (ar (aB x6.2) zz tv zz (gY 0 (aw (j:=3) (cs:=[cI 0,.d (.v (.slice none 0 0))]) zz zz zz zz) (iz (al (cs':=[cI x6.1.Kind,dV ((lM AType.cs x6.1.Of))]) zz zz zz zz zz zz zz zz zz) (ar (aB x6.2) zz tv zz (aY (by kernel_rfl) (af (af (ac (aa (aB x6.2) (aa (aB (!x6.2)) (ab ?_)))))))))))))
 refine ah (b:=!x6.2) zz (fun h7=>?_) (fun h7=>?_)
 have hr:=selT h7 hr
 refine af (ac (aa (.agg [cI 0,.d (.v (.slice none 0 0))]) (aq (al (cs':=[cI 0,.d (.v (.slice none 0 0))]) zz zz zz zz zz zz zz zz zz) (aa (aB false) (ab (ao ?_))))))
 obtain rfl:=sq hr
 exact ⟨_,zz,.inr zz,tv⟩
 have hr:=selF h7 hr
 refine aj (af (ac (aa (.c (.loc 0 0)) (aa (aI a.Kind) (aa (.agg [cI x6.1.Kind,dV ((lM AType.cs x6.1.Of))]) ?_)))))
 refine ak 0 (cp (sz:=2) (enc:=AType.cs) (j:=4) ([x6.1]) zz zz zz zz zz (rows:=[[dI x6.1.Kind,.sl (lM AType.cs x6.1.Of)]]) (by simp only [List.map,AType.cs_eq]) zz zz (fun x=>by rw [AType.cs_eq];rfl) tv zz zz) ?_
 refine aa (.agg [cI a.Kind,.tl 4 (lM AType.cs ([x6.1]))]) (aq (al (cs':=[cI a.Kind,.tl 4 (lM AType.cs ([x6.1]))]) zz zz zz zz zz zz zz zz zz) (aa (aB true) (ab (ao ?_))))
 obtain rfl:=sq hr
 exact ⟨_,zz,.inr zz,tv⟩
theorem qm:∀ n:Nat,(∀ (a:AType) (b:AType) {r:AType×Bool},cR n a b=some r→Con Tryz.prog 192 [.agg [cI a.Kind,dV ((lM AType.cs a.Of))],.agg [cI b.Kind,dV ((lM AType.cs b.Of))]] [] (.tup [.agg [cI r.1.Kind,dV ((lM AType.cs r.1.Of))],aB r.2]) [])∧True:=by
 intro n
 induction n with
 | zero=>exact ⟨(by intros;rename_i hr;cases hr),tv⟩
 | succ n ih=>exact ⟨(by intros;rename_i hr;exact qn _ ih.1 _ _ hr),tv⟩
theorem ua (n:Nat) (a:AType) (b:AType) {r:AType×Bool} (hr:cR n a b=some r):Con Tryz.prog 192 [.agg [cI a.Kind,dV ((lM AType.cs a.Of))],.agg [cI b.Kind,dV ((lM AType.cs b.Of))]] [] (.tup [.agg [cI r.1.Kind,dV ((lM AType.cs r.1.Of))],aB r.2]) []:=(qm n).1 a b hr
theorem oS (self0:AValue→Int→Int→Option (AType×Int×Int)) (hself0:∀ (v:AValue) (depth:Int) (met:Int) {r:AType×Int×Int},self0 v depth met=some r→Con Tryz.prog 180 [.agg [cI v.Kind,cI v.N,cS v.S,dV ((lM AValue.cs v.L))],aI depth,aI met] [] (.tup [.agg [cI r.1.Kind,dV ((lM AType.cs r.1.Of))],aI r.2.1,aI r.2.2]) []) (v:AValue) (depth:Int) (met:Int) {r:AType×Int×Int} (hr:gL self0 v depth met=some r):Con Tryz.prog 180 [.agg [cI v.Kind,cI v.N,cS v.S,dV ((lM AValue.cs v.L))],aI depth,aI met] [] (.tup [.agg [cI r.1.Kind,dV ((lM AType.cs r.1.Of))],aI r.2.1,aI r.2.2]) []:=by
 unfold gL at hr
 refine ap 184 0 [.cell 6 196,.tmp 7,.tmp 8] [(0,.s (.agg [cI v.Kind,cI v.N,cS v.S,dV ((lM AValue.cs v.L))])),(1,.s (aI depth)),(2,.s (aI met))] Tryz.func180 zz zz zz zz zz zz zz zz fun w g M ρ _=>(af (ac (ak 0 (aP (j:=0) (cs:=[cI v.Kind,cI v.N,cS v.S,dV ((lM AValue.cs v.L))]) zz zz zz zz zz) (ak 0 (aw (j:=1) (cs:=[cI 0,.d (.v (.slice none 0 0))]) zz zz zz zz) (aa (aI 0) (aa (aI 0) (ab (af (ac (aa (aI met) (aa (aI (wq (met+1))) (aa (aI (wq (met+1))) (ab (af (ac ?_)))))))))))))))
 refine aa (.c (.loc 0 0)) (aa (aI v.Kind) (aa (aB (v.Kind==4)) (aa (aB (v.Kind==4)) (ab (af (af (ac (aa (aB (v.Kind==4)) (aa (aB (v.Kind==4)) (ae (ai (x:=aI depth) zz zz tv zz) (ae (ai (x:=aB (decide (depth>16))) zz zz ⟨fun h=>h,tv⟩ zz) (ae (bb zz zz (fun h=>h) zz) (ab ?_)))))))))))))
 refine ah (b:=(v.Kind==4)&&(decide (depth>16))) zz (fun h1=>?_) (fun h1=>?_)
 have hr:=selT h1 hr
 refine af (ac (aa (.agg [cI 0,.d (.v (.slice none 0 0))]) (aa (aI (wq (met+1))) (aq (al (cs':=[cI 0,.d (.v (.slice none 0 0))]) zz zz zz zz zz zz zz zz zz) (aa (aI (wq (met+1))) (aa (aI 8) (ab (ao ?_))))))))
 obtain rfl:=sq hr
 exact ⟨_,zz,.inr zz,tv⟩
 have hr:=selF h1 hr
 refine aj (af (af (ac (aa (.c (.loc 0 0)) (aa (aI v.Kind) (aa (aB (decide (v.Kind<1))) (aa (aB (decide (v.Kind<1))) (ae (ai (x:=.c (.loc 0 0)) zz zz tv zz) (ae (ai (x:=aI v.Kind) zz zz ⟨fun h=>h,tv⟩ zz) (ae (ai (x:=aB (decide (v.Kind>4))) zz zz ⟨fun h=>h,tv⟩ zz) ?_))))))))))
 refine ae (bj zz zz (fun h=>by rw [h];rfl) zz) ?_
 refine aa (aB ((decide (v.Kind<1))||(decide (v.Kind>4)))) (ae (ai (x:=.c (.loc 0 1)) zz zz tv zz) (ae (ai (x:=aI v.N) zz zz ⟨fun h=>h,tv⟩ zz) (ae (ai (x:=aB (v.N != 0)) zz zz ⟨fun h=>h,tv⟩ zz) (ae (ai (x:=aB (v.N != 0)) zz zz ⟨fun h=>h,tv⟩ zz) (ae (ai (x:=.c (.loc 0 0)) zz zz tv zz) (ae (ai (x:=aI v.Kind) zz zz ⟨fun h=>h,tv⟩ zz) (ae (ai (x:=aB (v.Kind != 1)) zz zz ⟨fun h=>h,tv⟩ zz) ?_)))))))
 refine ae (iu zz zz zz (fun h=>h) (fun h h2=>by rw [h,h2];rfl) zz) ?_
 refine ae (ai (x:=aB ((v.N != 0)&&(v.Kind != 1))) zz zz ⟨fun h=>h,tv⟩ zz) (ae (ai (x:=.c (.loc 0 0)) zz zz tv zz) (ae (ai (x:=aI v.Kind) zz zz ⟨fun h=>h,tv⟩ zz) (ae (ai (x:=aB (v.Kind != 2)) zz zz ⟨fun h=>h,tv⟩ zz) ?_)))
 refine ae (iu zz zz zz (fun h=>h) (fun h h2=>by rw [h,h2];rfl) zz) ?_
 refine ae (bj zz zz (fun h=>by rw [h];rfl) zz) ?_
 refine aa (aB (((decide (v.Kind<1))||(decide (v.Kind>4)))||(((v.N != 0)&&(v.Kind != 1))&&(v.Kind != 2)))) (ae (ai (x:=.c (.loc 0 2)) zz zz tv zz) (ae (ai (x:=aS v.S) zz zz ⟨fun h=>h,tv⟩ zz) (ae (ai (x:=aB (!(v.S.toList==(ByteArray.mk #[]).toList))) zz zz ⟨fun h=>h,tv⟩ zz) (ae (ai (x:=aB (!(v.S.toList==(ByteArray.mk #[]).toList))) zz zz ⟨fun h=>h,tv⟩ zz) (ae (ai (x:=.c (.loc 0 0)) zz zz tv zz) (ae (ai (x:=aI v.Kind) zz zz ⟨fun h=>h,tv⟩ zz) (ae (ai (x:=aB (v.Kind != 3)) zz zz ⟨fun h=>h,tv⟩ zz) ?_)))))))
 refine ae (iu zz zz zz (fun h=>h) (fun h h2=>by rw [h,h2];rfl) zz) ?_
 refine ae (bj zz zz (fun h=>by rw [h];rfl) zz) ?_
 refine aa (aB ((((decide (v.Kind<1))||(decide (v.Kind>4)))||(((v.N != 0)&&(v.Kind != 1))&&(v.Kind != 2)))||((!(v.S.toList==(ByteArray.mk #[]).toList))&&(v.Kind != 3)))) (ae (ai (x:=.c (.loc 0 3)) zz zz tv zz) (ae (ai (x:=aV (((lM AValue.cs v.L)))) zz zz ⟨fun h=>h,tv⟩ zz) (ae (cy (enc:=AValue.cs) v.L zz zz zz ⟨fun h=>h,tv⟩ zz) (ae (ai (x:=aB (decide ((v.L.length:Int)>0))) zz zz ⟨fun h=>h,tv⟩ zz) (ae (ai (x:=aB (decide ((v.L.length:Int)>0))) zz zz ⟨fun h=>h,tv⟩ zz) (ae (ai (x:=aB (v.Kind==4)) zz zz tv zz) (ae (ai (x:=aB (!(v.Kind==4))) zz zz ⟨fun h=>h,tv⟩ zz) ?_)))))))
 refine ae (iu zz zz zz (fun h=>h) (fun h h2=>by rw [h,h2];rfl) zz) ?_
 refine ae (bj zz zz (fun h=>by rw [h];rfl) zz) ?_
 refine ab ?_
 refine ah (b:=((((decide (v.Kind<1))||(decide (v.Kind>4)))||(((v.N != 0)&&(v.Kind != 1))&&(v.Kind != 2)))||((!(v.S.toList==(ByteArray.mk #[]).toList))&&(v.Kind != 3)))||((decide ((v.L.length:Int)>0))&&(!(v.Kind==4)))) zz (fun h2=>?_) (fun h2=>?_)
 have hr:=selT h2 hr
 refine af (ac (aa (.agg [cI 0,.d (.v (.slice none 0 0))]) (aa (aI (wq (met+1))) (aq (al (cs':=[cI 0,.d (.v (.slice none 0 0))]) zz zz zz zz zz zz zz zz zz) (aa (aI (wq (met+1))) (aa (aI 9) (ab (ao ?_))))))))
 obtain rfl:=sq hr
 exact ⟨_,zz,.inr zz,tv⟩
 have hr:=selF h2 hr
 refine aj (af (af (ac (aa (.c (.loc 0 0)) (aa (aI v.Kind) (aa (aB (v.Kind==1)) (aa (aB (v.Kind==1)) (ae (ai (x:=.c (.loc 0 1)) zz zz tv zz) (ae (ai (x:=aI v.N) zz zz ⟨fun h=>h,tv⟩ zz) (ae (ai (x:=aB (decide (v.N<(-1099511627776)))) zz zz ⟨fun h=>h,tv⟩ zz) (ae (ai (x:=aB (decide (v.N<(-1099511627776)))) zz zz ⟨fun h=>h,tv⟩ zz) (ae (ai (x:=.c (.loc 0 1)) zz zz tv zz) (ae (ai (x:=aI v.N) zz zz ⟨fun h=>h,tv⟩ zz) (ae (ai (x:=aB (decide (v.N>1099511627776))) zz zz ⟨fun h=>h,tv⟩ zz) ?_))))))))))))))
 refine ae (lS zz zz zz (fun h=>h) (fun h h2=>by rw [h,h2];rfl) zz) ?_
 refine ae (bb zz zz (fun h=>h) zz) (aa (aB ((v.Kind==1)&&((decide (v.N<(-1099511627776)))||(decide (v.N>1099511627776))))) (ae (ai (x:=.c (.loc 0 0)) zz zz tv zz) (ae (ai (x:=aI v.Kind) zz zz ⟨fun h=>h,tv⟩ zz) (ae (ai (x:=aB (v.Kind==2)) zz zz ⟨fun h=>h,tv⟩ zz) (ae (ai (x:=aB (v.Kind==2)) zz zz ⟨fun h=>h,tv⟩ zz) (ae (ai (x:=.c (.loc 0 1)) zz zz tv zz) (ae (ai (x:=aI v.N) zz zz ⟨fun h=>h,tv⟩ zz) (ae (ai (x:=aB (v.N != 0)) zz zz ⟨fun h=>h,tv⟩ zz) ?_))))))))
 refine ae (iu zz zz zz (fun h=>h) (fun h h2=>by rw [h,h2];rfl) zz) ?_
 refine ae (ai (x:=aB ((v.Kind==2)&&(v.N != 0))) zz zz ⟨fun h=>h,tv⟩ zz) (ae (ai (x:=.c (.loc 0 1)) zz zz tv zz) (ae (ai (x:=aI v.N) zz zz ⟨fun h=>h,tv⟩ zz) (ae (ai (x:=aB (v.N != 1)) zz zz ⟨fun h=>h,tv⟩ zz) ?_)))
 refine ae (iu zz zz zz (fun h=>h) (fun h h2=>by rw [h,h2];rfl) zz) ?_
 refine ae (bj zz zz (fun h=>by rw [h];rfl) zz) ?_
 refine ab ?_
 refine ah (b:=((v.Kind==1)&&((decide (v.N<(-1099511627776)))||(decide (v.N>1099511627776))))||(((v.Kind==2)&&(v.N != 0))&&(v.N != 1))) zz (fun h3=>?_) (fun h3=>?_)
 have hr:=selT h3 hr
 refine af (ac (aa (.agg [cI 0,.d (.v (.slice none 0 0))]) (aa (aI (wq (met+1))) (aq (al (cs':=[cI 0,.d (.v (.slice none 0 0))]) zz zz zz zz zz zz zz zz zz) (aa (aI (wq (met+1))) (aa (aI 1) (ab (ao ?_))))))))
 obtain rfl:=sq hr
 exact ⟨_,zz,.inr zz,tv⟩
 have hr:=selF h3 hr
 refine aj (af (af (ac (aa (.c (.loc 0 2)) (aa (aS v.S) (aa (aI (v.S.size:Int)) (aa (aB (decide ((v.S.size:Int)>2000))) (aa (aB (decide ((v.S.size:Int)>2000))) (ae (ai (x:=.c (.loc 0 3)) zz zz tv zz) (ae (ai (x:=aV (((lM AValue.cs v.L)))) zz zz ⟨fun h=>h,tv⟩ zz) (ae (cy (enc:=AValue.cs) v.L zz zz zz ⟨fun h=>h,tv⟩ zz) (ae (ai (x:=aB (decide ((v.L.length:Int)>100))) zz zz ⟨fun h=>h,tv⟩ zz) ?_))))))))))))
 refine ae (bj zz zz (fun h=>by rw [h];rfl) zz) ?_
 refine aa (aB ((decide ((v.S.size:Int)>2000))||(decide ((v.L.length:Int)>100)))) (ae (ai (x:=aI (wq (met+1))) zz zz tv zz) (ae (ai (x:=aB (decide ((wq (met+1))>1000))) zz zz ⟨fun h=>h,tv⟩ zz) ?_))
 refine ae (bj zz zz (fun h=>by rw [h];rfl) zz) ?_
 refine ab ?_
 refine ah (b:=((decide ((v.S.size:Int)>2000))||(decide ((v.L.length:Int)>100)))||(decide ((wq (met+1))>1000))) zz (fun h4=>?_) (fun h4=>?_)
 have hr:=selT h4 hr
 refine af (ac (aa (.agg [cI 0,.d (.v (.slice none 0 0))]) (aa (aI (wq (met+1))) (aq (al (cs':=[cI 0,.d (.v (.slice none 0 0))]) zz zz zz zz zz zz zz zz zz) (aa (aI (wq (met+1))) (aa (aI 2) (ab (ao ?_))))))))
 obtain rfl:=sq hr
 exact ⟨_,zz,.inr zz,tv⟩
 have hr:=selF h4 hr
 refine aj (af (af (ac (aa (.c (.loc 0 2)) (aa (aS v.S) ?_)))))
 obtain ⟨x5,hx5,hr⟩:=bq hr
 refine ae (aL (tau []) (.s (aB x5)) [] (ub _ hx5) zz ⟨.inl zz,tv⟩ tv xf tv) (aa (aB (!x5)) (ab ?_))
 refine ah (b:=!x5) zz (fun h6=>?_) (fun h6=>?_)
 have hr:=selT h6 hr
 refine af (ac (aa (.agg [cI 0,.d (.v (.slice none 0 0))]) (aa (aI (wq (met+1))) (aq (al (cs':=[cI 0,.d (.v (.slice none 0 0))]) zz zz zz zz zz zz zz zz zz) (aa (aI (wq (met+1))) (aa (aI 3) (ab (ao ?_))))))))
 obtain rfl:=sq hr
 exact ⟨_,zz,.inr zz,tv⟩
 have hr:=selF h6 hr
 refine aj (af (ac (aa (.c (.loc 0 0)) (aa (aI v.Kind) (aa (.agg [cI v.Kind,.d (.v (.slice none 0 0))]) (ak 0 (aw (j:=2) (cs:=[cI 0,.d (.v (.slice none 0 0))]) zz zz zz zz) (aq (al (cs':=[cI v.Kind,.d (.v (.slice none 0 0))]) zz zz zz zz zz zz zz zz zz) (ab (af (ac (aa (aB true) (ab ?_))))))))))))
 obtain ⟨k8,hk8,hr⟩:=ax hr
 refine ay (fun (s7:Int×Bool×(List AType))=>⟨[(2,.s (aI s7.1)),(6,.s (.c (.loc 1 0))),(10,.s (.c (.loc 2 0))),(11,.s (aB s7.2.1))],[(1,.blk [cI 0,.d (.v (.slice none 0 0))] 196),(2,.blk [cI v.Kind,.tl 1007 (lM AType.cs s7.2.2)] 196),(1007,.tail 2)],0⟩) k8 r (fun s7 hr=>?_) ?_
 rw [hk8] at hr
 refine af (af (ac (aa (aB s7.2.1) (aa (aB (!s7.2.1)) (ab ?_)))))
 refine ah (b:=!s7.2.1) zz (fun h9=>?_) (fun h9=>?_)
 have hr:=selT h9 hr
 refine af (ac (aa (.agg [cI 0,.d (.v (.slice none 0 0))]) (aa (aI s7.1) (aq (al (cs':=[cI 0,.d (.v (.slice none 0 0))]) zz zz zz zz zz zz zz zz zz) (aa (aI s7.1) (aa (aI 5) (ab (ao ?_))))))))
 obtain rfl:=sq hr
 exact ⟨_,zz,.inr zz,tv⟩
 have hr:=selF h9 hr
 refine aj (af (ac (aa (.agg [cI v.Kind,.tl 1007 (lM AType.cs s7.2.2)]) (aa (aI s7.1) (aq (al (cs':=[cI v.Kind,.tl 1007 (lM AType.cs s7.2.2)]) zz zz zz zz zz zz zz zz zz) (aa (aI s7.1) (aa (aI 0) (ab (ao ?_)))))))))
 obtain rfl:=sq hr
 exact ⟨_,zz,.inr zz,tv⟩
 clear hk8
 refine af (ac (aa (aI 0) (ab (am (az (fun (s10:Int×Bool×Int×(List AType))=>⟨[(1,.s (aI depth)),(2,.s (aI s10.1)),(3,.s (.c (.loc 0 0))),(6,.s (.c (.loc 1 0))),(10,.s (.c (.loc 2 0))),(11,.s (aB s10.2.1)),(12,.s (aI s10.2.2.1))],[(0,.blk [cI v.Kind,cI v.N,cS v.S,dV ((lM AValue.cs v.L))] 53),(1,.blk [cI 0,.d (.v (.slice none 0 0))] 196),(2,.blk [cI v.Kind,.tl 1011 (lM AType.cs s10.2.2.2)] 196),(1011,.tail 2)],0⟩) hr (Conv.trans (lu 2 1 1014 2 [cI v.Kind,.d (.v (.slice none 0 0))] [cI v.Kind,.tl 1014 (lM AType.cs ([]:(List AType)))] 196 0 zz zz zz zz) (Conv.mk (tau [(1011,1014)]) ⟨cl zz,cl zz,cl zz,cl zz,cl zz,cl zz,cl zz,tv⟩ ⟨zz,zz,zz,zz,tv⟩ zz zz zz zz)) ?_)))))
 clear hr
 intro again11 s10 hr
 unfold bT at hr
 refine af (af (ac (aa (aI s10.2.2.1) (aa (.c (.loc 0 3)) (aa (aV (((lM AValue.cs v.L)))) (ae (aK (enc:=AValue.cs) v.L zz zz tv zz) (aa (aB (decide (s10.2.2.1<(v.L.length:Int)))) (ab ?_))))))))
 refine ah (b:=decide (s10.2.2.1<(v.L.length:Int))) zz (fun h12=>?_) (fun h12=>?_)
 have hr:=selT h12 hr
 refine aj ?_
 obtain ⟨k14,hk14,hr⟩:=ax hr
 refine ay (fun (s13:Int×Bool×(List AType))=>⟨[(1,.s (aI depth)),(2,.s (aI s13.1)),(3,.s (.c (.loc 0 0))),(6,.s (.c (.loc 1 0))),(10,.s (.c (.loc 2 0))),(11,.s (aB s13.2.1)),(12,.s (aI s10.2.2.1))],[(0,.blk [cI v.Kind,cI v.N,cS v.S,dV ((lM AValue.cs v.L))] 53),(1,.blk [cI 0,.d (.v (.slice none 0 0))] 196),(2,.blk [cI v.Kind,.tl 1015 (lM AType.cs s13.2.2)] 196),(1015,.tail 2)],0⟩) k14 r (fun s13 hr=>?_) ?_
 rw [hk14] at hr
 refine ac (aa (aI s10.2.2.1) (aa (aI (wq (s10.2.2.1+1))) (aa (aI (wq (s10.2.2.1+1))) (ab ?_))))
 exact ⟨(s13.1,s13.2.1,wq (s10.2.2.1+1),s13.2.2),hr,(Conv.mk (tau [(1011,1015)]) ⟨cl zz,cl zz,cl zz,cl zz,cl zz,cl zz,cl zz,tv⟩ ⟨zz,zz,zz,zz,tv⟩ zz zz zz zz)⟩
 clear hk14
 refine am (af (ac (aa (.c (.loc 0 3)) (aa (aV (((lM AValue.cs v.L)))) (aa (aI s10.2.2.1) ?_)))))
 obtain ⟨x15,hx15,hr⟩:=bq hr
 refine ae (aM (enc:=AValue.cs) (L:=v.L) (row:=[dI x15.Kind,dI x15.N,dS x15.S,.sl (lM AValue.cs x15.L)]) hx15 (AValue.cs_eq _) zz zz zz (fun x=>by rw [AValue.cs_eq];rfl) tv zz) ?_
 refine aa (.agg [cI x15.Kind,cI x15.N,cS x15.S,dV ((lM AValue.cs x15.L))]) (aa (aI depth) (aa (aI (wq (depth+1))) (aa (aI s10.1) ?_)))
 obtain ⟨x16,hx16,hr⟩:=bq hr
 refine ae (aL (tau []) (.tup [.agg [cI x16.1.Kind,dV ((lM AType.cs x16.1.Of))],aI x16.2.1,aI x16.2.2]) [] (hself0 _ _ _ hx16) zz ⟨.inl zz,.inl zz,.inl zz,tv⟩ tv tc tv) (ae (dk (v:=.tup [.agg [cI x16.1.Kind,dV ((lM AType.cs x16.1.Of))],aI x16.2.1,aI x16.2.2]) zz zz) (aa (.agg [cI x16.1.Kind,dV ((lM AType.cs x16.1.Of))]) (aa (aI x16.2.1) (aa (aI x16.2.2) (ak 0 (aw (j:=3) (cs:=[cI 0,.d (.v (.slice none 0 0))]) zz zz zz zz) (aq (al (cs':=[cI x16.1.Kind,dV ((lM AType.cs x16.1.Of))]) zz zz zz zz zz zz zz zz zz) (aa (aI x16.2.1) (aa (aI x16.2.2) (ab (af (ac (aa (aI x16.2.1) (aa (aI x16.2.1) (ab (af ?_)))))))))))))))
 refine af (ac (aa (aI x16.2.2) (aa (aB (x16.2.2 != 0)) (ab ?_))))
 refine ah (b:=x16.2.2 != 0) zz (fun h17=>?_) (fun h17=>?_)
 have hr:=selT h17 hr
 refine af (ac (aa (.agg [cI 0,.d (.v (.slice none 0 0))]) (aa (aI x16.2.1) (aa (aI x16.2.2) (aq (al (cs':=[cI 0,.d (.v (.slice none 0 0))]) zz zz zz zz zz zz zz zz zz) (aa (aI x16.2.1) (aa (aI x16.2.2) (ab (ao ?_)))))))))
 obtain rfl:=sq hr
 exact ⟨_,zz,.inr zz,tv⟩
 have hr:=selF h17 hr
 refine aj (af (af (ac (aa (aB s10.2.1) (aa (aB (!s10.2.1)) (ab ?_))))))
 refine ah (b:=!s10.2.1) zz (fun h18=>?_) (fun h18=>?_)
 have hr:=selT h18 hr
 refine aE ?_
 exact ⟨(x16.2.1,s10.2.1,s10.2.2.2),hr,(Conv.mk (tau [(1015,1011)]) ⟨cl zz,cl zz,cl zz,cl zz,cl zz,cl zz,cl zz,tv⟩ ⟨zz,zz,zz,zz,tv⟩ zz zz zz zz)⟩
 have hr:=selF h18 hr
 refine aj (af (af (ac (aa (.c (.loc 2 1)) (aa (.c (.tl 1011 (lM AType.cs s10.2.2.2))) (ae (aK (enc:=AType.cs) s10.2.2.2 zz zz tv zz) (aa (aB ((s10.2.2.2.length:Int)==0)) (ab ?_))))))))
 refine ah (b:=(s10.2.2.2.length:Int)==0) zz (fun h19=>?_) (fun h19=>?_)
 have hr:=selT h19 hr
 refine af (ac (aa (.agg [cI x16.1.Kind,dV ((lM AType.cs x16.1.Of))]) ?_))
 refine ak 0 (cp (sz:=2) (enc:=AType.cs) (j:=4) ([x16.1]) zz zz zz zz zz (rows:=[[dI x16.1.Kind,.sl (lM AType.cs x16.1.Of)]]) (by simp only [List.map,AType.cs_eq]) zz zz (fun x=>by rw [AType.cs_eq];rfl) tv zz zz) ?_
 refine aa (.c (.loc 2 1)) (aq (al (cs':=[cI v.Kind,.tl 4 (lM AType.cs ([x16.1]))]) zz zz zz zz zz zz zz zz zz) (ab (aE ?_)))
 exact ⟨(x16.2.1,s10.2.1,[x16.1]),hr,(Conv.mk (tau [(1015,4)]) ⟨cl zz,cl zz,cl zz,cl zz,cl zz,cl zz,cl zz,tv⟩ ⟨zz,zz,zz,zz,tv⟩ zz zz zz zz)⟩
 have hr:=selF h19 hr
 refine aj (af (aF (by kernel_rfl) (ar (.c (.loc 2 1)) zz tv zz (ar (.c (.tl 1011 (lM AType.cs s10.2.2.2))) zz tv zz ?_))))
 obtain ⟨x20,hx20,hr⟩:=bq hr
 refine av (aM (enc:=AType.cs) (L:=s10.2.2.2) (row:=[dI x20.Kind,.sl (lM AType.cs x20.Of)]) hx20 (AType.cs_eq _) zz zz zz (fun x=>by rw [AType.cs_eq];rfl) tv zz) ?_
 refine ar (.agg [cI x20.Kind,dV ((lM AType.cs x20.Of))]) zz tv zz (ar (.agg [cI x16.1.Kind,dV ((lM AType.cs x16.1.Of))]) zz tv zz ?_)
 obtain ⟨x21,hx21,hr⟩:=bq hr
 refine av (aL (tau []) (.tup [.agg [cI x21.1.Kind,dV ((lM AType.cs x21.1.Of))],aB x21.2]) [] (ua _ _ _ hx21) zz ⟨.inl zz,.inl zz,tv⟩ tv s0 tv) (av (dk (v:=.tup [.agg [cI x21.1.Kind,dV ((lM AType.cs x21.1.Of))],aB x21.2]) zz zz) (ar (.agg [cI x21.1.Kind,dV ((lM AType.cs x21.1.Of))]) zz tv zz (ar (aB x21.2) zz tv zz (gY 0 (aw (j:=5) (cs:=[cI 0,.d (.v (.slice none 0 0))]) zz zz zz zz) (iz (al (cs':=[cI x21.1.Kind,dV ((lM AType.cs x21.1.Of))]) zz zz zz zz zz zz zz zz zz) (ar (aB x21.2) zz tv zz (aY (by kernel_rfl) (af (ac (aa (aB x21.2) (aa (aB x21.2) (ab (ac (aa (.agg [cI x21.1.Kind,dV ((lM AType.cs x21.1.Of))]) ?_))))))))))))))
 refine ak 0 (cp (sz:=2) (enc:=AType.cs) (j:=6) ([x21.1]) zz zz zz zz zz (rows:=[[dI x21.1.Kind,.sl (lM AType.cs x21.1.Of)]]) (by simp only [List.map,AType.cs_eq]) zz zz (fun x=>by rw [AType.cs_eq];rfl) tv zz zz) ?_
 refine aa (.c (.loc 2 1)) (aq (al (cs':=[cI v.Kind,.tl 6 (lM AType.cs ([x21.1]))]) zz zz zz zz zz zz zz zz zz) (ab ?_))
 exact ⟨(x16.2.1,x21.2,[x21.1]),hr,(Conv.mk (tau [(1015,6)]) ⟨cl zz,cl zz,cl zz,cl zz,cl zz,cl zz,cl zz,tv⟩ ⟨zz,zz,zz,zz,tv⟩ zz zz zz zz)⟩
 have hr:=selF h12 hr
 refine aE ?_
 exact ⟨(s10.1,s10.2.1,s10.2.2.2),hr,(Conv.mk (tau [(1007,1011)]) ⟨cl zz,cl zz,cl zz,cl zz,tv⟩ ⟨zz,zz,zz,tv⟩ zz zz zz zz)⟩
theorem oR:∀ n:Nat,(∀ (v:AValue) (depth:Int) (met:Int) {r:AType×Int×Int},gM n v depth met=some r→Con Tryz.prog 180 [.agg [cI v.Kind,cI v.N,cS v.S,dV ((lM AValue.cs v.L))],aI depth,aI met] [] (.tup [.agg [cI r.1.Kind,dV ((lM AType.cs r.1.Of))],aI r.2.1,aI r.2.2]) [])∧True:=by
 intro n
 induction n with
 | zero=>exact ⟨(by intros;rename_i hr;cases hr),tv⟩
 | succ n ih=>exact ⟨(by intros;rename_i hr;exact oS _ ih.1 _ _ _ hr),tv⟩
theorem rj (n:Nat) (v:AValue) (depth:Int) (met:Int) {r:AType×Int×Int} (hr:gM n v depth met=some r):Con Tryz.prog 180 [.agg [cI v.Kind,cI v.N,cS v.S,dV ((lM AValue.cs v.L))],aI depth,aI met] [] (.tup [.agg [cI r.1.Kind,dV ((lM AType.cs r.1.Of))],aI r.2.1,aI r.2.2]) []:=(oR n).1 v depth met hr
theorem qo (v:AValue) {r:AType×Int} (hr:jR v=some r):Con Tryz.prog 153 [.agg [cI v.Kind,cI v.N,cS v.S,dV ((lM AValue.cs v.L))]] [] (.tup [.agg [cI r.1.Kind,dV ((lM AType.cs r.1.Of))],aI r.2]) []:=by
 unfold jR at hr
 refine ap 15 0 [.cell 2 196,.tmp 3] [(0,.s (.agg [cI v.Kind,cI v.N,cS v.S,dV ((lM AValue.cs v.L))]))] Tryz.func153 zz zz zz zz zz zz zz zz fun w g M ρ _=>(af (ac (ak 0 (aP (j:=0) (cs:=[cI v.Kind,cI v.N,cS v.S,dV ((lM AValue.cs v.L))]) zz zz zz zz zz) (ak 0 (aw (j:=1) (cs:=[cI 0,.d (.v (.slice none 0 0))]) zz zz zz zz) (aa (aI 0) (ab (af (ac (aa (.agg [cI v.Kind,cI v.N,cS v.S,dV ((lM AValue.cs v.L))]) ?_)))))))))
 obtain ⟨x1,hx1,hr⟩:=bq hr
 refine ae (aL (tau []) (.tup [.agg [cI x1.1.Kind,dV ((lM AType.cs x1.1.Of))],aI x1.2.1,aI x1.2.2]) [] (rj _ _ _ _ hx1) zz ⟨.inl zz,.inl zz,.inl zz,tv⟩ tv tc tv) (ae (dk (v:=.tup [.agg [cI x1.1.Kind,dV ((lM AType.cs x1.1.Of))],aI x1.2.1,aI x1.2.2]) zz zz) (aa (.agg [cI x1.1.Kind,dV ((lM AType.cs x1.1.Of))]) (aa (aI x1.2.1) (aa (aI x1.2.2) (ak 0 (aw (j:=2) (cs:=[cI 0,.d (.v (.slice none 0 0))]) zz zz zz zz) (aq (al (cs':=[cI x1.1.Kind,dV ((lM AType.cs x1.1.Of))]) zz zz zz zz zz zz zz zz zz) (aa (aI x1.2.1) (aa (aI x1.2.2) (ab (af (ac (aa (.agg [cI x1.1.Kind,dV ((lM AType.cs x1.1.Of))]) (aa (aI x1.2.2) (aq (al (cs':=[cI x1.1.Kind,dV ((lM AType.cs x1.1.Of))]) zz zz zz zz zz zz zz zz zz) (aa (aI x1.2.2) ?_)))))))))))))))
 refine ab (ao ?_)
 obtain rfl:=sq hr
 exact ⟨_,zz,.inl zz,tv⟩
theorem m0 (v:AValue) {r:Int} (hr:gN v=some r):Con Tryz.prog 112 [.agg [cI v.Kind,cI v.N,cS v.S,dV ((lM AValue.cs v.L))]] [] (.s (aI r)) []:=by
 unfold gN at hr
 refine ap 11 0 [.tmp 2] [(0,.s (.agg [cI v.Kind,cI v.N,cS v.S,dV ((lM AValue.cs v.L))]))] Tryz.func112 zz zz zz zz zz zz zz zz fun w g M ρ _=>(af (ac (ak 0 (aP (j:=0) (cs:=[cI v.Kind,cI v.N,cS v.S,dV ((lM AValue.cs v.L))]) zz zz zz zz zz) (aa (aI 0) (ab (af (ac (aa (.agg [cI v.Kind,cI v.N,cS v.S,dV ((lM AValue.cs v.L))]) ?_))))))))
 obtain ⟨x1,hx1,hr⟩:=bq hr
 refine ae (aL (tau []) (.tup [.agg [cI x1.1.Kind,dV ((lM AType.cs x1.1.Of))],aI x1.2]) [] (qo _ hx1) zz ⟨.inl zz,tv⟩ tv xw tv) (ae (dk (v:=.tup [.agg [cI x1.1.Kind,dV ((lM AType.cs x1.1.Of))],aI x1.2]) zz zz) (aa (.agg [cI x1.1.Kind,dV ((lM AType.cs x1.1.Of))]) (aa (aI x1.2) (ak 0 (aw (j:=1) (cs:=[cI 0,.d (.v (.slice none 0 0))]) zz zz zz zz) (aq (al (cs':=[cI x1.1.Kind,dV ((lM AType.cs x1.1.Of))]) zz zz zz zz zz zz zz zz zz) (aa (aI x1.2) (ab (af (ac (aa (aI x1.2) (aa (aI x1.2) (ab (ao ?_)))))))))))))
 obtain rfl:=sq hr
 exact ⟨_,zz,.inl zz,tv⟩
end Go.Proofs.YtfoigppmcelgfaaGreatDoor
end
section
set_option maxRecDepth 100000
namespace Go.Proofs.YtfoigppmcelgfaaGreatDoor
open Go Go.E2
theorem mi (self0:View→Int→Int→Option (Int×Int)) (hself0:∀ (v:View) (depth:Int) (met:Int) {r:Int×Int},self0 v depth met=some r→Con Tryz.prog 75 [.agg [cI v.Kind,cS v.Key,dV ((lM Attr.cs v.Attrs)),dV ((lM Action.cs v.Actions)),dV ((lM View.cs v.Kids))],aI depth,aI met] [] (.tup [aI r.1,aI r.2]) []) (v:View) (depth:Int) (met:Int) {r:Int×Int} (hr:dX self0 v depth met=some r):Con Tryz.prog 75 [.agg [cI v.Kind,cS v.Key,dV ((lM Attr.cs v.Attrs)),dV ((lM Action.cs v.Actions)),dV ((lM View.cs v.Kids))],aI depth,aI met] [] (.tup [aI r.1,aI r.2]) []:=by
 unfold dX at hr
 refine ap 230 0 [.tmp 6,.tmp 7] [(0,.s (.agg [cI v.Kind,cS v.Key,dV ((lM Attr.cs v.Attrs)),dV ((lM Action.cs v.Actions)),dV ((lM View.cs v.Kids))])),(1,.s (aI depth)),(2,.s (aI met))] Tryz.func75 zz zz zz zz zz zz zz zz fun w g M ρ _=>(af (ac (ak 0 (aP (j:=0) (cs:=[cI v.Kind,cS v.Key,dV ((lM Attr.cs v.Attrs)),dV ((lM Action.cs v.Actions)),dV ((lM View.cs v.Kids))]) zz zz zz zz zz) (aa (aI 0) (aa (aI 0) (ab (af (ac (aa (aI met) (aa (aI (wq (met+1))) (aa (aI (wq (met+1))) (ab (af (af (ac ?_)))))))))))))))
 refine aa (aI depth) (aa (aB (decide (depth>16))) (ab ?_))
 refine ah (b:=decide (depth>16)) zz (fun h1=>?_) (fun h1=>?_)
 have hr:=selT h1 hr
 refine af (ac (aa (aI (wq (met+1))) (aa (aI (wq (met+1))) (aa (aI 8) (ab (ao ?_))))))
 obtain rfl:=sq hr
 exact ⟨_,zz,.inl zz,tv⟩
 have hr:=selF h1 hr
 refine aj (af (af (ac (aa (aI (wq (met+1))) (aa (aB (decide ((wq (met+1))>400))) (ab ?_))))))
 refine ah (b:=decide ((wq (met+1))>400)) zz (fun h2=>?_) (fun h2=>?_)
 have hr:=selT h2 hr
 refine af (ac (aa (aI (wq (met+1))) (aa (aI (wq (met+1))) (aa (aI 2) (ab (ao ?_))))))
 obtain rfl:=sq hr
 exact ⟨_,zz,.inl zz,tv⟩
 have hr:=selF h2 hr
 refine aj (af (af (ac (aa (.c (.loc 0 0)) (aa (aI v.Kind) (aa (aB (decide (v.Kind<1))) (aa (aB (decide (v.Kind<1))) (ae (ai (x:=.c (.loc 0 0)) zz zz tv zz) (ae (ai (x:=aI v.Kind) zz zz ⟨fun h=>h,tv⟩ zz) (ae (ai (x:=aB (decide (v.Kind>13))) zz zz ⟨fun h=>h,tv⟩ zz) ?_))))))))))
 refine ae (bj zz zz (fun h=>by rw [h];rfl) zz) ?_
 refine ab ?_
 refine ah (b:=(decide (v.Kind<1))||(decide (v.Kind>13))) zz (fun h3=>?_) (fun h3=>?_)
 have hr:=selT h3 hr
 refine af (ac (aa (aI (wq (met+1))) (aa (aI (wq (met+1))) (aa (aI 9) (ab (ao ?_))))))
 obtain rfl:=sq hr
 exact ⟨_,zz,.inl zz,tv⟩
 have hr:=selF h3 hr
 refine aj (af (af (ac (aa (.c (.loc 0 1)) (aa (aS v.Key) ?_)))))
 obtain ⟨x4,hx4,hr⟩:=bq hr
 refine ae (aL (tau []) (.s (aB x4)) [] (uZ _ hx4) zz ⟨.inl zz,tv⟩ tv xJ tv) (aa (aB (!x4)) (ab ?_))
 refine ah (b:=!x4) zz (fun h5=>?_) (fun h5=>?_)
 have hr:=selT h5 hr
 refine af (ac (aa (aI (wq (met+1))) (aa (aI (wq (met+1))) (aa (aI 4) (ab (ao ?_))))))
 obtain rfl:=sq hr
 exact ⟨_,zz,.inl zz,tv⟩
 have hr:=selF h5 hr
 refine aj (af (af (ac (aa (.c (.loc 0 2)) (aa (aV (((lM Attr.cs v.Attrs)))) (ae (aK (enc:=Attr.cs) v.Attrs zz zz tv zz) (aa (aB (decide ((v.Attrs.length:Int)>24))) (aa (aB (decide ((v.Attrs.length:Int)>24))) (ae (ai (x:=.c (.loc 0 3)) zz zz tv zz) (ae (ai (x:=aV (((lM Action.cs v.Actions)))) zz zz ⟨fun h=>h,tv⟩ zz) (ae (cy (enc:=Action.cs) v.Actions zz zz zz ⟨fun h=>h,tv⟩ zz) (ae (ai (x:=aB (decide ((v.Actions.length:Int)>24))) zz zz ⟨fun h=>h,tv⟩ zz) ?_))))))))))))
 refine ae (bj zz zz (fun h=>by rw [h];rfl) zz) ?_
 refine aa (aB ((decide ((v.Attrs.length:Int)>24))||(decide ((v.Actions.length:Int)>24)))) (ae (ai (x:=.c (.loc 0 4)) zz zz tv zz) (ae (ai (x:=aV (((lM View.cs v.Kids)))) zz zz ⟨fun h=>h,tv⟩ zz) (ae (cy (enc:=View.cs) v.Kids zz zz zz ⟨fun h=>h,tv⟩ zz) (ae (ai (x:=aB (decide ((v.Kids.length:Int)>100))) zz zz ⟨fun h=>h,tv⟩ zz) ?_))))
 refine ae (bj zz zz (fun h=>by rw [h];rfl) zz) ?_
 refine ab ?_
 refine ah (b:=((decide ((v.Attrs.length:Int)>24))||(decide ((v.Actions.length:Int)>24)))||(decide ((v.Kids.length:Int)>100))) zz (fun h6=>?_) (fun h6=>?_)
 have hr:=selT h6 hr
 refine af (ac (aa (aI (wq (met+1))) (aa (aI (wq (met+1))) (aa (aI 2) (ab (ao ?_))))))
 obtain rfl:=sq hr
 exact ⟨_,zz,.inl zz,tv⟩
 have hr:=selF h6 hr
 refine aj ?_
 obtain ⟨k8,hk8,hr⟩:=ax hr
 refine ay (fun (s7:Unit)=>⟨[(1,.s (aI depth)),(2,.s (aI (wq (met+1)))),(3,.s (.c (.loc 0 0)))],[(0,.blk [cI v.Kind,cS v.Key,dV ((lM Attr.cs v.Attrs)),dV ((lM Action.cs v.Actions)),dV ((lM View.cs v.Kids))] 27)],0⟩) k8 r (fun s7 hr=>?_) ?_
 rw [hk8] at hr
 obtain ⟨k10,hk10,hr⟩:=ax hr
 refine ay (fun (s9:Unit)=>⟨[(1,.s (aI depth)),(2,.s (aI (wq (met+1)))),(3,.s (.c (.loc 0 0)))],[(0,.blk [cI v.Kind,cS v.Key,dV ((lM Attr.cs v.Attrs)),dV ((lM Action.cs v.Actions)),dV ((lM View.cs v.Kids))] 27)],0⟩) k10 r (fun s9 hr=>?_) ?_
 rw [hk10] at hr
 obtain ⟨k12,hk12,hr⟩:=ax hr
 refine ay (fun (s11:Unit)=>⟨[(1,.s (aI depth)),(2,.s (aI (wq (met+1)))),(3,.s (.c (.loc 0 0)))],[(0,.blk [cI v.Kind,cS v.Key,dV ((lM Attr.cs v.Attrs)),dV ((lM Action.cs v.Actions)),dV ((lM View.cs v.Kids))] 27)],0⟩) k12 r (fun s11 hr=>?_) ?_
 rw [hk12] at hr
 obtain ⟨k14,hk14,hr⟩:=ax hr
 refine ay (fun (s13:Int)=>⟨[(2,.s (aI s13))],[],0⟩) k14 r (fun s13 hr=>?_) ?_
 rw [hk14] at hr
 refine af (ac (aa (aI s13) (aa (aI s13) (aa (aI 0) (ab (ao ?_))))))
 obtain rfl:=sq hr
 exact ⟨_,zz,.inl zz,tv⟩
 clear hk14
 refine af (ac (aa (aI 0) (ab (am (az (fun (s15:Int×Int)=>⟨[(1,.s (aI depth)),(2,.s (aI s15.1)),(3,.s (.c (.loc 0 0))),(16,.s (aI s15.2))],[(0,.blk [cI v.Kind,cS v.Key,dV ((lM Attr.cs v.Attrs)),dV ((lM Action.cs v.Actions)),dV ((lM View.cs v.Kids))] 27)],0⟩) hr (Conv.mk (tau []) ⟨cl zz,cl zz,cl zz,cl zz,tv⟩ ⟨zz,tv⟩ zz zz zz zz) ?_)))))
 clear hr
 intro again16 s15 hr
 unfold du at hr
 refine af (af (ac (aa (aI s15.2) (aa (.c (.loc 0 4)) (aa (aV (((lM View.cs v.Kids)))) (ae (aK (enc:=View.cs) v.Kids zz zz tv zz) (aa (aB (decide (s15.2<(v.Kids.length:Int)))) (ab ?_))))))))
 refine ah (b:=decide (s15.2<(v.Kids.length:Int))) zz (fun h17=>?_) (fun h17=>?_)
 have hr:=selT h17 hr
 refine aj (af (am (af (ac (aa (.c (.loc 0 4)) (aa (aV (((lM View.cs v.Kids)))) (aa (aI s15.2) ?_)))))))
 obtain ⟨x18,hx18,hr⟩:=bq hr
 refine ae (aM (enc:=View.cs) (L:=v.Kids) (row:=[dI x18.Kind,dS x18.Key,.sl (lM Attr.cs x18.Attrs),.sl (lM Action.cs x18.Actions),.sl (lM View.cs x18.Kids)]) hx18 (View.cs_eq _) zz zz zz (fun x=>by rw [View.cs_eq];rfl) tv zz) ?_
 refine aa (.agg [cI x18.Kind,cS x18.Key,dV ((lM Attr.cs x18.Attrs)),dV ((lM Action.cs x18.Actions)),dV ((lM View.cs x18.Kids))]) (aa (aI depth) (aa (aI (wq (depth+1))) (aa (aI s15.1) ?_)))
 obtain ⟨x19,hx19,hr⟩:=bq hr
 refine ae (aL (tau []) (.tup [aI x19.1,aI x19.2]) [] (hself0 _ _ _ hx19) zz ⟨.inl zz,.inl zz,.inl zz,tv⟩ tv vT tv) (ae (dk (v:=.tup [aI x19.1,aI x19.2]) zz zz) (aa (aI x19.1) (aa (aI x19.2) (aa (aI x19.1) (aa (aI x19.2) (ab (af (ac (aa (aI x19.1) (aa (aI x19.1) (ab (af (ac (aa (aI x19.2) (aa (aB (x19.2 != 0)) ?_)))))))))))))))
 refine ab ?_
 refine ah (b:=x19.2 != 0) zz (fun h20=>?_) (fun h20=>?_)
 have hr:=selT h20 hr
 refine af (ac (aa (aI x19.1) (aa (aI x19.2) (aa (aI x19.1) (aa (aI x19.2) (ab (ao ?_)))))))
 obtain rfl:=sq hr
 exact ⟨_,zz,.inl zz,tv⟩
 have hr:=selF h20 hr
 refine aj (ac (aa (aI s15.2) (aa (aI (wq (s15.2+1))) (aa (aI (wq (s15.2+1))) (ab ?_)))))
 exact ⟨(x19.1,wq (s15.2+1)),hr,(Conv.mk (tau []) ⟨cl zz,cl zz,cl zz,cl zz,tv⟩ ⟨zz,tv⟩ zz zz zz zz)⟩
 have hr:=selF h17 hr
 refine aE ?_
 exact ⟨s15.1,hr,(Conv.mk (tau []) ⟨cl zz,tv⟩ tv zz zz zz zz)⟩
 clear hk12
 refine af (ac (aa (aI 0) (ab (am (az (fun (s21:Int)=>⟨[(1,.s (aI depth)),(2,.s (aI (wq (met+1)))),(3,.s (.c (.loc 0 0))),(14,.s (aI s21))],[(0,.blk [cI v.Kind,cS v.Key,dV ((lM Attr.cs v.Attrs)),dV ((lM Action.cs v.Actions)),dV ((lM View.cs v.Kids))] 27)],0⟩) hr (Conv.mk (tau []) ⟨cl zz,cl zz,cl zz,cl zz,tv⟩ ⟨zz,tv⟩ zz zz zz zz) ?_)))))
 clear hr
 intro again22 s21 hr
 unfold dr at hr
 refine af (af (ac (aa (aI s21) (aa (.c (.loc 0 4)) (aa (aV (((lM View.cs v.Kids)))) (ae (aK (enc:=View.cs) v.Kids zz zz tv zz) (aa (aB (decide (s21<(v.Kids.length:Int)))) (ab ?_))))))))
 refine ah (b:=decide (s21<(v.Kids.length:Int))) zz (fun h23=>?_) (fun h23=>?_)
 have hr:=selT h23 hr
 refine aj ?_
 obtain ⟨k25,hk25,hr⟩:=ax hr
 refine ay (fun (s24:Unit)=>⟨[(1,.s (aI depth)),(2,.s (aI (wq (met+1)))),(3,.s (.c (.loc 0 0))),(14,.s (aI s21))],[(0,.blk [cI v.Kind,cS v.Key,dV ((lM Attr.cs v.Attrs)),dV ((lM Action.cs v.Actions)),dV ((lM View.cs v.Kids))] 27)],0⟩) k25 r (fun s24 hr=>?_) ?_
 rw [hk25] at hr
 refine ac (aa (aI s21) (aa (aI (wq (s21+1))) (aa (aI (wq (s21+1))) (ab ?_))))
 exact ⟨wq (s21+1),hr,(Conv.mk (tau []) ⟨cl zz,cl zz,cl zz,cl zz,tv⟩ ⟨zz,tv⟩ zz zz zz zz)⟩
 clear hk25
 refine am (af (ac (aa (aI 0) (ab ?_))))
 obtain ⟨k27,hk27,hr⟩:=ax hr
 refine bZ (fun (s26:Unit)=>⟨[(1,.s (aI depth)),(2,.s (aI (wq (met+1)))),(3,.s (.c (.loc 0 0))),(14,.s (aI s21))],[(0,.blk [cI v.Kind,cS v.Key,dV ((lM Attr.cs v.Attrs)),dV ((lM Action.cs v.Actions)),dV ((lM View.cs v.Kids))] 27)],0⟩) k27 r (fun s26 hr=>?_) ?_
 rw [hk27] at hr
 exact ⟨(),hr,(Conv.mk (tau []) ⟨cl zz,cl zz,cl zz,cl zz,tv⟩ ⟨zz,tv⟩ zz zz zz zz)⟩
 clear hk27
 refine am (az (fun (s28:Int)=>⟨[(1,.s (aI depth)),(2,.s (aI (wq (met+1)))),(3,.s (.c (.loc 0 0))),(14,.s (aI s21)),(15,.s (aI s28))],[(0,.blk [cI v.Kind,cS v.Key,dV ((lM Attr.cs v.Attrs)),dV ((lM Action.cs v.Actions)),dV ((lM View.cs v.Kids))] 27)],0⟩) hr (Conv.mk (tau []) ⟨cl zz,cl zz,cl zz,cl zz,cl zz,tv⟩ ⟨zz,tv⟩ zz zz zz zz) ?_)
 clear hr
 intro again29 s28 hr
 unfold dt at hr
 refine af (af (ac (aa (aI s28) (aa (aI s21) (aa (aB (decide (s28<s21))) (ab ?_))))))
 refine ah (b:=decide (s28<s21)) zz (fun h30=>?_) (fun h30=>?_)
 have hr:=selT h30 hr
 refine aj (af (am (af (aF (by kernel_rfl) (ar (.c (.loc 0 4)) zz tv zz (ar (aV (((lM View.cs v.Kids)))) zz tv zz (ar (aI s21) zz tv zz ?_)))))))
 obtain ⟨x31,hx31,hr⟩:=bq hr
 refine av (aM (enc:=View.cs) (L:=v.Kids) (row:=[dI x31.Kind,dS x31.Key,.sl (lM Attr.cs x31.Attrs),.sl (lM Action.cs x31.Actions),.sl (lM View.cs x31.Kids)]) hx31 (View.cs_eq _) zz zz zz (fun x=>by rw [View.cs_eq];rfl) tv zz) ?_
 refine ar (.c (.pt [dS x31.Key,.sl (lM Attr.cs x31.Attrs),.sl (lM Action.cs x31.Actions),.sl (lM View.cs x31.Kids)])) zz tv zz (ar (aS x31.Key) zz tv zz (ar (aB (!(x31.Key.toList==(ByteArray.mk #[]).toList))) zz tv zz (ar (aB (!(x31.Key.toList==(ByteArray.mk #[]).toList))) zz tv zz (av (ai (x:=.c (.loc 0 4)) zz zz tv zz) (av (ai (x:=aV (((lM View.cs v.Kids)))) zz zz ⟨fun h=>h,tv⟩ zz) (av (ai (x:=aI s21) zz zz tv zz) ?_))))))
 obtain ⟨x32,hx32,hr⟩:=bq hr
 refine av (eR (enc:=View.cs) (L:=v.Kids) (row:=[dI x32.Kind,dS x32.Key,.sl (lM Attr.cs x32.Attrs),.sl (lM Action.cs x32.Actions),.sl (lM View.cs x32.Kids)]) (cQ hx32) (View.cs_eq _) zz zz zz zz (fun x=>by rw [View.cs_eq];rfl) ⟨fun h=>h,⟨fun h=>h,tv⟩⟩ zz) ?_
 refine av (ai (x:=.c (.pt [dS x32.Key,.sl (lM Attr.cs x32.Attrs),.sl (lM Action.cs x32.Actions),.sl (lM View.cs x32.Kids)])) zz zz ⟨fun h=>h,tv⟩ zz) (av (ai (x:=aS x32.Key) zz zz ⟨fun h=>h,tv⟩ zz) (av (ai (x:=.c (.loc 0 4)) zz zz tv zz) (av (ai (x:=aV (((lM View.cs v.Kids)))) zz zz ⟨fun h=>h,tv⟩ zz) (av (ai (x:=aI s28) zz zz tv zz) ?_))))
 obtain ⟨x33,hx33,hr⟩:=bq hr
 refine av (eR (enc:=View.cs) (L:=v.Kids) (row:=[dI x33.Kind,dS x33.Key,.sl (lM Attr.cs x33.Attrs),.sl (lM Action.cs x33.Actions),.sl (lM View.cs x33.Kids)]) (cQ hx33) (View.cs_eq _) zz zz zz zz (fun x=>by rw [View.cs_eq];rfl) ⟨fun h=>h,⟨fun h=>h,tv⟩⟩ zz) ?_
 refine av (ai (x:=.c (.pt [dS x33.Key,.sl (lM Attr.cs x33.Attrs),.sl (lM Action.cs x33.Actions),.sl (lM View.cs x33.Kids)])) zz zz ⟨fun h=>h,tv⟩ zz) (av (ai (x:=aS x33.Key) zz zz ⟨fun h=>h,tv⟩ zz) (av (ai (x:=aB (x32.Key.toList==x33.Key.toList)) zz zz ⟨fun h=>h,⟨fun h=>h,tv⟩⟩ zz) (av (bb zz zz (fun h=>h) zz) (aY (by kernel_rfl) ?_))))
 refine ah (b:=(!(x31.Key.toList==(ByteArray.mk #[]).toList))&&(x32.Key.toList==x33.Key.toList)) zz (fun h34=>?_) (fun h34=>?_)
 have hr:=selT h34 hr
 refine af (ac (aa (aI (wq (met+1))) (aa (aI (wq (met+1))) (aa (aI 6) (ab (ao ?_))))))
 obtain rfl:=sq hr
 exact ⟨_,zz,.inl zz,tv⟩
 have hr:=selF h34 hr
 refine aj (ac (aa (aI s28) (aa (aI (wq (s28+1))) (aa (aI (wq (s28+1))) (ab ?_)))))
 exact ⟨wq (s28+1),hr,(Conv.mk (tau []) ⟨cl zz,cl zz,cl zz,cl zz,cl zz,tv⟩ ⟨zz,tv⟩ zz zz zz zz)⟩
 have hr:=selF h30 hr
 refine aE ?_
 exact ⟨(),hr,(Conv.mk (tau []) ⟨cl zz,cl zz,cl zz,cl zz,tv⟩ ⟨zz,tv⟩ zz zz zz zz)⟩
 have hr:=selF h23 hr
 refine aE ?_
 exact ⟨(),hr,(Conv.mk (tau []) ⟨cl zz,cl zz,cl zz,tv⟩ ⟨zz,tv⟩ zz zz zz zz)⟩
 clear hk10
 refine af (ac (aa (aI 0) (ab (am (az (fun (s35:Int)=>⟨[(1,.s (aI depth)),(2,.s (aI (wq (met+1)))),(3,.s (.c (.loc 0 0))),(10,.s (aI s35))],[(0,.blk [cI v.Kind,cS v.Key,dV ((lM Attr.cs v.Attrs)),dV ((lM Action.cs v.Actions)),dV ((lM View.cs v.Kids))] 27)],0⟩) hr (Conv.mk (tau []) ⟨cl zz,cl zz,cl zz,cl zz,tv⟩ ⟨zz,tv⟩ zz zz zz zz) ?_)))))
 clear hr
 intro again36 s35 hr
 unfold dq at hr
 refine af (af (ac (aa (aI s35) (aa (.c (.loc 0 3)) (aa (aV (((lM Action.cs v.Actions)))) (ae (aK (enc:=Action.cs) v.Actions zz zz tv zz) (aa (aB (decide (s35<(v.Actions.length:Int)))) (ab ?_))))))))
 refine ah (b:=decide (s35<(v.Actions.length:Int))) zz (fun h37=>?_) (fun h37=>?_)
 have hr:=selT h37 hr
 refine aj ?_
 obtain ⟨k39,hk39,hr⟩:=ax hr
 refine ay (fun (s38:Unit)=>⟨[(1,.s (aI depth)),(2,.s (aI (wq (met+1)))),(3,.s (.c (.loc 0 0))),(10,.s (aI s35))],[(0,.blk [cI v.Kind,cS v.Key,dV ((lM Attr.cs v.Attrs)),dV ((lM Action.cs v.Actions)),dV ((lM View.cs v.Kids))] 27)],0⟩) k39 r (fun s38 hr=>?_) ?_
 rw [hk39] at hr
 refine ac (aa (aI s35) (aa (aI (wq (s35+1))) (aa (aI (wq (s35+1))) (ab ?_))))
 exact ⟨wq (s35+1),hr,(Conv.mk (tau []) ⟨cl zz,cl zz,cl zz,cl zz,tv⟩ ⟨zz,tv⟩ zz zz zz zz)⟩
 clear hk39
 refine am (af (ac (aa (.c (.loc 0 3)) (aa (aV (((lM Action.cs v.Actions)))) (aa (aI s35) ?_)))))
 obtain ⟨x40,hx40,hr⟩:=bq hr
 refine ae (aM (enc:=Action.cs) (L:=v.Actions) (row:=[dS x40.Event,dS x40.Instance,dS x40.Handler,.sl (lM AValue.cs x40.Args)]) hx40 zz zz zz zz (fun _=>zz) tv zz) (aa (.agg [cS x40.Event,cS x40.Instance,cS x40.Handler,dV ((lM AValue.cs x40.Args))]) (ak 0 (aw (j:=1) (cs:=[cS ByteArray.empty,cS ByteArray.empty,cS ByteArray.empty,.d (.v (.slice none 0 0))]) zz zz zz zz) (aq (al (cs':=[cS x40.Event,cS x40.Instance,cS x40.Handler,dV ((lM AValue.cs x40.Args))]) zz zz zz zz zz zz zz zz zz) (ab (af (af (ac (aa (.c (.loc 1 0)) (aa (aS x40.Event) ?_)))))))))
 obtain ⟨x41,hx41,hr⟩:=bq hr
 refine ae (aL (tau []) (.s (aB x41)) [] (lC _ hx41) zz ⟨.inl zz,tv⟩ tv pr tv) (aa (aB (!x41)) (aa (aB (!x41)) (ae (ai (x:=.c (.loc 1 2)) zz zz tv zz) (ae (ai (x:=aS x40.Handler) zz zz ⟨fun h=>h,tv⟩ zz) ?_))))
 obtain ⟨x42,hx42,hr⟩:=bq hr
 refine ae (a9 (x:=aB x42) (fun hg=>lC _ (cQ hx42 hg)) zz zz ⟨.inl zz,tv⟩ ⟨fun h=>h,tv⟩ pr zz zz zz) (ae (ai (x:=aB (!x42)) zz zz ⟨fun h=>h,tv⟩ zz) ?_)
 refine ae (bj zz zz (fun h=>by rw [h];rfl) zz) ?_
 refine ab ?_
 refine ah (b:=(!x41)||(!x42)) zz (fun h43=>?_) (fun h43=>?_)
 have hr:=selT h43 hr
 refine af (ac (aa (aI (wq (met+1))) (aa (aI (wq (met+1))) (aa (aI 4) (ab (ao ?_))))))
 obtain rfl:=sq hr
 exact ⟨_,zz,.inl zz,tv⟩
 have hr:=selF h43 hr
 refine aj (af (af (aF (by kernel_rfl) (ar (aI s35) zz tv zz (ar (aB (decide (s35>0))) zz tv zz (ar (aB (decide (s35>0))) zz tv zz (av (ai (x:=.c (.loc 1 0)) zz zz tv zz) (av (ai (x:=aS x40.Event) zz zz ⟨fun h=>h,tv⟩ zz) (av (ai (x:=.c (.loc 0 3)) zz zz tv zz) (av (ai (x:=aV (((lM Action.cs v.Actions)))) zz zz ⟨fun h=>h,tv⟩ zz) (av (ai (x:=aI s35) zz zz tv zz) (av (ai (x:=aI (wq (s35 - 1))) zz zz ⟨fun h=>h,tv⟩ zz) ?_))))))))))))
 obtain ⟨x44,hx44,hr⟩:=bq hr
 refine av (eR (enc:=Action.cs) (L:=v.Actions) (row:=[dS x44.Event,dS x44.Instance,dS x44.Handler,.sl (lM AValue.cs x44.Args)]) (cQ hx44) zz zz zz zz zz (fun _=>zz) ⟨fun h=>h,⟨fun h=>h,tv⟩⟩ zz) (av (ai (x:=.c (.pt [dS x44.Event,dS x44.Instance,dS x44.Handler,.sl (lM AValue.cs x44.Args)])) zz zz ⟨fun h=>h,tv⟩ zz) (av (ai (x:=aS x44.Event) zz zz ⟨fun h=>h,tv⟩ zz) (av (ai (x:=aB (Op.bytesLess x40.Event.toList x44.Event.toList||x40.Event.toList==x44.Event.toList)) zz zz ⟨fun h=>h,⟨fun h=>h,tv⟩⟩ zz) (av (bb zz zz (fun h=>h) zz) (aY (by kernel_rfl) ?_)))))
 refine ah (b:=(decide (s35>0))&&(Op.bytesLess x40.Event.toList x44.Event.toList||x40.Event.toList==x44.Event.toList)) zz (fun h45=>?_) (fun h45=>?_)
 have hr:=selT h45 hr
 refine af (ac (aa (aI (wq (met+1))) (aa (aI (wq (met+1))) (aa (aI 10) (ab (ao ?_))))))
 obtain rfl:=sq hr
 exact ⟨_,zz,.inl zz,tv⟩
 have hr:=selF h45 hr
 refine aj (af (af (ac (aa (.c (.loc 1 1)) (aa (aS x40.Instance) (aa (aI (x40.Instance.size:Int)) (aa (aB (decide ((x40.Instance.size:Int)>400))) (aa (aB (decide ((x40.Instance.size:Int)>400))) (ae (ai (x:=.c (.loc 1 3)) zz zz tv zz) (ae (ai (x:=aV (((lM AValue.cs x40.Args)))) zz zz ⟨fun h=>h,tv⟩ zz) (ae (cy (enc:=AValue.cs) x40.Args zz zz zz ⟨fun h=>h,tv⟩ zz) (ae (ai (x:=aB (decide ((x40.Args.length:Int)>100))) zz zz ⟨fun h=>h,tv⟩ zz) ?_))))))))))))
 refine ae (bj zz zz (fun h=>by rw [h];rfl) zz) ?_
 refine ab ?_
 refine ah (b:=(decide ((x40.Instance.size:Int)>400))||(decide ((x40.Args.length:Int)>100))) zz (fun h46=>?_) (fun h46=>?_)
 have hr:=selT h46 hr
 refine af (ac (aa (aI (wq (met+1))) (aa (aI (wq (met+1))) (aa (aI 2) (ab (ao ?_))))))
 obtain rfl:=sq hr
 exact ⟨_,zz,.inl zz,tv⟩
 have hr:=selF h46 hr
 refine aj (af (ac (aa (aI 0) (ab ?_))))
 obtain ⟨k48,hk48,hr⟩:=ax hr
 refine bZ (fun (s47:Unit)=>⟨[(1,.s (aI depth)),(2,.s (aI (wq (met+1)))),(3,.s (.c (.loc 0 0))),(10,.s (aI s35))],[(0,.blk [cI v.Kind,cS v.Key,dV ((lM Attr.cs v.Attrs)),dV ((lM Action.cs v.Actions)),dV ((lM View.cs v.Kids))] 27)],0⟩) k48 r (fun s47 hr=>?_) ?_
 rw [hk48] at hr
 exact ⟨(),hr,(Conv.mk (tau []) ⟨cl zz,cl zz,cl zz,cl zz,tv⟩ ⟨zz,tv⟩ zz zz zz zz)⟩
 clear hk48
 refine am (az (fun (s49:Int)=>⟨[(1,.s (aI depth)),(2,.s (aI (wq (met+1)))),(3,.s (.c (.loc 0 0))),(10,.s (aI s35)),(11,.s (.c (.loc 1 0))),(12,.s (aI s49))],[(0,.blk [cI v.Kind,cS v.Key,dV ((lM Attr.cs v.Attrs)),dV ((lM Action.cs v.Actions)),dV ((lM View.cs v.Kids))] 27),(1,.blk [cS x40.Event,cS x40.Instance,cS x40.Handler,dV ((lM AValue.cs x40.Args))] 93)],0⟩) hr (Conv.mk (tau []) ⟨cl zz,cl zz,cl zz,cl zz,cl zz,cl zz,tv⟩ ⟨zz,zz,tv⟩ zz zz zz zz) ?_)
 clear hr
 intro again50 s49 hr
 unfold cq at hr
 refine af (af (ac (aa (aI s49) (aa (.c (.loc 1 3)) (aa (aV (((lM AValue.cs x40.Args)))) (ae (aK (enc:=AValue.cs) x40.Args zz zz tv zz) (aa (aB (decide (s49<(x40.Args.length:Int)))) (ab ?_))))))))
 refine ah (b:=decide (s49<(x40.Args.length:Int))) zz (fun h51=>?_) (fun h51=>?_)
 have hr:=selT h51 hr
 refine aj (af (am (af (ac (aa (.c (.loc 1 3)) (aa (aV (((lM AValue.cs x40.Args)))) (aa (aI s49) ?_)))))))
 obtain ⟨x52,hx52,hr⟩:=bq hr
 refine ae (aM (enc:=AValue.cs) (L:=x40.Args) (row:=[dI x52.Kind,dI x52.N,dS x52.S,.sl (lM AValue.cs x52.L)]) hx52 (AValue.cs_eq _) zz zz zz (fun x=>by rw [AValue.cs_eq];rfl) tv zz) ?_
 refine aa (.agg [cI x52.Kind,cI x52.N,cS x52.S,dV ((lM AValue.cs x52.L))]) ?_
 obtain ⟨x53,hx53,hr⟩:=bq hr
 refine ae (aL (tau []) (.s (aI x53)) [] (m0 _ hx53) zz ⟨.inl zz,tv⟩ tv tw tv) (aa (aI x53) (ab (af (ac (aa (aI x53) (aa (aB (x53 != 0)) (ab ?_)))))))
 refine ah (b:=x53 != 0) zz (fun h54=>?_) (fun h54=>?_)
 have hr:=selT h54 hr
 refine af (ac (aa (aI (wq (met+1))) (aa (aI x53) (aa (aI (wq (met+1))) (aa (aI x53) (ab (ao ?_)))))))
 obtain rfl:=sq hr
 exact ⟨_,zz,.inl zz,tv⟩
 have hr:=selF h54 hr
 refine aj (ac (aa (aI s49) (aa (aI (wq (s49+1))) (aa (aI (wq (s49+1))) (ab ?_)))))
 exact ⟨wq (s49+1),hr,(Conv.mk (tau []) ⟨cl zz,cl zz,cl zz,cl zz,cl zz,cl zz,tv⟩ ⟨zz,zz,tv⟩ zz zz zz zz)⟩
 have hr:=selF h51 hr
 refine aE ?_
 exact ⟨(),hr,(Conv.mk (tau []) ⟨cl zz,cl zz,cl zz,cl zz,tv⟩ ⟨zz,tv⟩ zz zz zz zz)⟩
 have hr:=selF h37 hr
 refine aE ?_
 exact ⟨(),hr,(Conv.mk (tau []) ⟨cl zz,cl zz,cl zz,tv⟩ ⟨zz,tv⟩ zz zz zz zz)⟩
 clear hk8
 refine af (ac (aa (aI 0) (ab (am (az (fun (s55:Int)=>⟨[(1,.s (aI depth)),(2,.s (aI (wq (met+1)))),(3,.s (.c (.loc 0 0))),(8,.s (aI s55))],[(0,.blk [cI v.Kind,cS v.Key,dV ((lM Attr.cs v.Attrs)),dV ((lM Action.cs v.Actions)),dV ((lM View.cs v.Kids))] 27)],0⟩) hr (Conv.mk (tau []) ⟨cl zz,cl zz,cl zz,cl zz,tv⟩ ⟨zz,tv⟩ zz zz zz zz) ?_)))))
 clear hr
 intro again56 s55 hr
 unfold dn at hr
 refine af (af (ac (aa (aI s55) (aa (.c (.loc 0 2)) (aa (aV (((lM Attr.cs v.Attrs)))) (ae (aK (enc:=Attr.cs) v.Attrs zz zz tv zz) (aa (aB (decide (s55<(v.Attrs.length:Int)))) (ab ?_))))))))
 refine ah (b:=decide (s55<(v.Attrs.length:Int))) zz (fun h57=>?_) (fun h57=>?_)
 have hr:=selT h57 hr
 refine aj (af (am (af (af (ac (aa (.c (.loc 0 2)) (aa (aV (((lM Attr.cs v.Attrs)))) (aa (aI s55) ?_))))))))
 obtain ⟨x58,hx58,hr⟩:=bq hr
 refine ae (aM (enc:=Attr.cs) (L:=v.Attrs) (row:=[dS x58.Name,dI x58.Value.Kind,dI x58.Value.N,dS x58.Value.S,.sl (lM AValue.cs x58.Value.L)]) hx58 zz zz zz zz (fun _=>zz) tv zz) (aa (.c (.pt [dS x58.Name,dI x58.Value.Kind,dI x58.Value.N,dS x58.Value.S,.sl (lM AValue.cs x58.Value.L)])) (aa (aS x58.Name) ?_))
 obtain ⟨x59,hx59,hr⟩:=bq hr
 refine ae (aL (tau []) (.s (aB x59)) [] (lC _ hx59) zz ⟨.inl zz,tv⟩ tv pr tv) (aa (aB (!x59)) (ab ?_))
 refine ah (b:=!x59) zz (fun h60=>?_) (fun h60=>?_)
 have hr:=selT h60 hr
 refine af (ac (aa (aI (wq (met+1))) (aa (aI (wq (met+1))) (aa (aI 4) (ab (ao ?_))))))
 obtain rfl:=sq hr
 exact ⟨_,zz,.inl zz,tv⟩
 have hr:=selF h60 hr
 refine aj (af (af (aF (by kernel_rfl) (ar (aI s55) zz tv zz (ar (aB (decide (s55>0))) zz tv zz (ar (aB (decide (s55>0))) zz tv zz (av (ai (x:=.c (.loc 0 2)) zz zz tv zz) (av (ai (x:=aV (((lM Attr.cs v.Attrs)))) zz zz ⟨fun h=>h,tv⟩ zz) (av (ai (x:=aI s55) zz zz tv zz) ?_)))))))))
 obtain ⟨x61,hx61,hr⟩:=bq hr
 refine av (eR (enc:=Attr.cs) (L:=v.Attrs) (row:=[dS x61.Name,dI x61.Value.Kind,dI x61.Value.N,dS x61.Value.S,.sl (lM AValue.cs x61.Value.L)]) (cQ hx61) zz zz zz zz zz (fun _=>zz) ⟨fun h=>h,⟨fun h=>h,tv⟩⟩ zz) (av (ai (x:=.c (.pt [dS x61.Name,dI x61.Value.Kind,dI x61.Value.N,dS x61.Value.S,.sl (lM AValue.cs x61.Value.L)])) zz zz ⟨fun h=>h,tv⟩ zz) (av (ai (x:=aS x61.Name) zz zz ⟨fun h=>h,tv⟩ zz) (av (ai (x:=.c (.loc 0 2)) zz zz tv zz) (av (ai (x:=aV (((lM Attr.cs v.Attrs)))) zz zz ⟨fun h=>h,tv⟩ zz) (av (ai (x:=aI s55) zz zz tv zz) (av (ai (x:=aI (wq (s55 - 1))) zz zz ⟨fun h=>h,tv⟩ zz) ?_))))))
 obtain ⟨x62,hx62,hr⟩:=bq hr
 refine av (eR (enc:=Attr.cs) (L:=v.Attrs) (row:=[dS x62.Name,dI x62.Value.Kind,dI x62.Value.N,dS x62.Value.S,.sl (lM AValue.cs x62.Value.L)]) (cQ hx62) zz zz zz zz zz (fun _=>zz) ⟨fun h=>h,⟨fun h=>h,tv⟩⟩ zz) (av (ai (x:=.c (.pt [dS x62.Name,dI x62.Value.Kind,dI x62.Value.N,dS x62.Value.S,.sl (lM AValue.cs x62.Value.L)])) zz zz ⟨fun h=>h,tv⟩ zz) (av (ai (x:=aS x62.Name) zz zz ⟨fun h=>h,tv⟩ zz) (av (ai (x:=aB (Op.bytesLess x61.Name.toList x62.Name.toList||x61.Name.toList==x62.Name.toList)) zz zz ⟨fun h=>h,⟨fun h=>h,tv⟩⟩ zz) (av (bb zz zz (fun h=>h) zz) (aY (by kernel_rfl) ?_)))))
 refine ah (b:=(decide (s55>0))&&(Op.bytesLess x61.Name.toList x62.Name.toList||x61.Name.toList==x62.Name.toList)) zz (fun h63=>?_) (fun h63=>?_)
 have hr:=selT h63 hr
 refine af (ac (aa (aI (wq (met+1))) (aa (aI (wq (met+1))) (aa (aI 10) (ab (ao ?_))))))
 obtain rfl:=sq hr
 exact ⟨_,zz,.inl zz,tv⟩
 have hr:=selF h63 hr
 refine aj (af (ac (aa (.c (.loc 0 2)) (aa (aV (((lM Attr.cs v.Attrs)))) (aa (aI s55) ?_)))))
 obtain ⟨x64,hx64,hr⟩:=bq hr
 refine ae (aM (enc:=Attr.cs) (L:=v.Attrs) (row:=[dS x64.Name,dI x64.Value.Kind,dI x64.Value.N,dS x64.Value.S,.sl (lM AValue.cs x64.Value.L)]) hx64 zz zz zz zz (fun _=>zz) tv zz) (aa (.c (.pt [dI x64.Value.Kind,dI x64.Value.N,dS x64.Value.S,.sl (lM AValue.cs x64.Value.L)])) (aa (.agg [cI x64.Value.Kind,cI x64.Value.N,cS x64.Value.S,dV ((lM AValue.cs x64.Value.L))]) ?_))
 obtain ⟨x65,hx65,hr⟩:=bq hr
 refine ae (aL (tau []) (.s (aI x65)) [] (m0 _ hx65) zz ⟨.inl zz,tv⟩ tv tw tv) (aa (aI x65) (ab (af (ac (aa (aI x65) (aa (aB (x65 != 0)) (ab ?_)))))))
 refine ah (b:=x65 != 0) zz (fun h66=>?_) (fun h66=>?_)
 have hr:=selT h66 hr
 refine af (ac (aa (aI (wq (met+1))) (aa (aI x65) (aa (aI (wq (met+1))) (aa (aI x65) (ab (ao ?_)))))))
 obtain rfl:=sq hr
 exact ⟨_,zz,.inl zz,tv⟩
 have hr:=selF h66 hr
 refine aj (ac (aa (aI s55) (aa (aI (wq (s55+1))) (aa (aI (wq (s55+1))) (ab ?_)))))
 exact ⟨wq (s55+1),hr,(Conv.mk (tau []) ⟨cl zz,cl zz,cl zz,cl zz,tv⟩ ⟨zz,tv⟩ zz zz zz zz)⟩
 have hr:=selF h57 hr
 refine aE ?_
 exact ⟨(),hr,(Conv.mk (tau []) ⟨cl zz,cl zz,cl zz,tv⟩ ⟨zz,tv⟩ zz zz zz zz)⟩
theorem mh:∀ n:Nat,(∀ (v:View) (depth:Int) (met:Int) {r:Int×Int},ew n v depth met=some r→Con Tryz.prog 75 [.agg [cI v.Kind,cS v.Key,dV ((lM Attr.cs v.Attrs)),dV ((lM Action.cs v.Actions)),dV ((lM View.cs v.Kids))],aI depth,aI met] [] (.tup [aI r.1,aI r.2]) [])∧True:=by
 intro n
 induction n with
 | zero=>exact ⟨(by intros;rename_i hr;cases hr),tv⟩
 | succ n ih=>exact ⟨(by intros;rename_i hr;exact mi _ ih.1 _ _ _ hr),tv⟩
theorem nE (n:Nat) (v:View) (depth:Int) (met:Int) {r:Int×Int} (hr:ew n v depth met=some r):Con Tryz.prog 75 [.agg [cI v.Kind,cS v.Key,dV ((lM Attr.cs v.Attrs)),dV ((lM Action.cs v.Actions)),dV ((lM View.cs v.Kids))],aI depth,aI met] [] (.tup [aI r.1,aI r.2]) []:=(mh n).1 v depth met hr
theorem j8 (v:View) {r:Int} (hr:dv v=some r):Con Tryz.prog 34 [.agg [cI v.Kind,cS v.Key,dV ((lM Attr.cs v.Attrs)),dV ((lM Action.cs v.Actions)),dV ((lM View.cs v.Kids))]] [] (.s (aI r)) []:=by
 unfold dv at hr
 refine ap 11 0 [.tmp 2] [(0,.s (.agg [cI v.Kind,cS v.Key,dV ((lM Attr.cs v.Attrs)),dV ((lM Action.cs v.Actions)),dV ((lM View.cs v.Kids))]))] Tryz.func34 zz zz zz zz zz zz zz zz fun w g M ρ _=>(af (ac (ak 0 (aP (j:=0) (cs:=[cI v.Kind,cS v.Key,dV ((lM Attr.cs v.Attrs)),dV ((lM Action.cs v.Actions)),dV ((lM View.cs v.Kids))]) zz zz zz zz zz) (aa (aI 0) (ab (af (ac (aa (.agg [cI v.Kind,cS v.Key,dV ((lM Attr.cs v.Attrs)),dV ((lM Action.cs v.Actions)),dV ((lM View.cs v.Kids))]) ?_))))))))
 obtain ⟨x1,hx1,hr⟩:=bq hr
 refine ae (aL (tau []) (.tup [aI x1.1,aI x1.2]) [] (nE _ _ _ _ hx1) zz ⟨.inl zz,.inl zz,.inl zz,tv⟩ tv vT tv) (ae (dk (v:=.tup [aI x1.1,aI x1.2]) zz zz) (aa (aI x1.1) (aa (aI x1.2) (aa (aI x1.1) (aa (aI x1.2) (ab (af (ac (aa (aI x1.2) (aa (aI x1.2) (ab (ao ?_))))))))))))
 obtain rfl:=sq hr
 exact ⟨_,zz,.inl zz,tv⟩
theorem i3 (t:Tree) (id:Int) {r:Int} (hr:eY t id=some r):Con Tryz.prog 127 [.agg (tC t),aI id] [] (.s (aI r)) []:=by
 unfold eY at hr
 refine ap 22 0 [.tmp 4] [(0,.s (.agg (tC t))),(1,.s (aI id))] Tryz.func127 zz zz zz zz zz zz zz zz fun w g M ρ _=>(af (ac (ak 0 (aP (j:=0) (cs:=(tC t)) zz zz zz zz zz) (aa (aI 0) (ab ?_)))))
 obtain ⟨k2,hk2,hr⟩:=ax hr
 refine ay (fun (s1:Unit)=>⟨[],[],0⟩) k2 r (fun s1 hr=>?_) ?_
 rw [hk2] at hr
 refine af (ac (aa (aI (-1)) (ab (ao ?_))))
 obtain rfl:=sq hr
 exact ⟨_,zz,.inl zz,tv⟩
 clear hk2
 refine af (ac (aa (aI 0) (ab (am (az (fun (s3:Int)=>⟨[(1,.s (aI id)),(2,.s (.c (.loc 0 0))),(5,.s (aI s3))],[(0,.blk (tC t) 30)],0⟩) hr (Conv.mk (tau []) ⟨cl zz,cl zz,cl zz,tv⟩ ⟨zz,tv⟩ zz zz zz zz) ?_)))))
 clear hr
 intro again4 s3 hr
 unfold ia at hr
 refine af (af (ac (aa (aI s3) (aa (.c (.loc 0 2)) (aa (aV (((lM Node.cs t.Nodes)))) (ae (aK (enc:=Node.cs) t.Nodes zz zz tv zz) (aa (aB (decide (s3<(t.Nodes.length:Int)))) (ab ?_))))))))
 refine ah (b:=decide (s3<(t.Nodes.length:Int))) zz (fun h5=>?_) (fun h5=>?_)
 have hr:=selT h5 hr
 refine aj (af (am (af (ac (aa (.c (.loc 0 2)) (aa (aV (((lM Node.cs t.Nodes)))) (aa (aI s3) ?_)))))))
 obtain ⟨x6,hx6,hr⟩:=bq hr
 refine ae (aM (enc:=Node.cs) (L:=t.Nodes) (row:=[dI x6.ID,dI x6.Parent,dI x6.Kind,dS x6.Key,.sl (lM Attr.cs x6.Attrs),.sl (lM Action.cs x6.Actions),.sl (lI x6.Kids)]) hx6 zz zz zz zz (fun _=>zz) tv zz) (aa (.c (.pt [dI x6.ID,dI x6.Parent,dI x6.Kind,dS x6.Key,.sl (lM Attr.cs x6.Attrs),.sl (lM Action.cs x6.Actions),.sl (lI x6.Kids)])) (aa (aI x6.ID) (aa (aI id) (aa (aB (x6.ID==id)) (ab ?_)))))
 refine ah (b:=x6.ID==id) zz (fun h7=>?_) (fun h7=>?_)
 have hr:=selT h7 hr
 refine af (ac (aa (aI s3) (aa (aI s3) (ab (ao ?_)))))
 obtain rfl:=sq hr
 exact ⟨_,zz,.inl zz,tv⟩
 have hr:=selF h7 hr
 refine aj (ac (aa (aI s3) (aa (aI (wq (s3+1))) (aa (aI (wq (s3+1))) (ab ?_)))))
 exact ⟨wq (s3+1),hr,(Conv.mk (tau []) ⟨cl zz,cl zz,cl zz,tv⟩ ⟨zz,tv⟩ zz zz zz zz)⟩
 have hr:=selF h5 hr
 refine aE ?_
 exact ⟨(),hr,(Conv.mk (tau []) tv tv zz zz zz zz)⟩
theorem jP (t:Tree) (id:Int) {r:Node} (hr:hZ t id=some r):Con Tryz.prog 128 [.agg (tC t),aI id] [] (.s (.agg [cI r.ID,cI r.Parent,cI r.Kind,cS r.Key,dV ((lM Attr.cs r.Attrs)),dV ((lM Action.cs r.Actions)),dV ((lI r.Kids))])) []:=by
 unfold hZ at hr
 refine ap 17 0 [.cell 4 61] [(0,.s (.agg (tC t))),(1,.s (aI id))] Tryz.func128 zz zz zz zz zz zz zz zz fun w g M ρ _=>(af (ac (ak 0 (aP (j:=0) (cs:=(tC t)) zz zz zz zz zz) (ak 0 (aw (j:=1) (cs:=[cI 0,cI 0,cI 0,cS ByteArray.empty,.d (.v (.slice none 0 0)),.d (.v (.slice none 0 0)),.d (.v (.slice none 0 0))]) zz zz zz zz) (ab (af (ac (aa (.agg (tC t)) (aa (aI id) ?_)))))))))
 obtain ⟨x1,hx1,hr⟩:=bq hr
 refine ae (aL (tau []) (.s (aI x1)) [] (i3 _ _ hx1) zz ⟨.inl zz,.inl zz,tv⟩ tv mz tv) (aa (aI x1) (ab (af (af (ac (aa (aI x1) (aa (aB (decide (x1<0))) (ab ?_))))))))
 refine ah (b:=decide (x1<0)) zz (fun h2=>?_) (fun h2=>?_)
 have hr:=selT h2 hr
 refine af (ac (aa (.agg [cI 0,cI 0,cI 0,cS ByteArray.empty,.d (.v (.slice none 0 0)),.d (.v (.slice none 0 0)),.d (.v (.slice none 0 0))]) (aq (al (cs':=[cI 0,cI 0,cI 0,cS ByteArray.empty,.d (.v (.slice none 0 0)),.d (.v (.slice none 0 0)),.d (.v (.slice none 0 0))]) zz zz zz zz zz zz zz zz zz) (ab (ao ?_)))))
 obtain rfl:=sq hr
 exact ⟨_,zz,.inr zz,tv⟩
 have hr:=selF h2 hr
 refine aj (af (ac (aa (.c (.loc 0 2)) (aa (aV (((lM Node.cs t.Nodes)))) (aa (aI x1) ?_)))))
 obtain ⟨x3,hx3,hr⟩:=bq hr
 refine ae (aM (enc:=Node.cs) (L:=t.Nodes) (row:=[dI x3.ID,dI x3.Parent,dI x3.Kind,dS x3.Key,.sl (lM Attr.cs x3.Attrs),.sl (lM Action.cs x3.Actions),.sl (lI x3.Kids)]) hx3 zz zz zz zz (fun _=>zz) tv zz) (aa (.agg [cI x3.ID,cI x3.Parent,cI x3.Kind,cS x3.Key,dV ((lM Attr.cs x3.Attrs)),dV ((lM Action.cs x3.Actions)),dV ((lI x3.Kids))]) (aq (al (cs':=[cI x3.ID,cI x3.Parent,cI x3.Kind,cS x3.Key,dV ((lM Attr.cs x3.Attrs)),dV ((lM Action.cs x3.Actions)),dV ((lI x3.Kids))]) zz zz zz zz zz zz zz zz zz) (ab (ao ?_))))
 obtain rfl:=sq hr
 exact ⟨_,zz,.inl zz,tv⟩
theorem oN (self0:Tree→Int→(List Int)→Option (List Int)) (hself0:∀ (t:Tree) (id:Int) (l:(List Int)) {r:(List Int)},self0 t id l=some r→Con Tryz.prog 131 [.agg (tC t),aI id,.c (.tl 0 (lI l))] [(0,.tail 1)] (.s (.c (.tl 2000 (lI r)))) [(0,.dead),(2000,.tail 1)]) (t:Tree) (id:Int) (l:(List Int)) {r:(List Int)} (hr:gI self0 t id l=some r):Con Tryz.prog 131 [.agg (tC t),aI id,.c (.tl 0 (lI l))] [(0,.tail 1)] (.s (.c (.tl 2000 (lI r)))) [(0,.dead),(2000,.tail 1)]:=by
 unfold gI at hr
 refine ap 32 0 [.tmp 6] [(0,.s (.agg (tC t))),(1,.s (aI id)),(2,.s (.c (.tl 0 (lI l))))] Tryz.func131 zz zz zz zz zz zz zz zz fun w g M ρ _=>(af (ac (ak 0 (aP (j:=1) (cs:=(tC t)) zz zz zz zz zz) (aa (.c (.d (.v (.slice none 0 0)))) (ab (af (ac (aa (.c (.tl 0 (lI l))) (aa (aI id) (ak 0 (cp (sz:=1) (enc:=eI) (j:=2) ([id]) zz zz zz zz zz zz zz zz (fun _=>zz) tv zz zz) ?_))))))))))
 obtain ⟨x1,hx1,hr⟩:=bq hr
 refine bW 0 (dQ (enc:=eI) (L:=l) (X:=[id]) (j:=0) (j':=3) hx1 zz zz zz zz zz zz (fun _=>zz) (fun _=>zz) (by decide) tv zz zz) (aa (.c (.tl 3 (lI x1))) (ab (af (ac (aa (.agg (tC t)) (aa (aI id) ?_))))))
 obtain ⟨x2,hx2,hr⟩:=bq hr
 refine ae (aL (tau []) (.s (.agg [cI x2.ID,cI x2.Parent,cI x2.Kind,cS x2.Key,dV ((lM Attr.cs x2.Attrs)),dV ((lM Action.cs x2.Actions)),dV ((lI x2.Kids))])) [] (jP _ _ hx2) zz ⟨.inl zz,.inl zz,tv⟩ tv my tv) (ak 0 (aw (j:=4) (cs:=[cI 0,cI 0,cI 0,cS ByteArray.empty,.d (.v (.slice none 0 0)),.d (.v (.slice none 0 0)),.d (.v (.slice none 0 0))]) zz zz zz zz) (aq (al (cs':=[cI x2.ID,cI x2.Parent,cI x2.Kind,cS x2.Key,dV ((lM Attr.cs x2.Attrs)),dV ((lM Action.cs x2.Actions)),dV ((lI x2.Kids))]) zz zz zz zz zz zz zz zz zz) (ab ?_)))
 obtain ⟨k4,hk4,hr⟩:=ax hr
 refine ay (fun (s3:(List Int))=>⟨[(2,.s (.c (.tl 1003 (lI s3))))],[(0,.dead),(1003,.tail 1)],0⟩) k4 r (fun s3 hr=>?_) ?_
 rw [hk4] at hr
 refine af (ac (aa (.c (.tl 1003 (lI s3))) (aa (.c (.tl 1003 (lI s3))) (ab (Ok.conv (T:=⟨[(6,.s (.c (.tl 2000 (lI s3))))],[(0,.dead),(2000,.tail 1)],0⟩) (Conv.mk (tau [(2000,1003)]) ⟨cl zz,tv⟩ ⟨zz,tv⟩ zz zz zz zz) (ao ?_))))))
 obtain rfl:=sq hr
 exact ⟨_,zz,.inl zz,⟨(fun h=>by cases h),zz,tv⟩⟩
 clear hk4
 refine af (ac (aa (aI 0) (ab (am (az (fun (s5:(List Int)×Int)=>⟨[(2,.s (.c (.tl 1005 (lI s5.1)))),(3,.s (.c (.loc 1 0))),(7,.s (.c (.loc 4 0))),(8,.s (aI s5.2))],[(0,.dead),(1,.blk (tC t) 30),(4,.blk [cI x2.ID,cI x2.Parent,cI x2.Kind,cS x2.Key,dV ((lM Attr.cs x2.Attrs)),dV ((lM Action.cs x2.Actions)),dV ((lI x2.Kids))] 61),(1005,.tail 1)],0⟩) hr (Conv.mk (tau [(1005,3)]) ⟨cl zz,cl zz,cl zz,cl zz,tv⟩ ⟨zz,zz,zz,tv⟩ zz zz zz zz) ?_)))))
 clear hr
 intro again6 s5 hr
 unfold hP at hr
 refine af (af (ac (aa (aI s5.2) (aa (.c (.loc 4 6)) (aa (aV (((lI x2.Kids)))) (ae (aK (enc:=eI) x2.Kids zz zz tv zz) (aa (aB (decide (s5.2<(x2.Kids.length:Int)))) (ab ?_))))))))
 refine ah (b:=decide (s5.2<(x2.Kids.length:Int))) zz (fun h7=>?_) (fun h7=>?_)
 have hr:=selT h7 hr
 refine aj (af (am (aF (by kernel_rfl) (ar (.agg (tC t)) zz tv zz (ar (.c (.loc 4 6)) zz tv zz (ar (aV (((lI x2.Kids)))) zz tv zz (ar (aI s5.2) zz tv zz ?_)))))))
 obtain ⟨x8,hx8,hr⟩:=bq hr
 refine av (aM (enc:=eI) (L:=x2.Kids) (row:=[dI x8]) hx8 zz zz zz zz (fun _=>zz) tv zz) (ar (aI x8) zz tv zz (ar (.c (.tl 1005 (lI s5.1))) zz tv zz ?_))
 obtain ⟨x9,hx9,hr⟩:=bq hr
 refine OkD.m2 0 (bQ (tau [(0,1005),(2000,5)]) (.s (.c (.tl 5 (lI x9)))) [(1005,.dead),(5,.tail 1)] (hself0 _ _ _ hx9) zz ⟨.inl zz,.inl zz,.inl zz,tv⟩ tv po ⟨zz,tv⟩ zz zz zz zz ⟨zz,tv⟩ zz zz zz) (ar (.c (.tl 5 (lI x9))) zz tv zz (aY (by kernel_rfl) (ac (aa (aI s5.2) (aa (aI (wq (s5.2+1))) (aa (aI (wq (s5.2+1))) (ab ?_)))))))
 exact ⟨(x9,wq (s5.2+1)),hr,(Conv.mk (tau [(1005,5)]) ⟨cl zz,cl zz,cl zz,cl zz,tv⟩ ⟨zz,zz,zz,tv⟩ zz zz zz zz)⟩
 have hr:=selF h7 hr
 refine aE ?_
 exact ⟨s5.1,hr,(Conv.mk (tau [(1003,1005)]) ⟨cl zz,tv⟩ ⟨zz,tv⟩ zz zz zz zz)⟩
theorem oM:∀ n:Nat,(∀ (t:Tree) (id:Int) (l:(List Int)) {r:(List Int)},gJ n t id l=some r→Con Tryz.prog 131 [.agg (tC t),aI id,.c (.tl 0 (lI l))] [(0,.tail 1)] (.s (.c (.tl 2000 (lI r)))) [(0,.dead),(2000,.tail 1)])∧True:=by
 intro n
 induction n with
 | zero=>exact ⟨(by intros;rename_i hr;cases hr),tv⟩
 | succ n ih=>exact ⟨(by intros;rename_i hr;exact oN _ ih.1 _ _ _ hr),tv⟩
theorem mW (n:Nat) (t:Tree) (id:Int) (l:(List Int)) {r:(List Int)} (hr:gJ n t id l=some r):Con Tryz.prog 131 [.agg (tC t),aI id,.c (.tl 0 (lI l))] [(0,.tail 1)] (.s (.c (.tl 2000 (lI r)))) [(0,.dead),(2000,.tail 1)]:=(oM n).1 t id l hr
theorem qk (t:Tree) {r:Bool} (hr:iI t=some r):Con Tryz.prog 163 [.agg (tC t)] [] (.s (aB r)) []:=by
 unfold iI at hr
 refine ap 156 0 [.tmp 2] [(0,.s (.agg (tC t)))] Tryz.func163 zz zz zz zz zz zz zz zz fun w g M ρ _=>(af (ac (ak 0 (aP (j:=0) (cs:=(tC t)) zz zz zz zz zz) (aa (aB false) (ab (af (af (ac (aa (.c (.loc 0 1)) (aa (aI t.Next) (aa (aB (decide (t.Next<2))) (aa (aB (decide (t.Next<2))) (ae (ai (x:=.c (.loc 0 1)) zz zz tv zz) (ae (ai (x:=aI t.Next) zz zz ⟨fun h=>h,tv⟩ zz) (ae (ai (x:=aB (decide (t.Next>1099511627776))) zz zz ⟨fun h=>h,tv⟩ zz) ?_)))))))))))))))
 refine ae (bj zz zz (fun h=>by rw [h];rfl) zz) ?_
 refine aa (aB ((decide (t.Next<2))||(decide (t.Next>1099511627776)))) (ae (ai (x:=.c (.loc 0 2)) zz zz tv zz) (ae (ai (x:=aV (((lM Node.cs t.Nodes)))) zz zz ⟨fun h=>h,tv⟩ zz) (ae (cy (enc:=Node.cs) t.Nodes zz zz zz ⟨fun h=>h,tv⟩ zz) (ae (ai (x:=aB (decide ((t.Nodes.length:Int)<1))) zz zz ⟨fun h=>h,tv⟩ zz) ?_))))
 refine ae (bj zz zz (fun h=>by rw [h];rfl) zz) ?_
 refine aa (aB (((decide (t.Next<2))||(decide (t.Next>1099511627776)))||(decide ((t.Nodes.length:Int)<1)))) (ae (ai (x:=.c (.loc 0 2)) zz zz tv zz) (ae (ai (x:=aV (((lM Node.cs t.Nodes)))) zz zz ⟨fun h=>h,tv⟩ zz) (ae (cy (enc:=Node.cs) t.Nodes zz zz zz ⟨fun h=>h,tv⟩ zz) (ae (ai (x:=aB (decide ((t.Nodes.length:Int)>400))) zz zz ⟨fun h=>h,tv⟩ zz) ?_))))
 refine ae (bj zz zz (fun h=>by rw [h];rfl) zz) ?_
 refine ab ?_
 refine ah (b:=(((decide (t.Next<2))||(decide (t.Next>1099511627776)))||(decide ((t.Nodes.length:Int)<1)))||(decide ((t.Nodes.length:Int)>400))) zz (fun h1=>?_) (fun h1=>?_)
 have hr:=selT h1 hr
 refine af (ac (aa (aB false) (ab (ao ?_))))
 obtain rfl:=sq hr
 exact ⟨_,zz,.inl zz,tv⟩
 have hr:=selF h1 hr
 refine aj (af (ac (aa (aI 0) (ab ?_))))
 obtain ⟨k3,hk3,hr⟩:=ax hr
 refine ay (fun (s2:Unit)=>⟨[(1,.s (.c (.loc 0 0)))],[(0,.blk (tC t) 30)],0⟩) k3 r (fun s2 hr=>?_) ?_
 rw [hk3] at hr
 refine af (ac (aa (.agg (tC t)) (aa (.c (.loc 0 0)) (aa (aI t.Root) ?_))))
 obtain ⟨x4,hx4,hr⟩:=bq hr
 refine ae (aL (tau []) (.s (aI x4)) [] (i3 _ _ hx4) zz ⟨.inl zz,.inl zz,tv⟩ tv mz tv) (aa (aI x4) (ab (af (af (ac (aa (aI x4) (aa (aB (decide (x4<0))) (ab ?_))))))))
 refine ah (b:=decide (x4<0)) zz (fun h5=>?_) (fun h5=>?_)
 have hr:=selT h5 hr
 refine af (ac (aa (aB false) (ab (ao ?_))))
 obtain rfl:=sq hr
 exact ⟨_,zz,.inl zz,tv⟩
 have hr:=selF h5 hr
 refine aj (af (ac (aa (aI 0) (ab ?_))))
 obtain ⟨k7,hk7,hr⟩:=ax hr
 refine ay (fun (s6:Int)=>⟨[(1,.s (.c (.loc 0 0))),(6,.s (aI s6))],[(0,.blk (tC t) 30)],0⟩) k7 r (fun s6 hr=>?_) ?_
 rw [hk7] at hr
 refine af (af (ac (aa (aI s6) (aa (.c (.loc 0 2)) (aa (aV (((lM Node.cs t.Nodes)))) (ae (aK (enc:=Node.cs) t.Nodes zz zz tv zz) (aa (aI (wq ((t.Nodes.length:Int) - 1))) (aa (aB (s6 != (wq ((t.Nodes.length:Int) - 1)))) (ab ?_)))))))))
 refine ah (b:=s6 != (wq ((t.Nodes.length:Int) - 1))) zz (fun h8=>?_) (fun h8=>?_)
 have hr:=selT h8 hr
 refine af (ac (aa (aB false) (ab (ao ?_))))
 obtain rfl:=sq hr
 exact ⟨_,zz,.inl zz,tv⟩
 have hr:=selF h8 hr
 refine aj (af (aF (by kernel_rfl) (ar (.agg (tC t)) zz tv zz (ar (.c (.loc 0 0)) zz tv zz (ar (aI t.Root) zz tv zz ?_)))))
 obtain ⟨x9,hx9,hr⟩:=bq hr
 refine gY 0 (bQ (tau [(2000,1)]) (.s (.c (.tl 1 (lI x9)))) [(1,.tail 1)] (lO (args':=[.agg (tC t),aI t.Root,.c (.d (.v (.slice none 0 0)))]) 0 (mW _ _ _ _ hx9) ⟨.inl zz,.inl zz,.inr ⟨zz,.inl zz⟩,tv⟩ zz (mv 1 0) zz zz zz zz zz zz zz) zz ⟨.inl zz,.inl zz,.inl zz,tv⟩ tv po tv zz zz zz zz ⟨zz,tv⟩ zz zz zz) (av (aK (enc:=eI) x9 zz zz tv zz) (ar (.c (.loc 0 2)) zz tv zz (ar (aV (((lM Node.cs t.Nodes)))) zz tv zz (av (aK (enc:=Node.cs) t.Nodes zz zz tv zz) (ar (aB ((x9.length:Int)==(t.Nodes.length:Int))) zz tv zz (ar (aB ((x9.length:Int)==(t.Nodes.length:Int))) zz tv zz (aY (by kernel_rfl) (ao ?_))))))))
 obtain rfl:=sq hr
 exact ⟨_,zz,.inl zz,tv⟩
 clear hk7
 refine af (ac (aa (aI 0) (ab (am (az (fun (s10:Int×Int)=>⟨[(1,.s (.c (.loc 0 0))),(5,.s (aI x4)),(6,.s (aI s10.1)),(7,.s (aI s10.2))],[(0,.blk (tC t) 30)],0⟩) hr (Conv.mk (tau []) ⟨cl zz,cl zz,cl zz,cl zz,tv⟩ ⟨zz,tv⟩ zz zz zz zz) ?_)))))
 clear hr
 intro again11 s10 hr
 unfold eV at hr
 refine af (af (ac (aa (aI s10.2) (aa (.c (.loc 0 2)) (aa (aV (((lM Node.cs t.Nodes)))) (ae (aK (enc:=Node.cs) t.Nodes zz zz tv zz) (aa (aB (decide (s10.2<(t.Nodes.length:Int)))) (ab ?_))))))))
 refine ah (b:=decide (s10.2<(t.Nodes.length:Int))) zz (fun h12=>?_) (fun h12=>?_)
 have hr:=selT h12 hr
 refine aj ?_
 obtain ⟨k14,hk14,hr⟩:=ax hr
 refine ay (fun (s13:Int)=>⟨[(1,.s (.c (.loc 0 0))),(5,.s (aI x4)),(6,.s (aI s13)),(7,.s (aI s10.2))],[(0,.blk (tC t) 30)],0⟩) k14 r (fun s13 hr=>?_) ?_
 rw [hk14] at hr
 refine ac (aa (aI s10.2) (aa (aI (wq (s10.2+1))) (aa (aI (wq (s10.2+1))) (ab ?_))))
 exact ⟨(s13,wq (s10.2+1)),hr,(Conv.mk (tau []) ⟨cl zz,cl zz,cl zz,cl zz,tv⟩ ⟨zz,tv⟩ zz zz zz zz)⟩
 clear hk14
 refine am (af (ac (aa (.c (.loc 0 2)) (aa (aV (((lM Node.cs t.Nodes)))) (aa (aI s10.2) ?_)))))
 obtain ⟨x15,hx15,hr⟩:=bq hr
 refine ae (aM (enc:=Node.cs) (L:=t.Nodes) (row:=[dI x15.ID,dI x15.Parent,dI x15.Kind,dS x15.Key,.sl (lM Attr.cs x15.Attrs),.sl (lM Action.cs x15.Actions),.sl (lI x15.Kids)]) hx15 zz zz zz zz (fun _=>zz) tv zz) (aa (.agg [cI x15.ID,cI x15.Parent,cI x15.Kind,cS x15.Key,dV ((lM Attr.cs x15.Attrs)),dV ((lM Action.cs x15.Actions)),dV ((lI x15.Kids))]) (ak 0 (aw (j:=2) (cs:=[cI 0,cI 0,cI 0,cS ByteArray.empty,.d (.v (.slice none 0 0)),.d (.v (.slice none 0 0)),.d (.v (.slice none 0 0))]) zz zz zz zz) (aq (al (cs':=[cI x15.ID,cI x15.Parent,cI x15.Kind,cS x15.Key,dV ((lM Attr.cs x15.Attrs)),dV ((lM Action.cs x15.Actions)),dV ((lI x15.Kids))]) zz zz zz zz zz zz zz zz zz) (ab (af (af (ac (aa (.c (.loc 2 1)) (aa (aI x15.Parent) (aa (aB (x15.Parent==0)) (aa (aI s10.2) (aa (aI x4) (aa (aB (s10.2==x4)) (aa (aB ((x15.Parent==0) != (s10.2==x4))) (ab ?_)))))))))))))))
 refine ah (b:=(x15.Parent==0) != (s10.2==x4)) zz (fun h16=>?_) (fun h16=>?_)
 have hr:=selT h16 hr
 refine af (ac (aa (aB false) (ab (ao ?_))))
 obtain rfl:=sq hr
 exact ⟨_,zz,.inl zz,tv⟩
 have hr:=selF h16 hr
 refine aj (af (af (ac (aa (.c (.loc 2 6)) (aa (aV (((lI x15.Kids)))) (ae (aK (enc:=eI) x15.Kids zz zz tv zz) (aa (.c (.loc 0 2)) (aa (aV (((lM Node.cs t.Nodes)))) (ae (aK (enc:=Node.cs) t.Nodes zz zz tv zz) (aa (aB (decide ((x15.Kids.length:Int)>(t.Nodes.length:Int)))) (ab ?_)))))))))))
 refine ah (b:=decide ((x15.Kids.length:Int)>(t.Nodes.length:Int))) zz (fun h17=>?_) (fun h17=>?_)
 have hr:=selT h17 hr
 refine af (ac (aa (aB false) (ab (ao ?_))))
 obtain rfl:=sq hr
 exact ⟨_,zz,.inl zz,tv⟩
 have hr:=selF h17 hr
 refine aj (af (ac (aa (aI 0) (ab ?_))))
 obtain ⟨k19,hk19,hr⟩:=ax hr
 refine bZ (fun (s18:Int)=>⟨[(1,.s (.c (.loc 0 0))),(5,.s (aI x4)),(6,.s (aI s18)),(7,.s (aI s10.2))],[(0,.blk (tC t) 30)],0⟩) k19 r (fun s18 hr=>?_) ?_
 rw [hk19] at hr
 exact ⟨s18,hr,(Conv.mk (tau []) ⟨cl zz,cl zz,cl zz,cl zz,tv⟩ ⟨zz,tv⟩ zz zz zz zz)⟩
 clear hk19
 refine am (az (fun (s20:Int×Int)=>⟨[(1,.s (.c (.loc 0 0))),(5,.s (aI x4)),(6,.s (aI s20.1)),(7,.s (aI s10.2)),(8,.s (.c (.loc 2 0))),(9,.s (aI s20.2))],[(0,.blk (tC t) 30),(2,.blk [cI x15.ID,cI x15.Parent,cI x15.Kind,cS x15.Key,dV ((lM Attr.cs x15.Attrs)),dV ((lM Action.cs x15.Actions)),dV ((lI x15.Kids))] 61)],0⟩) hr (Conv.mk (tau []) ⟨cl zz,cl zz,cl zz,cl zz,cl zz,cl zz,tv⟩ ⟨zz,zz,tv⟩ zz zz zz zz) ?_)
 clear hr
 intro again21 s20 hr
 unfold dH at hr
 refine af (af (ac (aa (aI s20.2) (aa (.c (.loc 2 6)) (aa (aV (((lI x15.Kids)))) (ae (aK (enc:=eI) x15.Kids zz zz tv zz) (aa (aB (decide (s20.2<(x15.Kids.length:Int)))) (ab ?_))))))))
 refine ah (b:=decide (s20.2<(x15.Kids.length:Int))) zz (fun h22=>?_) (fun h22=>?_)
 have hr:=selT h22 hr
 refine aj ?_
 obtain ⟨k24,hk24,hr⟩:=ax hr
 refine ay (fun (s23:Unit)=>⟨[(1,.s (.c (.loc 0 0))),(5,.s (aI x4)),(6,.s (aI (wq (s20.1+1)))),(7,.s (aI s10.2)),(8,.s (.c (.loc 2 0))),(9,.s (aI s20.2))],[(0,.blk (tC t) 30),(2,.blk [cI x15.ID,cI x15.Parent,cI x15.Kind,cS x15.Key,dV ((lM Attr.cs x15.Attrs)),dV ((lM Action.cs x15.Actions)),dV ((lI x15.Kids))] 61)],0⟩) k24 r (fun s23 hr=>?_) ?_
 rw [hk24] at hr
 refine ac (aa (aI s20.2) (aa (aI (wq (s20.2+1))) (aa (aI (wq (s20.2+1))) (ab ?_))))
 exact ⟨(wq (s20.1+1),wq (s20.2+1)),hr,(Conv.mk (tau []) ⟨cl zz,cl zz,cl zz,cl zz,cl zz,cl zz,tv⟩ ⟨zz,zz,tv⟩ zz zz zz zz)⟩
 clear hk24
 refine am (af (aF (by kernel_rfl) (ar (.agg (tC t)) zz tv zz (ar (.c (.loc 2 6)) zz tv zz (ar (aV (((lI x15.Kids)))) zz tv zz (ar (aI s20.2) zz tv zz ?_))))))
 obtain ⟨x25,hx25,hr⟩:=bq hr
 refine av (aM (enc:=eI) (L:=x15.Kids) (row:=[dI x25]) hx25 zz zz zz zz (fun _=>zz) tv zz) (ar (aI x25) zz tv zz ?_)
 obtain ⟨x26,hx26,hr⟩:=bq hr
 refine av (aL (tau []) (.s (aI x26)) [] (i3 _ _ hx26) zz ⟨.inl zz,.inl zz,tv⟩ tv mz tv) (ar (aI x26) zz tv zz (aY (by kernel_rfl) (af (af (aF (by kernel_rfl) (ar (aI x26) zz tv zz (ar (aB (decide (x26<0))) zz tv zz (ar (aB (decide (x26<0))) zz tv zz (av (ai (x:=.c (.loc 0 2)) zz zz tv zz) (av (ai (x:=aV (((lM Node.cs t.Nodes)))) zz zz ⟨fun h=>h,tv⟩ zz) (av (ai (x:=aI x26) zz zz tv zz) ?_)))))))))))
 obtain ⟨x27,hx27,hr⟩:=bq hr
 refine av (eR (enc:=Node.cs) (L:=t.Nodes) (row:=[dI x27.ID,dI x27.Parent,dI x27.Kind,dS x27.Key,.sl (lM Attr.cs x27.Attrs),.sl (lM Action.cs x27.Actions),.sl (lI x27.Kids)]) (cQ hx27) zz zz zz zz zz (fun _=>zz) ⟨fun h=>h,⟨fun h=>h,tv⟩⟩ zz) (av (ai (x:=.c (.pt [dI x27.Parent,dI x27.Kind,dS x27.Key,.sl (lM Attr.cs x27.Attrs),.sl (lM Action.cs x27.Actions),.sl (lI x27.Kids)])) zz zz ⟨fun h=>h,tv⟩ zz) (av (ai (x:=aI x27.Parent) zz zz ⟨fun h=>h,tv⟩ zz) (av (ai (x:=.c (.loc 2 0)) zz zz tv zz) (av (ai (x:=aI x15.ID) zz zz ⟨fun h=>h,tv⟩ zz) (av (ai (x:=aB (x27.Parent != x15.ID)) zz zz ⟨fun h=>h,⟨fun h=>h,tv⟩⟩ zz) ?_)))))
 refine av (bj zz zz (fun h=>by rw [h];rfl) zz) ?_
 refine aY (by kernel_rfl) ?_
 refine ah (b:=(decide (x26<0))||(x27.Parent != x15.ID)) zz (fun h28=>?_) (fun h28=>?_)
 have hr:=selT h28 hr
 refine af (ac (aa (aB false) (ab (ao ?_))))
 obtain rfl:=sq hr
 exact ⟨_,zz,.inl zz,tv⟩
 have hr:=selF h28 hr
 refine aj ?_
 obtain ⟨k30,hk30,hr⟩:=ax hr
 refine ay (fun (s29:Unit)=>⟨[(1,.s (.c (.loc 0 0))),(5,.s (aI x4)),(6,.s (aI s20.1)),(7,.s (aI s10.2)),(8,.s (.c (.loc 2 0))),(9,.s (aI s20.2))],[(0,.blk (tC t) 30),(2,.blk [cI x15.ID,cI x15.Parent,cI x15.Kind,cS x15.Key,dV ((lM Attr.cs x15.Attrs)),dV ((lM Action.cs x15.Actions)),dV ((lI x15.Kids))] 61)],0⟩) k30 r (fun s29 hr=>?_) ?_
 rw [hk30] at hr
 refine ac (aa (aI s20.1) (aa (aI (wq (s20.1+1))) (aa (aI (wq (s20.1+1))) (ab ?_))))
 exact ⟨(),hr,(Conv.mk (tau []) ⟨cl zz,cl zz,cl zz,cl zz,cl zz,cl zz,tv⟩ ⟨zz,zz,tv⟩ zz zz zz zz)⟩
 clear hk30
 refine af (ac (aa (aI 0) (ab (am (az (fun (s31:Int)=>⟨[(1,.s (.c (.loc 0 0))),(5,.s (aI x4)),(6,.s (aI s20.1)),(7,.s (aI s10.2)),(8,.s (.c (.loc 2 0))),(9,.s (aI s20.2)),(11,.s (aI s31))],[(0,.blk (tC t) 30),(2,.blk [cI x15.ID,cI x15.Parent,cI x15.Kind,cS x15.Key,dV ((lM Attr.cs x15.Attrs)),dV ((lM Action.cs x15.Actions)),dV ((lI x15.Kids))] 61)],0⟩) hr (Conv.mk (tau []) ⟨cl zz,cl zz,cl zz,cl zz,cl zz,cl zz,cl zz,tv⟩ ⟨zz,zz,tv⟩ zz zz zz zz) ?_)))))
 clear hr
 intro again32 s31 hr
 unfold eW at hr
 refine af (af (ac (aa (aI s31) (aa (aI s20.2) (aa (aB (decide (s31<s20.2))) (ab ?_))))))
 refine ah (b:=decide (s31<s20.2)) zz (fun h33=>?_) (fun h33=>?_)
 have hr:=selT h33 hr
 refine aj (af (am (af (aF (by kernel_rfl) (ar (.c (.loc 2 6)) zz tv zz (ar (aV (((lI x15.Kids)))) zz tv zz (ar (aI s31) zz tv zz ?_)))))))
 obtain ⟨x34,hx34,hr⟩:=bq hr
 refine av (aM (enc:=eI) (L:=x15.Kids) (row:=[dI x34]) hx34 zz zz zz zz (fun _=>zz) tv zz) (ar (aI x34) zz tv zz (ar (.c (.loc 2 6)) zz tv zz (ar (aV (((lI x15.Kids)))) zz tv zz (ar (aI s20.2) zz tv zz ?_))))
 obtain ⟨x35,hx35,hr⟩:=bq hr
 refine av (aM (enc:=eI) (L:=x15.Kids) (row:=[dI x35]) hx35 zz zz zz zz (fun _=>zz) tv zz) (ar (aI x35) zz tv zz (ar (aB (x34==x35)) zz tv zz (aY (by kernel_rfl) ?_)))
 refine ah (b:=x34==x35) zz (fun h36=>?_) (fun h36=>?_)
 have hr:=selT h36 hr
 refine af (ac (aa (aB false) (ab (ao ?_))))
 obtain rfl:=sq hr
 exact ⟨_,zz,.inl zz,tv⟩
 have hr:=selF h36 hr
 refine aj (ac (aa (aI s31) (aa (aI (wq (s31+1))) (aa (aI (wq (s31+1))) (ab ?_)))))
 exact ⟨wq (s31+1),hr,(Conv.mk (tau []) ⟨cl zz,cl zz,cl zz,cl zz,cl zz,cl zz,cl zz,tv⟩ ⟨zz,zz,tv⟩ zz zz zz zz)⟩
 have hr:=selF h33 hr
 refine aE ?_
 exact ⟨(),hr,(Conv.mk (tau []) ⟨cl zz,cl zz,cl zz,cl zz,cl zz,cl zz,tv⟩ ⟨zz,zz,tv⟩ zz zz zz zz)⟩
 have hr:=selF h22 hr
 refine aE ?_
 exact ⟨s20.1,hr,(Conv.mk (tau []) ⟨cl zz,cl zz,cl zz,cl zz,tv⟩ ⟨zz,tv⟩ zz zz zz zz)⟩
 have hr:=selF h12 hr
 refine aE ?_
 exact ⟨s10.1,hr,(Conv.mk (tau []) ⟨cl zz,cl zz,tv⟩ ⟨zz,tv⟩ zz zz zz zz)⟩
 clear hk3
 refine af (ac (aa (aI 0) (ab (am (az (fun (s37:Int×Int)=>⟨[(1,.s (.c (.loc 0 0))),(3,.s (aI s37.1)),(4,.s (aI s37.2))],[(0,.blk (tC t) 30)],0⟩) hr (Conv.mk (tau []) ⟨cl zz,cl zz,cl zz,tv⟩ ⟨zz,tv⟩ zz zz zz zz) ?_)))))
 clear hr
 intro again38 s37 hr
 unfold eU at hr
 refine af (af (ac (aa (aI s37.2) (aa (.c (.loc 0 2)) (aa (aV (((lM Node.cs t.Nodes)))) (ae (aK (enc:=Node.cs) t.Nodes zz zz tv zz) (aa (aB (decide (s37.2<(t.Nodes.length:Int)))) (ab ?_))))))))
 refine ah (b:=decide (s37.2<(t.Nodes.length:Int))) zz (fun h39=>?_) (fun h39=>?_)
 have hr:=selT h39 hr
 refine aj (af (am (af (af (aF (by kernel_rfl) (ar (.c (.loc 0 2)) zz tv zz (ar (aV (((lM Node.cs t.Nodes)))) zz tv zz (ar (aI s37.2) zz tv zz ?_))))))))
 obtain ⟨x40,hx40,hr⟩:=bq hr
 refine av (aM (enc:=Node.cs) (L:=t.Nodes) (row:=[dI x40.ID,dI x40.Parent,dI x40.Kind,dS x40.Key,.sl (lM Attr.cs x40.Attrs),.sl (lM Action.cs x40.Actions),.sl (lI x40.Kids)]) hx40 zz zz zz zz (fun _=>zz) tv zz) (ar (.c (.pt [dI x40.ID,dI x40.Parent,dI x40.Kind,dS x40.Key,.sl (lM Attr.cs x40.Attrs),.sl (lM Action.cs x40.Actions),.sl (lI x40.Kids)])) zz tv zz (ar (aI x40.ID) zz tv zz (ar (aI s37.1) zz tv zz (ar (aB (decide (x40.ID≤s37.1))) zz tv zz (ar (aB (decide (x40.ID≤s37.1))) zz tv zz (av (ai (x:=.c (.loc 0 2)) zz zz tv zz) (av (ai (x:=aV (((lM Node.cs t.Nodes)))) zz zz ⟨fun h=>h,tv⟩ zz) (av (ai (x:=aI s37.2) zz zz tv zz) ?_))))))))
 obtain ⟨x41,hx41,hr⟩:=bq hr
 refine av (eR (enc:=Node.cs) (L:=t.Nodes) (row:=[dI x41.ID,dI x41.Parent,dI x41.Kind,dS x41.Key,.sl (lM Attr.cs x41.Attrs),.sl (lM Action.cs x41.Actions),.sl (lI x41.Kids)]) (cQ hx41) zz zz zz zz zz (fun _=>zz) ⟨fun h=>h,⟨fun h=>h,tv⟩⟩ zz) (av (ai (x:=.c (.pt [dI x41.ID,dI x41.Parent,dI x41.Kind,dS x41.Key,.sl (lM Attr.cs x41.Attrs),.sl (lM Action.cs x41.Actions),.sl (lI x41.Kids)])) zz zz ⟨fun h=>h,tv⟩ zz) (av (ai (x:=aI x41.ID) zz zz ⟨fun h=>h,tv⟩ zz) (av (ai (x:=.c (.loc 0 1)) zz zz tv zz) (av (ai (x:=aI t.Next) zz zz ⟨fun h=>h,tv⟩ zz) (av (ai (x:=aB (decide (x41.ID≥t.Next))) zz zz ⟨fun h=>h,⟨fun h=>h,tv⟩⟩ zz) ?_)))))
 refine av (bj zz zz (fun h=>by rw [h];rfl) zz) ?_
 refine aY (by kernel_rfl) ?_
 refine ah (b:=(decide (x40.ID≤s37.1))||(decide (x41.ID≥t.Next))) zz (fun h42=>?_) (fun h42=>?_)
 have hr:=selT h42 hr
 refine af (ac (aa (aB false) (ab (ao ?_))))
 obtain rfl:=sq hr
 exact ⟨_,zz,.inl zz,tv⟩
 have hr:=selF h42 hr
 refine aj (ac (aa (.c (.loc 0 2)) (aa (aV (((lM Node.cs t.Nodes)))) (aa (aI s37.2) ?_))))
 obtain ⟨x43,hx43,hr⟩:=bq hr
 refine ae (aM (enc:=Node.cs) (L:=t.Nodes) (row:=[dI x43.ID,dI x43.Parent,dI x43.Kind,dS x43.Key,.sl (lM Attr.cs x43.Attrs),.sl (lM Action.cs x43.Actions),.sl (lI x43.Kids)]) hx43 zz zz zz zz (fun _=>zz) tv zz) (aa (.c (.pt [dI x43.ID,dI x43.Parent,dI x43.Kind,dS x43.Key,.sl (lM Attr.cs x43.Attrs),.sl (lM Action.cs x43.Actions),.sl (lI x43.Kids)])) (aa (aI x43.ID) (aa (aI x43.ID) (ab (ac (aa (aI s37.2) (aa (aI (wq (s37.2+1))) (aa (aI (wq (s37.2+1))) (ab ?_)))))))))
 exact ⟨(x43.ID,wq (s37.2+1)),hr,(Conv.mk (tau []) ⟨cl zz,cl zz,cl zz,tv⟩ ⟨zz,tv⟩ zz zz zz zz)⟩
 have hr:=selF h39 hr
 refine aE ?_
 exact ⟨(),hr,(Conv.mk (tau []) ⟨cl zz,tv⟩ ⟨zz,tv⟩ zz zz zz zz)⟩
theorem ml (self0:Tree→Int→Option View) (hself0:∀ (t:Tree) (id:Int) {r:View},self0 t id=some r→Con Tryz.prog 164 [.agg (tC t),aI id] [] (.s (.agg [cI r.Kind,cS r.Key,dV ((lM Attr.cs r.Attrs)),dV ((lM Action.cs r.Actions)),dV ((lM View.cs r.Kids))])) []) (t:Tree) (id:Int) {r:View} (hr:dY self0 t id=some r):Con Tryz.prog 164 [.agg (tC t),aI id] [] (.s (.agg [cI r.Kind,cS r.Key,dV ((lM Attr.cs r.Attrs)),dV ((lM Action.cs r.Actions)),dV ((lM View.cs r.Kids))])) []:=by
 unfold dY at hr
 refine ap 40 0 [.cell 4 27] [(0,.s (.agg (tC t))),(1,.s (aI id))] Tryz.func164 zz zz zz zz zz zz zz zz fun w g M ρ _=>(af (ac (ak 0 (aP (j:=0) (cs:=(tC t)) zz zz zz zz zz) (ak 0 (aw (j:=1) (cs:=[cI 0,cS ByteArray.empty,.d (.v (.slice none 0 0)),.d (.v (.slice none 0 0)),.d (.v (.slice none 0 0))]) zz zz zz zz) (ab (af (ac (aa (.agg (tC t)) (aa (aI id) ?_)))))))))
 obtain ⟨x1,hx1,hr⟩:=bq hr
 refine ae (aL (tau []) (.s (.agg [cI x1.ID,cI x1.Parent,cI x1.Kind,cS x1.Key,dV ((lM Attr.cs x1.Attrs)),dV ((lM Action.cs x1.Actions)),dV ((lI x1.Kids))])) [] (jP _ _ hx1) zz ⟨.inl zz,.inl zz,tv⟩ tv my tv) (ak 0 (aw (j:=2) (cs:=[cI 0,cI 0,cI 0,cS ByteArray.empty,.d (.v (.slice none 0 0)),.d (.v (.slice none 0 0)),.d (.v (.slice none 0 0))]) zz zz zz zz) (aq (al (cs':=[cI x1.ID,cI x1.Parent,cI x1.Kind,cS x1.Key,dV ((lM Attr.cs x1.Attrs)),dV ((lM Action.cs x1.Actions)),dV ((lI x1.Kids))]) zz zz zz zz zz zz zz zz zz) (ab (af (ac (aa (.c (.loc 2 2)) (aa (aI x1.Kind) (aa (.c (.loc 2 3)) (aa (aS x1.Key) (aa (.c (.loc 2 4)) (aa (aV (((lM Attr.cs x1.Attrs)))) (aa (.c (.loc 2 5)) (aa (aV (((lM Action.cs x1.Actions)))) (aa (.agg [cI x1.Kind,cS x1.Key,dV ((lM Attr.cs x1.Attrs)),dV ((lM Action.cs x1.Actions)),.d (.v (.slice none 0 0))]) (ak 0 (aw (j:=3) (cs:=[cI 0,cS ByteArray.empty,.d (.v (.slice none 0 0)),.d (.v (.slice none 0 0)),.d (.v (.slice none 0 0))]) zz zz zz zz) ?_)))))))))))))))
 refine aq (al (cs':=[cI x1.Kind,cS x1.Key,dV ((lM Attr.cs x1.Attrs)),dV ((lM Action.cs x1.Actions)),.d (.v (.slice none 0 0))]) zz zz zz zz zz zz zz zz zz) (ab ?_)
 obtain ⟨k3,hk3,hr⟩:=ax hr
 refine ay (fun (s2:(List View))=>⟨[(4,.s (.c (.loc 1 0))),(6,.s (.c (.loc 3 0)))],[(1,.blk [cI 0,cS ByteArray.empty,.d (.v (.slice none 0 0)),.d (.v (.slice none 0 0)),.d (.v (.slice none 0 0))] 27),(3,.blk [cI x1.Kind,cS x1.Key,dV ((lM Attr.cs x1.Attrs)),dV ((lM Action.cs x1.Actions)),.tl 1004 (lM View.cs s2)] 27),(1004,.tail 5)],0⟩) k3 r (fun s2 hr=>?_) ?_
 rw [hk3] at hr
 refine af (ac (aa (.agg [cI x1.Kind,cS x1.Key,dV ((lM Attr.cs x1.Attrs)),dV ((lM Action.cs x1.Actions)),.tl 1004 (lM View.cs s2)]) (aq (al (cs':=[cI x1.Kind,cS x1.Key,dV ((lM Attr.cs x1.Attrs)),dV ((lM Action.cs x1.Actions)),.tl 1004 (lM View.cs s2)]) zz zz zz zz zz zz zz zz zz) (ab (ao ?_)))))
 obtain rfl:=sq hr
 exact ⟨_,zz,.inr zz,tv⟩
 clear hk3
 refine af (ac (aa (aI 0) (ab (am (az (fun (s4:Int×(List View))=>⟨[(2,.s (.c (.loc 0 0))),(4,.s (.c (.loc 1 0))),(5,.s (.c (.loc 2 0))),(6,.s (.c (.loc 3 0))),(7,.s (aI s4.1))],[(0,.blk (tC t) 30),(1,.blk [cI 0,cS ByteArray.empty,.d (.v (.slice none 0 0)),.d (.v (.slice none 0 0)),.d (.v (.slice none 0 0))] 27),(2,.blk [cI x1.ID,cI x1.Parent,cI x1.Kind,cS x1.Key,dV ((lM Attr.cs x1.Attrs)),dV ((lM Action.cs x1.Actions)),dV ((lI x1.Kids))] 61),(3,.blk [cI x1.Kind,cS x1.Key,dV ((lM Attr.cs x1.Attrs)),dV ((lM Action.cs x1.Actions)),.tl 1007 (lM View.cs s4.2)] 27),(1007,.tail 5)],0⟩) hr (Conv.trans (lu 3 4 1009 5 [cI x1.Kind,cS x1.Key,dV ((lM Attr.cs x1.Attrs)),dV ((lM Action.cs x1.Actions)),.d (.v (.slice none 0 0))] [cI x1.Kind,cS x1.Key,dV ((lM Attr.cs x1.Attrs)),dV ((lM Action.cs x1.Actions)),.tl 1009 (lM View.cs ([]:(List View)))] 27 0 zz zz zz zz) (Conv.mk (tau [(1007,1009)]) ⟨cl zz,cl zz,cl zz,cl zz,cl zz,tv⟩ ⟨zz,zz,zz,zz,zz,tv⟩ zz zz zz zz)) ?_)))))
 clear hr
 intro again5 s4 hr
 unfold eX at hr
 refine af (af (ac (aa (aI s4.1) (aa (.c (.loc 2 6)) (aa (aV (((lI x1.Kids)))) (ae (aK (enc:=eI) x1.Kids zz zz tv zz) (aa (aB (decide (s4.1<(x1.Kids.length:Int)))) (ab ?_))))))))
 refine ah (b:=decide (s4.1<(x1.Kids.length:Int))) zz (fun h6=>?_) (fun h6=>?_)
 have hr:=selT h6 hr
 refine aj (af (am (aF (by kernel_rfl) (ar (.c (.loc 3 4)) zz tv zz (ar (.c (.tl 1007 (lM View.cs s4.2))) zz tv zz (ar (.agg (tC t)) zz tv zz (ar (.c (.loc 2 6)) zz tv zz (ar (aV (((lI x1.Kids)))) zz tv zz (ar (aI s4.1) zz tv zz ?_)))))))))
 obtain ⟨x7,hx7,hr⟩:=bq hr
 refine av (aM (enc:=eI) (L:=x1.Kids) (row:=[dI x7]) hx7 zz zz zz zz (fun _=>zz) tv zz) (ar (aI x7) zz tv zz ?_)
 obtain ⟨x8,hx8,hr⟩:=bq hr
 refine av (aL (tau []) (.s (.agg [cI x8.Kind,cS x8.Key,dV ((lM Attr.cs x8.Attrs)),dV ((lM Action.cs x8.Actions)),dV ((lM View.cs x8.Kids))])) [] (hself0 _ _ hx8) zz ⟨.inl zz,.inl zz,tv⟩ tv tf tv) ?_
 refine gY 0 (cp (sz:=5) (enc:=View.cs) (j:=4) ([x8]) zz zz zz zz zz (rows:=[[dI x8.Kind,dS x8.Key,.sl (lM Attr.cs x8.Attrs),.sl (lM Action.cs x8.Actions),.sl (lM View.cs x8.Kids)]]) (by simp only [List.map,View.cs_eq]) zz zz (fun x=>by rw [View.cs_eq];rfl) tv zz zz) ?_
 obtain ⟨x9,hx9,hr⟩:=bq hr
 refine OkD.m2 0 (dQ (enc:=View.cs) (L:=s4.2) (X:=[x8]) (j:=1007) (j':=5) hx9 zz zz zz zz zz zz (fun x=>by rw [View.cs_eq];rfl) (fun x=>by rw [View.cs_eq];rfl) (by decide) tv zz zz) ?_
 refine ar (.c (.loc 3 4)) zz tv zz (iz (al (cs':=[cI x1.Kind,cS x1.Key,dV ((lM Attr.cs x1.Attrs)),dV ((lM Action.cs x1.Actions)),.tl 5 (lM View.cs x9)]) zz zz zz zz zz zz zz zz zz) (aY (by kernel_rfl) (ac (aa (aI s4.1) (aa (aI (wq (s4.1+1))) (aa (aI (wq (s4.1+1))) (ab ?_)))))))
 exact ⟨(wq (s4.1+1),x9),hr,(Conv.mk (tau [(1007,5)]) ⟨cl zz,cl zz,cl zz,cl zz,cl zz,tv⟩ ⟨zz,zz,zz,zz,zz,tv⟩ zz zz zz zz)⟩
 have hr:=selF h6 hr
 refine aE ?_
 exact ⟨s4.2,hr,(Conv.mk (tau [(1004,1007)]) ⟨cl zz,cl zz,tv⟩ ⟨zz,zz,zz,tv⟩ zz zz zz zz)⟩
theorem mj:∀ n:Nat,(∀ (t:Tree) (id:Int) {r:View},ez n t id=some r→Con Tryz.prog 164 [.agg (tC t),aI id] [] (.s (.agg [cI r.Kind,cS r.Key,dV ((lM Attr.cs r.Attrs)),dV ((lM Action.cs r.Actions)),dV ((lM View.cs r.Kids))])) [])∧True:=by
 intro n
 induction n with
 | zero=>exact ⟨(by intros;rename_i hr;cases hr),tv⟩
 | succ n ih=>exact ⟨(by intros;rename_i hr;exact ml _ ih.1 _ _ hr),tv⟩
theorem nF (n:Nat) (t:Tree) (id:Int) {r:View} (hr:ez n t id=some r):Con Tryz.prog 164 [.agg (tC t),aI id] [] (.s (.agg [cI r.Kind,cS r.Key,dV ((lM Attr.cs r.Attrs)),dV ((lM Action.cs r.Actions)),dV ((lM View.cs r.Kids))])) []:=(mj n).1 t id hr
theorem mY (t:Tree) {r:Int} (hr:dw t=some r):Con Tryz.prog 130 [.agg (tC t)] [] (.s (aI r)) []:=by
 unfold dw at hr
 refine ap 11 0 [.tmp 2] [(0,.s (.agg (tC t)))] Tryz.func130 zz zz zz zz zz zz zz zz fun w g M ρ _=>(af (ac (ak 0 (aP (j:=0) (cs:=(tC t)) zz zz zz zz zz) (aa (aI 0) (ab (af (af (ac (aa (.agg (tC t)) ?_)))))))))
 obtain ⟨x1,hx1,hr⟩:=bq hr
 refine ae (aL (tau []) (.s (aB x1)) [] (qk _ hx1) zz ⟨.inl zz,tv⟩ tv xp tv) (aa (aB (!x1)) (ab ?_))
 refine ah (b:=!x1) zz (fun h2=>?_) (fun h2=>?_)
 have hr:=selT h2 hr
 refine af (ac (aa (aI 12) (ab (ao ?_))))
 obtain rfl:=sq hr
 exact ⟨_,zz,.inl zz,tv⟩
 have hr:=selF h2 hr
 refine aj (af (ac (aa (.agg (tC t)) (aa (.c (.loc 0 0)) (aa (aI t.Root) ?_)))))
 obtain ⟨x3,hx3,hr⟩:=bq hr
 refine ae (aL (tau []) (.s (.agg [cI x3.Kind,cS x3.Key,dV ((lM Attr.cs x3.Attrs)),dV ((lM Action.cs x3.Actions)),dV ((lM View.cs x3.Kids))])) [] (nF _ _ _ hx3) zz ⟨.inl zz,.inl zz,tv⟩ tv tf tv) ?_
 obtain ⟨x4,hx4,hr⟩:=bq hr
 refine ae (aL (tau []) (.s (aI x4)) [] (j8 _ hx4) zz ⟨.inl zz,tv⟩ tv wc tv) (aa (aI x4) (ab (ao ?_)))
 obtain rfl:=sq hr
 exact ⟨_,zz,.inl zz,tv⟩
theorem rh (t:Tree) {r:(List Int)} (hr:gK t=some r):Con Tryz.prog 94 [.agg (tC t)] [] (.s (aV (((lI r))))) []:=by
 unfold gK at hr
 refine ap 10 0 [.tmp 2] [(0,.s (.agg (tC t)))] Tryz.func94 zz zz zz zz zz zz zz zz fun w g M ρ _=>(af (ac (ak 0 (aP (j:=0) (cs:=(tC t)) zz zz zz zz zz) (aa (.c (.d (.v (.slice none 0 0)))) (ab (af (af (ac (aa (.agg (tC t)) ?_)))))))))
 obtain ⟨x1,hx1,hr⟩:=bq hr
 refine ae (aL (tau []) (.s (aI x1)) [] (mY _ hx1) zz ⟨.inl zz,tv⟩ tv tp tv) (aa (aB (x1 != 0)) (ab ?_))
 refine ah (b:=x1 != 0) zz (fun h2=>?_) (fun h2=>?_)
 have hr:=selT h2 hr
 refine af (ac (aa (.c (.d (.v (.slice none 0 0)))) (ab (ao ?_))))
 obtain rfl:=sq hr
 exact ⟨_,zz,.inr zz,tv⟩
 have hr:=selF h2 hr
 refine aj (af (ac (aa (.agg (tC t)) (aa (.c (.loc 0 0)) (aa (aI t.Root) ?_)))))
 obtain ⟨x3,hx3,hr⟩:=bq hr
 refine ak 0 (bQ (tau [(2000,1)]) (.s (.c (.tl 1 (lI x3)))) [(1,.tail 1)] (lO (args':=[.agg (tC t),aI t.Root,.c (.d (.v (.slice none 0 0)))]) 0 (mW _ _ _ _ hx3) ⟨.inl zz,.inl zz,.inr ⟨zz,.inl zz⟩,tv⟩ zz (mv 1 0) zz zz zz zz zz zz zz) zz ⟨.inl zz,.inl zz,.inl zz,tv⟩ tv po tv zz zz zz zz ⟨zz,tv⟩ zz zz zz) (aa (.c (.tl 1 (lI x3))) (ab (ao ?_)))
 obtain rfl:=sq hr
 exact ⟨_,zz,.inr zz,tv⟩
end Go.Proofs.YtfoigppmcelgfaaGreatDoor
end
section
set_option maxRecDepth 100000
namespace Go.Proofs.YtfoigppmcelgfaaGreatDoor
open Go Go.E2
theorem oP (self0:View→Int→Tree→Option Tree) (hself0:∀ (v:View) (parent:Int) (t:Tree) {r:Tree},self0 v parent t=some r→Con Tryz.prog 35 [.agg [cI v.Kind,cS v.Key,dV ((lM Attr.cs v.Attrs)),dV ((lM Action.cs v.Actions)),dV ((lM View.cs v.Kids))],aI parent,.agg [cI t.Root,cI t.Next,.own 0]] [(0,.vec 7 (lM Node.cs t.Nodes))] (.s (.agg [cI r.Root,cI r.Next,.own 2000])) [(0,.dead),(2000,.vec 7 (lM Node.cs r.Nodes))]) (v:View) (parent:Int) (t:Tree) {r:Tree} (hr:kk self0 v parent t=some r):Con Tryz.prog 35 [.agg [cI v.Kind,cS v.Key,dV ((lM Attr.cs v.Attrs)),dV ((lM Action.cs v.Actions)),dV ((lM View.cs v.Kids))],aI parent,.agg [cI t.Root,cI t.Next,.own 0]] [(0,.vec 7 (lM Node.cs t.Nodes))] (.s (.agg [cI r.Root,cI r.Next,.own 2000])) [(0,.dead),(2000,.vec 7 (lM Node.cs r.Nodes))]:=by
 unfold kk at hr
 refine ap 63 0 [.cell 6 30] [(0,.s (.agg [cI v.Kind,cS v.Key,dV ((lM Attr.cs v.Attrs)),dV ((lM Action.cs v.Actions)),dV ((lM View.cs v.Kids))])),(1,.s (aI parent)),(2,.s (.agg [cI t.Root,cI t.Next,.own 0]))] Tryz.func35 zz zz zz zz zz zz zz zz fun w g M ρ _=>(af (ac (ak 0 (aP (j:=1) (cs:=[cI v.Kind,cS v.Key,dV ((lM Attr.cs v.Attrs)),dV ((lM Action.cs v.Actions)),dV ((lM View.cs v.Kids))]) zz zz zz zz zz) (ak 0 (aP (j:=2) (cs:=[cI t.Root,cI t.Next,.own 0]) zz zz zz zz zz) (ak 0 (aw (j:=3) (cs:=[cI 0,cI 0,.d (.v (.slice none 0 0))]) zz zz zz zz) (ab (af (ac (aa (.c (.loc 2 1)) (aa (aI t.Next) (aa (aI t.Next) (ab (af (ac (aa (.c (.loc 2 2)) ?_)))))))))))))))
 refine aa (.c (.own 0)) (ae (ly (enc:=Node.cs) t.Nodes zz zz zz zz) (aa (aI (t.Nodes.length:Int)) (ab (af (ac (aa (.c (.loc 2 2)) (aa (.c (.own 0)) (aa (aI t.Next) (aa (aI parent) (aa (.c (.loc 1 0)) (aa (aI v.Kind) (aa (.c (.loc 1 1)) (aa (aS v.Key) (aa (.c (.loc 1 2)) (aa (aV (((lM Attr.cs v.Attrs)))) ?_)))))))))))))))
 refine aa (.c (.loc 1 3)) (aa (aV (((lM Action.cs v.Actions)))) (aa (.agg [cI t.Next,cI parent,cI v.Kind,cS v.Key,dV ((lM Attr.cs v.Attrs)),dV ((lM Action.cs v.Actions)),.d (.v (.slice none 0 0))]) (ak 0 (cp (sz:=7) (enc:=Node.cs) (j:=4) ([(Node.mk t.Next parent v.Kind v.Key v.Attrs v.Actions ([]:(List Int)))]) zz zz zz zz zz zz zz zz (fun _=>zz) tv zz zz) ?_)))
 obtain ⟨x1,hx1,hr⟩:=bq hr
 refine bW 0 (qT (enc:=Node.cs) (L:=t.Nodes) (X:=[(Node.mk t.Next parent v.Kind v.Key v.Attrs v.Actions ([]:(List Int)))]) (j:=0) (j':=5) hx1 zz zz zz zz zz zz (fun _=>zz) (fun _=>zz) tv zz zz) (aa (.c (.loc 2 2)) (aq (gt (cs':=[cI t.Root,cI t.Next,.own 5]) zz zz zz zz zz zz zz zz) (ab (af (ac (aa (.c (.loc 2 1)) (aa (aI t.Next) (aa (aI (wq (t.Next+1))) (aa (.c (.loc 2 1)) (aq (al (cs':=[cI t.Root,cI (wq (t.Next+1)),.own 5]) zz zz zz zz zz zz zz zz zz) (ab (af (ac (aa (.c (.d (.v (.slice none 0 0)))) (ab ?_)))))))))))))))
 obtain ⟨k3,hk3,hr⟩:=ax hr
 refine ay (fun (s2:(List Int)×Int×Int×(List Node))=>⟨[(5,.s (.c (.loc 2 0))),(6,.s (.c (.loc 3 0))),(8,.s (aI (t.Nodes.length:Int))),(9,.s (.c (.tl 1007 (lI s2.1))))],[(0,.dead),(2,.blk [cI s2.2.1,cI s2.2.2.1,.own 1008] 30),(3,.blk [cI 0,cI 0,.d (.v (.slice none 0 0))] 30),(1007,.tail 1),(1008,.vec 7 (lM Node.cs s2.2.2.2))],0⟩) k3 r (fun s2 hr=>?_) ?_
 rw [hk3] at hr
 refine af (ac (aa (.c (.loc 2 2)) (aa (.c (.own 1008)) (aa (aI (t.Nodes.length:Int)) (aa (.c (.tl 1007 (lI s2.1))) ?_)))))
 obtain ⟨x4,hx4,hr⟩:=bq hr
 refine ae (gw (enc:=Node.cs) (L:=s2.2.2.2) hx4 zz zz zz zz tv zz) (ae (ym (o:=6) (enc:=Node.cs) (L:=s2.2.2.2) zz zz zz (by have:=(e9 hx4).2;omega) zz) ?_)
 obtain ⟨x5,hx5,hr⟩:=bq hr
 refine aq (tT (n:=1) (enc:=Node.cs) (L:=s2.2.2.2) (z:=(Node.mk x5.ID x5.Parent x5.Kind x5.Key x5.Attrs x5.Actions s2.1)) hx5 zz zz zz zz zz zz zz zz (by decide) (fun _=>zz) zz) (ab (af (ac (aa (.agg [cI s2.2.1,cI s2.2.2.1,.own 1008]) (aq (gt (cs':=[cI s2.2.1,cI s2.2.2.1,.own 1008]) zz zz zz zz zz zz zz zz) (ab (Ok.conv (T:=⟨[(6,.s (.c (.loc 3 0)))],[(0,.dead),(3,.blk [cI s2.2.1,cI s2.2.2.1,.own 2000] 30),(2000,.vec 7 (lM Node.cs (List.set s2.2.2.2 x4 (Node.mk x5.ID x5.Parent x5.Kind x5.Key x5.Attrs x5.Actions s2.1))))],0⟩) (Conv.mk (tau [(2000,1008)]) ⟨cl zz,tv⟩ ⟨zz,zz,tv⟩ zz zz zz zz) (ao ?_))))))))
 obtain rfl:=sq hr
 exact ⟨_,zz,.inl zz,⟨(fun h=>by cases h),zz,tv⟩⟩
 clear hk3
 refine af (ac (aa (aI 0) (ab (am (az (fun (s6:(List Int)×Int×Int×Int×(List Node))=>⟨[(3,.s (.c (.loc 1 0))),(5,.s (.c (.loc 2 0))),(6,.s (.c (.loc 3 0))),(7,.s (aI t.Next)),(8,.s (aI (t.Nodes.length:Int))),(9,.s (.c (.tl 1012 (lI s6.1)))),(10,.s (aI s6.2.1))],[(0,.dead),(1,.blk [cI v.Kind,cS v.Key,dV ((lM Attr.cs v.Attrs)),dV ((lM Action.cs v.Actions)),dV ((lM View.cs v.Kids))] 27),(2,.blk [cI s6.2.2.1,cI s6.2.2.2.1,.own 1013] 30),(3,.blk [cI 0,cI 0,.d (.v (.slice none 0 0))] 30),(1012,.tail 1),(1013,.vec 7 (lM Node.cs s6.2.2.2.2))],0⟩) hr (Conv.trans (Conv.nil 9 1016 1 0 zz zz) (Conv.mk (tau [(1012,1016),(1013,5)]) ⟨cl zz,cl zz,cl zz,cl zz,cl zz,cl zz,cl zz,tv⟩ ⟨zz,zz,zz,zz,zz,tv⟩ zz zz zz zz)) ?_)))))
 clear hr
 intro again7 s6 hr
 unfold lX at hr
 refine af (af (ac (aa (aI s6.2.1) (aa (.c (.loc 1 4)) (aa (aV (((lM View.cs v.Kids)))) (ae (aK (enc:=View.cs) v.Kids zz zz tv zz) (aa (aB (decide (s6.2.1<(v.Kids.length:Int)))) (ab ?_))))))))
 refine ah (b:=decide (s6.2.1<(v.Kids.length:Int))) zz (fun h8=>?_) (fun h8=>?_)
 have hr:=selT h8 hr
 refine aj (af (am (af (ac (aa (.c (.tl 1012 (lI s6.1))) (aa (.c (.loc 2 1)) (aa (aI s6.2.2.2.1) (ak 0 (cp (sz:=1) (enc:=eI) (j:=6) ([s6.2.2.2.1]) zz zz zz zz zz zz zz zz (fun _=>zz) tv zz zz) ?_))))))))
 obtain ⟨x9,hx9,hr⟩:=bq hr
 refine bW 0 (dQ (enc:=eI) (L:=s6.1) (X:=[s6.2.2.2.1]) (j:=1012) (j':=7) hx9 zz zz zz zz zz zz (fun _=>zz) (fun _=>zz) (by decide) tv zz zz) (aa (.c (.tl 7 (lI x9))) (ab (aF (by kernel_rfl) (ar (.c (.loc 1 4)) zz tv zz (ar (aV (((lM View.cs v.Kids)))) zz tv zz (ar (aI s6.2.1) zz tv zz ?_))))))
 obtain ⟨x10,hx10,hr⟩:=bq hr
 refine av (aM (enc:=View.cs) (L:=v.Kids) (row:=[dI x10.Kind,dS x10.Key,.sl (lM Attr.cs x10.Attrs),.sl (lM Action.cs x10.Actions),.sl (lM View.cs x10.Kids)]) hx10 (View.cs_eq _) zz zz zz (fun x=>by rw [View.cs_eq];rfl) tv zz) ?_
 refine ar (.agg [cI x10.Kind,cS x10.Key,dV ((lM Attr.cs x10.Attrs)),dV ((lM Action.cs x10.Actions)),dV ((lM View.cs x10.Kids))]) zz tv zz (ar (aI t.Next) zz tv zz (ar (.agg [cI s6.2.2.1,cI s6.2.2.2.1,.own 1013]) zz tv zz ?_))
 obtain ⟨x11,hx11,hr⟩:=bq hr
 refine OkD.m2 0 (bQ (tau [(0,1013),(2000,8)]) (.s (.agg [cI x11.Root,cI x11.Next,.own 8])) [(1013,.dead),(8,.vec 7 (lM Node.cs x11.Nodes))] (hself0 _ _ _ hx11) zz ⟨.inl zz,.inl zz,.inl zz,tv⟩ tv wa ⟨zz,tv⟩ zz zz zz zz ⟨zz,tv⟩ zz zz zz) (iz (gt (cs':=[cI x11.Root,cI x11.Next,.own 8]) zz zz zz zz zz zz zz zz) (aY (by kernel_rfl) (ac (aa (aI s6.2.1) (aa (aI (wq (s6.2.1+1))) (aa (aI (wq (s6.2.1+1))) (ab ?_)))))))
 exact ⟨(x9,wq (s6.2.1+1),x11.Root,x11.Next,x11.Nodes),hr,(Conv.mk (tau [(1012,7),(1013,8)]) ⟨cl zz,cl zz,cl zz,cl zz,cl zz,cl zz,cl zz,tv⟩ ⟨zz,zz,zz,zz,zz,tv⟩ zz zz zz zz)⟩
 have hr:=selF h8 hr
 refine aE ?_
 exact ⟨(s6.1,s6.2.2.1,s6.2.2.2.1,s6.2.2.2.2),hr,(Conv.mk (tau [(1007,1012),(1008,1013)]) ⟨cl zz,cl zz,cl zz,cl zz,tv⟩ ⟨zz,zz,zz,zz,tv⟩ zz zz zz zz)⟩
theorem oO:∀ n:Nat,(∀ (v:View) (parent:Int) (t:Tree) {r:Tree},la n v parent t=some r→Con Tryz.prog 35 [.agg [cI v.Kind,cS v.Key,dV ((lM Attr.cs v.Attrs)),dV ((lM Action.cs v.Actions)),dV ((lM View.cs v.Kids))],aI parent,.agg [cI t.Root,cI t.Next,.own 0]] [(0,.vec 7 (lM Node.cs t.Nodes))] (.s (.agg [cI r.Root,cI r.Next,.own 2000])) [(0,.dead),(2000,.vec 7 (lM Node.cs r.Nodes))])∧True:=by
 intro n
 induction n with
 | zero=>exact ⟨(by intros;rename_i hr;cases hr),tv⟩
 | succ n ih=>exact ⟨(by intros;rename_i hr;exact oP _ ih.1 _ _ _ hr),tv⟩
theorem rg (n:Nat) (v:View) (parent:Int) (t:Tree) {r:Tree} (hr:la n v parent t=some r):Con Tryz.prog 35 [.agg [cI v.Kind,cS v.Key,dV ((lM Attr.cs v.Attrs)),dV ((lM Action.cs v.Actions)),dV ((lM View.cs v.Kids))],aI parent,.agg [cI t.Root,cI t.Next,.own 0]] [(0,.vec 7 (lM Node.cs t.Nodes))] (.s (.agg [cI r.Root,cI r.Next,.own 2000])) [(0,.dead),(2000,.vec 7 (lM Node.cs r.Nodes))]:=(oO n).1 v parent t hr
theorem mZ (v:View) (next:Int) {r:Tree×Int} (hr:lb v next=some r):Con Tryz.prog 9 [.agg [cI v.Kind,cS v.Key,dV ((lM Attr.cs v.Attrs)),dV ((lM Action.cs v.Actions)),dV ((lM View.cs v.Kids))],aI next] [] (.tup [.agg [cI r.1.Root,cI r.1.Next,dV ((lM Node.cs r.1.Nodes))],aI r.2]) []:=by
 unfold lb at hr
 refine ap 27 0 [.cell 4 30,.tmp 5] [(0,.s (.agg [cI v.Kind,cS v.Key,dV ((lM Attr.cs v.Attrs)),dV ((lM Action.cs v.Actions)),dV ((lM View.cs v.Kids))])),(1,.s (aI next))] Tryz.func9 zz zz zz zz zz zz zz zz fun w g M ρ _=>(af (ac (ak 0 (aP (j:=0) (cs:=[cI v.Kind,cS v.Key,dV ((lM Attr.cs v.Attrs)),dV ((lM Action.cs v.Actions)),dV ((lM View.cs v.Kids))]) zz zz zz zz zz) (ak 0 (aw (j:=1) (cs:=[cI 0,cI 0,.d (.v (.slice none 0 0))]) zz zz zz zz) (aa (aI 0) (ab (af (af (ac (aa (.agg [cI v.Kind,cS v.Key,dV ((lM Attr.cs v.Attrs)),dV ((lM Action.cs v.Actions)),dV ((lM View.cs v.Kids))]) ?_))))))))))
 obtain ⟨x1,hx1,hr⟩:=bq hr
 refine ae (aL (tau []) (.s (aI x1)) [] (j8 _ hx1) zz ⟨.inl zz,tv⟩ tv wc tv) (aa (aI x1) (ab (af (ac (aa (aI x1) (aa (aB (x1 != 0)) (ab ?_)))))))
 refine ah (b:=x1 != 0) zz (fun h2=>?_) (fun h2=>?_)
 have hr:=selT h2 hr
 refine af (ac (aa (.agg [cI 0,cI 0,.d (.v (.slice none 0 0))]) (aa (aI x1) (aq (al (cs':=[cI 0,cI 0,.d (.v (.slice none 0 0))]) zz zz zz zz zz zz zz zz zz) (aa (aI x1) (ab (ao ?_)))))))
 obtain rfl:=sq hr
 exact ⟨_,zz,.inr zz,tv⟩
 have hr:=selF h2 hr
 refine aj (af (af (ac (aa (aI next) (aa (aB (decide (next<1))) (aa (aB (decide (next<1))) (ae (ai (x:=aI next) zz zz tv zz) (ae (ai (x:=aB (decide (next>1099511627376))) zz zz ⟨fun h=>h,tv⟩ zz) ?_))))))))
 refine ae (bj zz zz (fun h=>by rw [h];rfl) zz) ?_
 refine ab ?_
 refine ah (b:=(decide (next<1))||(decide (next>1099511627376))) zz (fun h3=>?_) (fun h3=>?_)
 have hr:=selT h3 hr
 refine af (ac (aa (.agg [cI 0,cI 0,.d (.v (.slice none 0 0))]) (aq (al (cs':=[cI 0,cI 0,.d (.v (.slice none 0 0))]) zz zz zz zz zz zz zz zz zz) (aa (aI 1) (ab (ao ?_))))))
 obtain rfl:=sq hr
 exact ⟨_,zz,.inr zz,tv⟩
 have hr:=selF h3 hr
 refine aj (af (ac (aa (aI next) (aa (aI next) (aa (.agg [cI next,cI next,.d (.v (.slice none 0 0))]) (ak 0 (aw (j:=2) (cs:=[cI 0,cI 0,.d (.v (.slice none 0 0))]) zz zz zz zz) (aq (al (cs':=[cI next,cI next,.d (.v (.slice none 0 0))]) zz zz zz zz zz zz zz zz zz) (ab (af (ac (aa (.agg [cI v.Kind,cS v.Key,dV ((lM Attr.cs v.Attrs)),dV ((lM Action.cs v.Actions)),dV ((lM View.cs v.Kids))]) (aa (.agg [cI next,cI next,.d (.v (.slice none 0 0))]) (OkOps.conv (ut 25 2 3 (.vec 7 (lM Node.cs ([]:(List Node)))) (.own 3) [cI next,cI next,.d (.v (.slice none 0 0))] [cI next,cI next,.own 3] 0 zz zz zz zz (yC Node.cs 7 3) (fun _ _ h=>h.symm)) ?_)))))))))))))
 obtain ⟨x4,hx4,hr⟩:=bq hr
 refine bW 0 (bQ (tau [(0,3),(2000,4)]) (.s (.agg [cI x4.Root,cI x4.Next,.own 4])) [(3,.dead),(4,.vec 7 (lM Node.cs x4.Nodes))] (rg _ _ _ _ hx4) zz ⟨.inl zz,.inl zz,.inl zz,tv⟩ tv wa ⟨zz,tv⟩ zz zz zz zz ⟨zz,tv⟩ zz zz zz) (aq (gt (cs':=[cI x4.Root,cI x4.Next,.own 4]) zz zz zz zz zz zz zz zz) (aa (aI 0) (ab (Ok.conv (qN (enc:=Node.cs) (L:=x4.Nodes) [(26,.s (.agg [cI x4.Root,cI x4.Next,dV ((lM Node.cs x4.Nodes))]))] [(1,.blk [cI x4.Root,cI x4.Next,dV ((lM Node.cs x4.Nodes))] 30)] 4 0 zz (fun _=>zz) ⟨⟨_,zz,zz⟩,tv⟩ ⟨⟨_,_,zz,zz⟩,tv⟩) (ao ?_)))))
 obtain rfl:=sq hr
 exact ⟨_,zz,.inl zz,tv⟩
end Go.Proofs.YtfoigppmcelgfaaGreatDoor
end
section
set_option maxRecDepth 100000
namespace Go.Proofs.YtfoigppmcelgfaaGreatDoor
open Go Go.E2
theorem ii (t:Tree) {r:(List Styled)} (hr:gm t=some r):Con Tryz.prog 70 [.agg (tC t)] [] (.s (aV (((lM Styled.cs r))))) []:=by
 unfold gm at hr
 refine ap 24 0 [.tmp 2] [(0,.s (.agg (tC t)))] Tryz.func70 zz zz zz zz zz zz zz zz fun w g M ρ _=>(af (ac (ak 0 (aP (j:=0) (cs:=(tC t)) zz zz zz zz zz) (aa (.c (.d (.v (.slice none 0 0)))) (ab (af (ac (aa (.c (.d (.v (.slice none 0 0)))) (ab ?_)))))))))
 obtain ⟨k2,hk2,hr⟩:=ax hr
 refine ay (fun (s1:(List Styled))=>⟨[(3,.s (.c (.tl 1004 (lM Styled.cs s1))))],[(1004,.tail 23)],0⟩) k2 r (fun s1 hr=>?_) ?_
 rw [hk2] at hr
 refine af (ac (aa (.c (.tl 1004 (lM Styled.cs s1))) (aa (.c (.tl 1004 (lM Styled.cs s1))) (ab (ao ?_)))))
 obtain rfl:=sq hr
 exact ⟨_,zz,.inr zz,tv⟩
 clear hk2
 refine af (ac (aa (aI 0) (ab (am (az (fun (s3:(List Styled)×Int)=>⟨[(1,.s (.c (.loc 0 0))),(3,.s (.c (.tl 1007 (lM Styled.cs s3.1)))),(4,.s (aI s3.2))],[(0,.blk (tC t) 30),(1007,.tail 23)],0⟩) hr (Conv.trans (Conv.nil 3 1009 23 0 zz zz) (Conv.mk (tau [(1007,1009)]) ⟨cl zz,cl zz,cl zz,tv⟩ ⟨zz,zz,tv⟩ zz zz zz zz)) ?_)))))
 clear hr
 intro again4 s3 hr
 unfold lg at hr
 refine af (af (ac (aa (aI s3.2) (aa (.c (.loc 0 2)) (aa (aV (((lM Node.cs t.Nodes)))) (ae (aK (enc:=Node.cs) t.Nodes zz zz tv zz) (aa (aB (decide (s3.2<(t.Nodes.length:Int)))) (ab ?_))))))))
 refine ah (b:=decide (s3.2<(t.Nodes.length:Int))) zz (fun h5=>?_) (fun h5=>?_)
 have hr:=selT h5 hr
 refine aj (af (am (aF (by kernel_rfl) (ar (.c (.tl 1007 (lM Styled.cs s3.1))) zz tv zz (ar (.c (.loc 0 2)) zz tv zz (ar (aV (((lM Node.cs t.Nodes)))) zz tv zz (ar (aI s3.2) zz tv zz ?_)))))))
 obtain ⟨x6,hx6,hr⟩:=bq hr
 refine av (aM (enc:=Node.cs) (L:=t.Nodes) (row:=[dI x6.ID,dI x6.Parent,dI x6.Kind,dS x6.Key,.sl (lM Attr.cs x6.Attrs),.sl (lM Action.cs x6.Actions),.sl (lI x6.Kids)]) hx6 zz zz zz zz (fun _=>zz) tv zz) (ar (.c (.pt [dI x6.ID,dI x6.Parent,dI x6.Kind,dS x6.Key,.sl (lM Attr.cs x6.Attrs),.sl (lM Action.cs x6.Actions),.sl (lI x6.Kids)])) zz tv zz (ar (aI x6.ID) zz tv zz ?_))
 obtain ⟨x7,hx7,hr⟩:=bq hr
 refine av (aL (tau []) (.s (.agg [cI (x7 0),cI (x7 1),cI (x7 2),cI (x7 3),cI (x7 4),cI (x7 5),cI (x7 6),cI (x7 7),cI (x7 8),cI (x7 9),cI (x7 10),cI (x7 11),cI (x7 12),cI (x7 13),cI (x7 14),cI (x7 15),cI (x7 16),cI (x7 17),cI (x7 18),cI (x7 19),cI (x7 20),cI (x7 21)])) [] (oK  hx7) zz tv tv za tv) (av (r8 (x:=.agg [cI x6.ID,cI (x7 0),cI (x7 1),cI (x7 2),cI (x7 3),cI (x7 4),cI (x7 5),cI (x7 6),cI (x7 7),cI (x7 8),cI (x7 9),cI (x7 10),cI (x7 11),cI (x7 12),cI (x7 13),cI (x7 14),cI (x7 15),cI (x7 16),cI (x7 17),cI (x7 18),cI (x7 19),cI (x7 20),cI (x7 21)]) (by kernel_rfl) tv zz) (gY 0 (cp (sz:=23) (enc:=Styled.cs) (j:=1) ([(Styled.mk x6.ID x7)]) (cs:=[cI x6.ID,cI (x7 0),cI (x7 1),cI (x7 2),cI (x7 3),cI (x7 4),cI (x7 5),cI (x7 6),cI (x7 7),cI (x7 8),cI (x7 9),cI (x7 10),cI (x7 11),cI (x7 12),cI (x7 13),cI (x7 14),cI (x7 15),cI (x7 16),cI (x7 17),cI (x7 18),cI (x7 19),cI (x7 20),cI (x7 21)]) zz zz zz zz (by kernel_rfl) zz zz zz (fun _=>zz) tv zz zz) ?_))
 obtain ⟨x8,hx8,hr⟩:=bq hr
 refine OkD.m2 0 (dQ (enc:=Styled.cs) (L:=s3.1) (X:=[(Styled.mk x6.ID x7)]) (j:=1007) (j':=2) hx8 zz zz zz zz zz zz (fun _=>zz) (fun _=>zz) (by decide) tv zz zz) (ar (.c (.tl 2 (lM Styled.cs x8))) zz tv zz (aY (by kernel_rfl) (ac (aa (aI s3.2) (aa (aI (wq (s3.2+1))) (aa (aI (wq (s3.2+1))) (ab ?_)))))))
 exact ⟨(x8,wq (s3.2+1)),hr,(Conv.mk (tau [(1007,2)]) ⟨cl zz,cl zz,cl zz,tv⟩ ⟨zz,zz,tv⟩ zz zz zz zz)⟩
 have hr:=selF h5 hr
 refine aE ?_
 exact ⟨s3.1,hr,(Conv.mk (tau [(1004,1007)]) ⟨cl zz,tv⟩ ⟨zz,tv⟩ zz zz zz zz)⟩
theorem rx  {r:Bool} (hr:jz  = some r):Con Tryz.prog 25 [] [] (.s (aB r)) []:=by
 unfold jz at hr
 refine ap 65 0 [.tmp 0] [] Tryz.func25 zz zz zz zz zz zz zz zz fun w g M ρ _=>(af (ac (aa (aB false) (ab (af (ac (aa (.agg [cI 3,cS (ByteArray.mk #[98]),.d (.v (.slice none 0 0)),.d (.v (.slice none 0 0)),.d (.v (.slice none 0 0))]) (ak 0 (aw (j:=0) (cs:=[cI 0,cS ByteArray.empty,.d (.v (.slice none 0 0)),.d (.v (.slice none 0 0)),.d (.v (.slice none 0 0))]) zz zz zz zz) (aq (al (cs':=[cI 3,cS (ByteArray.mk #[98]),.d (.v (.slice none 0 0)),.d (.v (.slice none 0 0)),.d (.v (.slice none 0 0))]) zz zz zz zz zz zz zz zz zz) (ab (af (ac (aa (.agg [cI 4,cS ByteArray.empty,.d (.v (.slice none 0 0)),.d (.v (.slice none 0 0)),.d (.v (.slice none 0 0))]) ?_)))))))))))))
 refine ak 0 (cp (sz:=5) (enc:=View.cs) (j:=1) ([(View.mk 4 ByteArray.empty ([]:(List Attr)) ([]:(List Action)) ([]:(List View)))]) zz zz zz zz zz (rows:=[[dI 4,dS ByteArray.empty,.sl [],.sl [],.sl []]]) (by simp only [List.map,View.cs_eq]) zz zz (fun x=>by rw [View.cs_eq];rfl) tv zz zz) ?_
 refine aa (.agg [cI 12,cS (ByteArray.mk #[100]),.d (.v (.slice none 0 0)),.d (.v (.slice none 0 0)),.tl 1 (lM View.cs ([(View.mk 4 ByteArray.empty ([]:(List Attr)) ([]:(List Action)) ([]:(List View)))]))]) (ak 0 (aw (j:=2) (cs:=[cI 0,cS ByteArray.empty,.d (.v (.slice none 0 0)),.d (.v (.slice none 0 0)),.d (.v (.slice none 0 0))]) zz zz zz zz) (aq (al (cs':=[cI 12,cS (ByteArray.mk #[100]),.d (.v (.slice none 0 0)),.d (.v (.slice none 0 0)),.tl 1 (lM View.cs ([(View.mk 4 ByteArray.empty ([]:(List Attr)) ([]:(List Action)) ([]:(List View)))]))]) zz zz zz zz zz zz zz zz zz) (ab (af (ac (aa (.agg [cI 3,cS (ByteArray.mk #[98]),.d (.v (.slice none 0 0)),.d (.v (.slice none 0 0)),.d (.v (.slice none 0 0))]) ?_))))))
 refine ak 0 (cp (sz:=5) (enc:=View.cs) (j:=3) ([(View.mk 3 (ByteArray.mk #[98]) ([]:(List Attr)) ([]:(List Action)) ([]:(List View)))]) zz zz zz zz zz (rows:=[[dI 3,dS (ByteArray.mk #[98]),.sl [],.sl [],.sl []]]) (by simp only [List.map,View.cs_eq]) zz zz (fun x=>by rw [View.cs_eq];rfl) tv zz zz) ?_
 refine aa (.agg [cI 1,cS ByteArray.empty,.d (.v (.slice none 0 0)),.d (.v (.slice none 0 0)),.tl 3 (lM View.cs ([(View.mk 3 (ByteArray.mk #[98]) ([]:(List Attr)) ([]:(List Action)) ([]:(List View)))]))]) ?_
 obtain ⟨x1,hx1,hr⟩:=bq hr
 refine ae (aL (tau []) (.tup [.agg [cI x1.1.Root,cI x1.1.Next,dV ((lM Node.cs x1.1.Nodes))],aI x1.2]) [] (mZ _ _ hx1) zz ⟨.inr zz,.inl zz,tv⟩ tv yg tv) (ae (dk (v:=.tup [.agg [cI x1.1.Root,cI x1.1.Next,dV ((lM Node.cs x1.1.Nodes))],aI x1.2]) zz zz) (aa (.agg [cI x1.1.Root,cI x1.1.Next,dV ((lM Node.cs x1.1.Nodes))]) (aa (aI x1.2) (ak 0 (aw (j:=4) (cs:=[cI 0,cI 0,.d (.v (.slice none 0 0))]) zz zz zz zz) (aq (al (cs':=[cI x1.1.Root,cI x1.1.Next,dV ((lM Node.cs x1.1.Nodes))]) zz zz zz zz zz zz zz zz zz) (aa (aI x1.2) (ab (af (ac (aa (.agg [cI 3,cS (ByteArray.mk #[98]),.d (.v (.slice none 0 0)),.d (.v (.slice none 0 0)),.d (.v (.slice none 0 0))]) (aa (.agg [cI 12,cS (ByteArray.mk #[100]),.d (.v (.slice none 0 0)),.d (.v (.slice none 0 0)),.tl 1 (lM View.cs ([(View.mk 4 ByteArray.empty ([]:(List Attr)) ([]:(List Action)) ([]:(List View)))]))]) ?_)))))))))))
 refine ak 0 (cp (sz:=5) (enc:=View.cs) (j:=5) ([(View.mk 3 (ByteArray.mk #[98]) ([]:(List Attr)) ([]:(List Action)) ([]:(List View))),(View.mk 12 (ByteArray.mk #[100]) ([]:(List Attr)) ([]:(List Action)) ([(View.mk 4 ByteArray.empty ([]:(List Attr)) ([]:(List Action)) ([]:(List View)))]))]) zz zz zz zz zz (rows:=[[dI 3,dS (ByteArray.mk #[98]),.sl [],.sl [],.sl []],[dI 12,dS (ByteArray.mk #[100]),.sl [],.sl [],.sl (lM View.cs ([(View.mk 4 ByteArray.empty ([]:(List Attr)) ([]:(List Action)) ([]:(List View)))]))]]) (by simp only [List.map,View.cs_eq]) zz zz (fun x=>by rw [View.cs_eq];rfl) tv zz zz) ?_
 refine aa (.agg [cI 1,cS ByteArray.empty,.d (.v (.slice none 0 0)),.d (.v (.slice none 0 0)),.tl 5 (lM View.cs ([(View.mk 3 (ByteArray.mk #[98]) ([]:(List Attr)) ([]:(List Action)) ([]:(List View))),(View.mk 12 (ByteArray.mk #[100]) ([]:(List Attr)) ([]:(List Action)) ([(View.mk 4 ByteArray.empty ([]:(List Attr)) ([]:(List Action)) ([]:(List View)))]))]))]) ?_
 obtain ⟨x2,hx2,hr⟩:=bq hr
 refine ae (aL (tau []) (.tup [.agg [cI x2.1.Root,cI x2.1.Next,dV ((lM Node.cs x2.1.Nodes))],aI x2.2]) [] (mZ _ _ hx2) zz ⟨.inr zz,.inl zz,tv⟩ tv yg tv) (ae (dk (v:=.tup [.agg [cI x2.1.Root,cI x2.1.Next,dV ((lM Node.cs x2.1.Nodes))],aI x2.2]) zz zz) (aa (.agg [cI x2.1.Root,cI x2.1.Next,dV ((lM Node.cs x2.1.Nodes))]) (aa (aI x2.2) (ak 0 (aw (j:=6) (cs:=[cI 0,cI 0,.d (.v (.slice none 0 0))]) zz zz zz zz) (aq (al (cs':=[cI x2.1.Root,cI x2.1.Next,dV ((lM Node.cs x2.1.Nodes))]) zz zz zz zz zz zz zz zz zz) (aa (aI x2.2) (ab (af (aF (by kernel_rfl) (ar (.agg [cI x1.1.Root,cI x1.1.Next,dV ((lM Node.cs x1.1.Nodes))]) zz tv zz (ar (.agg [cI x2.1.Root,cI x2.1.Next,dV ((lM Node.cs x2.1.Nodes))]) zz tv zz (ar (.agg [cI x1.1.Root,cI x1.1.Next,dV ((lM Node.cs x1.1.Nodes))]) zz tv zz ?_))))))))))))
 obtain ⟨x3,hx3,hr⟩:=bq hr
 refine av (aL (tau []) (.s (aV (((lM Styled.cs x3))))) [] (ii _ hx3) zz ⟨.inl zz,tv⟩ tv pf tv) (ar (.agg [cI x2.1.Root,cI x2.1.Next,dV ((lM Node.cs x2.1.Nodes))]) zz tv zz ?_)
 obtain ⟨x4,hx4,hr⟩:=bq hr
 refine av (aL (tau []) (.s (aV (((lM Styled.cs x4))))) [] (ii _ hx4) zz ⟨.inl zz,tv⟩ tv pf tv) (ar (.agg [cI 2,cB_ false,.d (.v (.slice none 0 0))]) zz tv zz ?_)
 obtain ⟨x5,hx5,hr⟩:=bq hr
 refine av (aL (tau []) (.s (.agg [cI x5.Focused,cB_ x5.Visible,dV ((lI x5.Past))])) [] (nb _ _ _ _ _ hx5) zz ⟨.inl zz,.inl zz,.inl zz,.inl zz,.inr zz,tv⟩ tv vU tv) (gY 0 (aw (j:=7) (cs:=[cI 0,cB_ false,.d (.v (.slice none 0 0))]) zz zz zz zz) (iz (al (cs':=[cI x5.Focused,cB_ x5.Visible,dV ((lI x5.Past))]) zz zz zz zz zz zz zz zz zz) (aY (by kernel_rfl) (af (aF (by kernel_rfl) (ar (.agg [cI x2.1.Root,cI x2.1.Next,dV ((lM Node.cs x2.1.Nodes))]) zz tv zz (ar (.agg [cI x1.1.Root,cI x1.1.Next,dV ((lM Node.cs x1.1.Nodes))]) zz tv zz (ar (.agg [cI x2.1.Root,cI x2.1.Next,dV ((lM Node.cs x2.1.Nodes))]) zz tv zz ?_))))))))
 obtain ⟨x6,hx6,hr⟩:=bq hr
 refine av (aL (tau []) (.s (aV (((lM Styled.cs x6))))) [] (ii _ hx6) zz ⟨.inl zz,tv⟩ tv pf tv) (ar (.agg [cI x1.1.Root,cI x1.1.Next,dV ((lM Node.cs x1.1.Nodes))]) zz tv zz ?_)
 obtain ⟨x7,hx7,hr⟩:=bq hr
 refine av (aL (tau []) (.s (aV (((lM Styled.cs x7))))) [] (ii _ hx7) zz ⟨.inl zz,tv⟩ tv pf tv) (ar (.agg [cI x5.Focused,cB_ x5.Visible,dV ((lI x5.Past))]) zz tv zz ?_)
 obtain ⟨x8,hx8,hr⟩:=bq hr
 refine av (aL (tau []) (.s (.agg [cI x8.Focused,cB_ x8.Visible,dV ((lI x8.Past))])) [] (nb _ _ _ _ _ hx8) zz ⟨.inl zz,.inl zz,.inl zz,.inl zz,.inl zz,tv⟩ tv vU tv) (gY 0 (aw (j:=8) (cs:=[cI 0,cB_ false,.d (.v (.slice none 0 0))]) zz zz zz zz) (iz (al (cs':=[cI x8.Focused,cB_ x8.Visible,dV ((lI x8.Past))]) zz zz zz zz zz zz zz zz zz) (aY (by kernel_rfl) (af (ac (aa (.c (.loc 7 0)) (aa (aI x5.Focused) (aa (aB (x5.Focused==4)) (aa (aB (x5.Focused==4)) (ae (ai (x:=.c (.loc 7 2)) zz zz tv zz) (ae (ai (x:=aV (((lI x5.Past)))) zz zz ⟨fun h=>h,tv⟩ zz) (ae (cy (enc:=eI) x5.Past zz zz zz ⟨fun h=>h,tv⟩ zz) (ae (ai (x:=aB ((x5.Past.length:Int)==1)) zz zz ⟨fun h=>h,tv⟩ zz) (ae (bb zz zz (fun h=>h) zz) (aa (aB ((x5.Focused==4)&&((x5.Past.length:Int)==1))) ?_)))))))))))))))
 refine ae (ai (x:=.c (.loc 7 2)) zz zz tv zz) (ae (ai (x:=aV (((lI x5.Past)))) zz zz ⟨fun h=>h,tv⟩ zz) ?_)
 obtain ⟨x9,hx9,hr⟩:=bq hr
 refine ae (eR (enc:=eI) (L:=x5.Past) (row:=[dI x9]) (cQ hx9) zz zz zz zz zz (fun _=>zz) ⟨fun h=>h,tv⟩ zz) (ae (ai (x:=aI x9) zz zz ⟨fun h=>h,tv⟩ zz) (ae (ai (x:=aB (x9==2)) zz zz ⟨fun h=>h,tv⟩ zz) (ae (bb zz zz (fun h=>h) zz) (aa (aB (((x5.Focused==4)&&((x5.Past.length:Int)==1))&&(x9==2))) (ae (ai (x:=.c (.loc 8 0)) zz zz tv zz) (ae (ai (x:=aI x8.Focused) zz zz ⟨fun h=>h,tv⟩ zz) (ae (ai (x:=aB (x8.Focused==2)) zz zz ⟨fun h=>h,tv⟩ zz) (ae (bb zz zz (fun h=>h) zz) (aa (aB ((((x5.Focused==4)&&((x5.Past.length:Int)==1))&&(x9==2))&&(x8.Focused==2))) (ab (ao ?_)))))))))))
 obtain rfl:=sq hr
 exact ⟨_,zz,.inl zz,tv⟩
end Go.Proofs.YtfoigppmcelgfaaGreatDoor
end

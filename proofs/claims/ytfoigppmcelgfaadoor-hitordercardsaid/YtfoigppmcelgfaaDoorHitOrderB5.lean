/-
  Part 5 of the texts under the law HitOrder: the calculus, the plain functions, their walks, plain facts.
-/
import Derived.Test.YtfoigppmcelgfaaDoorHitOrderB4
import Derived.Test.YtfoigppmcelgfaaDoorProg
import Derived.KernelRfl
section
set_option maxRecDepth 100000
namespace Go.Proofs.YtfoigppmcelgfaaDoor
open Go Go.E2
theorem l29_awake_c  {r : Bool} (hr : l29_awake  = some r) : Con Tryd.prog 15 [] [] (.s (aB r)) []:=by
 unfold l29_awake at hr
 refine Con.of_ok 55 0 [.tmp 0] [] Tryd.func15 rfl rfl rfl rfl rfl rfl rfl rfl fun w g M ρ _=>(Ok.seq (Ok.region (OkOps.y (aB false) (OkOps.nil (Ok.seq (Ok.region (OkOps.y (.agg [cI 1,cS ByteArray.empty,.d (.v (.slice none 0 0)),.d (.v (.slice none 0 0)),.d (.v (.slice none 0 0))]) (OkOps.y (.agg [cI 1,cS ByteArray.empty,.d (.v (.slice none 0 0)),.d (.v (.slice none 0 0)),.d (.v (.slice none 0 0))]) ?_))))))))
 refine OkOps.m 0 (triBST (sz:=5) (enc:=View.cs) (j:=0) ([(View.mk 1 ByteArray.empty ([] : (List Attr)) ([] : (List Action)) ([] : (List View))),(View.mk 1 ByteArray.empty ([] : (List Attr)) ([] : (List Action)) ([] : (List View)))]) rfl rfl rfl rfl rfl (rows:=[[dI 1,dS ByteArray.empty,.sl [],.sl [],.sl []],[dI 1,dS ByteArray.empty,.sl [],.sl [],.sl []]]) (by simp only [List.map,View.cs_eq]) rfl rfl (fun x=>by rw [View.cs_eq];rfl) trivial rfl rfl) ?_
 refine OkOps.y (.agg [cI 1,cS ByteArray.empty,.d (.v (.slice none 0 0)),.d (.v (.slice none 0 0)),.tl 0 (List.map View.cs ([(View.mk 1 ByteArray.empty ([] : (List Attr)) ([] : (List Action)) ([] : (List View))),(View.mk 1 ByteArray.empty ([] : (List Attr)) ([] : (List Action)) ([] : (List View)))]))]) (OkOps.m 0 (triAlloc (j:=1) (cs:=[cI 0,cS ByteArray.empty,.d (.v (.slice none 0 0)),.d (.v (.slice none 0 0)),.d (.v (.slice none 0 0))]) rfl rfl rfl rfl) (OkOps.w (triStore (cs':=[cI 1,cS ByteArray.empty,.d (.v (.slice none 0 0)),.d (.v (.slice none 0 0)),.tl 0 (List.map View.cs ([(View.mk 1 ByteArray.empty ([] : (List Attr)) ([] : (List Action)) ([] : (List View))),(View.mk 1 ByteArray.empty ([] : (List Attr)) ([] : (List Action)) ([] : (List View)))]))]) rfl rfl rfl rfl rfl rfl rfl rfl rfl) (OkOps.nil (Ok.seq (Ok.region (OkOps.y (.agg [cI 1,cS ByteArray.empty,.d (.v (.slice none 0 0)),.d (.v (.slice none 0 0)),.tl 0 (List.map View.cs ([(View.mk 1 ByteArray.empty ([] : (List Attr)) ([] : (List Action)) ([] : (List View))),(View.mk 1 ByteArray.empty ([] : (List Attr)) ([] : (List Action)) ([] : (List View)))]))]) ?_))))))
 obtain ⟨x1,hx1,hr⟩:=bind_some hr
 refine OkOps.q (triCl (tau []) (.tup [.agg [cI x1.1.Root,cI x1.1.Next,.d (.sl (List.map Node.cs x1.1.Nodes))],aI x1.2]) [] (r14_Build_c _ _ hx1) rfl ⟨.inr rfl,.inl rfl,trivial⟩ trivial entry11 trivial) (OkOps.q (triMv (v:=.tup [.agg [cI x1.1.Root,cI x1.1.Next,.d (.sl (List.map Node.cs x1.1.Nodes))],aI x1.2]) rfl rfl) (OkOps.y (.agg [cI x1.1.Root,cI x1.1.Next,.d (.sl (List.map Node.cs x1.1.Nodes))]) (OkOps.y (aI x1.2) (OkOps.m 0 (triAlloc (j:=2) (cs:=[cI 0,cI 0,.d (.v (.slice none 0 0))]) rfl rfl rfl rfl) (OkOps.w (triStore (cs':=[cI x1.1.Root,cI x1.1.Next,.d (.sl (List.map Node.cs x1.1.Nodes))]) rfl rfl rfl rfl rfl rfl rfl rfl rfl) (OkOps.y (aI x1.2) (OkOps.nil (Ok.seq (Ok.region (OkOps.y (.c (.d (.v (.slice none 0 0)))) (OkOps.nil (Ok.seq (Ok.region (OkOps.y (.c (.d (.v (.slice none 0 0)))) (OkOps.nil ?_)))))))))))))))
 obtain ⟨k3,hk3,hr⟩:=jn_some hr
 refine Ok.join (fun (s2 : (List Styled) × (List Box))=>⟨[(2,.s (.c (.loc 2 0))),(4,.s (.c (.tl 1008 (List.map Styled.cs s2.1)))),(5,.s (.c (.tl 1009 (List.map Box.cs s2.2))))],[(2,.blk [cI x1.1.Root,cI x1.1.Next,.d (.sl (List.map Node.cs x1.1.Nodes))] 46),(1008,.tail 23),(1009,.tail 7)],0⟩) k3 r (fun s2 hr=>?_) ?_
 rw [hk3] at hr
 refine Ok.seq (Ok.region (OkOps.y (.agg [cI x1.1.Root,cI x1.1.Next,.d (.sl (List.map Node.cs x1.1.Nodes))]) (OkOps.y (.c (.tl 1008 (List.map Styled.cs s2.1))) (OkOps.y (.c (.tl 1009 (List.map Box.cs s2.2))) (OkOps.y (.agg [cI 10,cI 5]) ?_)))))
 obtain ⟨x4,hx4,hr⟩:=bind_some hr
 refine OkOps.q (triCl (tau []) (.s (.c (.d (.sl (List.map (eInt .i64) x4))))) [] (ht_Test_c _ _ _ _ _ hx4) rfl ⟨.inl rfl,.inr rfl,.inr rfl,.inr rfl,.inl rfl,trivial⟩ trivial entry13 trivial) (OkOps.y (.c (.d (.sl (List.map (eInt .i64) x4)))) (OkOps.nil (Ok.seq (Ok.region (OkOps.y (.c (.d (.sl (List.map (eInt .i64) x4)))) (OkOps.q (triLen (enc:=(eInt .i64)) x4 rfl rfl trivial rfl) (OkOps.y (aB ((x4.length : Int) == 2)) (OkOps.y (aB ((x4.length : Int) == 2)) (OkOps.q (triQG (x:=.c (.d (.sl (List.map (eInt .i64) x4)))) rfl rfl trivial rfl) ?_)))))))))
 obtain ⟨x5,hx5,hr⟩:=bind_some hr
 refine OkOps.q (triIdxG (enc:=(eInt .i64)) (L:=x4) (row:=[dI x5]) (gO_t hx5) rfl rfl rfl rfl rfl (fun _=>rfl) ⟨fun h=>h,trivial⟩ rfl) (OkOps.q (triQG (x:=aI x5) rfl rfl ⟨fun h=>h,trivial⟩ rfl) (OkOps.q (triQG (x:=aB (x5 == 1)) rfl rfl ⟨fun h=>h,trivial⟩ rfl) (OkOps.q (triAnd rfl rfl (fun h=>h) rfl) (OkOps.y (aB (((x4.length : Int) == 2) && (x5 == 1))) (OkOps.q (triQG (x:=.c (.d (.sl (List.map (eInt .i64) x4)))) rfl rfl trivial rfl) ?_)))))
 obtain ⟨x6,hx6,hr⟩:=bind_some hr
 refine OkOps.q (triIdxG (enc:=(eInt .i64)) (L:=x4) (row:=[dI x6]) (gO_t hx6) rfl rfl rfl rfl rfl (fun _=>rfl) ⟨fun h=>h,trivial⟩ rfl) (OkOps.q (triQG (x:=aI x6) rfl rfl ⟨fun h=>h,trivial⟩ rfl) (OkOps.q (triQG (x:=aB (x6 == 3)) rfl rfl ⟨fun h=>h,trivial⟩ rfl) (OkOps.q (triAnd rfl rfl (fun h=>h) rfl) (OkOps.y (aB ((((x4.length : Int) == 2) && (x5 == 1)) && (x6 == 3))) (OkOps.nil (Ok.ret ?_))))))
 obtain rfl:=Option.some.inj hr
 exact ⟨_,rfl,.inl rfl,trivial⟩
 clear hk3
 refine Ok.seq (Ok.region (OkOps.y (aI 1) (OkOps.nil (Ok.block (Ok.loopK (fun (s7 : (List Styled) × (List Box) × Int)=>⟨[(2,.s (.c (.loc 2 0))),(4,.s (.c (.tl 1014 (List.map Styled.cs s7.1)))),(5,.s (.c (.tl 1015 (List.map Box.cs s7.2.1)))),(6,.s (aI s7.2.2))],[(2,.blk [cI x1.1.Root,cI x1.1.Next,.d (.sl (List.map Node.cs x1.1.Nodes))] 46),(1014,.tail 23),(1015,.tail 7)],0⟩) hr (Conv.trans (Conv.nil 4 1018 23 0 rfl rfl) (Conv.trans (Conv.nil 5 1019 7 0 rfl rfl) (Conv.mk (tau [(1014,1018),(1015,1019)]) ⟨⟨_,rfl,.inl rfl⟩,⟨_,rfl,.inl rfl⟩,⟨_,rfl,.inl rfl⟩,⟨_,rfl,.inl rfl⟩,trivial⟩ ⟨rfl,rfl,rfl,trivial⟩ rfl rfl rfl rfl))) ?_)))))
 clear hr
 intro again8 s7 hr
 unfold l29_awake_L1 at hr
 refine Ok.seq (Ok.seq (Ok.region (OkOps.y (aI s7.2.2) (OkOps.y (aB (decide (s7.2.2 ≤ 3))) (OkOps.nil ?_)))))
 refine Ok.cond (b:=decide (s7.2.2 ≤ 3)) rfl (fun h9=>?_) (fun h9=>?_)
 have hr:=selT h9 hr
 refine Ok.skip (Ok.seq (Ok.block (Ok.seq (Ok.region (OkOps.y (.c (.tl 1014 (List.map Styled.cs s7.1))) (OkOps.y (aI s7.2.2) ?_))))))
 obtain ⟨x10,hx10,hr⟩:=bind_some hr
 refine OkOps.q (triCl (tau []) (.s (.agg [cI (x10 0),cI (x10 1),cI (x10 2),cI (x10 3),cI (x10 4),cI (x10 5),cI (x10 6),cI (x10 7),cI (x10 8),cI (x10 9),cI (x10 10),cI (x10 11),cI (x10 12),cI (x10 13),cI (x10 14),cI (x10 15),cI (x10 16),cI (x10 17),cI (x10 18),cI (x10 19),cI (x10 20),cI (x10 21)])) [] (r17_Initial_c  hx10) rfl trivial trivial entry9 trivial) (OkOps.q (triQ (x:=.agg [cI s7.2.2,cI (x10 0),cI (x10 1),cI (x10 2),cI (x10 3),cI (x10 4),cI (x10 5),cI (x10 6),cI (x10 7),cI (x10 8),cI (x10 9),cI (x10 10),cI (x10 11),cI (x10 12),cI (x10 13),cI (x10 14),cI (x10 15),cI (x10 16),cI (x10 17),cI (x10 18),cI (x10 19),cI (x10 20),cI (x10 21)]) (by kernel_rfl) trivial rfl) (OkOps.m 0 (triBST (sz:=23) (enc:=Styled.cs) (j:=3) ([(Styled.mk s7.2.2 x10)]) (cs:=[cI s7.2.2,cI (x10 0),cI (x10 1),cI (x10 2),cI (x10 3),cI (x10 4),cI (x10 5),cI (x10 6),cI (x10 7),cI (x10 8),cI (x10 9),cI (x10 10),cI (x10 11),cI (x10 12),cI (x10 13),cI (x10 14),cI (x10 15),cI (x10 16),cI (x10 17),cI (x10 18),cI (x10 19),cI (x10 20),cI (x10 21)]) rfl rfl rfl rfl (by kernel_rfl) rfl rfl rfl (fun _=>rfl) trivial rfl rfl) ?_))
 obtain ⟨x11,hx11,hr⟩:=bind_some hr
 refine OkOps.m2 0 (triApp (enc:=Styled.cs) (L:=s7.1) (X:=[(Styled.mk s7.2.2 x10)]) (j:=1014) (j':=4) hx11 rfl rfl rfl rfl rfl rfl (fun _=>rfl) (fun _=>rfl) (by decide) trivial rfl rfl) (OkOps.y (.c (.tl 4 (List.map Styled.cs x11))) (OkOps.nil (Ok.region (OkOps.y (.c (.tl 1015 (List.map Box.cs s7.2.1))) (OkOps.y (aI s7.2.2) (OkOps.y (aI s7.2.2) (OkOps.y (aI (IntKind.i64.wrap (2 * s7.2.2))) (OkOps.y (.agg [cI (IntKind.i64.wrap (2 * s7.2.2)),cI 0,cI 10,cI 10]) (OkOps.y (.agg [cI s7.2.2,cI (IntKind.i64.wrap (2 * s7.2.2)),cI 0,cI 10,cI 10,cI 0,.d (.v (.slice none 0 0))]) (OkOps.m 0 (triBST (sz:=7) (enc:=Box.cs) (j:=5) ([(Box.mk s7.2.2 (Rect.mk (IntKind.i64.wrap (2 * s7.2.2)) 0 10 10) 0 ([] : (List Line)))]) rfl rfl rfl rfl rfl rfl rfl rfl (fun _=>rfl) trivial rfl rfl) ?_))))))))))
 obtain ⟨x12,hx12,hr⟩:=bind_some hr
 refine OkOps.m2 0 (triApp (enc:=Box.cs) (L:=s7.2.1) (X:=[(Box.mk s7.2.2 (Rect.mk (IntKind.i64.wrap (2 * s7.2.2)) 0 10 10) 0 ([] : (List Line)))]) (j:=1015) (j':=6) hx12 rfl rfl rfl rfl rfl rfl (fun _=>rfl) (fun _=>rfl) (by decide) trivial rfl rfl) (OkOps.y (.c (.tl 6 (List.map Box.cs x12))) (OkOps.nil (Ok.region (OkOps.y (aI s7.2.2) (OkOps.y (aI (IntKind.i64.wrap (s7.2.2 + 1))) (OkOps.y (aI (IntKind.i64.wrap (s7.2.2 + 1))) (OkOps.nil ?_)))))))
 exact ⟨(x11,x12,IntKind.i64.wrap (s7.2.2 + 1)),hr,(Conv.mk (tau [(1014,4),(1015,6)]) ⟨⟨_,rfl,.inl rfl⟩,⟨_,rfl,.inl rfl⟩,⟨_,rfl,.inl rfl⟩,⟨_,rfl,.inl rfl⟩,trivial⟩ ⟨rfl,rfl,rfl,trivial⟩ rfl rfl rfl rfl)⟩
 have hr:=selF h9 hr
 refine Ok.exit ?_
 exact ⟨(s7.1,s7.2.1),hr,(Conv.mk (tau [(1008,1014),(1009,1015)]) ⟨⟨_,rfl,.inl rfl⟩,⟨_,rfl,.inl rfl⟩,⟨_,rfl,.inl rfl⟩,trivial⟩ ⟨rfl,rfl,rfl,trivial⟩ rfl rfl rfl rfl)⟩
theorem l29_HitOrder_c (l : (List Int)) {r : Bool} (hr : l29_HitOrder l = some r) : Con Tryd.prog 3 [.c (.d (.sl (List.map (eInt .i64) l)))] [] (.s (aB r)) []:=by
 unfold l29_HitOrder at hr
 refine Con.of_ok 131 0 [.tmp 2] [(0,.s (.c (.d (.sl (List.map (eInt .i64) l)))))] Tryd.func3 rfl rfl rfl rfl rfl rfl rfl rfl fun w g M ρ _=>(Ok.seq (Ok.region (OkOps.y (aB false) (OkOps.nil (Ok.seq (Ok.region (OkOps.y (.c (.d (.sl (List.map (eInt .i64) l)))) ?_)))))))
 obtain ⟨x1,hx1,hr⟩:=bind_some hr
 refine OkOps.m 0 (triCall (tau [(0,0)]) (.s (.c (.loc 0 0))) [(0,.blk [.d (.sl (List.map (eInt .i64) x1.L)),cI x1.At] 77)] (b_New_c _ hx1) rfl ⟨.inl rfl,trivial⟩ trivial entry7 trivial rfl rfl rfl rfl ⟨rfl,trivial⟩ rfl rfl rfl) (OkOps.y (.c (.loc 0 0)) (OkOps.nil (Ok.seq (Ok.region (OkOps.y (.agg [cI 1,cS ByteArray.empty,.d (.v (.slice none 0 0)),.d (.v (.slice none 0 0)),.d (.v (.slice none 0 0))]) (OkOps.m 0 (triAlloc (j:=1) (cs:=[cI 0,cS ByteArray.empty,.d (.v (.slice none 0 0)),.d (.v (.slice none 0 0)),.d (.v (.slice none 0 0))]) rfl rfl rfl rfl) (OkOps.w (triStore (cs':=[cI 1,cS ByteArray.empty,.d (.v (.slice none 0 0)),.d (.v (.slice none 0 0)),.d (.v (.slice none 0 0))]) rfl rfl rfl rfl rfl rfl rfl rfl rfl) (OkOps.nil (Ok.seq (Ok.region (OkOps.y (.c (.loc 0 0)) ?_)))))))))))
 obtain ⟨x2,hx2,hr⟩:=bind_some hr
 refine OkOps.m 0 (triCl (tau [(0,0)]) (.s (aI x2.1)) [(0,.blk [.d (.sl (List.map (eInt .i64) x2.2.L)),cI x2.2.At] 77)] (b_Src_Range_c _ _ _ hx2) rfl ⟨.inl rfl,.inl rfl,.inl rfl,trivial⟩ trivial entry8 ⟨rfl,trivial⟩) (OkOps.y (aI x2.1) (OkOps.nil (Ok.seq (Ok.region (OkOps.y (.agg [cI 0,cI 0,cI 50,cI 50]) (OkOps.y (.agg [cI 1,cI 0,cI 0,cI 50,cI 50,cI 0,.d (.v (.slice none 0 0))]) (OkOps.m 0 (triBST (sz:=7) (enc:=Box.cs) (j:=2) ([(Box.mk 1 (Rect.mk 0 0 50 50) 0 ([] : (List Line)))]) rfl rfl rfl rfl rfl rfl rfl rfl (fun _=>rfl) trivial rfl rfl) (OkOps.y (.c (.tl 2 (List.map Box.cs ([(Box.mk 1 (Rect.mk 0 0 50 50) 0 ([] : (List Line)))])))) (OkOps.nil (Ok.seq (Ok.region ?_)))))))))))
 obtain ⟨x3,hx3,hr⟩:=bind_some hr
 refine OkOps.q (triCl (tau []) (.s (.agg [cI (x3 0),cI (x3 1),cI (x3 2),cI (x3 3),cI (x3 4),cI (x3 5),cI (x3 6),cI (x3 7),cI (x3 8),cI (x3 9),cI (x3 10),cI (x3 11),cI (x3 12),cI (x3 13),cI (x3 14),cI (x3 15),cI (x3 16),cI (x3 17),cI (x3 18),cI (x3 19),cI (x3 20),cI (x3 21)])) [] (r17_Initial_c  hx3) rfl trivial trivial entry9 trivial) (OkOps.q (triQ (x:=.agg [cI 1,cI (x3 0),cI (x3 1),cI (x3 2),cI (x3 3),cI (x3 4),cI (x3 5),cI (x3 6),cI (x3 7),cI (x3 8),cI (x3 9),cI (x3 10),cI (x3 11),cI (x3 12),cI (x3 13),cI (x3 14),cI (x3 15),cI (x3 16),cI (x3 17),cI (x3 18),cI (x3 19),cI (x3 20),cI (x3 21)]) (by kernel_rfl) trivial rfl) (OkOps.m 0 (triBST (sz:=23) (enc:=Styled.cs) (j:=3) ([(Styled.mk 1 x3)]) (cs:=[cI 1,cI (x3 0),cI (x3 1),cI (x3 2),cI (x3 3),cI (x3 4),cI (x3 5),cI (x3 6),cI (x3 7),cI (x3 8),cI (x3 9),cI (x3 10),cI (x3 11),cI (x3 12),cI (x3 13),cI (x3 14),cI (x3 15),cI (x3 16),cI (x3 17),cI (x3 18),cI (x3 19),cI (x3 20),cI (x3 21)]) rfl rfl rfl rfl (by kernel_rfl) rfl rfl rfl (fun _=>rfl) trivial rfl rfl) (OkOps.y (.c (.tl 3 (List.map Styled.cs ([(Styled.mk 1 x3)])))) (OkOps.nil ?_))))
 obtain ⟨k5,hk5,hr⟩:=jn_some hr
 refine Ok.join (fun (s4 : (List Box) × (List Styled) × (List Int) × Int × (List View))=>⟨[(3,.s (.c (.loc 0 0))),(4,.s (.c (.loc 1 0))),(6,.s (.c (.tl 1010 (List.map Box.cs s4.1)))),(7,.s (.c (.tl 1011 (List.map Styled.cs s4.2.1))))],[(0,.blk [.d (.sl (List.map (eInt .i64) s4.2.2.1)),cI s4.2.2.2.1] 77),(1,.blk [cI 1,cS ByteArray.empty,.d (.v (.slice none 0 0)),.d (.v (.slice none 0 0)),.tl 1012 (List.map View.cs s4.2.2.2.2)] 29),(1010,.tail 7),(1011,.tail 23),(1012,.tail 5)],0⟩) k5 r (fun s4 hr=>?_) ?_
 rw [hk5] at hr
 refine Ok.seq (Ok.region (OkOps.y (.agg [cI 1,cS ByteArray.empty,.d (.v (.slice none 0 0)),.d (.v (.slice none 0 0)),.tl 1012 (List.map View.cs s4.2.2.2.2)]) ?_))
 obtain ⟨x6,hx6,hr⟩:=bind_some hr
 refine OkOps.q (triCl (tau []) (.tup [.agg [cI x6.1.Root,cI x6.1.Next,.d (.sl (List.map Node.cs x6.1.Nodes))],aI x6.2]) [] (r14_Build_c _ _ hx6) rfl ⟨.inr rfl,.inl rfl,trivial⟩ trivial entry11 trivial) (OkOps.q (triMv (v:=.tup [.agg [cI x6.1.Root,cI x6.1.Next,.d (.sl (List.map Node.cs x6.1.Nodes))],aI x6.2]) rfl rfl) (OkOps.y (.agg [cI x6.1.Root,cI x6.1.Next,.d (.sl (List.map Node.cs x6.1.Nodes))]) (OkOps.y (aI x6.2) (OkOps.m 0 (triAlloc (j:=4) (cs:=[cI 0,cI 0,.d (.v (.slice none 0 0))]) rfl rfl rfl rfl) (OkOps.w (triStore (cs':=[cI x6.1.Root,cI x6.1.Next,.d (.sl (List.map Node.cs x6.1.Nodes))]) rfl rfl rfl rfl rfl rfl rfl rfl rfl) (OkOps.y (aI x6.2) (OkOps.nil ?_)))))))
 obtain ⟨k8,hk8,hr⟩:=jn_some hr
 refine Ok.join (fun (s7 : Unit)=>⟨[(6,.s (.c (.tl 1010 (List.map Box.cs s4.1))))],[(1010,.tail 7)],0⟩) k8 r (fun s7 hr=>?_) ?_
 rw [hk8] at hr
 refine Ok.seq (Ok.region (OkOps.y (.c (.tl 1010 (List.map Box.cs s4.1))) ?_))
 obtain ⟨x9,hx9,hr⟩:=bind_some hr
 refine OkOps.q (triCl (tau []) (.tup [.agg [cI x9.1.ID,cI x9.1.Rect.X,cI x9.1.Rect.Y,cI x9.1.Rect.W,cI x9.1.Rect.H,cI x9.1.Baseline,.d (.sl (List.map Line.cs x9.1.Lines))],aB x9.2]) [] (r21_Find_c _ _ hx9) rfl ⟨.inr rfl,.inl rfl,trivial⟩ trivial entry14 trivial) (OkOps.q (triMv (v:=.tup [.agg [cI x9.1.ID,cI x9.1.Rect.X,cI x9.1.Rect.Y,cI x9.1.Rect.W,cI x9.1.Rect.H,cI x9.1.Baseline,.d (.sl (List.map Line.cs x9.1.Lines))],aB x9.2]) rfl rfl) (OkOps.y (.agg [cI x9.1.ID,cI x9.1.Rect.X,cI x9.1.Rect.Y,cI x9.1.Rect.W,cI x9.1.Rect.H,cI x9.1.Baseline,.d (.sl (List.map Line.cs x9.1.Lines))]) (OkOps.y (aB x9.2) (OkOps.m 0 (triAlloc (j:=5) (cs:=[cI 0,cI 0,cI 0,cI 0,cI 0,cI 0,.d (.v (.slice none 0 0))]) rfl rfl rfl rfl) (OkOps.w (triStore (cs':=[cI x9.1.ID,cI x9.1.Rect.X,cI x9.1.Rect.Y,cI x9.1.Rect.W,cI x9.1.Rect.H,cI x9.1.Baseline,.d (.sl (List.map Line.cs x9.1.Lines))]) rfl rfl rfl rfl rfl rfl rfl rfl rfl) (OkOps.y (aB x9.2) (OkOps.nil (Ok.seq (Ok.region (OkOps.y (aB x9.2) (OkOps.y (aB x9.2) ?_)))))))))))
 obtain ⟨x10,hx10,hr⟩:=bind_some hr
 refine OkOps.q (triCallG (x:=aB x10) (fun hg=>l29_awake_c  (gO_t hx10 hg)) rfl rfl trivial trivial entry15 rfl rfl rfl) (OkOps.q (triAnd rfl rfl (fun h=>h) rfl) (OkOps.y (aB (x9.2 && x10)) (OkOps.nil (Ok.ret ?_))))
 obtain rfl:=Option.some.inj hr
 exact ⟨_,rfl,.inl rfl,trivial⟩
 clear hk8
 refine Ok.seq (Ok.region (OkOps.y (aI 0) (OkOps.nil (Ok.block (Ok.loopK (fun (s11 : Int × (List Int) × Int)=>⟨[(3,.s (.c (.loc 0 0))),(6,.s (.c (.tl 1010 (List.map Box.cs s4.1)))),(7,.s (.c (.tl 1011 (List.map Styled.cs s4.2.1)))),(9,.s (.c (.loc 4 0))),(11,.s (aI s11.1))],[(0,.blk [.d (.sl (List.map (eInt .i64) s11.2.1)),cI s11.2.2] 77),(4,.blk [cI x6.1.Root,cI x6.1.Next,.d (.sl (List.map Node.cs x6.1.Nodes))] 46),(1010,.tail 7),(1011,.tail 23)],0⟩) hr (Conv.mk (tau []) ⟨⟨_,rfl,.inl rfl⟩,⟨_,rfl,.inl rfl⟩,⟨_,rfl,.inl rfl⟩,⟨_,rfl,.inl rfl⟩,⟨_,rfl,.inl rfl⟩,trivial⟩ ⟨rfl,rfl,rfl,rfl,trivial⟩ rfl rfl rfl rfl) ?_)))))
 clear hr
 intro again12 s11 hr
 unfold l29_HitOrder_L2 at hr
 refine Ok.seq (Ok.seq (Ok.region (OkOps.y (aI s11.1) (OkOps.y (aB (decide (s11.1 < 8))) (OkOps.nil ?_)))))
 refine Ok.cond (b:=decide (s11.1 < 8)) rfl (fun h13=>?_) (fun h13=>?_)
 have hr:=selT h13 hr
 refine Ok.skip ?_
 obtain ⟨k15,hk15,hr⟩:=jn_some hr
 refine Ok.join (fun (s14 : (List Int) × Int)=>⟨[(3,.s (.c (.loc 0 0))),(6,.s (.c (.tl 1010 (List.map Box.cs s4.1)))),(7,.s (.c (.tl 1011 (List.map Styled.cs s4.2.1)))),(9,.s (.c (.loc 4 0))),(11,.s (aI s11.1))],[(0,.blk [.d (.sl (List.map (eInt .i64) s14.1)),cI s14.2] 77),(4,.blk [cI x6.1.Root,cI x6.1.Next,.d (.sl (List.map Node.cs x6.1.Nodes))] 46),(1010,.tail 7),(1011,.tail 23)],0⟩) k15 r (fun s14 hr=>?_) ?_
 rw [hk15] at hr
 refine Ok.region (OkOps.y (aI s11.1) (OkOps.y (aI (IntKind.i64.wrap (s11.1 + 1))) (OkOps.y (aI (IntKind.i64.wrap (s11.1 + 1))) (OkOps.nil ?_))))
 exact ⟨(IntKind.i64.wrap (s11.1 + 1),s14.1,s14.2),hr,(Conv.mk (tau []) ⟨⟨_,rfl,.inl rfl⟩,⟨_,rfl,.inl rfl⟩,⟨_,rfl,.inl rfl⟩,⟨_,rfl,.inl rfl⟩,⟨_,rfl,.inl rfl⟩,trivial⟩ ⟨rfl,rfl,rfl,rfl,trivial⟩ rfl rfl rfl rfl)⟩
 clear hk15
 refine Ok.block (Ok.seq (Ok.region (OkOps.y (.c (.loc 0 0)) ?_)))
 obtain ⟨x16,hx16,hr⟩:=bind_some hr
 refine OkOps.m 0 (triCl (tau [(0,0)]) (.s (aI x16.1)) [(0,.blk [.d (.sl (List.map (eInt .i64) x16.2.L)),cI x16.2.At] 77)] (b_Src_Range_c _ _ _ hx16) rfl ⟨.inl rfl,.inl rfl,.inl rfl,trivial⟩ trivial entry8 ⟨rfl,trivial⟩) (OkOps.y (.c (.loc 0 0)) ?_)
 obtain ⟨x17,hx17,hr⟩:=bind_some hr
 refine OkOps.m 0 (triCl (tau [(0,0)]) (.s (aI x17.1)) [(0,.blk [.d (.sl (List.map (eInt .i64) x17.2.L)),cI x17.2.At] 77)] (b_Src_Range_c _ _ _ hx17) rfl ⟨.inl rfl,.inl rfl,.inl rfl,trivial⟩ trivial entry8 ⟨rfl,trivial⟩) (OkOps.y (.agg [cI x16.1,cI x17.1]) (OkOps.m 0 (triAlloc (j:=6) (cs:=[cI 0,cI 0]) rfl rfl rfl rfl) (OkOps.w (triStore (cs':=[cI x16.1,cI x17.1]) rfl rfl rfl rfl rfl rfl rfl rfl rfl) (OkOps.nil (Ok.seq (Ok.region (OkOps.y (aI 0) (OkOps.nil ?_))))))))
 obtain ⟨k19,hk19,hr⟩:=jn_some hr
 refine Ok.join (fun (s18 : Int)=>⟨[(3,.s (.c (.loc 0 0))),(6,.s (.c (.tl 1010 (List.map Box.cs s4.1)))),(7,.s (.c (.tl 1011 (List.map Styled.cs s4.2.1)))),(9,.s (.c (.loc 4 0))),(11,.s (aI s11.1)),(12,.s (.c (.loc 6 0))),(13,.s (aI s18))],[(0,.blk [.d (.sl (List.map (eInt .i64) x17.2.L)),cI x17.2.At] 77),(4,.blk [cI x6.1.Root,cI x6.1.Next,.d (.sl (List.map Node.cs x6.1.Nodes))] 46),(6,.blk [cI x16.1,cI x17.1] 51),(1010,.tail 7),(1011,.tail 23)],0⟩) k19 r (fun s18 hr=>?_) ?_
 rw [hk19] at hr
 refine Ok.seq (Ok.region (OkOps.y (.agg [cI x6.1.Root,cI x6.1.Next,.d (.sl (List.map Node.cs x6.1.Nodes))]) (OkOps.y (.c (.tl 1011 (List.map Styled.cs s4.2.1))) (OkOps.y (.c (.tl 1010 (List.map Box.cs s4.1))) (OkOps.y (.agg [cI x16.1,cI x17.1]) ?_)))))
 obtain ⟨x20,hx20,hr⟩:=bind_some hr
 refine OkOps.q (triCl (tau []) (.s (.c (.d (.sl (List.map (eInt .i64) x20))))) [] (ht_Test_c _ _ _ _ _ hx20) rfl ⟨.inl rfl,.inr rfl,.inr rfl,.inr rfl,.inl rfl,trivial⟩ trivial entry13 trivial) (OkOps.y (.c (.d (.sl (List.map (eInt .i64) x20)))) (OkOps.nil (Ok.seq (Ok.seq (Ok.region (OkOps.y (aI s18) (OkOps.y (aB (s18 == 0)) (OkOps.y (.c (.d (.sl (List.map (eInt .i64) x20)))) (OkOps.q (triLen (enc:=(eInt .i64)) x20 rfl rfl trivial rfl) (OkOps.y (aB ((x20.length : Int) == 0)) (OkOps.y (aB ((s18 == 0) != ((x20.length : Int) == 0))) (OkOps.nil ?_))))))))))))
 refine Ok.cond (b:=(s18 == 0) != ((x20.length : Int) == 0)) rfl (fun h21=>?_) (fun h21=>?_)
 have hr:=selT h21 hr
 refine Ok.seq (Ok.region (OkOps.y (aB false) (OkOps.nil (Ok.ret ?_))))
 obtain rfl:=Option.some.inj hr
 exact ⟨_,rfl,.inl rfl,trivial⟩
 have hr:=selF h21 hr
 refine Ok.skip (Ok.seq (Ok.region (OkOps.y (aI s18) (OkOps.y (aB (decide (s18 > 0))) (OkOps.y (aB (decide (s18 > 0))) (OkOps.q (triQG (x:=.c (.d (.sl (List.map (eInt .i64) x20)))) rfl rfl trivial rfl) (OkOps.q (triLenG (enc:=(eInt .i64)) x20 rfl rfl rfl ⟨fun h=>h,trivial⟩ rfl) (OkOps.q (triQG (x:=aB (decide ((x20.length : Int) > 0))) rfl rfl ⟨fun h=>h,trivial⟩ rfl) (OkOps.q (triAnd rfl rfl (fun h=>h) rfl) (OkOps.y (aB ((decide (s18 > 0)) && (decide ((x20.length : Int) > 0)))) (OkOps.q (triQG (x:=.c (.d (.sl (List.map (eInt .i64) x20)))) rfl rfl trivial rfl) (OkOps.q (triQG (x:=.c (.d (.sl (List.map (eInt .i64) x20)))) rfl rfl trivial rfl) (OkOps.q (triLenG (enc:=(eInt .i64)) x20 rfl rfl rfl ⟨fun h=>h,trivial⟩ rfl) (OkOps.q (triQG (x:=aI (IntKind.i64.wrap ((x20.length : Int) - 1))) rfl rfl ⟨fun h=>h,trivial⟩ rfl) ?_))))))))))))))
 obtain ⟨x22,hx22,hr⟩:=bind_some hr
 refine OkOps.q (triIdxG (enc:=(eInt .i64)) (L:=x20) (row:=[dI x22]) (gO_t hx22) rfl rfl rfl rfl rfl (fun _=>rfl) ⟨fun h=>h,⟨fun h=>h,trivial⟩⟩ rfl) (OkOps.q (triQG (x:=aI x22) rfl rfl ⟨fun h=>h,trivial⟩ rfl) (OkOps.q (triQG (x:=aI s18) rfl rfl trivial rfl) (OkOps.q (triQG (x:=aB (x22 != s18)) rfl rfl ⟨fun h=>h,⟨fun h=>h,trivial⟩⟩ rfl) (OkOps.q (triAnd rfl rfl (fun h=>h) rfl) (OkOps.nil ?_)))))
 refine Ok.cond (b:=((decide (s18 > 0)) && (decide ((x20.length : Int) > 0))) && (x22 != s18)) rfl (fun h23=>?_) (fun h23=>?_)
 have hr:=selT h23 hr
 refine Ok.seq (Ok.region (OkOps.y (aB false) (OkOps.nil (Ok.ret ?_))))
 obtain rfl:=Option.some.inj hr
 exact ⟨_,rfl,.inl rfl,trivial⟩
 have hr:=selF h23 hr
 refine Ok.skip ?_
 exact ⟨(x17.2.L,x17.2.At),hr,(Conv.mk (tau []) ⟨⟨_,rfl,.inl rfl⟩,⟨_,rfl,.inl rfl⟩,⟨_,rfl,.inl rfl⟩,⟨_,rfl,.inl rfl⟩,⟨_,rfl,.inl rfl⟩,trivial⟩ ⟨rfl,rfl,rfl,rfl,trivial⟩ rfl rfl rfl rfl)⟩
 clear hk19
 refine Ok.seq (Ok.region (OkOps.y (aI 0) (OkOps.nil (Ok.block (Ok.loopK (fun (s24 : Int × Int)=>⟨[(3,.s (.c (.loc 0 0))),(6,.s (.c (.tl 1010 (List.map Box.cs s4.1)))),(7,.s (.c (.tl 1011 (List.map Styled.cs s4.2.1)))),(9,.s (.c (.loc 4 0))),(11,.s (aI s11.1)),(12,.s (.c (.loc 6 0))),(13,.s (aI s24.1)),(14,.s (aI s24.2))],[(0,.blk [.d (.sl (List.map (eInt .i64) x17.2.L)),cI x17.2.At] 77),(4,.blk [cI x6.1.Root,cI x6.1.Next,.d (.sl (List.map Node.cs x6.1.Nodes))] 46),(6,.blk [cI x16.1,cI x17.1] 51),(1010,.tail 7),(1011,.tail 23)],0⟩) hr (Conv.mk (tau []) ⟨⟨_,rfl,.inl rfl⟩,⟨_,rfl,.inl rfl⟩,⟨_,rfl,.inl rfl⟩,⟨_,rfl,.inl rfl⟩,⟨_,rfl,.inl rfl⟩,⟨_,rfl,.inl rfl⟩,⟨_,rfl,.inl rfl⟩,⟨_,rfl,.inl rfl⟩,trivial⟩ ⟨rfl,rfl,rfl,rfl,rfl,trivial⟩ rfl rfl rfl rfl) ?_)))))
 clear hr
 intro again25 s24 hr
 unfold l29_HitOrder_L1 at hr
 refine Ok.seq (Ok.seq (Ok.region (OkOps.y (aI s24.2) (OkOps.y (.c (.tl 1010 (List.map Box.cs s4.1))) (OkOps.q (triLen (enc:=Box.cs) s4.1 rfl rfl trivial rfl) (OkOps.y (aB (decide (s24.2 < (s4.1.length : Int)))) (OkOps.nil ?_)))))))
 refine Ok.cond (b:=decide (s24.2 < (s4.1.length : Int))) rfl (fun h26=>?_) (fun h26=>?_)
 have hr:=selT h26 hr
 refine Ok.skip ?_
 obtain ⟨k28,hk28,hr⟩:=jn_some hr
 refine Ok.join (fun (s27 : Int)=>⟨[(3,.s (.c (.loc 0 0))),(6,.s (.c (.tl 1010 (List.map Box.cs s4.1)))),(7,.s (.c (.tl 1011 (List.map Styled.cs s4.2.1)))),(9,.s (.c (.loc 4 0))),(11,.s (aI s11.1)),(12,.s (.c (.loc 6 0))),(13,.s (aI s27)),(14,.s (aI s24.2))],[(0,.blk [.d (.sl (List.map (eInt .i64) x17.2.L)),cI x17.2.At] 77),(4,.blk [cI x6.1.Root,cI x6.1.Next,.d (.sl (List.map Node.cs x6.1.Nodes))] 46),(6,.blk [cI x16.1,cI x17.1] 51),(1010,.tail 7),(1011,.tail 23)],0⟩) k28 r (fun s27 hr=>?_) ?_
 rw [hk28] at hr
 refine Ok.region (OkOps.y (aI s24.2) (OkOps.y (aI (IntKind.i64.wrap (s24.2 + 1))) (OkOps.y (aI (IntKind.i64.wrap (s24.2 + 1))) (OkOps.nil ?_))))
 exact ⟨(s27,IntKind.i64.wrap (s24.2 + 1)),hr,(Conv.mk (tau []) ⟨⟨_,rfl,.inl rfl⟩,⟨_,rfl,.inl rfl⟩,⟨_,rfl,.inl rfl⟩,⟨_,rfl,.inl rfl⟩,⟨_,rfl,.inl rfl⟩,⟨_,rfl,.inl rfl⟩,⟨_,rfl,.inl rfl⟩,⟨_,rfl,.inl rfl⟩,trivial⟩ ⟨rfl,rfl,rfl,rfl,rfl,trivial⟩ rfl rfl rfl rfl)⟩
 clear hk28
 refine Ok.block (Ok.seq (Ok.regionD (by kernel_rfl) (OkD.x (.c (.tl 1010 (List.map Box.cs s4.1))) rfl trivial rfl (OkD.x (aI s24.2) rfl trivial rfl ?_))))
 obtain ⟨x29,hx29,hr⟩:=bind_some hr
 refine OkD.q (triIdx (enc:=Box.cs) (L:=s4.1) (row:=[dI x29.ID,dI x29.Rect.X,dI x29.Rect.Y,dI x29.Rect.W,dI x29.Rect.H,dI x29.Baseline,.sl (List.map Line.cs x29.Lines)]) hx29 rfl rfl rfl rfl (fun _=>rfl) trivial rfl) (OkD.x (.c (.pt [dI x29.Rect.X,dI x29.Rect.Y,dI x29.Rect.W,dI x29.Rect.H,dI x29.Baseline,.sl (List.map Line.cs x29.Lines)])) rfl trivial rfl (OkD.x (.agg [cI x29.Rect.X,cI x29.Rect.Y,cI x29.Rect.W,cI x29.Rect.H]) rfl trivial rfl (OkD.x (.agg [cI x16.1,cI x17.1]) rfl trivial rfl ?_)))
 obtain ⟨x30,hx30,hr⟩:=bind_some hr
 refine OkD.q (triCl (tau []) (.s (aB x30)) [] (r02_Contains_c _ _ hx30) rfl ⟨.inl rfl,.inl rfl,trivial⟩ trivial entry12 trivial) (OkD.nil (by kernel_rfl) ?_)
 refine Ok.cond (b:=x30) rfl (fun h31=>?_) (fun h31=>?_)
 have hr:=selT h31 hr
 refine Ok.region (OkOps.y (.c (.tl 1010 (List.map Box.cs s4.1))) (OkOps.y (aI s24.2) ?_))
 obtain ⟨x32,hx32,hr⟩:=bind_some hr
 refine OkOps.q (triIdx (enc:=Box.cs) (L:=s4.1) (row:=[dI x32.ID,dI x32.Rect.X,dI x32.Rect.Y,dI x32.Rect.W,dI x32.Rect.H,dI x32.Baseline,.sl (List.map Line.cs x32.Lines)]) hx32 rfl rfl rfl rfl (fun _=>rfl) trivial rfl) (OkOps.y (.c (.pt [dI x32.ID,dI x32.Rect.X,dI x32.Rect.Y,dI x32.Rect.W,dI x32.Rect.H,dI x32.Baseline,.sl (List.map Line.cs x32.Lines)])) (OkOps.y (aI x32.ID) (OkOps.y (aI x32.ID) (OkOps.nil ?_))))
 exact ⟨x32.ID,hr,(Conv.mk (tau []) ⟨⟨_,rfl,.inl rfl⟩,⟨_,rfl,.inl rfl⟩,⟨_,rfl,.inl rfl⟩,⟨_,rfl,.inl rfl⟩,⟨_,rfl,.inl rfl⟩,⟨_,rfl,.inl rfl⟩,⟨_,rfl,.inl rfl⟩,⟨_,rfl,.inl rfl⟩,trivial⟩ ⟨rfl,rfl,rfl,rfl,rfl,trivial⟩ rfl rfl rfl rfl)⟩
 have hr:=selF h31 hr
 refine Ok.skip ?_
 exact ⟨s24.1,hr,(Conv.mk (tau []) ⟨⟨_,rfl,.inl rfl⟩,⟨_,rfl,.inl rfl⟩,⟨_,rfl,.inl rfl⟩,⟨_,rfl,.inl rfl⟩,⟨_,rfl,.inl rfl⟩,⟨_,rfl,.inl rfl⟩,⟨_,rfl,.inl rfl⟩,⟨_,rfl,.inl rfl⟩,trivial⟩ ⟨rfl,rfl,rfl,rfl,rfl,trivial⟩ rfl rfl rfl rfl)⟩
 have hr:=selF h26 hr
 refine Ok.exit ?_
 exact ⟨s24.1,hr,(Conv.mk (tau []) ⟨⟨_,rfl,.inl rfl⟩,⟨_,rfl,.inl rfl⟩,⟨_,rfl,.inl rfl⟩,⟨_,rfl,.inl rfl⟩,⟨_,rfl,.inl rfl⟩,⟨_,rfl,.inl rfl⟩,⟨_,rfl,.inl rfl⟩,trivial⟩ ⟨rfl,rfl,rfl,rfl,rfl,trivial⟩ rfl rfl rfl rfl)⟩
 have hr:=selF h13 hr
 refine Ok.exit ?_
 exact ⟨(),hr,(Conv.mk (tau []) ⟨⟨_,rfl,.inl rfl⟩,trivial⟩ ⟨rfl,trivial⟩ rfl rfl rfl rfl)⟩
 clear hk5
 refine Ok.seq (Ok.region (OkOps.y (aI 0) (OkOps.nil (Ok.block (Ok.loopK (fun (s33 : (List Box) × (List Styled) × Int × (List Int) × Int × (List View))=>⟨[(3,.s (.c (.loc 0 0))),(4,.s (.c (.loc 1 0))),(5,.s (aI x2.1)),(6,.s (.c (.tl 1017 (List.map Box.cs s33.1)))),(7,.s (.c (.tl 1018 (List.map Styled.cs s33.2.1)))),(8,.s (aI s33.2.2.1))],[(0,.blk [.d (.sl (List.map (eInt .i64) s33.2.2.2.1)),cI s33.2.2.2.2.1] 77),(1,.blk [cI 1,cS ByteArray.empty,.d (.v (.slice none 0 0)),.d (.v (.slice none 0 0)),.tl 1019 (List.map View.cs s33.2.2.2.2.2)] 29),(1017,.tail 7),(1018,.tail 23),(1019,.tail 5)],0⟩) hr (Conv.trans (Conv.nilO 1 4 1023 5 [cI 1,cS ByteArray.empty,.d (.v (.slice none 0 0)),.d (.v (.slice none 0 0)),.d (.v (.slice none 0 0))] [cI 1,cS ByteArray.empty,.d (.v (.slice none 0 0)),.d (.v (.slice none 0 0)),.tl 1023 (List.map View.cs ([] : (List View)))] 29 0 rfl rfl rfl rfl) (Conv.mk (tau [(1017,2),(1018,3),(1019,1023)]) ⟨⟨_,rfl,.inl rfl⟩,⟨_,rfl,.inl rfl⟩,⟨_,rfl,.inl rfl⟩,⟨_,rfl,.inl rfl⟩,⟨_,rfl,.inl rfl⟩,⟨_,rfl,.inl rfl⟩,trivial⟩ ⟨rfl,rfl,rfl,rfl,rfl,trivial⟩ rfl rfl rfl rfl)) ?_)))))
 clear hr
 intro again34 s33 hr
 unfold l29_HitOrder_L3 at hr
 refine Ok.seq (Ok.seq (Ok.region (OkOps.y (aI s33.2.2.1) (OkOps.y (aI x2.1) (OkOps.y (aB (decide (s33.2.2.1 < x2.1))) (OkOps.nil ?_))))))
 refine Ok.cond (b:=decide (s33.2.2.1 < x2.1)) rfl (fun h35=>?_) (fun h35=>?_)
 have hr:=selT h35 hr
 refine Ok.skip (Ok.seq (Ok.block (Ok.seq (Ok.region (OkOps.y (.c (.loc 1 4)) (OkOps.y (.c (.tl 1019 (List.map View.cs s33.2.2.2.2.2))) (OkOps.y (.agg [cI 3,cS ByteArray.empty,.d (.v (.slice none 0 0)),.d (.v (.slice none 0 0)),.d (.v (.slice none 0 0))]) ?_)))))))
 refine OkOps.m 0 (triBST (sz:=5) (enc:=View.cs) (j:=7) ([(View.mk 3 ByteArray.empty ([] : (List Attr)) ([] : (List Action)) ([] : (List View)))]) rfl rfl rfl rfl rfl (rows:=[[dI 3,dS ByteArray.empty,.sl [],.sl [],.sl []]]) (by simp only [List.map,View.cs_eq]) rfl rfl (fun x=>by rw [View.cs_eq];rfl) trivial rfl rfl) ?_
 obtain ⟨x36,hx36,hr⟩:=bind_some hr
 refine OkOps.m2 0 (triApp (enc:=View.cs) (L:=s33.2.2.2.2.2) (X:=[(View.mk 3 ByteArray.empty ([] : (List Attr)) ([] : (List Action)) ([] : (List View)))]) (j:=1019) (j':=8) hx36 rfl rfl rfl rfl rfl rfl (fun x=>by rw [View.cs_eq];rfl) (fun x=>by rw [View.cs_eq];rfl) (by decide) trivial rfl rfl) ?_
 refine OkOps.y (.c (.loc 1 4)) (OkOps.w (triStore (cs':=[cI 1,cS ByteArray.empty,.d (.v (.slice none 0 0)),.d (.v (.slice none 0 0)),.tl 8 (List.map View.cs x36)]) rfl rfl rfl rfl rfl rfl rfl rfl rfl) (OkOps.nil (Ok.seq (Ok.region (OkOps.y (.c (.tl 1017 (List.map Box.cs s33.1))) (OkOps.y (aI s33.2.2.1) (OkOps.y (aI (IntKind.i64.wrap (s33.2.2.1 + 2))) (OkOps.y (.c (.loc 0 0)) ?_))))))))
 obtain ⟨x37,hx37,hr⟩:=bind_some hr
 refine OkOps.m 0 (triCl (tau [(0,0)]) (.s (aI x37.1)) [(0,.blk [.d (.sl (List.map (eInt .i64) x37.2.L)),cI x37.2.At] 77)] (b_Src_Range_c _ _ _ hx37) rfl ⟨.inl rfl,.inl rfl,.inl rfl,trivial⟩ trivial entry8 ⟨rfl,trivial⟩) (OkOps.y (.c (.loc 0 0)) ?_)
 obtain ⟨x38,hx38,hr⟩:=bind_some hr
 refine OkOps.m 0 (triCl (tau [(0,0)]) (.s (aI x38.1)) [(0,.blk [.d (.sl (List.map (eInt .i64) x38.2.L)),cI x38.2.At] 77)] (b_Src_Range_c _ _ _ hx38) rfl ⟨.inl rfl,.inl rfl,.inl rfl,trivial⟩ trivial entry8 ⟨rfl,trivial⟩) (OkOps.y (.c (.loc 0 0)) ?_)
 obtain ⟨x39,hx39,hr⟩:=bind_some hr
 refine OkOps.m 0 (triCl (tau [(0,0)]) (.s (aI x39.1)) [(0,.blk [.d (.sl (List.map (eInt .i64) x39.2.L)),cI x39.2.At] 77)] (b_Src_N_c _ _ hx39) rfl ⟨.inl rfl,.inl rfl,trivial⟩ trivial entry10 ⟨rfl,trivial⟩) (OkOps.y (.c (.loc 0 0)) ?_)
 obtain ⟨x40,hx40,hr⟩:=bind_some hr
 refine OkOps.m 0 (triCl (tau [(0,0)]) (.s (aI x40.1)) [(0,.blk [.d (.sl (List.map (eInt .i64) x40.2.L)),cI x40.2.At] 77)] (b_Src_N_c _ _ hx40) rfl ⟨.inl rfl,.inl rfl,trivial⟩ trivial entry10 ⟨rfl,trivial⟩) (OkOps.y (.agg [cI x37.1,cI x38.1,cI x39.1,cI x40.1]) (OkOps.y (.agg [cI (IntKind.i64.wrap (s33.2.2.1 + 2)),cI x37.1,cI x38.1,cI x39.1,cI x40.1,cI 0,.d (.v (.slice none 0 0))]) (OkOps.m 0 (triBST (sz:=7) (enc:=Box.cs) (j:=9) ([(Box.mk (IntKind.i64.wrap (s33.2.2.1 + 2)) (Rect.mk x37.1 x38.1 x39.1 x40.1) 0 ([] : (List Line)))]) rfl rfl rfl rfl rfl rfl rfl rfl (fun _=>rfl) trivial rfl rfl) ?_)))
 obtain ⟨x41,hx41,hr⟩:=bind_some hr
 refine OkOps.m2 0 (triApp (enc:=Box.cs) (L:=s33.1) (X:=[(Box.mk (IntKind.i64.wrap (s33.2.2.1 + 2)) (Rect.mk x37.1 x38.1 x39.1 x40.1) 0 ([] : (List Line)))]) (j:=1017) (j':=10) hx41 rfl rfl rfl rfl rfl rfl (fun _=>rfl) (fun _=>rfl) (by decide) trivial rfl rfl) (OkOps.y (.c (.tl 10 (List.map Box.cs x41))) (OkOps.nil (Ok.region (OkOps.y (.c (.tl 1018 (List.map Styled.cs s33.2.1))) (OkOps.y (aI s33.2.2.1) (OkOps.y (aI (IntKind.i64.wrap (s33.2.2.1 + 2))) ?_))))))
 obtain ⟨x42,hx42,hr⟩:=bind_some hr
 refine OkOps.q (triCl (tau []) (.s (.agg [cI (x42 0),cI (x42 1),cI (x42 2),cI (x42 3),cI (x42 4),cI (x42 5),cI (x42 6),cI (x42 7),cI (x42 8),cI (x42 9),cI (x42 10),cI (x42 11),cI (x42 12),cI (x42 13),cI (x42 14),cI (x42 15),cI (x42 16),cI (x42 17),cI (x42 18),cI (x42 19),cI (x42 20),cI (x42 21)])) [] (r17_Initial_c  hx42) rfl trivial trivial entry9 trivial) (OkOps.q (triQ (x:=.agg [cI (IntKind.i64.wrap (s33.2.2.1 + 2)),cI (x42 0),cI (x42 1),cI (x42 2),cI (x42 3),cI (x42 4),cI (x42 5),cI (x42 6),cI (x42 7),cI (x42 8),cI (x42 9),cI (x42 10),cI (x42 11),cI (x42 12),cI (x42 13),cI (x42 14),cI (x42 15),cI (x42 16),cI (x42 17),cI (x42 18),cI (x42 19),cI (x42 20),cI (x42 21)]) (by kernel_rfl) trivial rfl) (OkOps.m 0 (triBST (sz:=23) (enc:=Styled.cs) (j:=11) ([(Styled.mk (IntKind.i64.wrap (s33.2.2.1 + 2)) x42)]) (cs:=[cI (IntKind.i64.wrap (s33.2.2.1 + 2)),cI (x42 0),cI (x42 1),cI (x42 2),cI (x42 3),cI (x42 4),cI (x42 5),cI (x42 6),cI (x42 7),cI (x42 8),cI (x42 9),cI (x42 10),cI (x42 11),cI (x42 12),cI (x42 13),cI (x42 14),cI (x42 15),cI (x42 16),cI (x42 17),cI (x42 18),cI (x42 19),cI (x42 20),cI (x42 21)]) rfl rfl rfl rfl (by kernel_rfl) rfl rfl rfl (fun _=>rfl) trivial rfl rfl) ?_))
 obtain ⟨x43,hx43,hr⟩:=bind_some hr
 refine OkOps.m2 0 (triApp (enc:=Styled.cs) (L:=s33.2.1) (X:=[(Styled.mk (IntKind.i64.wrap (s33.2.2.1 + 2)) x42)]) (j:=1018) (j':=12) hx43 rfl rfl rfl rfl rfl rfl (fun _=>rfl) (fun _=>rfl) (by decide) trivial rfl rfl) (OkOps.y (.c (.tl 12 (List.map Styled.cs x43))) (OkOps.nil (Ok.region (OkOps.y (aI s33.2.2.1) (OkOps.y (aI (IntKind.i64.wrap (s33.2.2.1 + 1))) (OkOps.y (aI (IntKind.i64.wrap (s33.2.2.1 + 1))) (OkOps.nil ?_)))))))
 exact ⟨(x41,x43,IntKind.i64.wrap (s33.2.2.1 + 1),x40.2.L,x40.2.At,x36),hr,(Conv.mk (tau [(1017,10),(1018,12),(1019,8)]) ⟨⟨_,rfl,.inl rfl⟩,⟨_,rfl,.inl rfl⟩,⟨_,rfl,.inl rfl⟩,⟨_,rfl,.inl rfl⟩,⟨_,rfl,.inl rfl⟩,⟨_,rfl,.inl rfl⟩,trivial⟩ ⟨rfl,rfl,rfl,rfl,rfl,trivial⟩ rfl rfl rfl rfl)⟩
 have hr:=selF h35 hr
 refine Ok.exit ?_
 exact ⟨(s33.1,s33.2.1,s33.2.2.2.1,s33.2.2.2.2.1,s33.2.2.2.2.2),hr,(Conv.mk (tau [(1010,1017),(1011,1018),(1012,1019)]) ⟨⟨_,rfl,.inl rfl⟩,⟨_,rfl,.inl rfl⟩,⟨_,rfl,.inl rfl⟩,⟨_,rfl,.inl rfl⟩,trivial⟩ ⟨rfl,rfl,rfl,rfl,rfl,trivial⟩ rfl rfl rfl rfl)⟩
end Go.Proofs.YtfoigppmcelgfaaDoor
end
section
namespace Go.E2
open Go
theorem wrap_id {x : Int} (h1 : -9223372036854775808 ≤ x) (h2 : x < 9223372036854775808) : IntKind.i64.wrap x = x:=by
 rw [IntKind.wrap_i64];omega
theorem wrap_suc {i n : Nat} (h : i < n) (hn : n < N0) : IntKind.i64.wrap ((i : Int) + 1) = ((i + 1 : Nat) : Int):=by
 unfold N0 at hn;rw [wrap_id (by omega) (by omega)];omega
theorem idxO_nat {α : Type} {L : List α} {k : Nat} : idxO L (k : Int) = L[k]?:=rfl
@[simp] theorem sel_true {α : Type} (a b : α) : sel true a b = a:=rfl
@[simp] theorem sel_false {α : Type} (a b : α) : sel false a b = b:=rfl
@[simp] theorem gO_true {α : Type} [Inhabited α] (o : Option α) : gO true o = o:=rfl
@[simp] theorem gO_false {α : Type} [Inhabited α] (o : Option α) : gO false o = some default:=rfl
@[simp] theorem bind_some' {α β : Type} (x : α) (k : α → Option β) : (some x).bind k = k x:=rfl
@[simp] theorem jn_eq {S R : Type} (k : S → Option R) (b : (S → Option R) → Option R) : jn k b = b k:=rfl
theorem appO_eq {α : Type} {L X : List α} (h : L.length + X.length ≤ 1073741824) : appO L X = some (L ++ X):=if_pos h
theorem slcO_eq {α : Type} {L : List α} {n : Nat} (h : n ≤ L.length) : slcO L 0 (n : Int) = some (L.take n):=by
 have : slcO L 0 (n : Int) = some ((L.take (n : Int).toNat).drop (0 : Int).toNat):=if_pos ⟨Int.le_refl 0,by omega,by omega⟩
 rw [this];simp
theorem nz_lt {i n : Nat} (h : i < n) : decide ((i : Int) < (n : Int)) = true:=by simpa using h
theorem nz_ge {i n : Nat} (h : n ≤ i) : decide ((i : Int) < (n : Int)) = false:=by simpa using h
theorem loopK_first {S R : Type} (B : (S → Option R) → S → Option R) (s : S) : loopK B N0 s = B (loopK B (N0 - 1)) s:=by
 have : N0 = (N0 - 1) + 1:=by unfold N0;omega
 conv=>lhs;rw [this]
 rfl
theorem idxO_ok {α : Type} {L : List α} {r : Int} (h0 : 0 ≤ r) (h1 : r < L.length) : ∃ x,idxO L r = some x ∧ x ∈ L:=by
 obtain ⟨n,rfl⟩ : ∃ n : Nat,r = n:=⟨r.toNat,by omega⟩
 have : n < L.length:=by omega
 exact ⟨L[n],by rw [idxO_nat,List.getElem?_eq_getElem this],List.getElem_mem this⟩
end Go.E2
end
section
namespace Go.E2
open Go
theorem loopF {α σ R S : Type} {L : List α} {B : (S → Option R) → S → Option R} (st : σ → Nat → S) (P : Nat → σ → Prop) (Q : Option R → Prop)
  (hc : ∀ again s i x,L[i]? = some x → i < L.length → P i s → Q (B again (st s i)) ∨ ∃ s',P (i + 1) s' ∧ B again (st s i) = again (st s' (i + 1)))
  (he : ∀ again s,P L.length s → Q (B again (st s L.length))) : ∀ (f i : Nat) (s : σ),i ≤ L.length → L.length - i < f → P i s → Q (loopK B f (st s i))
 | 0,_,_,_,h,_=>absurd h (Nat.not_lt_zero _)
 | f + 1,i,s,hi,hf,hp=>by
  show Q (B (loopK B f) (st s i))
  rcases Nat.lt_or_ge i L.length with h | h
  ·rcases hc (loopK B f) s i L[i] (List.getElem?_eq_getElem h) h hp with h1 | ⟨s',h1,h2⟩
   ·exact h1
   ·rw [h2];exact loopF st P Q hc he f (i + 1) s' (by omega) (by omega) h1
  ·obtain rfl : i = L.length:=by omega
   exact he _ s hp
theorem loopI {α σ R S : Type} {L : List α} {B : (S → Option R) → S → Option R} (st : σ → Nat → S) (P : Nat → σ → Prop) (Q : Option R → Prop) (hn : L.length < N0)
  (hc : ∀ again s i x,L[i]? = some x → i < L.length → P i s → Q (B again (st s i)) ∨ ∃ s',P (i + 1) s' ∧ B again (st s i) = again (st s' (i + 1)))
  (he : ∀ again s,P L.length s → Q (B again (st s L.length))) (s : σ) (h0 : P 0 s) : Q (loopK B N0 (st s 0)) :=
 loopF st P Q hc he N0 0 s (Nat.zero_le _) (by omega) h0
theorem loopNF {σ R S : Type} {n : Nat} {B : (S → Option R) → S → Option R} (st : σ → Nat → S) (P : Nat → σ → Prop) (Q : Option R → Prop)
  (hc : ∀ again s i,i < n → P i s → Q (B again (st s i)) ∨ ∃ s',P (i + 1) s' ∧ B again (st s i) = again (st s' (i + 1)))
  (he : ∀ again s,P n s → Q (B again (st s n))) : ∀ (f i : Nat) (s : σ),i ≤ n → n - i < f → P i s → Q (loopK B f (st s i))
 | 0,_,_,_,h,_=>absurd h (Nat.not_lt_zero _)
 | f + 1,i,s,hi,hf,hp=>by
  show Q (B (loopK B f) (st s i))
  rcases Nat.lt_or_ge i n with h | h
  ·rcases hc (loopK B f) s i h hp with h1 | ⟨s',h1,h2⟩
   ·exact h1
   ·rw [h2];exact loopNF st P Q hc he f (i + 1) s' (by omega) (by omega) h1
  ·obtain rfl : i = n:=by omega
   exact he _ s hp
theorem loopN {σ R S : Type} {n : Nat} {B : (S → Option R) → S → Option R} (st : σ → Nat → S) (P : Nat → σ → Prop) (Q : Option R → Prop) (hn : n < N0)
  (hc : ∀ again s i,i < n → P i s → Q (B again (st s i)) ∨ ∃ s',P (i + 1) s' ∧ B again (st s i) = again (st s' (i + 1)))
  (he : ∀ again s,P n s → Q (B again (st s n))) (s : σ) (h0 : P 0 s) : Q (loopK B N0 (st s 0)) :=
 loopNF st P Q hc he N0 0 s (Nat.zero_le _) (by omega) h0
theorem jnN {S R : Type} (k : S → Option R) (b : (S → Option R) → Option R) : jn k b = b k:=id rfl
theorem bindN {α β : Type} (x : α) (k : α → Option β) : (some x).bind k = k x:=id rfl
theorem selT' {α : Type} (a b : α) : sel true a b = a:=id rfl
theorem selF' {α : Type} (a b : α) : sel false a b = b:=id rfl
theorem gOT' {α : Type} [Inhabited α] (o : Option α) : gO true o = o:=id rfl
theorem gOF' {α : Type} [Inhabited α] (o : Option α) : gO false o = some default:=id rfl
instance : LawfulBEq ByteArray where
 eq_of_beq:=by
  intro a b h
  have h' : (a.data == b.data) = true:=h
  have:=eq_of_beq h'
  cases a;cases b;simp_all
 rfl:=by
  intro a
  show (a.data == a.data) = true
  exact beq_self_eq_true _
theorem take_suc {α : Type} {L : List α} {i : Nat} {x : α} (h : L[i]? = some x) : L.take (i + 1) = L.take i ++ [x]:=by
 rw [List.take_add_one,h];rfl
end Go.E2
end
section
namespace Go.E2
open Go
def Tt {α : Type} (Q : α → Prop) (o : Option α) : Prop:=∃ x,o = some x ∧ Q x
theorem Tt.pure {α : Type} {Q : α → Prop} {x : α} (h : Q x) : Tt Q (some x):=⟨x,rfl,h⟩
theorem Tt.bind {α β : Type} {P : α → Prop} {Q : β → Prop} {o : Option α} {k : α → Option β} (h : Tt P o) (hk : ∀ x,P x → Tt Q (k x)) : Tt Q (o.bind k):=by
 obtain ⟨x,rfl,hx⟩:=h
 exact hk x hx
theorem Tt.mono {α : Type} {P Q : α → Prop} {o : Option α} (h : Tt P o) (hq : ∀ x,P x → Q x) : Tt Q o:=by
 obtain ⟨x,e,hx⟩:=h
 exact ⟨x,e,hq x hx⟩
end Go.E2
end
section
namespace Go.Proofs.YtfoigppmcelgfaaDoor
open Go Go.E2
def SrcOk (s : widgetrybase_Src) : Prop:=0 ≤ s.At ∧ s.At ≤ s.L.length ∧ s.L.length ≤ 4000
theorem New_t (l : List Int) : Tt SrcOk (b_New l):=by
 unfold b_New
 rw [jn_eq]
 by_cases h : (l.length : Int) > 4000
 ·rw [decide_eq_true h,sel_true,show (4000 : Int) = ((4000 : Nat) : Int) from rfl,slcO_eq (by omega),bind_some']
  exact ⟨_,rfl,Int.le_refl 0,by simp,by simp;omega⟩
 ·rw [decide_eq_false h,sel_false]
  exact ⟨_,rfl,Int.le_refl 0,by simp,by simp;omega⟩
theorem N_t {s : widgetrybase_Src} {n : Int} (h : SrcOk s) (h1 : 1 ≤ n) (h2 : n ≤ 1000000) : Tt (fun r=>0 ≤ r.1 ∧ r.1 < n ∧ SrcOk r.2) (b_Src_N s n):=by
 obtain ⟨a0,a1,a2⟩:=h
 unfold b_Src_N
 by_cases hc : s.At ≥ s.L.length
 ·have : (decide (s.At ≥ (s.L.length : Int)) || decide (n < 1)) = true:=by simp;omega
  rw [this,sel_true]
  exact ⟨(0,s),rfl,by show (0 : Int) ≤ 0;omega,by show (0 : Int) < n;omega,a0,a1,a2⟩
 ·have : (decide (s.At ≥ (s.L.length : Int)) || decide (n < 1)) = false:=by simp;omega
  rw [this,sel_false]
  obtain ⟨x,hx,_⟩:=idxO_ok a0 (by omega : s.At < s.L.length)
  rw [hx,bind_some']
  have hz : nzO n (x.tmod n) = some (x.tmod n):=if_neg (by omega)
  rw [hz,bind_some',jn_eq]
  have t1 : x.tmod n < n:=Int.tmod_lt_of_pos x (by omega)
  have t2 : -n < x.tmod n:=Int.lt_tmod_of_pos x (by omega)
  have hw : IntKind.i64.wrap (s.At + 1) = s.At + 1:=wrap_id (by omega) (by omega)
  rw [hw]
  have hs : SrcOk (widgetrybase_Src.mk s.L (s.At + 1)):=⟨by show 0 ≤ s.At + 1;omega,by show s.At + 1 ≤ (s.L.length : Int);omega,a2⟩
  by_cases hm : x.tmod n < 0
  ·rw [decide_eq_true hm,sel_true,wrap_id (by omega) (by omega)]
   exact ⟨_,rfl,by show 0 ≤ x.tmod n + n;omega,by show x.tmod n + n < n;omega,hs⟩
  ·rw [decide_eq_false hm,sel_false]
   exact ⟨_,rfl,by show 0 ≤ x.tmod n;omega,t1,hs⟩
theorem Range_t {s : widgetrybase_Src} {lo hi : Int} (h : SrcOk s) (h0 : -100000 ≤ lo) (h1 : lo ≤ hi) (h2 : hi ≤ 100000) : Tt (fun r=>lo ≤ r.1 ∧ r.1 ≤ hi ∧ SrcOk r.2) (b_Src_Range s lo hi):=by
 unfold b_Src_Range
 rw [wrap_id (x:=hi - lo) (by omega) (by omega),wrap_id (by omega) (by omega)]
 refine Tt.bind (N_t h (by omega) (by omega)) (fun x hx=>⟨_,rfl,?_⟩)
 rw [wrap_id (by omega) (by omega)]
 exact ⟨by show lo ≤ lo + x.1;omega,by show lo + x.1 ≤ hi;omega,hx.2.2⟩
end Go.Proofs.YtfoigppmcelgfaaDoor
end
section
set_option maxRecDepth 100000
namespace Go.Proofs.YtfoigppmcelgfaaDoor
open Go Go.E2
def okR (r : Rect) : Prop:=-1000 ≤ r.X ∧ r.X ≤ 1000 ∧ -1000 ≤ r.Y ∧ r.Y ≤ 1000 ∧ 0 ≤ r.W ∧ r.W ≤ 1000 ∧ 0 ≤ r.H ∧ r.H ≤ 1000
def okP (p : Point) : Prop:=-1000 ≤ p.X ∧ p.X ≤ 1000 ∧ -1000 ≤ p.Y ∧ p.Y ≤ 1000
def inR (r : Rect) (p : Point) : Bool:=(((decide (r.X ≤ p.X)) && (decide (p.X < (IntKind.i64.wrap (r.X + r.W))))) && (decide (r.Y ≤ p.Y))) && (decide (p.Y < (IntKind.i64.wrap (r.Y + r.H))))
theorem gwithin {x : Int} (h1 : -1000 ≤ x) (h2 : x ≤ 1000) : ge_within x 1048576 = some true:=by
 unfold ge_within
 rw [show IntKind.i64.wrap (0 - 1048576) = -1048576 from by decide,decide_eq_true (show x ≥ -1048576 by omega),decide_eq_true (show x ≤ 1048576 by omega)];rfl
theorem gvalid_ok {r : Rect} (h : okR r) : ge_Validate r = some 0:=by
 obtain ⟨h1,h2,h3,h4,h5,h6,h7,h8⟩:=h
 unfold ge_Validate
 rw [gwithin h1 h2,bindN]
 show ((gO true (ge_within r.Y 1048576)).bind _ : Option Int) = _
 rw [gOT',gwithin h3 h4,bindN,decide_eq_false (show ¬ r.W < 0 by omega),decide_eq_false (show ¬ r.W > 1048576 by omega),decide_eq_false (show ¬ r.H < 0 by omega),decide_eq_false (show ¬ r.H > 1048576 by omega)]
 rfl
theorem gcont_ok {r : Rect} (h : okR r) (p : Point) : ge_Contains r p = some (inR r p):=by
 unfold ge_Contains ge_valid
 rw [gvalid_ok h];rfl
theorem rwithin {x : Int} (h1 : -1000 ≤ x) (h2 : x ≤ 1000) : r02_within x 1048576 = some true:=by
 unfold r02_within
 rw [show IntKind.i64.wrap (0 - 1048576) = -1048576 from by decide,decide_eq_true (show x ≥ -1048576 by omega),decide_eq_true (show x ≤ 1048576 by omega)];rfl
theorem rcont_ok {r : Rect} (h : okR r) (p : Point) : r02_Contains r p = some (inR r p):=by
 obtain ⟨h1,h2,h3,h4,h5,h6,h7,h8⟩:=h
 unfold r02_Contains r02_ValidRect
 rw [rwithin h1 h2,bindN,gOT',rwithin h3 h4,bindN,decide_eq_true (show r.W ≥ 0 by omega),decide_eq_true (show r.W ≤ 1048576 by omega),decide_eq_true (show r.H ≥ 0 by omega),decide_eq_true (show r.H ≤ 1048576 by omega),bindN]
 unfold inR
 simp only [Bool.true_and]
def hoV1 : View:=View.mk 3 ByteArray.empty ([] : (List Attr)) ([] : (List Action)) ([] : (List View))
def hoV (n : Nat) : View:=View.mk 1 ByteArray.empty ([] : (List Attr)) ([] : (List Action)) (List.replicate n hoV1)
def hoT (n : Nat) : Tree:=((r14_Build (hoV n) 1).getD default).1
def hoI : Nat → Int:=(r17_Initial).getD default
def hoS (n : Nat) : List Styled:=Styled.mk 1 hoI :: (List.range n).map fun i=>Styled.mk ((i + 2 : Nat) : Int) hoI
def hoR0 : Rect:=Rect.mk 0 0 50 50
def hoB (l : List Rect) : List Box:=Box.mk 1 hoR0 0 ([] : (List Line)) :: l.mapIdx fun i r=>Box.mk ((i + 2 : Nat) : Int) r 0 ([] : (List Line))
def hoC (l : List Rect) : hit_scene:=hit_scene.mk 1 ((hoT l.length).Nodes.map fun x=>(x.ID,x)) ((hoS l.length).map fun s=>(s.ID,s.Style)) ((hoB l).map fun b=>(b.ID,b)) []
def hoK (l : List Rect) : List hit_child:=l.mapIdx fun i r=>hit_child.mk ((i + 2 : Nat) : Int) (IntKind.i64.wrap (0 + r.X)) (IntKind.i64.wrap (0 + r.Y))
structure HO (l : List Rect) : Prop where
 build : r14_Build (hoV l.length) 1 = some (hoT l.length,0)
 check : vw_Check (hoT l.length) = some 0
 len : ((hoS l.length).length : Int) = ((hoT l.length).Nodes.length : Int)
 five : ∀ k,loopK (ht_look_L5 (hoT l.length) (hoS l.length) k) N0 (0,[],[]) = k ((hoC l).nodes,(hoC l).styles)
 two : ∀ k,loopK (ht_look_L2 (hoB l) ((hoC l).nodes,(hoC l).styles) ((hoB l).map fun b=>(b.ID,b)) k) N0 0 = k ()
 troot : (hoT l.length).Root = 1
 box0 : ∀ z,mgetO (hoC l).boxes 1 z = some (Box.mk 1 hoR0 0 ([] : (List Line)),true)
 leaf : ∀ (i : Nat) r,l[i]? = some r → ∀ self o p,ht_scene_hits_B self (hoC l) ((i + 2 : Nat) : Int) o p = (ge_Contains ⟨o.x,o.y,r.W,r.H⟩ ⟨p.X,p.Y⟩).bind fun b=>sel b (some [((i + 2 : Nat) : Int)]) (some [])
 turn : ∀ o,ht_scene_turn (hoC l) 1 o = some (Transform.mk 0 false 0 0 0,false)
 rect : ht_scene_rect (hoC l) 1 ⟨0,0⟩ = some hoR0
 node : ∃ z,(∀ y,mgetO (hoC l).nodes 1 y = some (z,true)) ∧ z.Kind = 1 ∧ vw_Flag z.Attrs (ByteArray.mk #[112,97,115,115]) = some false
 style : ∃ z,(∀ y,mgetO (hoC l).styles 1 y = some (z,true)) ∧ z 21 = 0
 kids : ht_scene_children (hoC l) 1 ⟨0,0⟩ = some (hoK l)
theorem ho_1 (r0 : Rect) : HO [r0] where
 build:=by show _ = _;kernel_rfl
 check:=by show _ = _;kernel_rfl
 len:=by show _ = _;kernel_rfl
 five:=fun k=>by show _ = _;kernel_rfl
 two:=fun k=>by show _ = _;kernel_rfl
 troot:=by show _ = _;kernel_rfl
 box0:=fun z=>by show _ = _;kernel_rfl
 leaf:=fun i r h self o p=>by
  match i,h with
  | 0,h=>cases h;show _ = _;kernel_rfl
  | k + 1,h=>simp at h
 turn:=fun o=>by show _ = _;kernel_rfl
 rect:=by show _ = _;kernel_rfl
 node:=⟨_,fun y=>by show _ = some ((hoC [r0]).nodes[0]!.2,true);kernel_rfl,by show _ = _;kernel_rfl,by show _ = _;kernel_rfl⟩
 style:=⟨hoI,fun y=>by show _ = _;kernel_rfl,by show _ = _;kernel_rfl⟩
 kids:=by show _ = _;kernel_rfl
theorem ho_2 (r0 r1 : Rect) : HO [r0,r1] where
 build:=by show _ = _;kernel_rfl
 check:=by show _ = _;kernel_rfl
 len:=by show _ = _;kernel_rfl
 five:=fun k=>by show _ = _;kernel_rfl
 two:=fun k=>by show _ = _;kernel_rfl
 troot:=by show _ = _;kernel_rfl
 box0:=fun z=>by show _ = _;kernel_rfl
 leaf:=fun i r h self o p=>by
  match i,h with
  | 0,h=>cases h;show _ = _;kernel_rfl
  | 1,h=>cases h;show _ = _;kernel_rfl
  | k + 2,h=>simp at h
 turn:=fun o=>by show _ = _;kernel_rfl
 rect:=by show _ = _;kernel_rfl
 node:=⟨_,fun y=>by show _ = some ((hoC [r0,r1]).nodes[0]!.2,true);kernel_rfl,by show _ = _;kernel_rfl,by show _ = _;kernel_rfl⟩
 style:=⟨hoI,fun y=>by show _ = _;kernel_rfl,by show _ = _;kernel_rfl⟩
 kids:=by show _ = _;kernel_rfl
theorem ho_3 (r0 r1 r2 : Rect) : HO [r0,r1,r2] where
 build:=by show _ = _;kernel_rfl
 check:=by show _ = _;kernel_rfl
 len:=by show _ = _;kernel_rfl
 five:=fun k=>by show _ = _;kernel_rfl
 two:=fun k=>by show _ = _;kernel_rfl
 troot:=by show _ = _;kernel_rfl
 box0:=fun z=>by show _ = _;kernel_rfl
 leaf:=fun i r h self o p=>by
  match i,h with
  | 0,h=>cases h;show _ = _;kernel_rfl
  | 1,h=>cases h;show _ = _;kernel_rfl
  | 2,h=>cases h;show _ = _;kernel_rfl
  | k + 3,h=>simp at h
 turn:=fun o=>by show _ = _;kernel_rfl
 rect:=by show _ = _;kernel_rfl
 node:=⟨_,fun y=>by show _ = some ((hoC [r0,r1,r2]).nodes[0]!.2,true);kernel_rfl,by show _ = _;kernel_rfl,by show _ = _;kernel_rfl⟩
 style:=⟨hoI,fun y=>by show _ = _;kernel_rfl,by show _ = _;kernel_rfl⟩
 kids:=by show _ = _;kernel_rfl
theorem ho_4 (r0 r1 r2 r3 : Rect) : HO [r0,r1,r2,r3] where
 build:=by show _ = _;kernel_rfl
 check:=by show _ = _;kernel_rfl
 len:=by show _ = _;kernel_rfl
 five:=fun k=>by show _ = _;kernel_rfl
 two:=fun k=>by show _ = _;kernel_rfl
 troot:=by show _ = _;kernel_rfl
 box0:=fun z=>by show _ = _;kernel_rfl
 leaf:=fun i r h self o p=>by
  match i,h with
  | 0,h=>cases h;show _ = _;kernel_rfl
  | 1,h=>cases h;show _ = _;kernel_rfl
  | 2,h=>cases h;show _ = _;kernel_rfl
  | 3,h=>cases h;show _ = _;kernel_rfl
  | k + 4,h=>simp at h
 turn:=fun o=>by show _ = _;kernel_rfl
 rect:=by show _ = _;kernel_rfl
 node:=⟨_,fun y=>by show _ = some ((hoC [r0,r1,r2,r3]).nodes[0]!.2,true);kernel_rfl,by show _ = _;kernel_rfl,by show _ = _;kernel_rfl⟩
 style:=⟨hoI,fun y=>by show _ = _;kernel_rfl,by show _ = _;kernel_rfl⟩
 kids:=by show _ = _;kernel_rfl
theorem ho_5 (r0 r1 r2 r3 r4 : Rect) : HO [r0,r1,r2,r3,r4] where
 build:=by show _ = _;kernel_rfl
 check:=by show _ = _;kernel_rfl
 len:=by show _ = _;kernel_rfl
 five:=fun k=>by show _ = _;kernel_rfl
 two:=fun k=>by show _ = _;kernel_rfl
 troot:=by show _ = _;kernel_rfl
 box0:=fun z=>by show _ = _;kernel_rfl
 leaf:=fun i r h self o p=>by
  match i,h with
  | 0,h=>cases h;show _ = _;kernel_rfl
  | 1,h=>cases h;show _ = _;kernel_rfl
  | 2,h=>cases h;show _ = _;kernel_rfl
  | 3,h=>cases h;show _ = _;kernel_rfl
  | 4,h=>cases h;show _ = _;kernel_rfl
  | k + 5,h=>simp at h
 turn:=fun o=>by show _ = _;kernel_rfl
 rect:=by show _ = _;kernel_rfl
 node:=⟨_,fun y=>by show _ = some ((hoC [r0,r1,r2,r3,r4]).nodes[0]!.2,true);kernel_rfl,by show _ = _;kernel_rfl,by show _ = _;kernel_rfl⟩
 style:=⟨hoI,fun y=>by show _ = _;kernel_rfl,by show _ = _;kernel_rfl⟩
 kids:=by show _ = _;kernel_rfl
theorem ho_6 (r0 r1 r2 r3 r4 r5 : Rect) : HO [r0,r1,r2,r3,r4,r5] where
 build:=by show _ = _;kernel_rfl
 check:=by show _ = _;kernel_rfl
 len:=by show _ = _;kernel_rfl
 five:=fun k=>by show _ = _;kernel_rfl
 two:=fun k=>by show _ = _;kernel_rfl
 troot:=by show _ = _;kernel_rfl
 box0:=fun z=>by show _ = _;kernel_rfl
 leaf:=fun i r h self o p=>by
  match i,h with
  | 0,h=>cases h;show _ = _;kernel_rfl
  | 1,h=>cases h;show _ = _;kernel_rfl
  | 2,h=>cases h;show _ = _;kernel_rfl
  | 3,h=>cases h;show _ = _;kernel_rfl
  | 4,h=>cases h;show _ = _;kernel_rfl
  | 5,h=>cases h;show _ = _;kernel_rfl
  | k + 6,h=>simp at h
 turn:=fun o=>by show _ = _;kernel_rfl
 rect:=by show _ = _;kernel_rfl
 node:=⟨_,fun y=>by show _ = some ((hoC [r0,r1,r2,r3,r4,r5]).nodes[0]!.2,true);kernel_rfl,by show _ = _;kernel_rfl,by show _ = _;kernel_rfl⟩
 style:=⟨hoI,fun y=>by show _ = _;kernel_rfl,by show _ = _;kernel_rfl⟩
 kids:=by show _ = _;kernel_rfl
theorem ho_7 (r0 r1 r2 r3 r4 r5 r6 : Rect) : HO [r0,r1,r2,r3,r4,r5,r6] where
 build:=by show _ = _;kernel_rfl
 check:=by show _ = _;kernel_rfl
 len:=by show _ = _;kernel_rfl
 five:=fun k=>by show _ = _;kernel_rfl
 two:=fun k=>by show _ = _;kernel_rfl
 troot:=by show _ = _;kernel_rfl
 box0:=fun z=>by show _ = _;kernel_rfl
 leaf:=fun i r h self o p=>by
  match i,h with
  | 0,h=>cases h;show _ = _;kernel_rfl
  | 1,h=>cases h;show _ = _;kernel_rfl
  | 2,h=>cases h;show _ = _;kernel_rfl
  | 3,h=>cases h;show _ = _;kernel_rfl
  | 4,h=>cases h;show _ = _;kernel_rfl
  | 5,h=>cases h;show _ = _;kernel_rfl
  | 6,h=>cases h;show _ = _;kernel_rfl
  | k + 7,h=>simp at h
 turn:=fun o=>by show _ = _;kernel_rfl
 rect:=by show _ = _;kernel_rfl
 node:=⟨_,fun y=>by show _ = some ((hoC [r0,r1,r2,r3,r4,r5,r6]).nodes[0]!.2,true);kernel_rfl,by show _ = _;kernel_rfl,by show _ = _;kernel_rfl⟩
 style:=⟨hoI,fun y=>by show _ = _;kernel_rfl,by show _ = _;kernel_rfl⟩
 kids:=by show _ = _;kernel_rfl
theorem ho_8 (r0 r1 r2 r3 r4 r5 r6 r7 : Rect) : HO [r0,r1,r2,r3,r4,r5,r6,r7] where
 build:=by show _ = _;kernel_rfl
 check:=by show _ = _;kernel_rfl
 len:=by show _ = _;kernel_rfl
 five:=fun k=>by show _ = _;kernel_rfl
 two:=fun k=>by show _ = _;kernel_rfl
 troot:=by show _ = _;kernel_rfl
 box0:=fun z=>by show _ = _;kernel_rfl
 leaf:=fun i r h self o p=>by
  match i,h with
  | 0,h=>cases h;show _ = _;kernel_rfl
  | 1,h=>cases h;show _ = _;kernel_rfl
  | 2,h=>cases h;show _ = _;kernel_rfl
  | 3,h=>cases h;show _ = _;kernel_rfl
  | 4,h=>cases h;show _ = _;kernel_rfl
  | 5,h=>cases h;show _ = _;kernel_rfl
  | 6,h=>cases h;show _ = _;kernel_rfl
  | 7,h=>cases h;show _ = _;kernel_rfl
  | k + 8,h=>simp at h
 turn:=fun o=>by show _ = _;kernel_rfl
 rect:=by show _ = _;kernel_rfl
 node:=⟨_,fun y=>by show _ = some ((hoC [r0,r1,r2,r3,r4,r5,r6,r7]).nodes[0]!.2,true);kernel_rfl,by show _ = _;kernel_rfl,by show _ = _;kernel_rfl⟩
 style:=⟨hoI,fun y=>by show _ = _;kernel_rfl,by show _ = _;kernel_rfl⟩
 kids:=by show _ = _;kernel_rfl
theorem ho_any (l : List Rect) (h1 : 1 ≤ l.length) (h : l.length ≤ 8) : HO l:=by
 rcases l with _ | ⟨r0,l⟩
 ·exact absurd h1 (by simp)
 rcases l with _ | ⟨r1,l⟩
 ·exact ho_1 r0
 rcases l with _ | ⟨r2,l⟩
 ·exact ho_2 r0 r1
 rcases l with _ | ⟨r3,l⟩
 ·exact ho_3 r0 r1 r2
 rcases l with _ | ⟨r4,l⟩
 ·exact ho_4 r0 r1 r2 r3
 rcases l with _ | ⟨r5,l⟩
 ·exact ho_5 r0 r1 r2 r3 r4
 rcases l with _ | ⟨r6,l⟩
 ·exact ho_6 r0 r1 r2 r3 r4 r5
 rcases l with _ | ⟨r7,l⟩
 ·exact ho_7 r0 r1 r2 r3 r4 r5 r6
 rcases l with _ | ⟨r8,l⟩
 ·exact ho_8 r0 r1 r2 r3 r4 r5 r6 r7
 exact absurd h (by simp only [List.length_cons];omega)
theorem msetL_new {V : Type} : ∀ (m : List (Int × V)) (k : Int) (v : V),(∀ p ∈ m,p.1 < k) → msetL m k v = m ++ [(k,v)]
 | [],k,v,_=>rfl
 | (a,u) :: r,k,v,h=>by
  unfold msetL
  have : (k == a) = false:=by
   rw [beq_eq_false_iff_ne]
   have:=h (a,u) (by simp)
   simp only at this
   omega
  rw [this]
  simp only
  rw [msetL_new r k v (fun p hp=>h p (by simp [hp]))];rfl
theorem hoB_len (l : List Rect) : (hoB l).length = l.length + 1:=by unfold hoB;simp
theorem hoB_at {l : List Rect} {i : Nat} {b : Box} (h : (hoB l)[i]? = some b) : b.ID = (i : Int) + 1 ∧ (b.Rect = hoR0 ∨ b.Rect ∈ l):=by
 cases i with
 | zero=>unfold hoB at h;cases h;exact ⟨rfl,.inl rfl⟩
 | succ i =>
  unfold hoB at h
  rw [List.getElem?_cons_succ,List.getElem?_mapIdx,Option.map_eq_some_iff] at h
  obtain ⟨r,h1,rfl⟩:=h
  exact ⟨by show ((i + 2 : Nat) : Int) = _;omega,.inr (List.mem_of_getElem? h1)⟩
theorem okR0 : okR hoR0:=by unfold okR hoR0;simp only;omega
theorem hoB_ok {l : List Rect} (h : ∀ r ∈ l,okR r) {i : Nat} {b : Box} (hb : (hoB l)[i]? = some b) : okR b.Rect:=by
 rcases (hoB_at hb).2 with e | e
 ·rw [e];exact okR0
 ·exact h _ e
theorem look3_ok {l : List Rect} (h : ∀ r ∈ l,okR r) (hl : l.length ≤ 8) (k : List (Int × Box) → Option (hit_scene × Bool)) : loopK (ht_look_L3 (hoB l) k) N0 (0,[]) = k ((hoB l).map fun b=>(b.ID,b)):=by
 have hlen:=hoB_len l
 refine loopI (L:=hoB l) (fun (s : List (Int × Box)) i=>((i : Int),s)) (fun i s=>s = ((hoB l).take i).map fun b=>(b.ID,b)) (fun r=>r = k ((hoB l).map fun b=>(b.ID,b))) (by unfold N0;omega) (fun again s i x hx hi hp=>.inr ?_) (fun again s hp=>?_) [] rfl
 ·subst hp
  refine ⟨((hoB l).take (i + 1)).map fun b=>(b.ID,b),rfl,?_⟩
  unfold ht_look_L3
  simp only
  have hv:=gvalid_ok (hoB_ok h hx)
  have hid:=(hoB_at hx).1
  have hnew : msetL (((hoB l).take i).map fun b=>(b.ID,b)) x.ID x = ((hoB l).take (i + 1)).map fun b=>(b.ID,b):=by
   rw [take_suc hx,List.map_append,msetL_new]
   ·rfl
   ·intro p hp
    obtain ⟨b,hb,rfl⟩:=List.mem_map.1 hp
    obtain ⟨j,hj⟩:=List.mem_iff_getElem?.1 hb
    have hj' : j < i:=by
     have:=(List.getElem?_eq_some_iff.1 hj).1
     rw [List.length_take] at this
     omega
    rw [List.getElem?_take,if_pos hj'] at hj
    have:=(hoB_at hj).1
    show b.ID < x.ID
    omega
  rw [nz_lt hi,selT',idxO_nat,hx,bindN]
  have hg : (decide ((i : Int) > 0) && decide (x.ID ≤ ((if (i : Int) > 0 then (hoB l)[i - 1]?.getD default else default) : Box).ID)) = false:=by
   by_cases c : (i : Int) > 0
   ·rw [if_pos c]
    have h1 : (hoB l)[i - 1]? = some (hoB l)[i - 1]:=List.getElem?_eq_getElem (by omega)
    have h2:=(hoB_at h1).1
    rw [h1,Option.getD_some]
    rw [show decide (x.ID ≤ (hoB l)[i - 1].ID) = false from decide_eq_false (by omega),Bool.and_false]
   ·rw [decide_eq_false c,Bool.false_and]
  have he : gO (decide ((i : Int) > 0)) (idxO (hoB l) (IntKind.i64.wrap ((i : Int) - 1))) = some (if (i : Int) > 0 then (hoB l)[i - 1]?.getD default else default):=by
   by_cases c : (i : Int) > 0
   ·rw [if_pos c,decide_eq_true c,gOT',show IntKind.i64.wrap ((i : Int) - 1) = ((i - 1 : Nat) : Int) by rw [wrap_id (by omega) (by omega)];omega,idxO_nat,List.getElem?_eq_getElem (show i - 1 < (hoB l).length by omega)];rfl
   ·rw [if_neg c,decide_eq_false c,gOF']
  rw [he,bindN,hg,Bool.not_false,gOT',hv,bindN]
  show again (IntKind.i64.wrap ((i : Int) + 1),msetL _ x.ID x) = _
  rw [hnew,wrap_suc hi (by unfold N0;omega)]
 ·subst hp
  unfold ht_look_L3
  simp only
  rw [nz_ge (Nat.le_refl _),selF',List.take_length]
theorem look_ok {l : List Rect} (H : HO l) (h : ∀ r ∈ l,okR r) (hl : l.length ≤ 8) : ht_look (hoT l.length) (hoS l.length) (hoB l) [] = some (hoC l,true):=by
 unfold ht_look
 rw [H.check,bindN,H.len]
 have e : (((0 : Int) != 0) || (((hoT l.length).Nodes.length : Int) != ((hoT l.length).Nodes.length : Int))) = false:=by simp
 rw [e,selF',jnN,H.five,jnN,look3_ok h hl,jnN,H.two,jnN,H.troot]
 rfl
theorem hits_suc (n : Nat) (s : hit_scene) (id : Int) (o : hit_origin) (p : Point) : ht_scene_hits (n + 1) s id o p = ht_scene_hits_B (ht_scene_hits n) s id o p:=rfl
def topF (p : Point) (l : List Box) : Int:=l.foldl (fun t b=>cond (inR b.Rect p) b.ID t) 0
def pathF (t : Int) : List Int:=if t = 0 then [] else if t = 1 then [1] else [1,t]
theorem topF_snoc (p : Point) (l : List Box) (b : Box) : topF p (l ++ [b]) = cond (inR b.Rect p) b.ID (topF p l):=by unfold topF;rw [List.foldl_append];rfl
theorem hoB_snoc (l : List Rect) (r : Rect) : hoB (l ++ [r]) = hoB l ++ [Box.mk ((l.length + 2 : Nat) : Int) r 0 ([] : (List Line))]:=by
 unfold hoB
 rw [List.mapIdx_append]
 simp
theorem hits_loop {l : List Rect} (H : HO l) (h : ∀ r ∈ l,okR r) (hl : l.length ≤ 8) (p : Point) : ∀ (k f : Nat),k ≤ l.length → k < f →
  loopK (ht_scene_hits_L1 (ht_scene_hits 9223372036854775807) (hoC l) 1 (0,0,p.X,p.Y) (hoK l) (fun _=>(ge_Contains hoR0 ⟨p.X,p.Y⟩).bind fun b=>sel b (some [1]) (some []))) f ((k : Int) - 1) = some (pathF (topF p (hoB (l.take k))))
 | 0,f + 1,_,_=>by
  show ht_scene_hits_L1 _ _ _ _ _ _ _ _ = _
  unfold ht_scene_hits_L1
  rw [show decide (((0 : Nat) : Int) - 1 ≥ 0) = false from rfl,selF',gcont_ok okR0,bindN]
  have : topF p (hoB (l.take 0)) = cond (inR hoR0 p) 1 0:=rfl
  rw [this]
  cases inR hoR0 ⟨p.X,p.Y⟩ <;> rfl
 | k + 1,f + 1,hk,hf=>by
  have hr : l[k]? = some l[k]:=List.getElem?_eq_getElem (by omega)
  have hrk:=h _ (List.getElem_mem (show k < l.length by omega))
  have ih:=hits_loop H h hl p k f (by omega) (by omega)
  generalize hB : ht_scene_hits_L1 (ht_scene_hits 9223372036854775807) (hoC l) 1 (0,0,p.X,p.Y) (hoK l) (fun _=>(ge_Contains hoR0 ⟨p.X,p.Y⟩).bind fun b=>sel b (some [1]) (some [])) = B at ih ⊢
  show B (loopK B f) (((k + 1 : Nat) : Int) - 1) = _
  generalize loopK B f = again at ih ⊢
  subst hB
  unfold ht_scene_hits_L1
  have ek : (((k + 1 : Nat) : Int) - 1) = ((k : Nat) : Int):=by omega
  rw [ek,decide_eq_true (show ((k : Nat) : Int) ≥ 0 by omega),selT',idxO_nat]
  have hK : (hoK l)[k]? = some (hit_child.mk ((k + 2 : Nat) : Int) l[k].X l[k].Y):=by
   unfold hoK
   rw [List.getElem?_mapIdx,hr]
   obtain ⟨a1,a2,a3,a4,_⟩:=hrk
   rw [Option.map_some,wrap_id (x:=0 + l[k].X) (by omega) (by omega),wrap_id (x:=0 + l[k].Y) (by omega) (by omega),Int.zero_add,Int.zero_add]
  rw [hK,bindN]
  have hs : ht_scene_hits 9223372036854775807 (hoC l) ((k + 2 : Nat) : Int) (hit_origin.mk l[k].X l[k].Y) (Point.mk p.X p.Y) = some (cond (inR l[k] p) [((k + 2 : Nat) : Int)] []):=by
   rw [show (9223372036854775807 : Nat) = 9223372036854775806 + 1 from rfl,hits_suc,H.leaf k _ hr]
   show ((ge_Contains l[k] p).bind _ : Option (List Int)) = _
   rw [gcont_ok hrk,bindN]
   cases inR l[k] p <;> rfl
  show ((ht_scene_hits 9223372036854775807 (hoC l) ((k + 2 : Nat) : Int) (hit_origin.mk l[k].X l[k].Y) (Point.mk p.X p.Y)).bind _ : Option (List Int)) = _
  rw [hs,bindN]
  have ht : topF p (hoB (l.take (k + 1))) = cond (inR l[k] p) ((k + 2 : Nat) : Int) (topF p (hoB (l.take k))):=by
   rw [take_suc hr,hoB_snoc,topF_snoc,List.length_take,Nat.min_eq_left (by omega)]
  rw [ht]
  cases inR l[k] p with
  | true =>
   show some ([(1 : Int)] ++ [((k + 2 : Nat) : Int)]) = some (pathF ((k + 2 : Nat) : Int))
   unfold pathF
   rw [if_neg (by omega),if_neg (by omega)];rfl
  | false =>
   show again (IntKind.i64.wrap ((k : Int) - 1)) = _
   rw [wrap_id (by omega) (by omega),ih];rfl
theorem hits_ok {l : List Rect} (H : HO l) (h : ∀ r ∈ l,okR r) (hl : l.length ≤ 8) (p : Point) : ht_scene_hits N0 (hoC l) 1 ⟨0,0⟩ p = some (pathF (topF p (hoB l))):=by
 have hs : ht_scene_hits N0 (hoC l) 1 ⟨0,0⟩ p = ht_scene_hits_B (ht_scene_hits 9223372036854775807) (hoC l) 1 ⟨0,0⟩ p:=hits_suc 9223372036854775807 _ _ _ _
 obtain ⟨z,n1,n2,n3⟩:=H.node
 obtain ⟨y,s1,s2⟩:=H.style
 rw [hs]
 unfold ht_scene_hits_B
 rw [jnN,H.turn,bindN]
 show sel false _ _ = _
 rw [selF']
 have hlk : (hoK l).length = l.length:=by unfold hoK;simp
 have lp:=hits_loop H h hl p l.length N0 (Nat.le_refl _) (by unfold N0;omega)
 rw [List.take_length] at lp
 have w : IntKind.i64.wrap (((hoK l).length : Int) - 1) = (l.length : Int) - 1:=by rw [hlk,wrap_id (by omega) (by omega)]
 show ((ht_scene_rect (hoC l) 1 (hit_origin.mk 0 0)).bind _ : Option (List Int)) = _
 rw [H.rect,bindN,jnN,n1,bindN]
 simp only [n2]
 show ((gO false _).bind _ : Option (List Int)) = _
 rw [gOF',bindN]
 show ((ht_scene_children (hoC l) 1 (hit_origin.mk 0 0)).bind _ : Option (List Int)) = _
 rw [H.kids,bindN,jnN,w]
 rw [← lp]
 congr 2
 funext u
 rw [s1,bindN]
 simp only [s2]
 show ((gO true _).bind _ : Option (List Int)) = _
 rw [gOT',bindN]
 show ((gO true (vw_Flag z.Attrs (ByteArray.mk #[112,97,115,115]))).bind _ : Option (List Int)) = _
 rw [gOT',n3,bindN]
 rfl
theorem test_ok {l : List Rect} (H : HO l) (h : ∀ r ∈ l,okR r) (hl : l.length ≤ 8) {p : Point} (hp : okP p) : ht_Test (hoT l.length) (hoS l.length) (hoB l) [] p = some (pathF (topF p (hoB l))):=by
 unfold ht_Test
 rw [look_ok H h hl,bindN]
 have hv : ht_valid p = some true:=by
  obtain ⟨h1,h2,h3,h4⟩:=hp
  unfold ht_valid
  rw [decide_eq_true (show p.X ≥ -2097152 by omega),decide_eq_true (show p.X ≤ 2097152 by omega),decide_eq_true (show p.Y ≥ -2097152 by omega),decide_eq_true (show p.Y ≤ 2097152 by omega)];rfl
 show sel true _ _ = _
 rw [selT']
 show ((gO true (ht_valid p)).bind _ : Option (List Int)) = _
 rw [gOT',hv,bindN]
 show sel false _ _ = _
 rw [selF']
 show ((mgetO (hoC l).boxes 1 _).bind _ : Option (List Int)) = _
 rw [H.box0,bindN]
 show ((ht_scene_hits N0 (hoC l) 1 (hit_origin.mk 0 0) p).bind _ : Option (List Int)) = _
 rw [hits_ok H h hl p,bindN]
theorem topF_nn (p : Point) (l : List Rect) : 0 ≤ topF p (hoB l):=by
 have : ∀ (L : List Box) (t : Int),0 ≤ t → (∀ b ∈ L,0 ≤ b.ID) → 0 ≤ L.foldl (fun t b=>cond (inR b.Rect p) b.ID t) t:=by
  intro L
  induction L with
  | nil=>intro t h _;exact h
  | cons b r ih =>
   intro t h hb
   rw [List.foldl_cons]
   refine ih _ ?_ (fun x hx=>hb x (by simp [hx]))
   cases inR b.Rect p with
   | true=>exact hb b (by simp)
   | false=>exact h
 refine this _ 0 (Int.le_refl 0) (fun b hb=>?_)
 obtain ⟨i,hi⟩:=List.mem_iff_getElem?.1 hb
 have:=(hoB_at hi).1
 omega
theorem ho_L1 {l : List Rect} (h : ∀ r ∈ l,okR r) (hl : l.length ≤ 8) {s4 : (List Box) × (List Styled) × (List Int) × Int × (List View)} (hs : s4.1 = hoB l) (a b : Int × widgetrybase_Src) (k : Int → Option Bool) : loopK (l29_HitOrder_L1 s4 a b k) N0 (0,0) = k (topF ⟨a.1,b.1⟩ (hoB l)):=by
 have hlen:=hoB_len l
 refine loopI (L:=hoB l) (fun (s : Int) i=>(s,(i : Int))) (fun i s=>s = topF ⟨a.1,b.1⟩ ((hoB l).take i)) (fun r=>r = k (topF ⟨a.1,b.1⟩ (hoB l))) (by unfold N0;omega) (fun again s i x hx hi hp=>.inr ?_) (fun again s hp=>?_) 0 rfl
 ·subst hp
  refine ⟨topF ⟨a.1,b.1⟩ ((hoB l).take (i + 1)),rfl,?_⟩
  unfold l29_HitOrder_L1
  simp only
  rw [hs,nz_lt hi,selT',jnN,idxO_nat,hx,bindN,rcont_ok (hoB_ok h hx),bindN,take_suc hx,topF_snoc]
  cases inR x.Rect ⟨a.1,b.1⟩ with
  | true =>
   rw [selT',bindN]
   show again (x.ID,_) = _
   rw [wrap_suc hi (by unfold N0;omega)];rfl
  | false =>
   rw [selF']
   show again (_,_) = _
   rw [wrap_suc hi (by unfold N0;omega)];rfl
 ·subst hp
  unfold l29_HitOrder_L1
  simp only
  rw [hs,nz_ge (Nat.le_refl _),selF',List.take_length]
theorem ho_L2 {l : List Rect} (H : HO l) (h : ∀ r ∈ l,okR r) (hl : l.length ≤ 8) {s4 : (List Box) × (List Styled) × (List Int) × Int × (List View)} (hs : s4.1 = hoB l) (hs2 : s4.2.1 = hoS l.length) (k : Unit → Option Bool) {L : List Int} {A : Int} (hS : SrcOk ⟨L,A⟩) : loopK (l29_HitOrder_L2 s4 (hoT l.length,0) k) N0 (0,L,A) = k ():=by
 refine loopN (n:=8) (fun (s : List Int × Int) i=>((i : Int),s.1,s.2)) (fun i s=>SrcOk ⟨s.1,s.2⟩) (fun r=>r = k ()) (by unfold N0;omega) (fun again s i hi hp=>.inr ?_) (fun again s hp=>?_) (L,A) hS
 ·obtain ⟨a,ha,a1,a2,a3⟩:=Range_t (lo:=-25) (hi:=75) hp (by omega) (by omega) (by omega)
  obtain ⟨b,hb,b1,b2,b3⟩:=Range_t (lo:=-25) (hi:=75) a3 (by omega) (by omega) (by omega)
  refine ⟨(b.2.L,b.2.At),b3,?_⟩
  unfold l29_HitOrder_L2
  simp only
  have e8 : decide ((i : Int) < 8) = true:=decide_eq_true (by omega)
  rw [e8,selT',jnN,ha,bindN,hb,bindN,jnN,ho_L1 h hl hs,hs,hs2,test_ok H h hl ⟨by show -1000 ≤ a.1;omega,by show a.1 ≤ 1000;omega,by show -1000 ≤ b.1;omega,by show b.1 ≤ 1000;omega⟩,bindN]
  have hn:=topF_nn ⟨a.1,b.1⟩ l
  generalize topF ⟨a.1,b.1⟩ (hoB l) = t at hn ⊢
  have ew : IntKind.i64.wrap ((i : Int) + 1) = ((i + 1 : Nat) : Int):=wrap_suc hi (by unfold N0;omega)
  rw [ew]
  by_cases t0 : t = 0
  ·subst t0;rfl
  ·have d1 : (t == 0) = false:=by rw [beq_eq_false_iff_ne];exact t0
   have d2 : decide (t > 0) = true:=decide_eq_true (by omega)
   rw [d1,d2]
   by_cases t1 : t = 1
   ·subst t1;rfl
   ·have : pathF t = [1,t]:=by unfold pathF;rw [if_neg t0,if_neg t1]
    rw [this]
    show sel (t != t) (some false) _ = _
    have : (t != t) = false:=by simp
    rw [this,selF']
 ·unfold l29_HitOrder_L2
  rfl
theorem ho_L3 {x2 : Int × widgetrybase_Src} (h1 : 1 ≤ x2.1) (h8 : x2.1 ≤ 8) (hS : SrcOk x2.2) {k : ((List Box) × (List Styled) × (List Int) × Int × (List View)) → Option Bool}
  (hk : ∀ (l : List Rect) (s : widgetrybase_Src),l.length = x2.1.toNat → (∀ r ∈ l,okR r) → SrcOk s → k (hoB l,hoS l.length,s.L,s.At,List.replicate l.length hoV1) = some true) :
  loopK (l29_HitOrder_L3 x2 k) N0 ([(Box.mk 1 (Rect.mk 0 0 50 50) 0 ([] : (List Line)))],[(Styled.mk 1 hoI)],0,x2.2.L,x2.2.At,([] : (List View))) = some true:=by
 refine loopN (n:=x2.1.toNat) (fun (s : List Rect × widgetrybase_Src) i=>(hoB s.1,hoS i,(i : Int),s.2.L,s.2.At,List.replicate i hoV1)) (fun i s=>s.1.length = i ∧ (∀ r ∈ s.1,okR r) ∧ SrcOk s.2) (fun r=>r = some true) (by unfold N0;omega) (fun again s i hi hp=>.inr ?_) (fun again s hp=>?_) ([],x2.2) ⟨rfl,fun r hr=>by simp at hr,hS⟩
 ·obtain ⟨p1,p2,p3⟩:=hp
  obtain ⟨a,ha,a1,a2,a3⟩:=Range_t (lo:=-20) (hi:=40) p3 (by omega) (by omega) (by omega)
  obtain ⟨b,hb,b1,b2,b3⟩:=Range_t (lo:=-20) (hi:=40) a3 (by omega) (by omega) (by omega)
  obtain ⟨c,hc,c1,c2,c3⟩:=N_t (n:=40) b3 (by omega) (by omega)
  obtain ⟨d,hd,d1,d2,d3⟩:=N_t (n:=40) c3 (by omega) (by omega)
  refine ⟨(s.1 ++ [Rect.mk a.1 b.1 c.1 d.1],d.2),⟨by simp [p1],fun r hr=>?_,d3⟩,?_⟩
  ·rcases List.mem_append.1 hr with hr | hr
   ·exact p2 r hr
   ·rw [List.mem_singleton.1 hr]
    unfold okR
    simp only
    omega
  ·have hbl:=hoB_len s.1
   have hsl : (hoS i).length = i + 1:=by unfold hoS;simp
   have w2 : IntKind.i64.wrap ((i : Int) + 2) = ((i + 2 : Nat) : Int):=by rw [wrap_id (by omega) (by omega)];omega
   have eI : r17_Initial = some hoI:=rfl
   have eS : hoS i ++ [Styled.mk ((i + 2 : Nat) : Int) hoI] = hoS (i + 1):=by
    unfold hoS
    rw [List.range_succ,List.map_append];rfl
   unfold l29_HitOrder_L3
   simp only
   rw [decide_eq_true (show (i : Int) < x2.1 by omega),selT',appO_eq (by simp;omega),bindN,ha,bindN,hb,bindN,hc,bindN,hd,bindN,w2,appO_eq (by simp;omega),bindN,eI,bindN,appO_eq (by simp;omega),bindN,wrap_suc hi (by unfold N0;omega),eS,hoB_snoc,p1,List.replicate_succ']
   rfl
 ·obtain ⟨p1,p2,p3⟩:=hp
  unfold l29_HitOrder_L3
  simp only
  rw [decide_eq_false (show ¬ ((x2.1.toNat : Int) < x2.1) by omega),selF']
  have:=hk s.1 s.2 p1 p2 p3
  rw [p1] at this
  exact this
theorem awake29_true : l29_awake = some true:=by kernel_rfl
theorem find_root (l : List Rect) : r21_Find (hoB l) 1 = some (Box.mk 1 hoR0 0 ([] : (List Line)),true):=by
 unfold r21_Find
 rw [jnN,loopK_first]
 unfold r21_Find_L1
 have : decide ((0 : Int) < ((hoB l).length : Int)) = true:=decide_eq_true (by rw [hoB_len];omega)
 rw [this,selT']
 rfl
theorem hitOrder_true (l : List Int) {p : Prop} (_hp : p) : l29_HitOrder l = some true:=by
 unfold l29_HitOrder
 obtain ⟨s,h1,h2⟩:=New_t l
 obtain ⟨x2,h3,h4,h5,h6⟩:=Range_t (lo:=1) (hi:=8) h2 (by omega) (by omega) (by omega)
 have eI : r17_Initial = some hoI:=rfl
 rw [h1,bindN,h3,bindN,eI,bindN,jnN]
 refine ho_L3 h4 h5 h6 (fun q t hq hok ht=>?_)
 have hl : q.length ≤ 8:=by omega
 have H:=ho_any q (by omega) hl
 show ((r14_Build (hoV q.length) 1).bind _ : Option Bool) = _
 rw [H.build,bindN,jnN,ho_L2 H hok hl rfl rfl _ ht]
 show ((r21_Find (hoB q) 1).bind _ : Option Bool) = _
 rw [find_root,bindN]
 show ((gO true l29_awake).bind _ : Option Bool) = _
 rw [gOT',awake29_true];rfl
end Go.Proofs.YtfoigppmcelgfaaDoor
end

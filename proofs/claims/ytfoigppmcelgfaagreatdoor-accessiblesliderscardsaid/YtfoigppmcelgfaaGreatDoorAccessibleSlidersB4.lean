/-
  Part 4 of the texts under the law AccessibleSliders: the calculus, the plain functions, their walks, plain facts.
-/
import Derived.Test.YtfoigppmcelgfaaGreatDoorAccessibleSlidersB3
import Derived.Test.YtfoigppmcelgfaaGreatDoorProg
import Derived.KernelRfl
section
set_option maxRecDepth 100000
namespace Go.Proofs.YtfoigppmcelgfaaGreatDoor
open Go Go.E2
theorem widgetry_layout_isText_c (kind : Int) {r : Bool} (hr : widgetry_layout_isText kind = some r) : Con Tryz.prog 182 [aI kind] [] (.s (aB r)) []:=by
 unfold widgetry_layout_isText at hr
 refine Con.of_ok 17 0 [.tmp 2] [(0,.s (aI kind))] Tryz.func182 rfl rfl rfl rfl rfl rfl rfl rfl fun w g M ρ _=>(Ok.seq (Ok.region (OkOps.y (aB false) (OkOps.nil (Ok.seq (Ok.region (OkOps.y (aI kind) (OkOps.y (aB (kind == 2)) (OkOps.y (aB (kind == 2)) (OkOps.q (triQG (x:=aI kind) rfl rfl trivial rfl) (OkOps.q (triQG (x:=aB (kind == 4)) rfl rfl ⟨fun h=>h,trivial⟩ rfl) ?_)))))))))))
 refine OkOps.q (triOr rfl rfl (fun h=>by rw [h];rfl) rfl) ?_
 refine OkOps.y (aB ((kind == 2) || (kind == 4))) (OkOps.q (triQG (x:=aI kind) rfl rfl trivial rfl) (OkOps.q (triQG (x:=aB (kind == 7)) rfl rfl ⟨fun h=>h,trivial⟩ rfl) ?_))
 refine OkOps.q (triOr rfl rfl (fun h=>by rw [h];rfl) rfl) ?_
 refine OkOps.y (aB (((kind == 2) || (kind == 4)) || (kind == 7))) (OkOps.q (triQG (x:=aI kind) rfl rfl trivial rfl) (OkOps.q (triQG (x:=aB (kind == 9)) rfl rfl ⟨fun h=>h,trivial⟩ rfl) ?_))
 refine OkOps.q (triOr rfl rfl (fun h=>by rw [h];rfl) rfl) ?_
 refine OkOps.y (aB ((((kind == 2) || (kind == 4)) || (kind == 7)) || (kind == 9))) (OkOps.nil (Ok.ret ?_))
 obtain rfl:=Option.some.inj hr
 exact ⟨_,rfl,.inl rfl,trivial⟩
theorem widgetry_layout_isFigure_c (kind : Int) {r : Bool} (hr : widgetry_layout_isFigure kind = some r) : Con Tryz.prog 183 [aI kind] [] (.s (aB r)) []:=by
 unfold widgetry_layout_isFigure at hr
 refine Con.of_ok 9 0 [.tmp 2] [(0,.s (aI kind))] Tryz.func183 rfl rfl rfl rfl rfl rfl rfl rfl fun w g M ρ _=>(Ok.seq (Ok.region (OkOps.y (aB false) (OkOps.nil (Ok.seq (Ok.region (OkOps.y (aI kind) (OkOps.y (aB (kind == 5)) (OkOps.y (aB (kind == 5)) (OkOps.q (triQG (x:=aI kind) rfl rfl trivial rfl) (OkOps.q (triQG (x:=aB (kind == 13)) rfl rfl ⟨fun h=>h,trivial⟩ rfl) ?_)))))))))))
 refine OkOps.q (triOr rfl rfl (fun h=>by rw [h];rfl) rfl) ?_
 refine OkOps.y (aB ((kind == 5) || (kind == 13))) (OkOps.nil (Ok.ret ?_))
 obtain rfl:=Option.some.inj hr
 exact ⟨_,rfl,.inl rfl,trivial⟩
theorem widgetry_layout_complete_1_c (p_n : Node) (p_s : Styled) {r : Bool} (hr : widgetry_layout_complete_1 p_n p_s = some r) : Con Tryz.prog 155 [.agg [cI p_n.ID,cI p_n.Parent,cI p_n.Kind,cS p_n.Key,.d (.sl (List.map Attr.cs p_n.Attrs)),.d (.sl (List.map Action.cs p_n.Actions)),.d (.sl (List.map (eInt .i64) p_n.Kids))],.agg [cI p_s.ID,cI (p_s.Style 0),cI (p_s.Style 1),cI (p_s.Style 2),cI (p_s.Style 3),cI (p_s.Style 4),cI (p_s.Style 5),cI (p_s.Style 6),cI (p_s.Style 7),cI (p_s.Style 8),cI (p_s.Style 9),cI (p_s.Style 10),cI (p_s.Style 11),cI (p_s.Style 12),cI (p_s.Style 13),cI (p_s.Style 14),cI (p_s.Style 15),cI (p_s.Style 16),cI (p_s.Style 17),cI (p_s.Style 18),cI (p_s.Style 19),cI (p_s.Style 20),cI (p_s.Style 21)]] [] (.s (aB r)) []:=by
 unfold widgetry_layout_complete_1 at hr
 refine Con.of_ok 10 0 [.tmp 4] [(0,.s (.agg [cI p_n.ID,cI p_n.Parent,cI p_n.Kind,cS p_n.Key,.d (.sl (List.map Attr.cs p_n.Attrs)),.d (.sl (List.map Action.cs p_n.Actions)),.d (.sl (List.map (eInt .i64) p_n.Kids))])),(1,.s (.agg [cI p_s.ID,cI (p_s.Style 0),cI (p_s.Style 1),cI (p_s.Style 2),cI (p_s.Style 3),cI (p_s.Style 4),cI (p_s.Style 5),cI (p_s.Style 6),cI (p_s.Style 7),cI (p_s.Style 8),cI (p_s.Style 9),cI (p_s.Style 10),cI (p_s.Style 11),cI (p_s.Style 12),cI (p_s.Style 13),cI (p_s.Style 14),cI (p_s.Style 15),cI (p_s.Style 16),cI (p_s.Style 17),cI (p_s.Style 18),cI (p_s.Style 19),cI (p_s.Style 20),cI (p_s.Style 21)]))] Tryz.func155 rfl rfl rfl rfl rfl rfl rfl rfl fun w g M ρ _=>(Ok.seq (Ok.region (OkOps.m 0 (triBox (j:=0) (cs:=[cI p_n.ID,cI p_n.Parent,cI p_n.Kind,cS p_n.Key,.d (.sl (List.map Attr.cs p_n.Attrs)),.d (.sl (List.map Action.cs p_n.Actions)),.d (.sl (List.map (eInt .i64) p_n.Kids))]) rfl rfl rfl rfl rfl) (OkOps.m 0 (triBox (j:=1) (cs:=[cI p_s.ID,cI (p_s.Style 0),cI (p_s.Style 1),cI (p_s.Style 2),cI (p_s.Style 3),cI (p_s.Style 4),cI (p_s.Style 5),cI (p_s.Style 6),cI (p_s.Style 7),cI (p_s.Style 8),cI (p_s.Style 9),cI (p_s.Style 10),cI (p_s.Style 11),cI (p_s.Style 12),cI (p_s.Style 13),cI (p_s.Style 14),cI (p_s.Style 15),cI (p_s.Style 16),cI (p_s.Style 17),cI (p_s.Style 18),cI (p_s.Style 19),cI (p_s.Style 20),cI (p_s.Style 21)]) rfl rfl rfl rfl rfl) (OkOps.y (aB false) (OkOps.nil (Ok.seq (Ok.region (OkOps.y (.c (.loc 0 0)) (OkOps.y (aI p_n.ID) (OkOps.y (.c (.loc 1 0)) (OkOps.y (aI p_s.ID) (OkOps.y (aB (p_n.ID == p_s.ID)) (OkOps.y (aB (p_n.ID == p_s.ID)) (OkOps.nil ?_)))))))))))))))
 refine Ok.ret ?_
 obtain rfl:=Option.some.inj hr
 exact ⟨_,rfl,.inl rfl,trivial⟩
theorem slices_EqualFunc_Sl_Node_Sl_Styled_Node_Styled_c (p_s1 : (List Node)) (p_s2 : (List Styled)) {r : Bool} (hr : slices_EqualFunc_Sl_Node_Sl_Styled_Node_Styled p_s1 p_s2 = some r) : Con Tryz.prog 154 [.c (.d (.sl (List.map Node.cs p_s1))),.c (.d (.sl (List.map Styled.cs p_s2))),.c (.fn 155 [])] [] (.s (aB r)) []:=by
 unfold slices_EqualFunc_Sl_Node_Sl_Styled_Node_Styled at hr
 refine Con.of_ok 32 0 [.tmp 6] [(0,.s (.c (.d (.sl (List.map Node.cs p_s1))))),(1,.s (.c (.d (.sl (List.map Styled.cs p_s2))))),(2,.s (.c (.fn 155 [])))] Tryz.func154 rfl rfl rfl rfl rfl rfl rfl rfl fun w g M ρ _=>(Ok.seq (Ok.region (OkOps.y (aB false) (OkOps.nil (Ok.seq (Ok.seq (Ok.region (OkOps.y (.c (.d (.sl (List.map Node.cs p_s1)))) (OkOps.q (triLen (enc:=Node.cs) p_s1 rfl rfl trivial rfl) (OkOps.y (.c (.d (.sl (List.map Styled.cs p_s2)))) (OkOps.q (triLen (enc:=Styled.cs) p_s2 rfl rfl trivial rfl) (OkOps.y (aB ((p_s1.length : Int) != (p_s2.length : Int))) (OkOps.nil ?_)))))))))))))
 refine Ok.cond (b:=(p_s1.length : Int) != (p_s2.length : Int)) rfl (fun h1=>?_) (fun h1=>?_)
 have hr:=selT h1 hr
 refine Ok.seq (Ok.region (OkOps.y (aB false) (OkOps.nil (Ok.ret ?_))))
 obtain rfl:=Option.some.inj hr
 exact ⟨_,rfl,.inl rfl,trivial⟩
 have hr:=selF h1 hr
 refine Ok.skip ?_
 obtain ⟨k3,hk3,hr⟩:=jn_some hr
 refine Ok.join (fun (s2 : Unit)=>⟨[],[],0⟩) k3 r (fun s2 hr=>?_) ?_
 rw [hk3] at hr
 refine Ok.seq (Ok.region (OkOps.y (aB true) (OkOps.nil (Ok.ret ?_))))
 obtain rfl:=Option.some.inj hr
 exact ⟨_,rfl,.inl rfl,trivial⟩
 clear hk3
 refine Ok.seq (Ok.region (OkOps.y (.c (.d (.sl (List.map Node.cs p_s1)))) (OkOps.q (triLen (enc:=Node.cs) p_s1 rfl rfl trivial rfl) (OkOps.y (aI 0) (OkOps.nil (Ok.block (Ok.loopK (fun (s4 : Int)=>⟨[(1,.s (.c (.d (.sl (List.map Styled.cs p_s2))))),(2,.s (.c (.fn 155 []))),(15,.s (.c (.d (.sl (List.map Node.cs p_s1))))),(16,.s (aI (p_s1.length : Int))),(17,.s (aI s4))],[],0⟩) hr (Conv.mk (tau []) ⟨⟨_,rfl,.inl rfl⟩,⟨_,rfl,.inl rfl⟩,⟨_,rfl,.inl rfl⟩,⟨_,rfl,.inl rfl⟩,⟨_,rfl,.inl rfl⟩,trivial⟩ trivial rfl rfl rfl rfl) ?_)))))))
 clear hr
 intro again5 s4 hr
 unfold slices_EqualFunc_Sl_Node_Sl_Styled_Node_Styled_L1 at hr
 refine Ok.seq (Ok.region (OkOps.y (aB (decide (s4 < (p_s1.length : Int)))) (OkOps.nil (Ok.seq ?_))))
 refine Ok.cond (b:=decide (s4 < (p_s1.length : Int))) rfl (fun h6=>?_) (fun h6=>?_)
 have hr:=selT h6 hr
 refine Ok.skip (Ok.seq (Ok.block (Ok.seq (Ok.region (OkOps.y (aI s4) ?_)))))
 obtain ⟨x7,hx7,hr⟩:=bind_some hr
 refine OkOps.q (triIdx (enc:=Node.cs) (L:=p_s1) (row:=[dI x7.ID,dI x7.Parent,dI x7.Kind,dS x7.Key,.sl (List.map Attr.cs x7.Attrs),.sl (List.map Action.cs x7.Actions),.sl (List.map (eInt .i64) x7.Kids)]) hx7 rfl rfl rfl rfl (fun _=>rfl) trivial rfl) (OkOps.y (.agg [cI x7.ID,cI x7.Parent,cI x7.Kind,cS x7.Key,.d (.sl (List.map Attr.cs x7.Attrs)),.d (.sl (List.map Action.cs x7.Actions)),.d (.sl (List.map (eInt .i64) x7.Kids))]) (OkOps.m 0 (triAlloc (j:=0) (cs:=[cI 0,cI 0,cI 0,cS ByteArray.empty,.d (.v (.slice none 0 0)),.d (.v (.slice none 0 0)),.d (.v (.slice none 0 0))]) rfl rfl rfl rfl) (OkOps.y (aI s4) (OkOps.w (triStore (cs':=[cI x7.ID,cI x7.Parent,cI x7.Kind,cS x7.Key,.d (.sl (List.map Attr.cs x7.Attrs)),.d (.sl (List.map Action.cs x7.Actions)),.d (.sl (List.map (eInt .i64) x7.Kids))]) rfl rfl rfl rfl rfl rfl rfl rfl rfl) (OkOps.nil (Ok.seq (Ok.region (OkOps.y (.c (.d (.sl (List.map Styled.cs p_s2)))) (OkOps.y (aI s4) ?_)))))))))
 obtain ⟨x8,hx8,hr⟩:=bind_some hr
 refine OkOps.q (triIdx (enc:=Styled.cs) (L:=p_s2) (row:=[dI x8.ID,dI (x8.Style 0),dI (x8.Style 1),dI (x8.Style 2),dI (x8.Style 3),dI (x8.Style 4),dI (x8.Style 5),dI (x8.Style 6),dI (x8.Style 7),dI (x8.Style 8),dI (x8.Style 9),dI (x8.Style 10),dI (x8.Style 11),dI (x8.Style 12),dI (x8.Style 13),dI (x8.Style 14),dI (x8.Style 15),dI (x8.Style 16),dI (x8.Style 17),dI (x8.Style 18),dI (x8.Style 19),dI (x8.Style 20),dI (x8.Style 21)]) hx8 rfl rfl rfl rfl (fun _=>rfl) trivial rfl) (OkOps.y (.agg [cI x8.ID,cI (x8.Style 0),cI (x8.Style 1),cI (x8.Style 2),cI (x8.Style 3),cI (x8.Style 4),cI (x8.Style 5),cI (x8.Style 6),cI (x8.Style 7),cI (x8.Style 8),cI (x8.Style 9),cI (x8.Style 10),cI (x8.Style 11),cI (x8.Style 12),cI (x8.Style 13),cI (x8.Style 14),cI (x8.Style 15),cI (x8.Style 16),cI (x8.Style 17),cI (x8.Style 18),cI (x8.Style 19),cI (x8.Style 20),cI (x8.Style 21)]) (OkOps.m 0 (triAlloc (j:=1) (cs:=[cI 0,cI 0,cI 0,cI 0,cI 0,cI 0,cI 0,cI 0,cI 0,cI 0,cI 0,cI 0,cI 0,cI 0,cI 0,cI 0,cI 0,cI 0,cI 0,cI 0,cI 0,cI 0,cI 0]) rfl rfl rfl rfl) (OkOps.w (triStore (cs':=[cI x8.ID,cI (x8.Style 0),cI (x8.Style 1),cI (x8.Style 2),cI (x8.Style 3),cI (x8.Style 4),cI (x8.Style 5),cI (x8.Style 6),cI (x8.Style 7),cI (x8.Style 8),cI (x8.Style 9),cI (x8.Style 10),cI (x8.Style 11),cI (x8.Style 12),cI (x8.Style 13),cI (x8.Style 14),cI (x8.Style 15),cI (x8.Style 16),cI (x8.Style 17),cI (x8.Style 18),cI (x8.Style 19),cI (x8.Style 20),cI (x8.Style 21)]) rfl rfl rfl rfl rfl rfl rfl rfl (by kernel_rfl)) (OkOps.nil (Ok.seq (Ok.region (OkOps.y (.c (.fn 155 [])) (OkOps.y (.agg [cI x7.ID,cI x7.Parent,cI x7.Kind,cS x7.Key,.d (.sl (List.map Attr.cs x7.Attrs)),.d (.sl (List.map Action.cs x7.Actions)),.d (.sl (List.map (eInt .i64) x7.Kids))]) (OkOps.y (.agg [cI x8.ID,cI (x8.Style 0),cI (x8.Style 1),cI (x8.Style 2),cI (x8.Style 3),cI (x8.Style 4),cI (x8.Style 5),cI (x8.Style 6),cI (x8.Style 7),cI (x8.Style 8),cI (x8.Style 9),cI (x8.Style 10),cI (x8.Style 11),cI (x8.Style 12),cI (x8.Style 13),cI (x8.Style 14),cI (x8.Style 15),cI (x8.Style 16),cI (x8.Style 17),cI (x8.Style 18),cI (x8.Style 19),cI (x8.Style 20),cI (x8.Style 21)]) ?_)))))))))
 obtain ⟨x9,hx9,hr⟩:=bind_some hr
 refine OkOps.q (triCallF (caps:=[]) (tau []) (.s (aB x9)) [] rfl (widgetry_layout_complete_1_c _ _ hx9) rfl ⟨.inl rfl,.inl rfl,trivial⟩ trivial entry155 trivial rfl rfl rfl rfl trivial rfl rfl rfl) (OkOps.y (aB (!x9)) (OkOps.nil ?_))
 refine Ok.cond (b:=!x9) rfl (fun h10=>?_) (fun h10=>?_)
 have hr:=selT h10 hr
 refine Ok.seq (Ok.region (OkOps.y (aB false) (OkOps.nil (Ok.ret ?_))))
 obtain rfl:=Option.some.inj hr
 exact ⟨_,rfl,.inl rfl,trivial⟩
 have hr:=selF h10 hr
 refine Ok.skip (Ok.region (OkOps.y (aI (IntKind.i64.wrap (s4 + 1))) (OkOps.y (aI (IntKind.i64.wrap (s4 + 1))) (OkOps.nil ?_))))
 exact ⟨IntKind.i64.wrap (s4 + 1),hr,(Conv.mk (tau []) ⟨⟨_,rfl,.inl rfl⟩,⟨_,rfl,.inl rfl⟩,⟨_,rfl,.inl rfl⟩,⟨_,rfl,.inl rfl⟩,⟨_,rfl,.inl rfl⟩,trivial⟩ trivial rfl rfl rfl rfl)⟩
 have hr:=selF h6 hr
 refine Ok.exit ?_
 exact ⟨(),hr,(Conv.mk (tau []) trivial trivial rfl rfl rfl rfl)⟩
theorem widgetry_layout_complete_c (t : Tree) (st : (List Styled)) {r : Bool} (hr : widgetry_layout_complete t st = some r) : Con Tryz.prog 116 [.agg [cI t.Root,cI t.Next,.d (.sl (List.map Node.cs t.Nodes))],.c (.d (.sl (List.map Styled.cs st)))] [] (.s (aB r)) []:=by
 unfold widgetry_layout_complete at hr
 refine Con.of_ok 9 0 [.tmp 4] [(0,.s (.agg [cI t.Root,cI t.Next,.d (.sl (List.map Node.cs t.Nodes))])),(1,.s (.c (.d (.sl (List.map Styled.cs st)))))] Tryz.func116 rfl rfl rfl rfl rfl rfl rfl rfl fun w g M ρ _=>(Ok.seq (Ok.region (OkOps.m 0 (triBox (j:=0) (cs:=[cI t.Root,cI t.Next,.d (.sl (List.map Node.cs t.Nodes))]) rfl rfl rfl rfl rfl) (OkOps.y (aB false) (OkOps.nil (Ok.seq (Ok.region (OkOps.y (.c (.loc 0 2)) (OkOps.y (.c (.d (.sl (List.map Node.cs t.Nodes)))) (OkOps.y (.c (.d (.sl (List.map Styled.cs st)))) ?_))))))))))
 obtain ⟨x1,hx1,hr⟩:=bind_some hr
 refine OkOps.q (triCl (tau []) (.s (aB x1)) [] (slices_EqualFunc_Sl_Node_Sl_Styled_Node_Styled_c _ _ hx1) rfl ⟨.inl rfl,.inl rfl,.inl rfl,trivial⟩ trivial entry154 trivial) (OkOps.y (aB x1) (OkOps.nil (Ok.ret ?_)))
 obtain rfl:=Option.some.inj hr
 exact ⟨_,rfl,.inl rfl,trivial⟩
theorem widgetry_layout_styled_c (st : (List Styled)) {r : Bool} (hr : widgetry_layout_styled st = some r) : Con Tryz.prog 117 [.c (.d (.sl (List.map Styled.cs st)))] [] (.s (aB r)) []:=by
 unfold widgetry_layout_styled at hr
 refine Con.of_ok 25 0 [.tmp 2] [(0,.s (.c (.d (.sl (List.map Styled.cs st)))))] Tryz.func117 rfl rfl rfl rfl rfl rfl rfl rfl fun w g M ρ _=>(Ok.seq (Ok.region (OkOps.y (aB false) (OkOps.nil ?_))))
 obtain ⟨k2,hk2,hr⟩:=jn_some hr
 refine Ok.join (fun (s1 : Unit)=>⟨[],[],0⟩) k2 r (fun s1 hr=>?_) ?_
 rw [hk2] at hr
 refine Ok.seq (Ok.region (OkOps.y (aB true) (OkOps.nil (Ok.ret ?_))))
 obtain rfl:=Option.some.inj hr
 exact ⟨_,rfl,.inl rfl,trivial⟩
 clear hk2
 refine Ok.seq (Ok.region (OkOps.y (.c (.d (.sl (List.map Styled.cs st)))) (OkOps.q (triLen (enc:=Styled.cs) st rfl rfl trivial rfl) (OkOps.y (aI 0) (OkOps.nil (Ok.block (Ok.loopK (fun (s3 : Int)=>⟨[(7,.s (.c (.d (.sl (List.map Styled.cs st))))),(8,.s (aI (st.length : Int))),(9,.s (aI s3))],[],0⟩) hr (Conv.mk (tau []) ⟨⟨_,rfl,.inl rfl⟩,⟨_,rfl,.inl rfl⟩,⟨_,rfl,.inl rfl⟩,trivial⟩ trivial rfl rfl rfl rfl) ?_)))))))
 clear hr
 intro again4 s3 hr
 unfold widgetry_layout_styled_L2 at hr
 refine Ok.seq (Ok.region (OkOps.y (aB (decide (s3 < (st.length : Int)))) (OkOps.nil (Ok.seq ?_))))
 refine Ok.cond (b:=decide (s3 < (st.length : Int))) rfl (fun h5=>?_) (fun h5=>?_)
 have hr:=selT h5 hr
 refine Ok.skip ?_
 obtain ⟨k7,hk7,hr⟩:=jn_some hr
 refine Ok.join (fun (s6 : Unit)=>⟨[(7,.s (.c (.d (.sl (List.map Styled.cs st))))),(8,.s (aI (st.length : Int))),(9,.s (aI s3))],[],0⟩) k7 r (fun s6 hr=>?_) ?_
 rw [hk7] at hr
 refine Ok.region (OkOps.y (aI (IntKind.i64.wrap (s3 + 1))) (OkOps.y (aI (IntKind.i64.wrap (s3 + 1))) (OkOps.nil ?_)))
 exact ⟨IntKind.i64.wrap (s3 + 1),hr,(Conv.mk (tau []) ⟨⟨_,rfl,.inl rfl⟩,⟨_,rfl,.inl rfl⟩,⟨_,rfl,.inl rfl⟩,trivial⟩ trivial rfl rfl rfl rfl)⟩
 clear hk7
 refine Ok.block (Ok.seq (Ok.region ?_))
 obtain ⟨x8,hx8,hr⟩:=bind_some hr
 refine OkOps.q (triIdx (enc:=Styled.cs) (L:=st) (row:=[dI x8.ID,dI (x8.Style 0),dI (x8.Style 1),dI (x8.Style 2),dI (x8.Style 3),dI (x8.Style 4),dI (x8.Style 5),dI (x8.Style 6),dI (x8.Style 7),dI (x8.Style 8),dI (x8.Style 9),dI (x8.Style 10),dI (x8.Style 11),dI (x8.Style 12),dI (x8.Style 13),dI (x8.Style 14),dI (x8.Style 15),dI (x8.Style 16),dI (x8.Style 17),dI (x8.Style 18),dI (x8.Style 19),dI (x8.Style 20),dI (x8.Style 21)]) hx8 rfl rfl rfl rfl (fun _=>rfl) trivial rfl) (OkOps.y (.agg [cI x8.ID,cI (x8.Style 0),cI (x8.Style 1),cI (x8.Style 2),cI (x8.Style 3),cI (x8.Style 4),cI (x8.Style 5),cI (x8.Style 6),cI (x8.Style 7),cI (x8.Style 8),cI (x8.Style 9),cI (x8.Style 10),cI (x8.Style 11),cI (x8.Style 12),cI (x8.Style 13),cI (x8.Style 14),cI (x8.Style 15),cI (x8.Style 16),cI (x8.Style 17),cI (x8.Style 18),cI (x8.Style 19),cI (x8.Style 20),cI (x8.Style 21)]) (OkOps.m 0 (triAlloc (j:=0) (cs:=[cI 0,cI 0,cI 0,cI 0,cI 0,cI 0,cI 0,cI 0,cI 0,cI 0,cI 0,cI 0,cI 0,cI 0,cI 0,cI 0,cI 0,cI 0,cI 0,cI 0,cI 0,cI 0,cI 0]) rfl rfl rfl rfl) (OkOps.w (triStore (cs':=[cI x8.ID,cI (x8.Style 0),cI (x8.Style 1),cI (x8.Style 2),cI (x8.Style 3),cI (x8.Style 4),cI (x8.Style 5),cI (x8.Style 6),cI (x8.Style 7),cI (x8.Style 8),cI (x8.Style 9),cI (x8.Style 10),cI (x8.Style 11),cI (x8.Style 12),cI (x8.Style 13),cI (x8.Style 14),cI (x8.Style 15),cI (x8.Style 16),cI (x8.Style 17),cI (x8.Style 18),cI (x8.Style 19),cI (x8.Style 20),cI (x8.Style 21)]) rfl rfl rfl rfl rfl rfl rfl rfl (by kernel_rfl)) (OkOps.nil (Ok.seq (Ok.region (OkOps.y (.c (.loc 0 1)) (OkOps.y (.agg [cI (x8.Style 0),cI (x8.Style 1),cI (x8.Style 2),cI (x8.Style 3),cI (x8.Style 4),cI (x8.Style 5),cI (x8.Style 6),cI (x8.Style 7),cI (x8.Style 8),cI (x8.Style 9),cI (x8.Style 10),cI (x8.Style 11),cI (x8.Style 12),cI (x8.Style 13),cI (x8.Style 14),cI (x8.Style 15),cI (x8.Style 16),cI (x8.Style 17),cI (x8.Style 18),cI (x8.Style 19),cI (x8.Style 20),cI (x8.Style 21)]) (OkOps.y (aI 0) (OkOps.nil ?_))))))))))
 obtain ⟨k10,hk10,hr⟩:=jn_some hr
 refine Ok.joinEnd (fun (s9 : Unit)=>⟨[(7,.s (.c (.d (.sl (List.map Styled.cs st))))),(8,.s (aI (st.length : Int))),(9,.s (aI s3))],[],0⟩) k10 r (fun s9 hr=>?_) ?_
 rw [hk10] at hr
 exact ⟨(),hr,(Conv.mk (tau []) ⟨⟨_,rfl,.inl rfl⟩,⟨_,rfl,.inl rfl⟩,⟨_,rfl,.inl rfl⟩,trivial⟩ trivial rfl rfl rfl rfl)⟩
 clear hk10
 refine Ok.block (Ok.loopK (fun (s11 : Int)=>⟨[(7,.s (.c (.d (.sl (List.map Styled.cs st))))),(8,.s (aI (st.length : Int))),(9,.s (aI s3)),(14,.s (.agg [cI (x8.Style 0),cI (x8.Style 1),cI (x8.Style 2),cI (x8.Style 3),cI (x8.Style 4),cI (x8.Style 5),cI (x8.Style 6),cI (x8.Style 7),cI (x8.Style 8),cI (x8.Style 9),cI (x8.Style 10),cI (x8.Style 11),cI (x8.Style 12),cI (x8.Style 13),cI (x8.Style 14),cI (x8.Style 15),cI (x8.Style 16),cI (x8.Style 17),cI (x8.Style 18),cI (x8.Style 19),cI (x8.Style 20),cI (x8.Style 21)])),(15,.s (aI s11))],[],0⟩) hr (Conv.mk (tau []) ⟨⟨_,rfl,.inl rfl⟩,⟨_,rfl,.inl rfl⟩,⟨_,rfl,.inl rfl⟩,⟨_,rfl,.inl rfl⟩,⟨_,rfl,.inl rfl⟩,trivial⟩ trivial rfl rfl rfl rfl) ?_)
 clear hr
 intro again12 s11 hr
 unfold widgetry_layout_styled_L1 at hr
 refine Ok.seq (Ok.region (OkOps.y (aB (decide (s11 < 22))) (OkOps.nil (Ok.seq ?_))))
 refine Ok.cond (b:=decide (s11 < 22)) rfl (fun h13=>?_) (fun h13=>?_)
 have hr:=selT h13 hr
 refine Ok.skip (Ok.seq (Ok.block (Ok.seq (Ok.region (OkOps.y (aI s11) ?_)))))
 obtain ⟨x14,hx14,hr⟩:=bind_some hr
 refine OkOps.q (triIxA (c:=cI (x8.Style x14)) hx14 rfl rfl rfl rfl (arr1_get (e1:=dInt .i64) (a:=x8.Style) (ixO_spec hx14).2) trivial rfl) (OkOps.y (aI s11) (OkOps.y (aI (x8.Style x14)) (OkOps.nil (Ok.seq (Ok.region (OkOps.y (aI s11) (OkOps.y (aI (x8.Style x14)) ?_)))))))
 obtain ⟨x15,hx15,hr⟩:=bind_some hr
 refine OkOps.q (triCl (tau []) (.s (aB x15)) [] (widgetry_style_InRange_c _ _ hx15) rfl ⟨.inl rfl,.inl rfl,trivial⟩ trivial entry156 trivial) (OkOps.y (aB (!x15)) (OkOps.nil ?_))
 refine Ok.cond (b:=!x15) rfl (fun h16=>?_) (fun h16=>?_)
 have hr:=selT h16 hr
 refine Ok.seq (Ok.region (OkOps.y (aB false) (OkOps.nil (Ok.ret ?_))))
 obtain rfl:=Option.some.inj hr
 exact ⟨_,rfl,.inl rfl,trivial⟩
 have hr:=selF h16 hr
 refine Ok.skip (Ok.region (OkOps.y (aI (IntKind.i64.wrap (s11 + 1))) (OkOps.y (aI (IntKind.i64.wrap (s11 + 1))) (OkOps.nil ?_))))
 exact ⟨IntKind.i64.wrap (s11 + 1),hr,(Conv.mk (tau []) ⟨⟨_,rfl,.inl rfl⟩,⟨_,rfl,.inl rfl⟩,⟨_,rfl,.inl rfl⟩,⟨_,rfl,.inl rfl⟩,⟨_,rfl,.inl rfl⟩,trivial⟩ trivial rfl rfl rfl rfl)⟩
 have hr:=selF h13 hr
 refine Ok.exit ?_
 exact ⟨(),hr,(Conv.mk (tau []) ⟨⟨_,rfl,.inl rfl⟩,⟨_,rfl,.inl rfl⟩,⟨_,rfl,.inl rfl⟩,trivial⟩ trivial rfl rfl rfl rfl)⟩
 have hr:=selF h5 hr
 refine Ok.exit ?_
 exact ⟨(),hr,(Conv.mk (tau []) trivial trivial rfl rfl rfl rfl)⟩
theorem widgetry_layout_scene_hidden_c (p_x : layout_scene) (id : Int) {r : Bool × layout_scene} (hr : widgetry_layout_scene_hidden p_x id = some r) : Con Tryz.prog 157 [.c (.loc 0 0),aI id] [(0,.blk [cI p_x.t.Root,cI p_x.t.Next,.d (.sl (List.map Node.cs p_x.t.Nodes)),.d (.sl (List.map Font.cs p_x.fonts)),.d (.mp true (encM (kInt .i64) Node.cs p_x.nodes)),.d (.mp true (encM (kInt .i64) (eArr 22 (dInt .i64)) p_x.style)),.own 1,.tl 2 (List.map (eInt .i64) p_x.shown),.d (.mp false (encM (kInt .i64) (eInt .i64) p_x.least)),.d (.mp false (encM (kInt .i64) (eInt .i64) p_x.most)),.d (.mp false (encM (kPair .i64) (eInt .i64) p_x.tall)),.d (.mp false (encM (kPair .i64) (eInt .i64) p_x.first))] 166),(1,.mp false (encM (kInt .i64) (eJ 1) p_x.kids)),(2,.tail 1)] (.s (aB r.1)) [(0,.blk [cI r.2.t.Root,cI r.2.t.Next,.d (.sl (List.map Node.cs r.2.t.Nodes)),.d (.sl (List.map Font.cs r.2.fonts)),.d (.mp true (encM (kInt .i64) Node.cs r.2.nodes)),.d (.mp true (encM (kInt .i64) (eArr 22 (dInt .i64)) r.2.style)),.own 3000,.tl 3001 (List.map (eInt .i64) r.2.shown),.d (.mp false (encM (kInt .i64) (eInt .i64) r.2.least)),.d (.mp false (encM (kInt .i64) (eInt .i64) r.2.most)),.d (.mp false (encM (kPair .i64) (eInt .i64) r.2.tall)),.d (.mp false (encM (kPair .i64) (eInt .i64) r.2.first))] 166),(1,.dead),(2,.dead),(3000,.mp false (encM (kInt .i64) (eJ 1) r.2.kids)),(3001,.tail 1)]:=by
 unfold widgetry_layout_scene_hidden at hr
 refine Con.of_ok 23 0 [.tmp 4] [(0,.s (.c (.loc 0 0))),(1,.s (aI id))] Tryz.func157 rfl rfl rfl rfl rfl rfl rfl rfl fun w g M ρ _=>(Ok.seq (Ok.region (OkOps.y (aB false) (OkOps.nil (Ok.seq (Ok.region (OkOps.y (.c (.loc 0 0)) (OkOps.y (.c (.loc 0 0)) (OkOps.y (.c (.loc 0 5)) (OkOps.y (.c (.d (.mp true (encM (kInt .i64) (eArr 22 (dInt .i64)) p_x.style)))) (OkOps.y (aI id) ?_)))))))))))
 obtain ⟨x1,hx1,hr⟩:=bind_some hr
 refine OkOps.q (triLook (agg:=true) (ek:=(kInt .i64)) (ev:=(eArr 22 (dInt .i64))) (L:=p_x.style) (r:=.agg [cI (x1.1 0),cI (x1.1 1),cI (x1.1 2),cI (x1.1 3),cI (x1.1 4),cI (x1.1 5),cI (x1.1 6),cI (x1.1 7),cI (x1.1 8),cI (x1.1 9),cI (x1.1 10),cI (x1.1 11),cI (x1.1 12),cI (x1.1 13),cI (x1.1 14),cI (x1.1 15),cI (x1.1 16),cI (x1.1 17),cI (x1.1 18),cI (x1.1 19),cI (x1.1 20),cI (x1.1 21)]) hx1 rfl rfl rfl (keyInt Tryz.underlying3) rfl rfl (fun h=>by cases h) rfl trivial rfl) ?_
 refine OkOps.q (triIxA (k:=5) (c:=cI (x1.1 5)) rfl rfl rfl rfl rfl rfl trivial rfl) (OkOps.y (aB ((x1.1 5) == 0)) (OkOps.y (aB ((x1.1 5) == 0)) (OkOps.q (triQG (x:=.c (.loc 0 0)) rfl rfl trivial rfl) (OkOps.q (triQG (x:=.c (.loc 0 0)) rfl rfl ⟨fun h=>h,trivial⟩ rfl) (OkOps.q (triQG (x:=.c (.loc 0 4)) rfl rfl ⟨fun h=>h,trivial⟩ rfl) (OkOps.q (triQG (x:=.c (.d (.mp true (encM (kInt .i64) Node.cs p_x.nodes)))) rfl rfl ⟨fun h=>h,trivial⟩ rfl) (OkOps.q (triQG (x:=aI id) rfl rfl trivial rfl) ?_)))))))
 obtain ⟨x2,hx2,hr⟩:=bind_some hr
 refine OkOps.q (triLookG (agg:=true) (ek:=(kInt .i64)) (ev:=Node.cs) (L:=p_x.nodes) (r:=.agg [cI x2.1.ID,cI x2.1.Parent,cI x2.1.Kind,cS x2.1.Key,.d (.sl (List.map Attr.cs x2.1.Attrs)),.d (.sl (List.map Action.cs x2.1.Actions)),.d (.sl (List.map (eInt .i64) x2.1.Kids))]) (gO_t hx2) rfl rfl rfl rfl (keyInt Tryz.underlying3) rfl rfl (fun h=>by cases h) rfl ⟨fun h=>h,⟨fun h=>h,trivial⟩⟩ rfl) ?_
 refine OkOps.q (triQG (x:=.c (.d (.sl (List.map Attr.cs x2.1.Attrs)))) rfl rfl ⟨fun h=>h,trivial⟩ rfl) ?_
 obtain ⟨x3,hx3,hr⟩:=bind_some hr
 refine OkOps.q (triCallG (x:=aB x3) (fun hg=>vw_Flag_c _ _ (gO_t hx3 hg)) rfl rfl ⟨.inl rfl,.inl rfl,trivial⟩ ⟨fun h=>h,trivial⟩ entry45 rfl rfl rfl) ?_
 refine OkOps.q (triOr rfl rfl (fun h=>by rw [h];rfl) rfl) ?_
 refine OkOps.y (aB (((x1.1 5) == 0) || x3)) (OkOps.nil (Ok.conv (T:=⟨[(4,.s (aB (((x1.1 5) == 0) || x3)))],[(0,.blk [cI p_x.t.Root,cI p_x.t.Next,.d (.sl (List.map Node.cs p_x.t.Nodes)),.d (.sl (List.map Font.cs p_x.fonts)),.d (.mp true (encM (kInt .i64) Node.cs p_x.nodes)),.d (.mp true (encM (kInt .i64) (eArr 22 (dInt .i64)) p_x.style)),.own 3000,.tl 3001 (List.map (eInt .i64) p_x.shown),.d (.mp false (encM (kInt .i64) (eInt .i64) p_x.least)),.d (.mp false (encM (kInt .i64) (eInt .i64) p_x.most)),.d (.mp false (encM (kPair .i64) (eInt .i64) p_x.tall)),.d (.mp false (encM (kPair .i64) (eInt .i64) p_x.first))] 166),(1,.dead),(2,.dead),(3000,.mp false (encM (kInt .i64) (eJ 1) p_x.kids)),(3001,.tail 1)],0⟩) (Conv.mk (tau [(3000,1),(3001,2)]) ⟨⟨_,rfl,.inl rfl⟩,trivial⟩ ⟨rfl,rfl,rfl,trivial⟩ rfl rfl rfl rfl) (Ok.ret ?_)))
 obtain rfl:=Option.some.inj hr
 exact ⟨_,rfl,.inl rfl,⟨rfl,(fun h=>by cases h),(fun h=>by cases h),rfl,rfl,trivial⟩⟩
theorem widgetry_layout_scene_show_B_c (self0 : layout_scene → Int → Option layout_scene) (hself0 : ∀ (p_x : layout_scene) (id : Int) {r : layout_scene},self0 p_x id = some r → Con Tryz.prog 158 [.c (.loc 0 0),aI id] [(0,.blk [cI p_x.t.Root,cI p_x.t.Next,.d (.sl (List.map Node.cs p_x.t.Nodes)),.d (.sl (List.map Font.cs p_x.fonts)),.d (.mp true (encM (kInt .i64) Node.cs p_x.nodes)),.d (.mp true (encM (kInt .i64) (eArr 22 (dInt .i64)) p_x.style)),.own 1,.tl 2 (List.map (eInt .i64) p_x.shown),.d (.mp false (encM (kInt .i64) (eInt .i64) p_x.least)),.d (.mp false (encM (kInt .i64) (eInt .i64) p_x.most)),.d (.mp false (encM (kPair .i64) (eInt .i64) p_x.tall)),.d (.mp false (encM (kPair .i64) (eInt .i64) p_x.first))] 166),(1,.mp false (encM (kInt .i64) (eJ 1) p_x.kids)),(2,.tail 1)] (.tup []) [(0,.blk [cI r.t.Root,cI r.t.Next,.d (.sl (List.map Node.cs r.t.Nodes)),.d (.sl (List.map Font.cs r.fonts)),.d (.mp true (encM (kInt .i64) Node.cs r.nodes)),.d (.mp true (encM (kInt .i64) (eArr 22 (dInt .i64)) r.style)),.own 3000,.tl 3001 (List.map (eInt .i64) r.shown),.d (.mp false (encM (kInt .i64) (eInt .i64) r.least)),.d (.mp false (encM (kInt .i64) (eInt .i64) r.most)),.d (.mp false (encM (kPair .i64) (eInt .i64) r.tall)),.d (.mp false (encM (kPair .i64) (eInt .i64) r.first))] 166),(1,.dead),(2,.dead),(3000,.mp false (encM (kInt .i64) (eJ 1) r.kids)),(3001,.tail 1)]) (p_x : layout_scene) (id : Int) {r : layout_scene} (hr : widgetry_layout_scene_show_B self0 p_x id = some r) : Con Tryz.prog 158 [.c (.loc 0 0),aI id] [(0,.blk [cI p_x.t.Root,cI p_x.t.Next,.d (.sl (List.map Node.cs p_x.t.Nodes)),.d (.sl (List.map Font.cs p_x.fonts)),.d (.mp true (encM (kInt .i64) Node.cs p_x.nodes)),.d (.mp true (encM (kInt .i64) (eArr 22 (dInt .i64)) p_x.style)),.own 1,.tl 2 (List.map (eInt .i64) p_x.shown),.d (.mp false (encM (kInt .i64) (eInt .i64) p_x.least)),.d (.mp false (encM (kInt .i64) (eInt .i64) p_x.most)),.d (.mp false (encM (kPair .i64) (eInt .i64) p_x.tall)),.d (.mp false (encM (kPair .i64) (eInt .i64) p_x.first))] 166),(1,.mp false (encM (kInt .i64) (eJ 1) p_x.kids)),(2,.tail 1)] (.tup []) [(0,.blk [cI r.t.Root,cI r.t.Next,.d (.sl (List.map Node.cs r.t.Nodes)),.d (.sl (List.map Font.cs r.fonts)),.d (.mp true (encM (kInt .i64) Node.cs r.nodes)),.d (.mp true (encM (kInt .i64) (eArr 22 (dInt .i64)) r.style)),.own 3000,.tl 3001 (List.map (eInt .i64) r.shown),.d (.mp false (encM (kInt .i64) (eInt .i64) r.least)),.d (.mp false (encM (kInt .i64) (eInt .i64) r.most)),.d (.mp false (encM (kPair .i64) (eInt .i64) r.tall)),.d (.mp false (encM (kPair .i64) (eInt .i64) r.first))] 166),(1,.dead),(2,.dead),(3000,.mp false (encM (kInt .i64) (eJ 1) r.kids)),(3001,.tail 1)]:=by
 unfold widgetry_layout_scene_show_B at hr
 refine Con.of_ok 60 0 [] [(0,.s (.c (.loc 0 0))),(1,.s (aI id))] Tryz.func158 rfl rfl rfl rfl rfl rfl rfl rfl fun w g M ρ _=>(Ok.seq (Ok.region (OkOps.y (.c (.loc 0 0)) (OkOps.y (.c (.loc 0 0)) (OkOps.y (.c (.loc 0 0)) (OkOps.y (.c (.loc 0 7)) (OkOps.y (.c (.tl 2 (List.map (eInt .i64) p_x.shown))) (OkOps.y (aI id) (OkOps.m 0 (triBST (sz:=1) (enc:=(eInt .i64)) (j:=3) ([id]) rfl rfl rfl rfl rfl rfl rfl rfl (fun _=>rfl) trivial rfl rfl) ?_)))))))))
 obtain ⟨x1,hx1,hr⟩:=bind_some hr
 refine OkOps.m2 0 (triApp (enc:=(eInt .i64)) (L:=p_x.shown) (X:=[id]) (j:=2) (j':=4) hx1 rfl rfl rfl rfl rfl rfl (fun _=>rfl) (fun _=>rfl) (by decide) trivial rfl rfl) (OkOps.y (.c (.loc 0 0)) (OkOps.y (.c (.loc 0 7)) (OkOps.w (triStore (cs':=[cI p_x.t.Root,cI p_x.t.Next,.d (.sl (List.map Node.cs p_x.t.Nodes)),.d (.sl (List.map Font.cs p_x.fonts)),.d (.mp true (encM (kInt .i64) Node.cs p_x.nodes)),.d (.mp true (encM (kInt .i64) (eArr 22 (dInt .i64)) p_x.style)),.own 1,.tl 4 (List.map (eInt .i64) x1),.d (.mp false (encM (kInt .i64) (eInt .i64) p_x.least)),.d (.mp false (encM (kInt .i64) (eInt .i64) p_x.most)),.d (.mp false (encM (kPair .i64) (eInt .i64) p_x.tall)),.d (.mp false (encM (kPair .i64) (eInt .i64) p_x.first))]) rfl rfl rfl rfl rfl rfl rfl rfl rfl) (OkOps.nil (Ok.seq (Ok.region (OkOps.y (.c (.loc 0 0)) (OkOps.y (.c (.loc 0 0)) (OkOps.y (.c (.loc 0 4)) (OkOps.y (.c (.d (.mp true (encM (kInt .i64) Node.cs p_x.nodes)))) (OkOps.y (aI id) ?_)))))))))))
 obtain ⟨x2,hx2,hr⟩:=bind_some hr
 refine OkOps.q (triLook (agg:=true) (ek:=(kInt .i64)) (ev:=Node.cs) (L:=p_x.nodes) (r:=.agg [cI x2.1.ID,cI x2.1.Parent,cI x2.1.Kind,cS x2.1.Key,.d (.sl (List.map Attr.cs x2.1.Attrs)),.d (.sl (List.map Action.cs x2.1.Actions)),.d (.sl (List.map (eInt .i64) x2.1.Kids))]) hx2 rfl rfl rfl (keyInt Tryz.underlying3) rfl rfl (fun h=>by cases h) rfl trivial rfl) ?_
 refine OkOps.m 0 (triAlloc (j:=5) (cs:=[cI 0,cI 0,cI 0,cS ByteArray.empty,.d (.v (.slice none 0 0)),.d (.v (.slice none 0 0)),.d (.v (.slice none 0 0))]) rfl rfl rfl rfl) (OkOps.w (triStore (cs':=[cI x2.1.ID,cI x2.1.Parent,cI x2.1.Kind,cS x2.1.Key,.d (.sl (List.map Attr.cs x2.1.Attrs)),.d (.sl (List.map Action.cs x2.1.Actions)),.d (.sl (List.map (eInt .i64) x2.1.Kids))]) rfl rfl rfl rfl rfl rfl rfl rfl rfl) (OkOps.nil (Ok.seq (Ok.seq (Ok.region (OkOps.y (.c (.loc 5 2)) (OkOps.y (aI x2.1.Kind) ?_)))))))
 obtain ⟨x3,hx3,hr⟩:=bind_some hr
 refine OkOps.q (triCl (tau []) (.s (aB x3)) [] (widgetry_layout_isText_c _ hx3) rfl ⟨.inl rfl,trivial⟩ trivial entry182 trivial) (OkOps.y (aB x3) (OkOps.q (triQG (x:=.c (.loc 5 2)) rfl rfl trivial rfl) (OkOps.q (triQG (x:=aI x2.1.Kind) rfl rfl ⟨fun h=>h,trivial⟩ rfl) ?_)))
 obtain ⟨x4,hx4,hr⟩:=bind_some hr
 refine OkOps.q (triCallG (x:=aB x4) (fun hg=>widgetry_layout_isFigure_c _ (gO_t hx4 hg)) rfl rfl ⟨.inl rfl,trivial⟩ ⟨fun h=>h,trivial⟩ entry183 rfl rfl rfl) ?_
 refine OkOps.q (triOr rfl rfl (fun h=>by rw [h];rfl) rfl) ?_
 refine OkOps.nil ?_
 refine Ok.cond (b:=x3 || x4) rfl (fun h5=>?_) (fun h5=>?_)
 have hr:=selT h5 hr
 refine Ok.conv (T:=⟨[],[(0,.blk [cI p_x.t.Root,cI p_x.t.Next,.d (.sl (List.map Node.cs p_x.t.Nodes)),.d (.sl (List.map Font.cs p_x.fonts)),.d (.mp true (encM (kInt .i64) Node.cs p_x.nodes)),.d (.mp true (encM (kInt .i64) (eArr 22 (dInt .i64)) p_x.style)),.own 3000,.tl 3001 (List.map (eInt .i64) x1),.d (.mp false (encM (kInt .i64) (eInt .i64) p_x.least)),.d (.mp false (encM (kInt .i64) (eInt .i64) p_x.most)),.d (.mp false (encM (kPair .i64) (eInt .i64) p_x.tall)),.d (.mp false (encM (kPair .i64) (eInt .i64) p_x.first))] 166),(1,.dead),(2,.dead),(3000,.mp false (encM (kInt .i64) (eJ 1) p_x.kids)),(3001,.tail 1)],0⟩) (Conv.mk (tau [(3000,1),(3001,4)]) trivial ⟨rfl,rfl,rfl,trivial⟩ rfl rfl rfl rfl) (Ok.ret ?_)
 obtain rfl:=Option.some.inj hr
 exact ⟨_,rfl,.inl rfl,⟨rfl,(fun h=>by cases h),(fun h=>by cases h),rfl,rfl,trivial⟩⟩
 have hr:=selF h5 hr
 refine Ok.skip (Ok.seq (Ok.region (OkOps.y (.c (.loc 5 6)) (OkOps.y (.c (.d (.sl (List.map (eInt .i64) x2.1.Kids)))) (OkOps.q (triLen (enc:=(eInt .i64)) x2.1.Kids rfl rfl trivial rfl) (OkOps.y (aI 0) (OkOps.nil (Ok.block (Ok.loopK (fun (s6 : Int × Int × Int × (List Node) × (List Font) × (List (Int × Node)) × (List (Int × (Nat → Int))) × (List (Int × Nat)) × (List Int) × (List (Int × Int)) × (List (Int × Int)) × (List ((Int × Int) × Int)) × (List ((Int × Int) × Int)))=>⟨[(0,.s (.c (.loc 0 0))),(1,.s (aI id)),(32,.s (.c (.d (.sl (List.map (eInt .i64) x2.1.Kids))))),(33,.s (aI (x2.1.Kids.length : Int))),(34,.s (aI s6.1))],[(0,.blk [cI s6.2.1,cI s6.2.2.1,.d (.sl (List.map Node.cs s6.2.2.2.1)),.d (.sl (List.map Font.cs s6.2.2.2.2.1)),.d (.mp true (encM (kInt .i64) Node.cs s6.2.2.2.2.2.1)),.d (.mp true (encM (kInt .i64) (eArr 22 (dInt .i64)) s6.2.2.2.2.2.2.1)),.own 1004,.tl 1005 (List.map (eInt .i64) s6.2.2.2.2.2.2.2.2.1),.d (.mp false (encM (kInt .i64) (eInt .i64) s6.2.2.2.2.2.2.2.2.2.1)),.d (.mp false (encM (kInt .i64) (eInt .i64) s6.2.2.2.2.2.2.2.2.2.2.1)),.d (.mp false (encM (kPair .i64) (eInt .i64) s6.2.2.2.2.2.2.2.2.2.2.2.1)),.d (.mp false (encM (kPair .i64) (eInt .i64) s6.2.2.2.2.2.2.2.2.2.2.2.2))] 166),(1,.dead),(2,.dead),(1004,.mp false (encM (kInt .i64) (eJ 1) s6.2.2.2.2.2.2.2.1)),(1005,.tail 1)],0⟩) hr (Conv.mk (tau [(1004,1),(1005,4)]) ⟨⟨_,rfl,.inl rfl⟩,⟨_,rfl,.inl rfl⟩,⟨_,rfl,.inl rfl⟩,⟨_,rfl,.inl rfl⟩,⟨_,rfl,.inl rfl⟩,trivial⟩ ⟨rfl,rfl,rfl,trivial⟩ rfl rfl rfl rfl) ?_)))))))))
 clear hr
 intro again7 s6 hr
 unfold widgetry_layout_scene_show_L1 at hr
 refine Ok.seq (Ok.region (OkOps.y (aB (decide (s6.1 < (x2.1.Kids.length : Int)))) (OkOps.nil (Ok.seq ?_))))
 refine Ok.cond (b:=decide (s6.1 < (x2.1.Kids.length : Int))) rfl (fun h8=>?_) (fun h8=>?_)
 have hr:=selT h8 hr
 refine Ok.skip ?_
 obtain ⟨k10,hk10,hr⟩:=jn_some hr
 refine Ok.join (fun (s9 : Int × Int × (List Node) × (List Font) × (List (Int × Node)) × (List (Int × (Nat → Int))) × (List (Int × Nat)) × (List Int) × (List (Int × Int)) × (List (Int × Int)) × (List ((Int × Int) × Int)) × (List ((Int × Int) × Int)))=>⟨[(0,.s (.c (.loc 0 0))),(1,.s (aI id)),(32,.s (.c (.d (.sl (List.map (eInt .i64) x2.1.Kids))))),(33,.s (aI (x2.1.Kids.length : Int))),(34,.s (aI s6.1))],[(0,.blk [cI s9.1,cI s9.2.1,.d (.sl (List.map Node.cs s9.2.2.1)),.d (.sl (List.map Font.cs s9.2.2.2.1)),.d (.mp true (encM (kInt .i64) Node.cs s9.2.2.2.2.1)),.d (.mp true (encM (kInt .i64) (eArr 22 (dInt .i64)) s9.2.2.2.2.2.1)),.own 1010,.tl 1011 (List.map (eInt .i64) s9.2.2.2.2.2.2.2.1),.d (.mp false (encM (kInt .i64) (eInt .i64) s9.2.2.2.2.2.2.2.2.1)),.d (.mp false (encM (kInt .i64) (eInt .i64) s9.2.2.2.2.2.2.2.2.2.1)),.d (.mp false (encM (kPair .i64) (eInt .i64) s9.2.2.2.2.2.2.2.2.2.2.1)),.d (.mp false (encM (kPair .i64) (eInt .i64) s9.2.2.2.2.2.2.2.2.2.2.2))] 166),(1,.dead),(2,.dead),(1010,.mp false (encM (kInt .i64) (eJ 1) s9.2.2.2.2.2.2.1)),(1011,.tail 1)],0⟩) k10 r (fun s9 hr=>?_) ?_
 rw [hk10] at hr
 refine Ok.region (OkOps.y (aI (IntKind.i64.wrap (s6.1 + 1))) (OkOps.y (aI (IntKind.i64.wrap (s6.1 + 1))) (OkOps.nil ?_)))
 exact ⟨(IntKind.i64.wrap (s6.1 + 1),s9.1,s9.2.1,s9.2.2.1,s9.2.2.2.1,s9.2.2.2.2.1,s9.2.2.2.2.2.1,s9.2.2.2.2.2.2.1,s9.2.2.2.2.2.2.2.1,s9.2.2.2.2.2.2.2.2.1,s9.2.2.2.2.2.2.2.2.2.1,s9.2.2.2.2.2.2.2.2.2.2.1,s9.2.2.2.2.2.2.2.2.2.2.2),hr,(Conv.mk (tau [(1004,1010),(1005,1011)]) ⟨⟨_,rfl,.inl rfl⟩,⟨_,rfl,.inl rfl⟩,⟨_,rfl,.inl rfl⟩,⟨_,rfl,.inl rfl⟩,⟨_,rfl,.inl rfl⟩,trivial⟩ ⟨rfl,rfl,rfl,trivial⟩ rfl rfl rfl rfl)⟩
 clear hk10
 refine Ok.block (Ok.seq (Ok.region ?_))
 obtain ⟨x11,hx11,hr⟩:=bind_some hr
 refine OkOps.q (triIdx (enc:=(eInt .i64)) (L:=x2.1.Kids) (row:=[dI x11]) hx11 rfl rfl rfl rfl (fun _=>rfl) trivial rfl) (OkOps.y (aI x11) (OkOps.y (aI x11) (OkOps.nil (Ok.seq (Ok.region (OkOps.y (.c (.loc 0 0)) (OkOps.y (aI x11) ?_)))))))
 obtain ⟨x12,hx12,hr⟩:=bind_some hr
 refine OkOps.wq [(0,.blk [cI x12.2.t.Root,cI x12.2.t.Next,.d (.sl (List.map Node.cs x12.2.t.Nodes)),.d (.sl (List.map Font.cs x12.2.fonts)),.d (.mp true (encM (kInt .i64) Node.cs x12.2.nodes)),.d (.mp true (encM (kInt .i64) (eArr 22 (dInt .i64)) x12.2.style)),.own 6,.tl 7 (List.map (eInt .i64) x12.2.shown),.d (.mp false (encM (kInt .i64) (eInt .i64) x12.2.least)),.d (.mp false (encM (kInt .i64) (eInt .i64) x12.2.most)),.d (.mp false (encM (kPair .i64) (eInt .i64) x12.2.tall)),.d (.mp false (encM (kPair .i64) (eInt .i64) x12.2.first))] 166),(1004,.dead),(1005,.dead),(6,.mp false (encM (kInt .i64) (eJ 1) x12.2.kids)),(7,.tail 1)] (triCall (tau [(0,0),(1,1004),(2,1005),(3000,6),(3001,7)]) (.s (aB x12.1)) [(0,.blk [cI x12.2.t.Root,cI x12.2.t.Next,.d (.sl (List.map Node.cs x12.2.t.Nodes)),.d (.sl (List.map Font.cs x12.2.fonts)),.d (.mp true (encM (kInt .i64) Node.cs x12.2.nodes)),.d (.mp true (encM (kInt .i64) (eArr 22 (dInt .i64)) x12.2.style)),.own 6,.tl 7 (List.map (eInt .i64) x12.2.shown),.d (.mp false (encM (kInt .i64) (eInt .i64) x12.2.least)),.d (.mp false (encM (kInt .i64) (eInt .i64) x12.2.most)),.d (.mp false (encM (kPair .i64) (eInt .i64) x12.2.tall)),.d (.mp false (encM (kPair .i64) (eInt .i64) x12.2.first))] 166),(1004,.dead),(1005,.dead),(6,.mp false (encM (kInt .i64) (eJ 1) x12.2.kids)),(7,.tail 1)] (widgetry_layout_scene_hidden_c _ _ hx12) rfl ⟨.inl rfl,.inl rfl,trivial⟩ trivial entry157 ⟨rfl,rfl,rfl,trivial⟩ rfl rfl rfl rfl ⟨rfl,rfl,trivial⟩ rfl rfl rfl) (OkOps.y (aB (!x12.1)) (OkOps.nil ?_))
 refine Ok.cond (b:=!x12.1) rfl (fun h13=>?_) (fun h13=>?_)
 have hr:=selT h13 hr
 refine Ok.seq (Ok.regionD (by kernel_rfl) (OkD.x (.c (.loc 0 0)) rfl trivial rfl (OkD.x (.c (.loc 0 0)) rfl trivial rfl (OkD.x (.c (.loc 0 6)) rfl trivial rfl (OkD.x (.c (.own 6)) rfl trivial rfl (OkD.x (aI id) rfl trivial rfl (OkD.x (.c (.loc 0 0)) rfl trivial rfl (OkD.x (.c (.loc 0 0)) rfl trivial rfl (OkD.x (.c (.loc 0 6)) rfl trivial rfl (OkD.x (.c (.own 6)) rfl trivial rfl (OkD.x (aI id) rfl trivial rfl ?_)))))))))))
 obtain ⟨x14,hx14,hr⟩:=bind_some hr
 refine OkD.q (triLookJ (sz:=1) (L:=x12.2.kids) hx14 rfl rfl rfl (keyInt Tryz.underlying3) rfl trivial rfl) (OkD.x (aI x11) rfl trivial rfl (OkD.m 0 (triBST (sz:=1) (enc:=(eInt .i64)) (j:=8) ([x11]) rfl rfl rfl rfl rfl rfl rfl rfl (fun _=>rfl) trivial rfl rfl) ?_))
 obtain ⟨x15,hx15,hr⟩:=bind_some hr
 refine OkD.q (triAppJ (enc:=(eInt .i64)) (X:=[x11]) hx15 rfl rfl rfl rfl rfl (fun _=>rfl) (fun _=>rfl) trivial rfl) (OkD.w (triMapUp (ek:=(kInt .i64)) (ev:=eJ 1) (L:=x12.2.kids) (z:=x15) rfl rfl rfl rfl rfl rfl (keyInt Tryz.underlying3) (fun _ _=>rfl) rfl trivial) (OkD.nil (by kernel_rfl) (Ok.region (OkOps.y (.c (.loc 0 0)) (OkOps.y (aI x11) ?_)))))
 obtain ⟨x16,hx16,hr⟩:=bind_some hr
 refine OkOps.wq [(0,.blk [cI x16.t.Root,cI x16.t.Next,.d (.sl (List.map Node.cs x16.t.Nodes)),.d (.sl (List.map Font.cs x16.fonts)),.d (.mp true (encM (kInt .i64) Node.cs x16.nodes)),.d (.mp true (encM (kInt .i64) (eArr 22 (dInt .i64)) x16.style)),.own 9,.tl 10 (List.map (eInt .i64) x16.shown),.d (.mp false (encM (kInt .i64) (eInt .i64) x16.least)),.d (.mp false (encM (kInt .i64) (eInt .i64) x16.most)),.d (.mp false (encM (kPair .i64) (eInt .i64) x16.tall)),.d (.mp false (encM (kPair .i64) (eInt .i64) x16.first))] 166),(6,.dead),(7,.dead),(9,.mp false (encM (kInt .i64) (eJ 1) x16.kids)),(10,.tail 1)] (triCall (tau [(0,0),(1,6),(2,7),(3000,9),(3001,10)]) (.tup []) [(0,.blk [cI x16.t.Root,cI x16.t.Next,.d (.sl (List.map Node.cs x16.t.Nodes)),.d (.sl (List.map Font.cs x16.fonts)),.d (.mp true (encM (kInt .i64) Node.cs x16.nodes)),.d (.mp true (encM (kInt .i64) (eArr 22 (dInt .i64)) x16.style)),.own 9,.tl 10 (List.map (eInt .i64) x16.shown),.d (.mp false (encM (kInt .i64) (eInt .i64) x16.least)),.d (.mp false (encM (kInt .i64) (eInt .i64) x16.most)),.d (.mp false (encM (kPair .i64) (eInt .i64) x16.tall)),.d (.mp false (encM (kPair .i64) (eInt .i64) x16.first))] 166),(6,.dead),(7,.dead),(9,.mp false (encM (kInt .i64) (eJ 1) x16.kids)),(10,.tail 1)] (hself0 _ _ hx16) rfl ⟨.inl rfl,.inl rfl,trivial⟩ trivial entry158 ⟨rfl,rfl,rfl,trivial⟩ rfl rfl rfl rfl ⟨rfl,rfl,trivial⟩ rfl rfl rfl) (OkOps.nil ?_)
 exact ⟨(x16.t.Root,x16.t.Next,x16.t.Nodes,x16.fonts,x16.nodes,x16.style,x16.kids,x16.shown,x16.least,x16.most,x16.tall,x16.first),hr,(Conv.mk (tau [(1010,9),(1011,10)]) ⟨⟨_,rfl,.inl rfl⟩,⟨_,rfl,.inl rfl⟩,⟨_,rfl,.inl rfl⟩,⟨_,rfl,.inl rfl⟩,⟨_,rfl,.inl rfl⟩,trivial⟩ ⟨rfl,rfl,rfl,trivial⟩ rfl rfl rfl rfl)⟩
 have hr:=selF h13 hr
 refine Ok.skip ?_
 exact ⟨(x12.2.t.Root,x12.2.t.Next,x12.2.t.Nodes,x12.2.fonts,x12.2.nodes,x12.2.style,x12.2.kids,x12.2.shown,x12.2.least,x12.2.most,x12.2.tall,x12.2.first),hr,(Conv.mk (tau [(1010,6),(1011,7)]) ⟨⟨_,rfl,.inl rfl⟩,⟨_,rfl,.inl rfl⟩,⟨_,rfl,.inl rfl⟩,⟨_,rfl,.inl rfl⟩,⟨_,rfl,.inl rfl⟩,trivial⟩ ⟨rfl,rfl,rfl,trivial⟩ rfl rfl rfl rfl)⟩
 have hr:=selF h8 hr
 refine Ok.conv (T:=⟨[],[(0,.blk [cI s6.2.1,cI s6.2.2.1,.d (.sl (List.map Node.cs s6.2.2.2.1)),.d (.sl (List.map Font.cs s6.2.2.2.2.1)),.d (.mp true (encM (kInt .i64) Node.cs s6.2.2.2.2.2.1)),.d (.mp true (encM (kInt .i64) (eArr 22 (dInt .i64)) s6.2.2.2.2.2.2.1)),.own 3000,.tl 3001 (List.map (eInt .i64) s6.2.2.2.2.2.2.2.2.1),.d (.mp false (encM (kInt .i64) (eInt .i64) s6.2.2.2.2.2.2.2.2.2.1)),.d (.mp false (encM (kInt .i64) (eInt .i64) s6.2.2.2.2.2.2.2.2.2.2.1)),.d (.mp false (encM (kPair .i64) (eInt .i64) s6.2.2.2.2.2.2.2.2.2.2.2.1)),.d (.mp false (encM (kPair .i64) (eInt .i64) s6.2.2.2.2.2.2.2.2.2.2.2.2))] 166),(1,.dead),(2,.dead),(3000,.mp false (encM (kInt .i64) (eJ 1) s6.2.2.2.2.2.2.2.1)),(3001,.tail 1)],0⟩) (Conv.mk (tau [(3000,1004),(3001,1005)]) trivial ⟨rfl,rfl,rfl,trivial⟩ rfl rfl rfl rfl) (Ok.exit ?_)
 obtain rfl:=Option.some.inj hr
 exact ⟨_,rfl,.inl rfl,⟨rfl,(fun h=>by cases h),(fun h=>by cases h),rfl,rfl,trivial⟩⟩
theorem widgetry_layout_scene_show_all : ∀ n : Nat,(∀ (p_x : layout_scene) (id : Int) {r : layout_scene},widgetry_layout_scene_show n p_x id = some r → Con Tryz.prog 158 [.c (.loc 0 0),aI id] [(0,.blk [cI p_x.t.Root,cI p_x.t.Next,.d (.sl (List.map Node.cs p_x.t.Nodes)),.d (.sl (List.map Font.cs p_x.fonts)),.d (.mp true (encM (kInt .i64) Node.cs p_x.nodes)),.d (.mp true (encM (kInt .i64) (eArr 22 (dInt .i64)) p_x.style)),.own 1,.tl 2 (List.map (eInt .i64) p_x.shown),.d (.mp false (encM (kInt .i64) (eInt .i64) p_x.least)),.d (.mp false (encM (kInt .i64) (eInt .i64) p_x.most)),.d (.mp false (encM (kPair .i64) (eInt .i64) p_x.tall)),.d (.mp false (encM (kPair .i64) (eInt .i64) p_x.first))] 166),(1,.mp false (encM (kInt .i64) (eJ 1) p_x.kids)),(2,.tail 1)] (.tup []) [(0,.blk [cI r.t.Root,cI r.t.Next,.d (.sl (List.map Node.cs r.t.Nodes)),.d (.sl (List.map Font.cs r.fonts)),.d (.mp true (encM (kInt .i64) Node.cs r.nodes)),.d (.mp true (encM (kInt .i64) (eArr 22 (dInt .i64)) r.style)),.own 3000,.tl 3001 (List.map (eInt .i64) r.shown),.d (.mp false (encM (kInt .i64) (eInt .i64) r.least)),.d (.mp false (encM (kInt .i64) (eInt .i64) r.most)),.d (.mp false (encM (kPair .i64) (eInt .i64) r.tall)),.d (.mp false (encM (kPair .i64) (eInt .i64) r.first))] 166),(1,.dead),(2,.dead),(3000,.mp false (encM (kInt .i64) (eJ 1) r.kids)),(3001,.tail 1)]) ∧ True:=by
 intro n
 induction n with
 | zero=>exact ⟨(by intros;rename_i hr;cases hr),trivial⟩
 | succ n ih=>exact ⟨(by intros;rename_i hr;exact widgetry_layout_scene_show_B_c _ ih.1 _ _ hr),trivial⟩
theorem widgetry_layout_scene_show_c (n : Nat) (p_x : layout_scene) (id : Int) {r : layout_scene} (hr : widgetry_layout_scene_show n p_x id = some r) : Con Tryz.prog 158 [.c (.loc 0 0),aI id] [(0,.blk [cI p_x.t.Root,cI p_x.t.Next,.d (.sl (List.map Node.cs p_x.t.Nodes)),.d (.sl (List.map Font.cs p_x.fonts)),.d (.mp true (encM (kInt .i64) Node.cs p_x.nodes)),.d (.mp true (encM (kInt .i64) (eArr 22 (dInt .i64)) p_x.style)),.own 1,.tl 2 (List.map (eInt .i64) p_x.shown),.d (.mp false (encM (kInt .i64) (eInt .i64) p_x.least)),.d (.mp false (encM (kInt .i64) (eInt .i64) p_x.most)),.d (.mp false (encM (kPair .i64) (eInt .i64) p_x.tall)),.d (.mp false (encM (kPair .i64) (eInt .i64) p_x.first))] 166),(1,.mp false (encM (kInt .i64) (eJ 1) p_x.kids)),(2,.tail 1)] (.tup []) [(0,.blk [cI r.t.Root,cI r.t.Next,.d (.sl (List.map Node.cs r.t.Nodes)),.d (.sl (List.map Font.cs r.fonts)),.d (.mp true (encM (kInt .i64) Node.cs r.nodes)),.d (.mp true (encM (kInt .i64) (eArr 22 (dInt .i64)) r.style)),.own 3000,.tl 3001 (List.map (eInt .i64) r.shown),.d (.mp false (encM (kInt .i64) (eInt .i64) r.least)),.d (.mp false (encM (kInt .i64) (eInt .i64) r.most)),.d (.mp false (encM (kPair .i64) (eInt .i64) r.tall)),.d (.mp false (encM (kPair .i64) (eInt .i64) r.first))] 166),(1,.dead),(2,.dead),(3000,.mp false (encM (kInt .i64) (eJ 1) r.kids)),(3001,.tail 1)]:=(widgetry_layout_scene_show_all n).1 p_x id hr
theorem widgetry_layout_open_c (t : Tree) (st : (List Styled)) (fonts : (List Font)) {r : layout_scene} (hr : widgetry_layout_open t st fonts = some r) : Con Tryz.prog 118 [.agg [cI t.Root,cI t.Next,.d (.sl (List.map Node.cs t.Nodes))],.c (.d (.sl (List.map Styled.cs st))),.c (.d (.sl (List.map Font.cs fonts)))] [] (.s (.c (.loc 8 0))) [(8,.blk [cI r.t.Root,cI r.t.Next,.d (.sl (List.map Node.cs r.t.Nodes)),.d (.sl (List.map Font.cs r.fonts)),.d (.mp true (encM (kInt .i64) Node.cs r.nodes)),.d (.mp true (encM (kInt .i64) (eArr 22 (dInt .i64)) r.style)),.d (.mp false (encM (kInt .i64) (eJ 1) r.kids)),.d (.sl (List.map (eInt .i64) r.shown)),.d (.mp false (encM (kInt .i64) (eInt .i64) r.least)),.d (.mp false (encM (kInt .i64) (eInt .i64) r.most)),.d (.mp false (encM (kPair .i64) (eInt .i64) r.tall)),.d (.mp false (encM (kPair .i64) (eInt .i64) r.first))] 166)]:=by
 unfold widgetry_layout_open at hr
 refine Con.of_ok 62 0 [.tmp 6] [(0,.s (.agg [cI t.Root,cI t.Next,.d (.sl (List.map Node.cs t.Nodes))])),(1,.s (.c (.d (.sl (List.map Styled.cs st))))),(2,.s (.c (.d (.sl (List.map Font.cs fonts)))))] Tryz.func118 rfl rfl rfl rfl rfl rfl rfl rfl fun w g M ρ _=>(Ok.seq (Ok.region (OkOps.m 0 (triBox (j:=0) (cs:=[cI t.Root,cI t.Next,.d (.sl (List.map Node.cs t.Nodes))]) rfl rfl rfl rfl rfl) (OkOps.y (.c (.d (.v (.pointer none)))) (OkOps.nil (Ok.seq (Ok.region (OkOps.y (.agg [cI t.Root,cI t.Next,.d (.sl (List.map Node.cs t.Nodes))]) (OkOps.y (.c (.d (.sl (List.map Font.cs fonts)))) (OkOps.m 0 (triMkM (j:=1) true rfl rfl) (OkOps.m 0 (triMkM (j:=2) true rfl rfl) (OkOps.m 0 (triMkM (j:=3) false rfl rfl) (OkOps.m 0 (triMkM (j:=4) false rfl rfl) (OkOps.m 0 (triMkM (j:=5) false rfl rfl) (OkOps.m 0 (triMkM (j:=6) false rfl rfl) ?_)))))))))))))))
 refine OkOps.m 0 (triMkM (j:=7) false rfl rfl) (OkOps.q (triBuildF (x:=.agg [cI t.Root,cI t.Next,.d (.sl (List.map Node.cs t.Nodes)),.d (.sl (List.map Font.cs fonts)),.own 1,.own 2,.own 3,.d (.v (.slice none 0 0)),.own 4,.own 5,.own 6,.own 7]) rfl rfl trivial rfl) (OkOps.m 0 (triBox (j:=8) (cs:=[cI t.Root,cI t.Next,.d (.sl (List.map Node.cs t.Nodes)),.d (.sl (List.map Font.cs fonts)),.own 1,.own 2,.own 3,.d (.v (.slice none 0 0)),.own 4,.own 5,.own 6,.own 7]) rfl rfl rfl rfl rfl) (OkOps.y (.c (.loc 8 0)) (OkOps.nil ?_))))
 obtain ⟨k2,hk2,hr⟩:=jn_some hr
 refine Ok.join (fun (s1 : (List (Int × Node)) × (List (Int × (Nat → Int))))=>⟨[(3,.s (.c (.loc 0 0))),(7,.s (.c (.loc 8 0)))],[(0,.blk [cI t.Root,cI t.Next,.d (.sl (List.map Node.cs t.Nodes))] 30),(1,.mp true (encM (kInt .i64) Node.cs s1.1)),(2,.mp true (encM (kInt .i64) (eArr 22 (dInt .i64)) s1.2)),(3,.mp false (encM (kInt .i64) (eJ 1) ([] : (List (Int × Nat))))),(4,.mp false (encM (kInt .i64) (eInt .i64) ([] : (List (Int × Int))))),(5,.mp false (encM (kInt .i64) (eInt .i64) ([] : (List (Int × Int))))),(6,.mp false (encM (kPair .i64) (eInt .i64) ([] : (List ((Int × Int) × Int))))),(7,.mp false (encM (kPair .i64) (eInt .i64) ([] : (List ((Int × Int) × Int))))),(8,.blk [cI t.Root,cI t.Next,.d (.sl (List.map Node.cs t.Nodes)),.d (.sl (List.map Font.cs fonts)),.own 1,.own 2,.own 3,.d (.v (.slice none 0 0)),.own 4,.own 5,.own 6,.own 7] 166)],0⟩) k2 r (fun s1 hr=>?_) ?_
 rw [hk2] at hr
 obtain ⟨k4,hk4,hr⟩:=jn_some hr
 refine Ok.join (fun (s3 : Int × Int × (List Node) × (List Font) × (List (Int × Node)) × (List (Int × (Nat → Int))) × (List (Int × Nat)) × (List Int) × (List (Int × Int)) × (List (Int × Int)) × (List ((Int × Int) × Int)) × (List ((Int × Int) × Int)))=>⟨[(7,.s (.c (.loc 8 0)))],[(8,.blk [cI s3.1,cI s3.2.1,.d (.sl (List.map Node.cs s3.2.2.1)),.d (.sl (List.map Font.cs s3.2.2.2.1)),.d (.mp true (encM (kInt .i64) Node.cs s3.2.2.2.2.1)),.d (.mp true (encM (kInt .i64) (eArr 22 (dInt .i64)) s3.2.2.2.2.2.1)),.own 1000,.tl 1001 (List.map (eInt .i64) s3.2.2.2.2.2.2.2.1),.d (.mp false (encM (kInt .i64) (eInt .i64) s3.2.2.2.2.2.2.2.2.1)),.d (.mp false (encM (kInt .i64) (eInt .i64) s3.2.2.2.2.2.2.2.2.2.1)),.d (.mp false (encM (kPair .i64) (eInt .i64) s3.2.2.2.2.2.2.2.2.2.2.1)),.d (.mp false (encM (kPair .i64) (eInt .i64) s3.2.2.2.2.2.2.2.2.2.2.2))] 166),(1000,.mp false (encM (kInt .i64) (eJ 1) s3.2.2.2.2.2.2.1)),(1001,.tail 1)],0⟩) k4 r (fun s3 hr=>?_) ?_
 rw [hk4] at hr
 refine Ok.seq (Ok.region (OkOps.y (.c (.loc 8 0)) (OkOps.y (.c (.loc 8 0)) (OkOps.nil (Ok.conv (Conv.freezeM [] [(8,.blk [cI s3.1,cI s3.2.1,.d (.sl (List.map Node.cs s3.2.2.1)),.d (.sl (List.map Font.cs s3.2.2.2.1)),.d (.mp true (encM (kInt .i64) Node.cs s3.2.2.2.2.1)),.d (.mp true (encM (kInt .i64) (eArr 22 (dInt .i64)) s3.2.2.2.2.2.1)),.d (.mp false (encM (kInt .i64) (eJ 1) s3.2.2.2.2.2.2.1)),.tl 1001 (List.map (eInt .i64) s3.2.2.2.2.2.2.2.1),.d (.mp false (encM (kInt .i64) (eInt .i64) s3.2.2.2.2.2.2.2.2.1)),.d (.mp false (encM (kInt .i64) (eInt .i64) s3.2.2.2.2.2.2.2.2.2.1)),.d (.mp false (encM (kPair .i64) (eInt .i64) s3.2.2.2.2.2.2.2.2.2.2.1)),.d (.mp false (encM (kPair .i64) (eInt .i64) s3.2.2.2.2.2.2.2.2.2.2.2))] 166)] 1000 0 rfl trivial ⟨⟨_,_,rfl,rfl⟩,trivial⟩) (Ok.conv (Conv.norm 8 [cI s3.1,cI s3.2.1,.d (.sl (List.map Node.cs s3.2.2.1)),.d (.sl (List.map Font.cs s3.2.2.2.1)),.d (.mp true (encM (kInt .i64) Node.cs s3.2.2.2.2.1)),.d (.mp true (encM (kInt .i64) (eArr 22 (dInt .i64)) s3.2.2.2.2.2.1)),.d (.mp false (encM (kInt .i64) (eJ 1) s3.2.2.2.2.2.2.1)),.tl 1001 (List.map (eInt .i64) s3.2.2.2.2.2.2.2.1),.d (.mp false (encM (kInt .i64) (eInt .i64) s3.2.2.2.2.2.2.2.2.1)),.d (.mp false (encM (kInt .i64) (eInt .i64) s3.2.2.2.2.2.2.2.2.2.1)),.d (.mp false (encM (kPair .i64) (eInt .i64) s3.2.2.2.2.2.2.2.2.2.2.1)),.d (.mp false (encM (kPair .i64) (eInt .i64) s3.2.2.2.2.2.2.2.2.2.2.2))] [cI s3.1,cI s3.2.1,.d (.sl (List.map Node.cs s3.2.2.1)),.d (.sl (List.map Font.cs s3.2.2.2.1)),.d (.mp true (encM (kInt .i64) Node.cs s3.2.2.2.2.1)),.d (.mp true (encM (kInt .i64) (eArr 22 (dInt .i64)) s3.2.2.2.2.2.1)),.d (.mp false (encM (kInt .i64) (eJ 1) s3.2.2.2.2.2.2.1)),.d (.sl (List.map (eInt .i64) s3.2.2.2.2.2.2.2.1)),.d (.mp false (encM (kInt .i64) (eInt .i64) s3.2.2.2.2.2.2.2.2.1)),.d (.mp false (encM (kInt .i64) (eInt .i64) s3.2.2.2.2.2.2.2.2.2.1)),.d (.mp false (encM (kPair .i64) (eInt .i64) s3.2.2.2.2.2.2.2.2.2.2.1)),.d (.mp false (encM (kPair .i64) (eInt .i64) s3.2.2.2.2.2.2.2.2.2.2.2))] 166 0 rfl rfl) (Ok.ret ?_)))))))
 obtain rfl:=Option.some.inj hr
 exact ⟨_,rfl,.inl rfl,⟨rfl,trivial⟩⟩
 clear hk4
 refine Ok.seq (Ok.region (OkOps.y (.c (.loc 8 0)) (OkOps.y (.c (.loc 0 0)) (OkOps.y (aI t.Root) (OkOps.conv (Conv.nilB 8 7 9 (.tail 1) (.tl 9 (List.map (eInt .i64) ([] : (List Int)))) [cI t.Root,cI t.Next,.d (.sl (List.map Node.cs t.Nodes)),.d (.sl (List.map Font.cs fonts)),.own 1,.own 2,.own 3,.d (.v (.slice none 0 0)),.own 4,.own 5,.own 6,.own 7] [cI t.Root,cI t.Next,.d (.sl (List.map Node.cs t.Nodes)),.d (.sl (List.map Font.cs fonts)),.own 1,.own 2,.own 3,.tl 9 (List.map (eInt .i64) ([] : (List Int))),.own 4,.own 5,.own 6,.own 7] 166 0 rfl rfl rfl rfl (nil_tail 1 9) (fun _ _ h=>⟨h.symm,Rep.nil⟩)) (OkOps.conv (Conv.freezeM [] [(8,.blk [cI t.Root,cI t.Next,.d (.sl (List.map Node.cs t.Nodes)),.d (.sl (List.map Font.cs fonts)),.d (.mp true (encM (kInt .i64) Node.cs s1.1)),.own 2,.own 3,.tl 9 (List.map (eInt .i64) ([] : (List Int))),.own 4,.own 5,.own 6,.own 7] 166)] 1 0 rfl trivial ⟨⟨_,_,rfl,rfl⟩,trivial⟩) (OkOps.conv (Conv.freezeM [] [(8,.blk [cI t.Root,cI t.Next,.d (.sl (List.map Node.cs t.Nodes)),.d (.sl (List.map Font.cs fonts)),.d (.mp true (encM (kInt .i64) Node.cs s1.1)),.d (.mp true (encM (kInt .i64) (eArr 22 (dInt .i64)) s1.2)),.own 3,.tl 9 (List.map (eInt .i64) ([] : (List Int))),.own 4,.own 5,.own 6,.own 7] 166)] 2 0 rfl trivial ⟨⟨_,_,rfl,rfl⟩,trivial⟩) (OkOps.conv (Conv.freezeM [] [(8,.blk [cI t.Root,cI t.Next,.d (.sl (List.map Node.cs t.Nodes)),.d (.sl (List.map Font.cs fonts)),.d (.mp true (encM (kInt .i64) Node.cs s1.1)),.d (.mp true (encM (kInt .i64) (eArr 22 (dInt .i64)) s1.2)),.own 3,.tl 9 (List.map (eInt .i64) ([] : (List Int))),.d (.mp false (encM (kInt .i64) (eInt .i64) ([] : (List (Int × Int))))),.own 5,.own 6,.own 7] 166)] 4 0 rfl trivial ⟨⟨_,_,rfl,rfl⟩,trivial⟩) (OkOps.conv (Conv.freezeM [] [(8,.blk [cI t.Root,cI t.Next,.d (.sl (List.map Node.cs t.Nodes)),.d (.sl (List.map Font.cs fonts)),.d (.mp true (encM (kInt .i64) Node.cs s1.1)),.d (.mp true (encM (kInt .i64) (eArr 22 (dInt .i64)) s1.2)),.own 3,.tl 9 (List.map (eInt .i64) ([] : (List Int))),.d (.mp false (encM (kInt .i64) (eInt .i64) ([] : (List (Int × Int))))),.d (.mp false (encM (kInt .i64) (eInt .i64) ([] : (List (Int × Int))))),.own 6,.own 7] 166)] 5 0 rfl trivial ⟨⟨_,_,rfl,rfl⟩,trivial⟩) (OkOps.conv (Conv.freezeM [] [(8,.blk [cI t.Root,cI t.Next,.d (.sl (List.map Node.cs t.Nodes)),.d (.sl (List.map Font.cs fonts)),.d (.mp true (encM (kInt .i64) Node.cs s1.1)),.d (.mp true (encM (kInt .i64) (eArr 22 (dInt .i64)) s1.2)),.own 3,.tl 9 (List.map (eInt .i64) ([] : (List Int))),.d (.mp false (encM (kInt .i64) (eInt .i64) ([] : (List (Int × Int))))),.d (.mp false (encM (kInt .i64) (eInt .i64) ([] : (List (Int × Int))))),.d (.mp false (encM (kPair .i64) (eInt .i64) ([] : (List ((Int × Int) × Int))))),.own 7] 166)] 6 0 rfl trivial ⟨⟨_,_,rfl,rfl⟩,trivial⟩) (OkOps.conv (Conv.freezeM [] [(8,.blk [cI t.Root,cI t.Next,.d (.sl (List.map Node.cs t.Nodes)),.d (.sl (List.map Font.cs fonts)),.d (.mp true (encM (kInt .i64) Node.cs s1.1)),.d (.mp true (encM (kInt .i64) (eArr 22 (dInt .i64)) s1.2)),.own 3,.tl 9 (List.map (eInt .i64) ([] : (List Int))),.d (.mp false (encM (kInt .i64) (eInt .i64) ([] : (List (Int × Int))))),.d (.mp false (encM (kInt .i64) (eInt .i64) ([] : (List (Int × Int))))),.d (.mp false (encM (kPair .i64) (eInt .i64) ([] : (List ((Int × Int) × Int))))),.d (.mp false (encM (kPair .i64) (eInt .i64) ([] : (List ((Int × Int) × Int)))))] 166)] 7 0 rfl trivial ⟨⟨_,_,rfl,rfl⟩,trivial⟩) ?_)))))))))))
 obtain ⟨x5,hx5,hr⟩:=bind_some hr
 refine OkOps.wq [(8,.blk [cI x5.2.t.Root,cI x5.2.t.Next,.d (.sl (List.map Node.cs x5.2.t.Nodes)),.d (.sl (List.map Font.cs x5.2.fonts)),.d (.mp true (encM (kInt .i64) Node.cs x5.2.nodes)),.d (.mp true (encM (kInt .i64) (eArr 22 (dInt .i64)) x5.2.style)),.own 10,.tl 11 (List.map (eInt .i64) x5.2.shown),.d (.mp false (encM (kInt .i64) (eInt .i64) x5.2.least)),.d (.mp false (encM (kInt .i64) (eInt .i64) x5.2.most)),.d (.mp false (encM (kPair .i64) (eInt .i64) x5.2.tall)),.d (.mp false (encM (kPair .i64) (eInt .i64) x5.2.first))] 166),(3,.dead),(9,.dead),(10,.mp false (encM (kInt .i64) (eJ 1) x5.2.kids)),(11,.tail 1)] (triCall (tau [(0,8),(1,3),(2,9),(3000,10),(3001,11)]) (.s (aB x5.1)) [(8,.blk [cI x5.2.t.Root,cI x5.2.t.Next,.d (.sl (List.map Node.cs x5.2.t.Nodes)),.d (.sl (List.map Font.cs x5.2.fonts)),.d (.mp true (encM (kInt .i64) Node.cs x5.2.nodes)),.d (.mp true (encM (kInt .i64) (eArr 22 (dInt .i64)) x5.2.style)),.own 10,.tl 11 (List.map (eInt .i64) x5.2.shown),.d (.mp false (encM (kInt .i64) (eInt .i64) x5.2.least)),.d (.mp false (encM (kInt .i64) (eInt .i64) x5.2.most)),.d (.mp false (encM (kPair .i64) (eInt .i64) x5.2.tall)),.d (.mp false (encM (kPair .i64) (eInt .i64) x5.2.first))] 166),(3,.dead),(9,.dead),(10,.mp false (encM (kInt .i64) (eJ 1) x5.2.kids)),(11,.tail 1)] (widgetry_layout_scene_hidden_c _ _ hx5) rfl ⟨.inl rfl,.inl rfl,trivial⟩ trivial entry157 ⟨rfl,rfl,rfl,trivial⟩ rfl rfl rfl rfl ⟨rfl,rfl,trivial⟩ rfl rfl rfl) (OkOps.y (aB (!x5.1)) (OkOps.nil ?_))
 refine Ok.cond (b:=!x5.1) rfl (fun h6=>?_) (fun h6=>?_)
 have hr:=selT h6 hr
 refine Ok.region (OkOps.y (.c (.loc 8 0)) (OkOps.y (.c (.loc 0 0)) (OkOps.y (aI t.Root) ?_)))
 obtain ⟨x7,hx7,hr⟩:=bind_some hr
 refine OkOps.wq [(8,.blk [cI x7.t.Root,cI x7.t.Next,.d (.sl (List.map Node.cs x7.t.Nodes)),.d (.sl (List.map Font.cs x7.fonts)),.d (.mp true (encM (kInt .i64) Node.cs x7.nodes)),.d (.mp true (encM (kInt .i64) (eArr 22 (dInt .i64)) x7.style)),.own 12,.tl 13 (List.map (eInt .i64) x7.shown),.d (.mp false (encM (kInt .i64) (eInt .i64) x7.least)),.d (.mp false (encM (kInt .i64) (eInt .i64) x7.most)),.d (.mp false (encM (kPair .i64) (eInt .i64) x7.tall)),.d (.mp false (encM (kPair .i64) (eInt .i64) x7.first))] 166),(10,.dead),(11,.dead),(12,.mp false (encM (kInt .i64) (eJ 1) x7.kids)),(13,.tail 1)] (triCall (tau [(0,8),(1,10),(2,11),(3000,12),(3001,13)]) (.tup []) [(8,.blk [cI x7.t.Root,cI x7.t.Next,.d (.sl (List.map Node.cs x7.t.Nodes)),.d (.sl (List.map Font.cs x7.fonts)),.d (.mp true (encM (kInt .i64) Node.cs x7.nodes)),.d (.mp true (encM (kInt .i64) (eArr 22 (dInt .i64)) x7.style)),.own 12,.tl 13 (List.map (eInt .i64) x7.shown),.d (.mp false (encM (kInt .i64) (eInt .i64) x7.least)),.d (.mp false (encM (kInt .i64) (eInt .i64) x7.most)),.d (.mp false (encM (kPair .i64) (eInt .i64) x7.tall)),.d (.mp false (encM (kPair .i64) (eInt .i64) x7.first))] 166),(10,.dead),(11,.dead),(12,.mp false (encM (kInt .i64) (eJ 1) x7.kids)),(13,.tail 1)] (widgetry_layout_scene_show_c _ _ _ hx7) rfl ⟨.inl rfl,.inl rfl,trivial⟩ trivial entry158 ⟨rfl,rfl,rfl,trivial⟩ rfl rfl rfl rfl ⟨rfl,rfl,trivial⟩ rfl rfl rfl) (OkOps.nil ?_)
 exact ⟨(x7.t.Root,x7.t.Next,x7.t.Nodes,x7.fonts,x7.nodes,x7.style,x7.kids,x7.shown,x7.least,x7.most,x7.tall,x7.first),hr,(Conv.mk (tau [(1000,12),(1001,13)]) ⟨⟨_,rfl,.inl rfl⟩,trivial⟩ ⟨rfl,rfl,rfl,trivial⟩ rfl rfl rfl rfl)⟩
 have hr:=selF h6 hr
 refine Ok.skip ?_
 exact ⟨(x5.2.t.Root,x5.2.t.Next,x5.2.t.Nodes,x5.2.fonts,x5.2.nodes,x5.2.style,x5.2.kids,x5.2.shown,x5.2.least,x5.2.most,x5.2.tall,x5.2.first),hr,(Conv.mk (tau [(1000,10),(1001,11)]) ⟨⟨_,rfl,.inl rfl⟩,trivial⟩ ⟨rfl,rfl,rfl,trivial⟩ rfl rfl rfl rfl)⟩
 clear hk2
 refine Ok.seq (Ok.region (OkOps.y (.c (.loc 0 2)) (OkOps.y (.c (.d (.sl (List.map Node.cs t.Nodes)))) (OkOps.q (triLen (enc:=Node.cs) t.Nodes rfl rfl trivial rfl) (OkOps.y (aI 0) (OkOps.nil (Ok.block (Ok.loopK (fun (s8 : Int × (List (Int × Node)) × (List (Int × (Nat → Int))))=>⟨[(1,.s (.c (.d (.sl (List.map Styled.cs st))))),(3,.s (.c (.loc 0 0))),(7,.s (.c (.loc 8 0))),(22,.s (.c (.d (.sl (List.map Node.cs t.Nodes))))),(23,.s (aI (t.Nodes.length : Int))),(24,.s (aI s8.1))],[(0,.blk [cI t.Root,cI t.Next,.d (.sl (List.map Node.cs t.Nodes))] 30),(1,.mp true (encM (kInt .i64) Node.cs s8.2.1)),(2,.mp true (encM (kInt .i64) (eArr 22 (dInt .i64)) s8.2.2)),(3,.mp false (encM (kInt .i64) (eJ 1) ([] : (List (Int × Nat))))),(4,.mp false (encM (kInt .i64) (eInt .i64) ([] : (List (Int × Int))))),(5,.mp false (encM (kInt .i64) (eInt .i64) ([] : (List (Int × Int))))),(6,.mp false (encM (kPair .i64) (eInt .i64) ([] : (List ((Int × Int) × Int))))),(7,.mp false (encM (kPair .i64) (eInt .i64) ([] : (List ((Int × Int) × Int))))),(8,.blk [cI t.Root,cI t.Next,.d (.sl (List.map Node.cs t.Nodes)),.d (.sl (List.map Font.cs fonts)),.own 1,.own 2,.own 3,.d (.v (.slice none 0 0)),.own 4,.own 5,.own 6,.own 7] 166)],0⟩) hr (Conv.mk (tau []) ⟨⟨_,rfl,.inl rfl⟩,⟨_,rfl,.inl rfl⟩,⟨_,rfl,.inl rfl⟩,⟨_,rfl,.inl rfl⟩,⟨_,rfl,.inl rfl⟩,⟨_,rfl,.inl rfl⟩,trivial⟩ ⟨rfl,rfl,rfl,rfl,rfl,rfl,rfl,rfl,rfl,trivial⟩ rfl rfl rfl rfl) ?_))))))))
 clear hr
 intro again9 s8 hr
 unfold widgetry_layout_open_L1 at hr
 refine Ok.seq (Ok.region (OkOps.y (aB (decide (s8.1 < (t.Nodes.length : Int)))) (OkOps.nil (Ok.seq ?_))))
 refine Ok.cond (b:=decide (s8.1 < (t.Nodes.length : Int))) rfl (fun h10=>?_) (fun h10=>?_)
 have hr:=selT h10 hr
 refine Ok.skip (Ok.seq (Ok.block (Ok.seq (Ok.region (OkOps.y (aI s8.1) ?_)))))
 obtain ⟨x11,hx11,hr⟩:=bind_some hr
 refine OkOps.q (triIdx (enc:=Node.cs) (L:=t.Nodes) (row:=[dI x11.ID,dI x11.Parent,dI x11.Kind,dS x11.Key,.sl (List.map Attr.cs x11.Attrs),.sl (List.map Action.cs x11.Actions),.sl (List.map (eInt .i64) x11.Kids)]) hx11 rfl rfl rfl rfl (fun _=>rfl) trivial rfl) (OkOps.y (.agg [cI x11.ID,cI x11.Parent,cI x11.Kind,cS x11.Key,.d (.sl (List.map Attr.cs x11.Attrs)),.d (.sl (List.map Action.cs x11.Actions)),.d (.sl (List.map (eInt .i64) x11.Kids))]) (OkOps.m 0 (triAlloc (j:=14) (cs:=[cI 0,cI 0,cI 0,cS ByteArray.empty,.d (.v (.slice none 0 0)),.d (.v (.slice none 0 0)),.d (.v (.slice none 0 0))]) rfl rfl rfl rfl) (OkOps.y (aI s8.1) (OkOps.w (triStore (cs':=[cI x11.ID,cI x11.Parent,cI x11.Kind,cS x11.Key,.d (.sl (List.map Attr.cs x11.Attrs)),.d (.sl (List.map Action.cs x11.Actions)),.d (.sl (List.map (eInt .i64) x11.Kids))]) rfl rfl rfl rfl rfl rfl rfl rfl rfl) (OkOps.nil (Ok.regionD (by kernel_rfl) (OkD.x (.c (.loc 8 0)) rfl trivial rfl (OkD.x (.c (.loc 8 0)) rfl trivial rfl (OkD.x (.c (.loc 8 4)) rfl trivial rfl (OkD.x (.c (.own 1)) rfl trivial rfl (OkD.x (.c (.loc 14 0)) rfl trivial rfl (OkD.x (aI x11.ID) rfl trivial rfl (OkD.x (.c (.loc 8 0)) rfl trivial rfl (OkD.x (.c (.loc 8 0)) rfl trivial rfl (OkD.x (.c (.loc 8 5)) rfl trivial rfl ?_)))))))))))))))
 refine OkD.x (.c (.own 2)) rfl trivial rfl (OkD.x (.c (.loc 14 0)) rfl trivial rfl (OkD.x (aI x11.ID) rfl trivial rfl (OkD.x (.agg [cI x11.ID,cI x11.Parent,cI x11.Kind,cS x11.Key,.d (.sl (List.map Attr.cs x11.Attrs)),.d (.sl (List.map Action.cs x11.Actions)),.d (.sl (List.map (eInt .i64) x11.Kids))]) rfl trivial rfl (OkD.x (.c (.d (.sl (List.map Styled.cs st)))) rfl trivial rfl (OkD.x (aI s8.1) rfl trivial rfl ?_)))))
 obtain ⟨x12,hx12,hr⟩:=bind_some hr
 refine OkD.q (triIdx (enc:=Styled.cs) (L:=st) (row:=[dI x12.ID,dI (x12.Style 0),dI (x12.Style 1),dI (x12.Style 2),dI (x12.Style 3),dI (x12.Style 4),dI (x12.Style 5),dI (x12.Style 6),dI (x12.Style 7),dI (x12.Style 8),dI (x12.Style 9),dI (x12.Style 10),dI (x12.Style 11),dI (x12.Style 12),dI (x12.Style 13),dI (x12.Style 14),dI (x12.Style 15),dI (x12.Style 16),dI (x12.Style 17),dI (x12.Style 18),dI (x12.Style 19),dI (x12.Style 20),dI (x12.Style 21)]) hx12 rfl rfl rfl rfl (fun _=>rfl) trivial rfl) (OkD.x (.c (.pt [dI (x12.Style 0),dI (x12.Style 1),dI (x12.Style 2),dI (x12.Style 3),dI (x12.Style 4),dI (x12.Style 5),dI (x12.Style 6),dI (x12.Style 7),dI (x12.Style 8),dI (x12.Style 9),dI (x12.Style 10),dI (x12.Style 11),dI (x12.Style 12),dI (x12.Style 13),dI (x12.Style 14),dI (x12.Style 15),dI (x12.Style 16),dI (x12.Style 17),dI (x12.Style 18),dI (x12.Style 19),dI (x12.Style 20),dI (x12.Style 21)])) rfl trivial rfl (OkD.x (.agg [cI (x12.Style 0),cI (x12.Style 1),cI (x12.Style 2),cI (x12.Style 3),cI (x12.Style 4),cI (x12.Style 5),cI (x12.Style 6),cI (x12.Style 7),cI (x12.Style 8),cI (x12.Style 9),cI (x12.Style 10),cI (x12.Style 11),cI (x12.Style 12),cI (x12.Style 13),cI (x12.Style 14),cI (x12.Style 15),cI (x12.Style 16),cI (x12.Style 17),cI (x12.Style 18),cI (x12.Style 19),cI (x12.Style 20),cI (x12.Style 21)]) rfl trivial rfl ?_))
 obtain ⟨x13,hx13,hr⟩:=bind_some hr
 refine OkD.m 0 (triMapEntry (ek:=(kInt .i64)) (ev:=Node.cs) (L:=s8.2.1) (yo:=x13) (r:=.agg [cI x13.1.ID,cI x13.1.Parent,cI x13.1.Kind,cS x13.1.Key,.d (.sl (List.map Attr.cs x13.1.Attrs)),.d (.sl (List.map Action.cs x13.1.Actions)),.d (.sl (List.map (eInt .i64) x13.1.Kids))]) hx13 rfl rfl rfl rfl (keyInt Tryz.underlying3) rfl rfl (fun h=>by cases h) rfl rfl trivial rfl) ?_
 refine OkD.x (aI (((midx (msetL s8.2.1 x11.ID x13.1) x11.ID).getD 0 : Nat) : Int)) rfl trivial rfl ?_
 refine OkD.w (triEntryStore (ek:=(kInt .i64)) (ev:=Node.cs) (L:=msetL s8.2.1 x11.ID x13.1) (k:=x11.ID) (z:=x11) (midx_self s8.2.1 x11.ID x13.1) rfl rfl rfl rfl rfl rfl (keyInt Tryz.underlying3) (fun h=>by cases h) (msetL_twice s8.2.1 x11.ID x13.1 x11) trivial) ?_
 obtain ⟨x14,hx14,hr⟩:=bind_some hr
 refine OkD.m 0 (triMapEntry (ek:=(kInt .i64)) (ev:=(eArr 22 (dInt .i64))) (L:=s8.2.2) (yo:=x14) (r:=.agg [cI (x14.1 0),cI (x14.1 1),cI (x14.1 2),cI (x14.1 3),cI (x14.1 4),cI (x14.1 5),cI (x14.1 6),cI (x14.1 7),cI (x14.1 8),cI (x14.1 9),cI (x14.1 10),cI (x14.1 11),cI (x14.1 12),cI (x14.1 13),cI (x14.1 14),cI (x14.1 15),cI (x14.1 16),cI (x14.1 17),cI (x14.1 18),cI (x14.1 19),cI (x14.1 20),cI (x14.1 21)]) hx14 rfl rfl rfl rfl (keyInt Tryz.underlying3) rfl rfl (fun h=>by cases h) rfl rfl trivial rfl) ?_
 refine OkD.x (aI (((midx (msetL s8.2.2 x11.ID x14.1) x11.ID).getD 0 : Nat) : Int)) rfl trivial rfl ?_
 refine OkD.w (triEntryStore (ek:=(kInt .i64)) (ev:=(eArr 22 (dInt .i64))) (L:=msetL s8.2.2 x11.ID x14.1) (k:=x11.ID) (z:=x12.Style) (midx_self s8.2.2 x11.ID x14.1) rfl rfl rfl rfl rfl rfl (keyInt Tryz.underlying3) (fun h=>by cases h) (msetL_twice s8.2.2 x11.ID x14.1 x12.Style) trivial) ?_
 refine OkD.nil (by kernel_rfl) (Ok.region (OkOps.y (aI (IntKind.i64.wrap (s8.1 + 1))) (OkOps.y (aI (IntKind.i64.wrap (s8.1 + 1))) (OkOps.nil ?_))))
 exact ⟨(IntKind.i64.wrap (s8.1 + 1),msetL s8.2.1 x11.ID x11,msetL s8.2.2 x11.ID x12.Style),hr,(Conv.mk (tau []) ⟨⟨_,rfl,.inl rfl⟩,⟨_,rfl,.inl rfl⟩,⟨_,rfl,.inl rfl⟩,⟨_,rfl,.inl rfl⟩,⟨_,rfl,.inl rfl⟩,⟨_,rfl,.inl rfl⟩,trivial⟩ ⟨rfl,rfl,rfl,rfl,rfl,rfl,rfl,rfl,rfl,trivial⟩ rfl rfl rfl rfl)⟩
 have hr:=selF h10 hr
 refine Ok.exit ?_
 exact ⟨(s8.2.1,s8.2.2),hr,(Conv.mk (tau []) ⟨⟨_,rfl,.inl rfl⟩,⟨_,rfl,.inl rfl⟩,trivial⟩ ⟨rfl,rfl,rfl,rfl,rfl,rfl,rfl,rfl,rfl,trivial⟩ rfl rfl rfl rfl)⟩
theorem widgetry_layout_Shown_c (t : Tree) (st : (List Styled)) {r : (List Int)} (hr : widgetry_layout_Shown t st = some r) : Con Tryz.prog 78 [.agg [cI t.Root,cI t.Next,.d (.sl (List.map Node.cs t.Nodes))],.c (.d (.sl (List.map Styled.cs st)))] [] (.s (.c (.d (.sl (List.map (eInt .i64) r))))) []:=by
 unfold widgetry_layout_Shown at hr
 refine Con.of_ok 25 0 [.tmp 4] [(0,.s (.agg [cI t.Root,cI t.Next,.d (.sl (List.map Node.cs t.Nodes))])),(1,.s (.c (.d (.sl (List.map Styled.cs st)))))] Tryz.func78 rfl rfl rfl rfl rfl rfl rfl rfl fun w g M ρ _=>(Ok.seq (Ok.region (OkOps.m 0 (triBox (j:=0) (cs:=[cI t.Root,cI t.Next,.d (.sl (List.map Node.cs t.Nodes))]) rfl rfl rfl rfl rfl) (OkOps.y (.c (.d (.v (.slice none 0 0)))) (OkOps.nil (Ok.seq (Ok.seq (Ok.region (OkOps.y (.agg [cI t.Root,cI t.Next,.d (.sl (List.map Node.cs t.Nodes))]) ?_)))))))))
 obtain ⟨x1,hx1,hr⟩:=bind_some hr
 refine OkOps.q (triCl (tau []) (.s (aI x1)) [] (vw_Check_c _ hx1) rfl ⟨.inl rfl,trivial⟩ trivial entry115 trivial) (OkOps.y (aB (x1 != 0)) (OkOps.y (aB (x1 != 0)) (OkOps.q (triQG (x:=.agg [cI t.Root,cI t.Next,.d (.sl (List.map Node.cs t.Nodes))]) rfl rfl trivial rfl) (OkOps.q (triQG (x:=.c (.d (.sl (List.map Styled.cs st)))) rfl rfl trivial rfl) ?_))))
 obtain ⟨x2,hx2,hr⟩:=bind_some hr
 refine OkOps.q (triCallG (x:=aB x2) (fun hg=>widgetry_layout_complete_c _ _ (gO_t hx2 hg)) rfl rfl ⟨.inl rfl,.inl rfl,trivial⟩ ⟨fun h=>h,⟨fun h=>h,trivial⟩⟩ entry116 rfl rfl rfl) (OkOps.q (triQG (x:=aB (!x2)) rfl rfl ⟨fun h=>h,trivial⟩ rfl) ?_)
 refine OkOps.q (triOr rfl rfl (fun h=>by rw [h];rfl) rfl) ?_
 refine OkOps.y (aB ((x1 != 0) || (!x2))) (OkOps.q (triQG (x:=.c (.d (.sl (List.map Styled.cs st)))) rfl rfl trivial rfl) ?_)
 obtain ⟨x3,hx3,hr⟩:=bind_some hr
 refine OkOps.q (triCallG (x:=aB x3) (fun hg=>widgetry_layout_styled_c _ (gO_t hx3 hg)) rfl rfl ⟨.inl rfl,trivial⟩ ⟨fun h=>h,trivial⟩ entry117 rfl rfl rfl) (OkOps.q (triQG (x:=aB (!x3)) rfl rfl ⟨fun h=>h,trivial⟩ rfl) ?_)
 refine OkOps.q (triOr rfl rfl (fun h=>by rw [h];rfl) rfl) ?_
 refine OkOps.nil ?_
 refine Ok.cond (b:=((x1 != 0) || (!x2)) || (!x3)) rfl (fun h4=>?_) (fun h4=>?_)
 have hr:=selT h4 hr
 refine Ok.seq (Ok.region (OkOps.y (.c (.d (.v (.slice none 0 0)))) (OkOps.nil (Ok.ret ?_))))
 obtain rfl:=Option.some.inj hr
 exact ⟨_,rfl,.inr rfl,trivial⟩
 have hr:=selF h4 hr
 refine Ok.skip (Ok.seq (Ok.region (OkOps.y (.agg [cI t.Root,cI t.Next,.d (.sl (List.map Node.cs t.Nodes))]) (OkOps.y (.c (.d (.sl (List.map Styled.cs st)))) ?_))))
 obtain ⟨x5,hx5,hr⟩:=bind_some hr
 refine OkOps.m 0 (triCall (tau [(8,1)]) (.s (.c (.loc 1 0))) [(1,.blk [cI x5.t.Root,cI x5.t.Next,.d (.sl (List.map Node.cs x5.t.Nodes)),.d (.sl (List.map Font.cs x5.fonts)),.d (.mp true (encM (kInt .i64) Node.cs x5.nodes)),.d (.mp true (encM (kInt .i64) (eArr 22 (dInt .i64)) x5.style)),.d (.mp false (encM (kInt .i64) (eJ 1) x5.kids)),.d (.sl (List.map (eInt .i64) x5.shown)),.d (.mp false (encM (kInt .i64) (eInt .i64) x5.least)),.d (.mp false (encM (kInt .i64) (eInt .i64) x5.most)),.d (.mp false (encM (kPair .i64) (eInt .i64) x5.tall)),.d (.mp false (encM (kPair .i64) (eInt .i64) x5.first))] 166)] (widgetry_layout_open_c _ _ _ hx5) rfl ⟨.inl rfl,.inl rfl,.inr rfl,trivial⟩ trivial entry118 trivial rfl rfl rfl rfl ⟨rfl,trivial⟩ rfl rfl rfl) (OkOps.y (.c (.loc 1 0)) (OkOps.y (.c (.loc 1 7)) (OkOps.y (.c (.d (.sl (List.map (eInt .i64) x5.shown)))) (OkOps.y (.c (.d (.sl (List.map (eInt .i64) x5.shown)))) (OkOps.nil (Ok.ret ?_))))))
 obtain rfl:=Option.some.inj hr
 exact ⟨_,rfl,.inl rfl,trivial⟩
end Go.Proofs.YtfoigppmcelgfaaGreatDoor
end
section
set_option maxRecDepth 100000
namespace Go.Proofs.YtfoigppmcelgfaaGreatDoor
open Go Go.E2
theorem slices_Clone_Sl_int_int_c (s : (List Int)) {r : (List Int)} (hr : slices_Clone_Sl_int_int s = some r) : Con Tryz.prog 54 [.c (.d (.sl (List.map (eInt .i64) s)))] [] (.s (.c (.tl 2000 (List.map (eInt .i64) r)))) [(2000,.tail 1)]:=by
 unfold slices_Clone_Sl_int_int at hr
 refine Con.of_ok 8 0 [.tmp 2] [(0,.s (.c (.d (.sl (List.map (eInt .i64) s)))))] Tryz.func54 rfl rfl rfl rfl rfl rfl rfl rfl fun w g M ρ _=>(Ok.seq (Ok.region (OkOps.q (triQ (x:=.c (.d (.v (.slice none 0 0)))) rfl trivial rfl) (OkOps.nil (Ok.seq (Ok.seq (Ok.region (OkOps.q (triQ (x:=.c (.d (.sl (List.map (eInt .i64) s)))) rfl trivial rfl) ?_))))))))
 refine OkOps.eqNil (e:=3) rfl (by kernel_rfl) trivial rfl (fun b hb=>?_)
 refine OkOps.nil ?_
 refine Ok.cond (b:=b) rfl (fun h=>?_) (fun h=>?_)
 obtain rfl : s = []:=by simpa using hb h
 obtain rfl : r = []:=((appO_spec hr).2 : _)
 refine Ok.seq (Ok.region (OkOps.q (triQ (x:=.c (.d (.v (.slice none 0 0)))) rfl trivial rfl) (OkOps.nil (Ok.conv (Conv.nil 2 2000 1 0 rfl rfl) (Ok.ret ?_)))))
 exact ⟨_,rfl,.inl rfl,⟨rfl,trivial⟩⟩
 refine Ok.skip (Ok.seq (Ok.region (OkOps.m 0 (triBST (sz:=1) (enc:=(eInt .i64)) (j:=0) [] rfl rfl rfl rfl rfl rfl rfl rfl (fun _=>rfl) trivial rfl rfl) (OkOps.q (triQ (x:=.c (.d (.sl (List.map (eInt .i64) s)))) rfl trivial rfl) (OkOps.m2 0 (triApp (enc:=(eInt .i64)) (L:=[]) (X:=s) (j:=0) (j':=2000) hr rfl rfl rfl rfl rfl rfl (fun _=>rfl) (fun _=>rfl) (by decide) trivial rfl rfl) (OkOps.q (triQ (x:=.c (.tl 2000 (List.map (eInt .i64) r))) rfl trivial rfl) (OkOps.nil (Ok.ret ?_))))))))
 exact ⟨_,rfl,.inl rfl,⟨rfl,trivial⟩⟩
theorem vw_Find_c (t : Tree) (id : Int) {r : Node × Bool} (hr : vw_Find t id = some r) : Con Tryz.prog 36 [.agg [cI t.Root,cI t.Next,.d (.sl (List.map Node.cs t.Nodes))],aI id] [] (.tup [.agg [cI r.1.ID,cI r.1.Parent,cI r.1.Kind,cS r.1.Key,.d (.sl (List.map Attr.cs r.1.Attrs)),.d (.sl (List.map Action.cs r.1.Actions)),.d (.sl (List.map (eInt .i64) r.1.Kids))],aB r.2]) []:=by
 unfold vw_Find at hr
 refine Con.of_ok 36 0 [.cell 4 61,.tmp 5] [(0,.s (.agg [cI t.Root,cI t.Next,.d (.sl (List.map Node.cs t.Nodes))])),(1,.s (aI id))] Tryz.func36 rfl rfl rfl rfl rfl rfl rfl rfl fun w g M ρ _=>(Ok.seq (Ok.region (OkOps.m 0 (triBox (j:=0) (cs:=[cI t.Root,cI t.Next,.d (.sl (List.map Node.cs t.Nodes))]) rfl rfl rfl rfl rfl) (OkOps.m 0 (triAlloc (j:=1) (cs:=[cI 0,cI 0,cI 0,cS ByteArray.empty,.d (.v (.slice none 0 0)),.d (.v (.slice none 0 0)),.d (.v (.slice none 0 0))]) rfl rfl rfl rfl) (OkOps.y (aB false) (OkOps.nil ?_))))))
 obtain ⟨k2,hk2,hr⟩:=jn_some hr
 refine Ok.join (fun (s1 : Unit)=>⟨[(4,.s (.c (.loc 1 0)))],[(1,.blk [cI 0,cI 0,cI 0,cS ByteArray.empty,.d (.v (.slice none 0 0)),.d (.v (.slice none 0 0)),.d (.v (.slice none 0 0))] 61)],0⟩) k2 r (fun s1 hr=>?_) ?_
 rw [hk2] at hr
 refine Ok.seq (Ok.region (OkOps.y (.agg [cI 0,cI 0,cI 0,cS ByteArray.empty,.d (.v (.slice none 0 0)),.d (.v (.slice none 0 0)),.d (.v (.slice none 0 0))]) (OkOps.w (triStore (cs':=[cI 0,cI 0,cI 0,cS ByteArray.empty,.d (.v (.slice none 0 0)),.d (.v (.slice none 0 0)),.d (.v (.slice none 0 0))]) rfl rfl rfl rfl rfl rfl rfl rfl rfl) (OkOps.y (aB false) (OkOps.nil (Ok.ret ?_))))))
 obtain rfl:=Option.some.inj hr
 exact ⟨_,rfl,.inr rfl,trivial⟩
 clear hk2
 refine Ok.seq (Ok.region (OkOps.y (.c (.loc 0 2)) (OkOps.y (.c (.d (.sl (List.map Node.cs t.Nodes)))) (OkOps.q (triLen (enc:=Node.cs) t.Nodes rfl rfl trivial rfl) (OkOps.y (aI 0) (OkOps.nil (Ok.block (Ok.loopK (fun (s3 : Int)=>⟨[(1,.s (aI id)),(4,.s (.c (.loc 1 0))),(9,.s (.c (.d (.sl (List.map Node.cs t.Nodes))))),(10,.s (aI (t.Nodes.length : Int))),(11,.s (aI s3))],[(1,.blk [cI 0,cI 0,cI 0,cS ByteArray.empty,.d (.v (.slice none 0 0)),.d (.v (.slice none 0 0)),.d (.v (.slice none 0 0))] 61)],0⟩) hr (Conv.mk (tau []) ⟨⟨_,rfl,.inl rfl⟩,⟨_,rfl,.inl rfl⟩,⟨_,rfl,.inl rfl⟩,⟨_,rfl,.inl rfl⟩,⟨_,rfl,.inl rfl⟩,trivial⟩ ⟨rfl,trivial⟩ rfl rfl rfl rfl) ?_))))))))
 clear hr
 intro again4 s3 hr
 unfold vw_Find_L1 at hr
 refine Ok.seq (Ok.region (OkOps.y (aB (decide (s3 < (t.Nodes.length : Int)))) (OkOps.nil (Ok.seq ?_))))
 refine Ok.cond (b:=decide (s3 < (t.Nodes.length : Int))) rfl (fun h5=>?_) (fun h5=>?_)
 have hr:=selT h5 hr
 refine Ok.skip (Ok.seq (Ok.block (Ok.seq (Ok.region ?_))))
 obtain ⟨x6,hx6,hr⟩:=bind_some hr
 refine OkOps.q (triIdx (enc:=Node.cs) (L:=t.Nodes) (row:=[dI x6.ID,dI x6.Parent,dI x6.Kind,dS x6.Key,.sl (List.map Attr.cs x6.Attrs),.sl (List.map Action.cs x6.Actions),.sl (List.map (eInt .i64) x6.Kids)]) hx6 rfl rfl rfl rfl (fun _=>rfl) trivial rfl) (OkOps.y (.agg [cI x6.ID,cI x6.Parent,cI x6.Kind,cS x6.Key,.d (.sl (List.map Attr.cs x6.Attrs)),.d (.sl (List.map Action.cs x6.Actions)),.d (.sl (List.map (eInt .i64) x6.Kids))]) (OkOps.m 0 (triAlloc (j:=2) (cs:=[cI 0,cI 0,cI 0,cS ByteArray.empty,.d (.v (.slice none 0 0)),.d (.v (.slice none 0 0)),.d (.v (.slice none 0 0))]) rfl rfl rfl rfl) (OkOps.w (triStore (cs':=[cI x6.ID,cI x6.Parent,cI x6.Kind,cS x6.Key,.d (.sl (List.map Attr.cs x6.Attrs)),.d (.sl (List.map Action.cs x6.Actions)),.d (.sl (List.map (eInt .i64) x6.Kids))]) rfl rfl rfl rfl rfl rfl rfl rfl rfl) (OkOps.nil (Ok.seq (Ok.seq (Ok.region (OkOps.y (.c (.loc 2 0)) (OkOps.y (aI x6.ID) (OkOps.y (aI id) (OkOps.y (aB (x6.ID != id)) (OkOps.nil ?_))))))))))))
 refine Ok.cond (b:=x6.ID != id) rfl (fun h7=>?_) (fun h7=>?_)
 have hr:=selT h7 hr
 refine Ok.exit (Ok.region (OkOps.y (aI (IntKind.i64.wrap (s3 + 1))) (OkOps.y (aI (IntKind.i64.wrap (s3 + 1))) (OkOps.nil ?_))))
 exact ⟨IntKind.i64.wrap (s3 + 1),hr,(Conv.mk (tau []) ⟨⟨_,rfl,.inl rfl⟩,⟨_,rfl,.inl rfl⟩,⟨_,rfl,.inl rfl⟩,⟨_,rfl,.inl rfl⟩,⟨_,rfl,.inl rfl⟩,trivial⟩ ⟨rfl,trivial⟩ rfl rfl rfl rfl)⟩
 have hr:=selF h7 hr
 refine Ok.skip (Ok.seq (Ok.region (OkOps.y (.c (.loc 2 4)) (OkOps.y (.c (.d (.sl (List.map Attr.cs x6.Attrs)))) (OkOps.y (.c (.loc 2 5)) (OkOps.y (.c (.d (.sl (List.map Action.cs x6.Actions)))) ?_))))))
 obtain ⟨x8,hx8,hr⟩:=bind_some hr
 refine OkOps.q (triCl (tau []) (.tup [.c (.d (.sl (List.map Attr.cs x8.1))),.c (.d (.sl (List.map Action.cs x8.2)))]) [] (vw_copied_c _ _ hx8) rfl ⟨.inl rfl,.inl rfl,trivial⟩ trivial entry76 trivial) (OkOps.q (triMv (v:=.tup [.c (.d (.sl (List.map Attr.cs x8.1))),.c (.d (.sl (List.map Action.cs x8.2)))]) rfl rfl) (OkOps.y (.c (.d (.sl (List.map Attr.cs x8.1)))) (OkOps.y (.c (.d (.sl (List.map Action.cs x8.2)))) (OkOps.y (.c (.loc 2 4)) (OkOps.w (triStore (cs':=[cI x6.ID,cI x6.Parent,cI x6.Kind,cS x6.Key,.d (.sl (List.map Attr.cs x8.1)),.d (.sl (List.map Action.cs x6.Actions)),.d (.sl (List.map (eInt .i64) x6.Kids))]) rfl rfl rfl rfl rfl rfl rfl rfl rfl) (OkOps.y (.c (.loc 2 5)) (OkOps.w (triStore (cs':=[cI x6.ID,cI x6.Parent,cI x6.Kind,cS x6.Key,.d (.sl (List.map Attr.cs x8.1)),.d (.sl (List.map Action.cs x8.2)),.d (.sl (List.map (eInt .i64) x6.Kids))]) rfl rfl rfl rfl rfl rfl rfl rfl rfl) (OkOps.nil (Ok.seq (Ok.region (OkOps.y (.c (.loc 2 6)) (OkOps.y (.c (.d (.sl (List.map (eInt .i64) x6.Kids)))) ?_))))))))))))
 obtain ⟨x9,hx9,hr⟩:=bind_some hr
 refine OkOps.m 0 (triCall (tau [(2000,3)]) (.s (.c (.tl 3 (List.map (eInt .i64) x9)))) [(3,.tail 1)] (slices_Clone_Sl_int_int_c _ hx9) rfl ⟨.inl rfl,trivial⟩ trivial entry54 trivial rfl rfl rfl rfl ⟨rfl,trivial⟩ rfl rfl rfl) (OkOps.y (.c (.loc 2 6)) (OkOps.w (triStore (cs':=[cI x6.ID,cI x6.Parent,cI x6.Kind,cS x6.Key,.d (.sl (List.map Attr.cs x8.1)),.d (.sl (List.map Action.cs x8.2)),.tl 3 (List.map (eInt .i64) x9)]) rfl rfl rfl rfl rfl rfl rfl rfl rfl) (OkOps.nil (Ok.seq (Ok.region (OkOps.y (.agg [cI x6.ID,cI x6.Parent,cI x6.Kind,cS x6.Key,.d (.sl (List.map Attr.cs x8.1)),.d (.sl (List.map Action.cs x8.2)),.tl 3 (List.map (eInt .i64) x9)]) (OkOps.w (triStore (cs':=[cI x6.ID,cI x6.Parent,cI x6.Kind,cS x6.Key,.d (.sl (List.map Attr.cs x8.1)),.d (.sl (List.map Action.cs x8.2)),.tl 3 (List.map (eInt .i64) x9)]) rfl rfl rfl rfl rfl rfl rfl rfl rfl) (OkOps.y (aB true) (OkOps.nil (Ok.ret ?_))))))))))
 obtain rfl:=Option.some.inj hr
 exact ⟨_,rfl,.inr rfl,trivial⟩
 have hr:=selF h5 hr
 refine Ok.exit ?_
 exact ⟨(),hr,(Conv.mk (tau []) ⟨⟨_,rfl,.inl rfl⟩,trivial⟩ ⟨rfl,trivial⟩ rfl rfl rfl rfl)⟩
theorem vw_Order_c (t : Tree) {r : (List Int)} (hr : vw_Order t = some r) : Con Tryz.prog 90 [.agg [cI t.Root,cI t.Next,.d (.sl (List.map Node.cs t.Nodes))]] [] (.s (.c (.d (.sl (List.map (eInt .i64) r))))) []:=by
 unfold vw_Order at hr
 refine Con.of_ok 16 0 [.tmp 2] [(0,.s (.agg [cI t.Root,cI t.Next,.d (.sl (List.map Node.cs t.Nodes))]))] Tryz.func90 rfl rfl rfl rfl rfl rfl rfl rfl fun w g M ρ _=>(Ok.seq (Ok.region (OkOps.m 0 (triBox (j:=0) (cs:=[cI t.Root,cI t.Next,.d (.sl (List.map Node.cs t.Nodes))]) rfl rfl rfl rfl rfl) (OkOps.y (.c (.d (.v (.slice none 0 0)))) (OkOps.nil (Ok.seq (Ok.region (OkOps.y (.agg [cI t.Root,cI t.Next,.d (.sl (List.map Node.cs t.Nodes))]) ?_))))))))
 obtain ⟨x1,hx1,hr⟩:=bind_some hr
 refine OkOps.q (triCl (tau []) (.tup [.c (.d (.mp true (encM (kInt .i64) Node.cs x1.1))),aB x1.2]) [] (vw_valid_c _ hx1) rfl ⟨.inl rfl,trivial⟩ trivial entry79 trivial) (OkOps.q (triMv (v:=.tup [.c (.d (.mp true (encM (kInt .i64) Node.cs x1.1))),aB x1.2]) rfl rfl) (OkOps.y (.c (.d (.mp true (encM (kInt .i64) Node.cs x1.1)))) (OkOps.y (aB x1.2) (OkOps.y (.c (.d (.mp true (encM (kInt .i64) Node.cs x1.1)))) (OkOps.y (aB x1.2) (OkOps.nil (Ok.seq (Ok.seq (Ok.region (OkOps.y (aB x1.2) (OkOps.y (aB (!x1.2)) (OkOps.nil ?_))))))))))))
 refine Ok.cond (b:=!x1.2) rfl (fun h2=>?_) (fun h2=>?_)
 have hr:=selT h2 hr
 refine Ok.seq (Ok.region (OkOps.y (.c (.d (.v (.slice none 0 0)))) (OkOps.nil (Ok.ret ?_))))
 obtain rfl:=Option.some.inj hr
 exact ⟨_,rfl,.inr rfl,trivial⟩
 have hr:=selF h2 hr
 refine Ok.skip (Ok.seq (Ok.region (OkOps.y (.c (.d (.mp true (encM (kInt .i64) Node.cs x1.1)))) (OkOps.y (.c (.loc 0 0)) (OkOps.y (aI t.Root) ?_)))))
 obtain ⟨x3,hx3,hr⟩:=bind_some hr
 refine OkOps.q (triCl (tau []) (.s (.c (.d (.sl (List.map (eInt .i64) x3))))) [] (vw_preorder_c _ _ _ hx3) rfl ⟨.inl rfl,.inl rfl,trivial⟩ trivial entry125 trivial) (OkOps.y (.c (.d (.sl (List.map (eInt .i64) x3)))) (OkOps.nil (Ok.ret ?_)))
 obtain rfl:=Option.some.inj hr
 exact ⟨_,rfl,.inl rfl,trivial⟩
theorem vw_Path_c (t : Tree) (id : Int) {r : (List Int)} (hr : vw_Path t id = some r) : Con Tryz.prog 40 [.agg [cI t.Root,cI t.Next,.d (.sl (List.map Node.cs t.Nodes))],aI id] [] (.s (.c (.d (.sl (List.map (eInt .i64) r))))) []:=by
 unfold vw_Path at hr
 refine Con.of_ok 17 0 [.tmp 4] [(0,.s (.agg [cI t.Root,cI t.Next,.d (.sl (List.map Node.cs t.Nodes))])),(1,.s (aI id))] Tryz.func40 rfl rfl rfl rfl rfl rfl rfl rfl fun w g M ρ _=>(Ok.seq (Ok.region (OkOps.m 0 (triBox (j:=0) (cs:=[cI t.Root,cI t.Next,.d (.sl (List.map Node.cs t.Nodes))]) rfl rfl rfl rfl rfl) (OkOps.y (.c (.d (.v (.slice none 0 0)))) (OkOps.nil (Ok.seq (Ok.region (OkOps.y (.agg [cI t.Root,cI t.Next,.d (.sl (List.map Node.cs t.Nodes))]) ?_))))))))
 obtain ⟨x1,hx1,hr⟩:=bind_some hr
 refine OkOps.q (triCl (tau []) (.tup [.c (.d (.mp true (encM (kInt .i64) Node.cs x1.1))),aB x1.2]) [] (vw_valid_c _ hx1) rfl ⟨.inl rfl,trivial⟩ trivial entry79 trivial) (OkOps.q (triMv (v:=.tup [.c (.d (.mp true (encM (kInt .i64) Node.cs x1.1))),aB x1.2]) rfl rfl) (OkOps.y (.c (.d (.mp true (encM (kInt .i64) Node.cs x1.1)))) (OkOps.y (aB x1.2) (OkOps.y (.c (.d (.mp true (encM (kInt .i64) Node.cs x1.1)))) (OkOps.y (aB x1.2) (OkOps.nil (Ok.seq (Ok.seq (Ok.region (OkOps.y (aB x1.2) (OkOps.y (aB (!x1.2)) (OkOps.nil ?_))))))))))))
 refine Ok.cond (b:=!x1.2) rfl (fun h2=>?_) (fun h2=>?_)
 have hr:=selT h2 hr
 refine Ok.seq (Ok.region (OkOps.y (.c (.d (.v (.slice none 0 0)))) (OkOps.nil (Ok.ret ?_))))
 obtain rfl:=Option.some.inj hr
 exact ⟨_,rfl,.inr rfl,trivial⟩
 have hr:=selF h2 hr
 refine Ok.skip (Ok.seq (Ok.region (OkOps.y (.c (.d (.mp true (encM (kInt .i64) Node.cs x1.1)))) (OkOps.y (aI id) ?_))))
 obtain ⟨x3,hx3,hr⟩:=bind_some hr
 refine OkOps.q (triCl (tau []) (.s (.c (.d (.sl (List.map (eInt .i64) x3))))) [] (vw_path_c _ _ hx3) rfl ⟨.inl rfl,.inl rfl,trivial⟩ trivial entry80 trivial) (OkOps.y (.c (.d (.sl (List.map (eInt .i64) x3)))) (OkOps.nil (Ok.ret ?_)))
 obtain rfl:=Option.some.inj hr
 exact ⟨_,rfl,.inl rfl,trivial⟩
end Go.Proofs.YtfoigppmcelgfaaGreatDoor
end
section
set_option maxRecDepth 100000
namespace Go.Proofs.YtfoigppmcelgfaaGreatDoor
open Go Go.E2
theorem fo_look_c (t : Tree) (st : (List Styled)) {r : focus_sight} (hr : fo_look t st = some r) : Con Tryz.prog 58 [.agg [cI t.Root,cI t.Next,.d (.sl (List.map Node.cs t.Nodes))],.c (.d (.sl (List.map Styled.cs st)))] [] (.s (.agg [.d (.sl (List.map (eInt .i64) r.order)),.d (.mp true (encM (kInt .i64) Node.cs r.nodes)),.d (.mp false (encM (kInt .i64) eBool r.visible)),.d (.mp false (encM (kInt .i64) eBool r.disabled))])) []:=by
 unfold fo_look at hr
 refine Con.of_ok 99 0 [.cell 4 105] [(0,.s (.agg [cI t.Root,cI t.Next,.d (.sl (List.map Node.cs t.Nodes))])),(1,.s (.c (.d (.sl (List.map Styled.cs st)))))] Tryz.func58 rfl rfl rfl rfl rfl rfl rfl rfl fun w g M ρ _=>(Ok.seq (Ok.region (OkOps.m 0 (triBox (j:=0) (cs:=[cI t.Root,cI t.Next,.d (.sl (List.map Node.cs t.Nodes))]) rfl rfl rfl rfl rfl) (OkOps.m 0 (triAlloc (j:=1) (cs:=[.d (.v (.slice none 0 0)),.d (.v (.map none)),.d (.v (.map none)),.d (.v (.map none))]) rfl rfl rfl rfl) (OkOps.nil (Ok.seq (Ok.region (OkOps.y (.agg [cI t.Root,cI t.Next,.d (.sl (List.map Node.cs t.Nodes))]) ?_))))))))
 obtain ⟨x1,hx1,hr⟩:=bind_some hr
 refine OkOps.q (triCl (tau []) (.s (.c (.d (.sl (List.map (eInt .i64) x1))))) [] (vw_Order_c _ hx1) rfl ⟨.inl rfl,trivial⟩ trivial entry90 trivial) (OkOps.m 0 (triMkM (j:=2) true rfl rfl) (OkOps.m 0 (triMkM (j:=3) false rfl rfl) (OkOps.m 0 (triMkM (j:=4) false rfl rfl) (OkOps.q (triBuildF (x:=.agg [.d (.sl (List.map (eInt .i64) x1)),.own 2,.own 3,.own 4]) rfl rfl trivial rfl) (OkOps.m 0 (triAlloc (j:=5) (cs:=[.d (.v (.slice none 0 0)),.d (.v (.map none)),.d (.v (.map none)),.d (.v (.map none))]) rfl rfl rfl rfl) (OkOps.w (triStoreF (cs':=[.d (.sl (List.map (eInt .i64) x1)),.own 2,.own 3,.own 4]) rfl rfl rfl rfl rfl rfl rfl rfl) (OkOps.nil (Ok.seq (Ok.seq (Ok.region (OkOps.y (.c (.loc 5 0)) (OkOps.y (.c (.d (.sl (List.map (eInt .i64) x1)))) (OkOps.q (triLen (enc:=(eInt .i64)) x1 rfl rfl trivial rfl) (OkOps.y (aB ((x1.length : Int) == 0)) (OkOps.nil ?_)))))))))))))))
 refine Ok.cond (b:=(x1.length : Int) == 0) rfl (fun h2=>?_) (fun h2=>?_)
 have hr:=selT h2 hr
 refine Ok.seq (Ok.region (OkOps.y (.agg [.d (.sl (List.map (eInt .i64) x1)),.own 2,.own 3,.own 4]) (OkOps.w (triStoreF (cs':=[.d (.sl (List.map (eInt .i64) x1)),.own 2,.own 3,.own 4]) rfl rfl rfl rfl rfl rfl rfl rfl) (OkOps.nil (Ok.conv (Conv.freezeM [(18,.s (.c (.d (.mp true (encM (kInt .i64) Node.cs ([] : (List (Int × Node)))))))),(21,.s (.agg [.d (.sl (List.map (eInt .i64) x1)),.d (.mp true (encM (kInt .i64) Node.cs ([] : (List (Int × Node))))),.own 3,.own 4])),(26,.s (.agg [.d (.sl (List.map (eInt .i64) x1)),.d (.mp true (encM (kInt .i64) Node.cs ([] : (List (Int × Node))))),.own 3,.own 4]))] [(1,.blk [.d (.sl (List.map (eInt .i64) x1)),.d (.mp true (encM (kInt .i64) Node.cs ([] : (List (Int × Node))))),.own 3,.own 4] 105),(5,.blk [.d (.sl (List.map (eInt .i64) x1)),.d (.mp true (encM (kInt .i64) Node.cs ([] : (List (Int × Node))))),.own 3,.own 4] 105)] 2 0 rfl ⟨⟨_,rfl,rfl⟩,⟨_,rfl,rfl⟩,⟨_,rfl,rfl⟩,trivial⟩ ⟨⟨_,_,rfl,rfl⟩,⟨_,_,rfl,rfl⟩,trivial⟩) (Ok.conv (Conv.freezeM [(19,.s (.c (.d (.mp false (encM (kInt .i64) eBool ([] : (List (Int × Bool)))))))),(21,.s (.agg [.d (.sl (List.map (eInt .i64) x1)),.d (.mp true (encM (kInt .i64) Node.cs ([] : (List (Int × Node))))),.d (.mp false (encM (kInt .i64) eBool ([] : (List (Int × Bool))))),.own 4])),(26,.s (.agg [.d (.sl (List.map (eInt .i64) x1)),.d (.mp true (encM (kInt .i64) Node.cs ([] : (List (Int × Node))))),.d (.mp false (encM (kInt .i64) eBool ([] : (List (Int × Bool))))),.own 4]))] [(1,.blk [.d (.sl (List.map (eInt .i64) x1)),.d (.mp true (encM (kInt .i64) Node.cs ([] : (List (Int × Node))))),.d (.mp false (encM (kInt .i64) eBool ([] : (List (Int × Bool))))),.own 4] 105),(5,.blk [.d (.sl (List.map (eInt .i64) x1)),.d (.mp true (encM (kInt .i64) Node.cs ([] : (List (Int × Node))))),.d (.mp false (encM (kInt .i64) eBool ([] : (List (Int × Bool))))),.own 4] 105)] 3 0 rfl ⟨⟨_,rfl,rfl⟩,⟨_,rfl,rfl⟩,⟨_,rfl,rfl⟩,trivial⟩ ⟨⟨_,_,rfl,rfl⟩,⟨_,_,rfl,rfl⟩,trivial⟩) (Ok.conv (Conv.freezeM [(20,.s (.c (.d (.mp false (encM (kInt .i64) eBool ([] : (List (Int × Bool)))))))),(21,.s (.agg [.d (.sl (List.map (eInt .i64) x1)),.d (.mp true (encM (kInt .i64) Node.cs ([] : (List (Int × Node))))),.d (.mp false (encM (kInt .i64) eBool ([] : (List (Int × Bool))))),.d (.mp false (encM (kInt .i64) eBool ([] : (List (Int × Bool)))))])),(26,.s (.agg [.d (.sl (List.map (eInt .i64) x1)),.d (.mp true (encM (kInt .i64) Node.cs ([] : (List (Int × Node))))),.d (.mp false (encM (kInt .i64) eBool ([] : (List (Int × Bool))))),.d (.mp false (encM (kInt .i64) eBool ([] : (List (Int × Bool)))))]))] [(1,.blk [.d (.sl (List.map (eInt .i64) x1)),.d (.mp true (encM (kInt .i64) Node.cs ([] : (List (Int × Node))))),.d (.mp false (encM (kInt .i64) eBool ([] : (List (Int × Bool))))),.d (.mp false (encM (kInt .i64) eBool ([] : (List (Int × Bool)))))] 105),(5,.blk [.d (.sl (List.map (eInt .i64) x1)),.d (.mp true (encM (kInt .i64) Node.cs ([] : (List (Int × Node))))),.d (.mp false (encM (kInt .i64) eBool ([] : (List (Int × Bool))))),.d (.mp false (encM (kInt .i64) eBool ([] : (List (Int × Bool)))))] 105)] 4 0 rfl ⟨⟨_,rfl,rfl⟩,⟨_,rfl,rfl⟩,⟨_,rfl,rfl⟩,trivial⟩ ⟨⟨_,_,rfl,rfl⟩,⟨_,_,rfl,rfl⟩,trivial⟩) (Ok.ret ?_))))))))
 obtain rfl:=Option.some.inj hr
 exact ⟨_,rfl,.inl rfl,trivial⟩
 have hr:=selF h2 hr
 refine Ok.skip ?_
 obtain ⟨k4,hk4,hr⟩:=jn_some hr
 refine Ok.join (fun (s3 : (List (Int × Node)))=>⟨[(1,.s (.c (.d (.sl (List.map Styled.cs st))))),(2,.s (.c (.loc 0 0))),(4,.s (.c (.loc 1 0))),(5,.s (.c (.loc 5 0)))],[(0,.blk [cI t.Root,cI t.Next,.d (.sl (List.map Node.cs t.Nodes))] 30),(1,.blk [.d (.v (.slice none 0 0)),.d (.v (.map none)),.d (.v (.map none)),.d (.v (.map none))] 105),(2,.mp true (encM (kInt .i64) Node.cs s3)),(3,.mp false (encM (kInt .i64) eBool ([] : (List (Int × Bool))))),(4,.mp false (encM (kInt .i64) eBool ([] : (List (Int × Bool))))),(5,.blk [.d (.sl (List.map (eInt .i64) x1)),.own 2,.own 3,.own 4] 105)],0⟩) k4 r (fun s3 hr=>?_) ?_
 rw [hk4] at hr
 refine Ok.seq (Ok.region (OkOps.m 0 (triMkM (j:=6) false rfl rfl) (OkOps.y (.c (.own 6)) (OkOps.nil ?_))))
 obtain ⟨k6,hk6,hr⟩:=jn_some hr
 refine Ok.join (fun (s5 : (List (Int × Bool)))=>⟨[(1,.s (.c (.d (.sl (List.map Styled.cs st))))),(4,.s (.c (.loc 1 0))),(5,.s (.c (.loc 5 0))),(8,.s (.c (.own 6)))],[(1,.blk [.d (.v (.slice none 0 0)),.d (.v (.map none)),.d (.v (.map none)),.d (.v (.map none))] 105),(2,.mp true (encM (kInt .i64) Node.cs s3)),(3,.mp false (encM (kInt .i64) eBool ([] : (List (Int × Bool))))),(4,.mp false (encM (kInt .i64) eBool ([] : (List (Int × Bool))))),(5,.blk [.d (.sl (List.map (eInt .i64) x1)),.own 2,.own 3,.own 4] 105),(6,.mp false (encM (kInt .i64) eBool s5))],0⟩) k6 r (fun s5 hr=>?_) ?_
 rw [hk6] at hr
 obtain ⟨k8,hk8,hr⟩:=jn_some hr
 refine Ok.join (fun (s7 : (List (Int × Bool)))=>⟨[(4,.s (.c (.loc 1 0))),(5,.s (.c (.loc 5 0)))],[(1,.blk [.d (.v (.slice none 0 0)),.d (.v (.map none)),.d (.v (.map none)),.d (.v (.map none))] 105),(2,.mp true (encM (kInt .i64) Node.cs s3)),(3,.mp false (encM (kInt .i64) eBool s7)),(4,.mp false (encM (kInt .i64) eBool ([] : (List (Int × Bool))))),(5,.blk [.d (.sl (List.map (eInt .i64) x1)),.own 2,.own 3,.own 4] 105)],0⟩) k8 r (fun s7 hr=>?_) ?_
 rw [hk8] at hr
 obtain ⟨k10,hk10,hr⟩:=jn_some hr
 refine Ok.join (fun (s9 : (List (Int × Bool)))=>⟨[(4,.s (.c (.loc 1 0))),(5,.s (.c (.loc 5 0)))],[(1,.blk [.d (.v (.slice none 0 0)),.d (.v (.map none)),.d (.v (.map none)),.d (.v (.map none))] 105),(2,.mp true (encM (kInt .i64) Node.cs s3)),(3,.mp false (encM (kInt .i64) eBool s7)),(4,.mp false (encM (kInt .i64) eBool s9)),(5,.blk [.d (.sl (List.map (eInt .i64) x1)),.own 2,.own 3,.own 4] 105)],0⟩) k10 r (fun s9 hr=>?_) ?_
 rw [hk10] at hr
 refine Ok.seq (Ok.region (OkOps.y (.agg [.d (.sl (List.map (eInt .i64) x1)),.own 2,.own 3,.own 4]) (OkOps.w (triStoreF (cs':=[.d (.sl (List.map (eInt .i64) x1)),.own 2,.own 3,.own 4]) rfl rfl rfl rfl rfl rfl rfl rfl) (OkOps.nil (Ok.conv (Conv.freezeM [(98,.s (.agg [.d (.sl (List.map (eInt .i64) x1)),.d (.mp true (encM (kInt .i64) Node.cs s3)),.own 3,.own 4]))] [(1,.blk [.d (.sl (List.map (eInt .i64) x1)),.d (.mp true (encM (kInt .i64) Node.cs s3)),.own 3,.own 4] 105),(5,.blk [.d (.sl (List.map (eInt .i64) x1)),.d (.mp true (encM (kInt .i64) Node.cs s3)),.own 3,.own 4] 105)] 2 0 rfl ⟨⟨_,rfl,rfl⟩,trivial⟩ ⟨⟨_,_,rfl,rfl⟩,⟨_,_,rfl,rfl⟩,trivial⟩) (Ok.conv (Conv.freezeM [(98,.s (.agg [.d (.sl (List.map (eInt .i64) x1)),.d (.mp true (encM (kInt .i64) Node.cs s3)),.d (.mp false (encM (kInt .i64) eBool s7)),.own 4]))] [(1,.blk [.d (.sl (List.map (eInt .i64) x1)),.d (.mp true (encM (kInt .i64) Node.cs s3)),.d (.mp false (encM (kInt .i64) eBool s7)),.own 4] 105),(5,.blk [.d (.sl (List.map (eInt .i64) x1)),.d (.mp true (encM (kInt .i64) Node.cs s3)),.d (.mp false (encM (kInt .i64) eBool s7)),.own 4] 105)] 3 0 rfl ⟨⟨_,rfl,rfl⟩,trivial⟩ ⟨⟨_,_,rfl,rfl⟩,⟨_,_,rfl,rfl⟩,trivial⟩) (Ok.conv (Conv.freezeM [(98,.s (.agg [.d (.sl (List.map (eInt .i64) x1)),.d (.mp true (encM (kInt .i64) Node.cs s3)),.d (.mp false (encM (kInt .i64) eBool s7)),.d (.mp false (encM (kInt .i64) eBool s9))]))] [(1,.blk [.d (.sl (List.map (eInt .i64) x1)),.d (.mp true (encM (kInt .i64) Node.cs s3)),.d (.mp false (encM (kInt .i64) eBool s7)),.d (.mp false (encM (kInt .i64) eBool s9))] 105),(5,.blk [.d (.sl (List.map (eInt .i64) x1)),.d (.mp true (encM (kInt .i64) Node.cs s3)),.d (.mp false (encM (kInt .i64) eBool s7)),.d (.mp false (encM (kInt .i64) eBool s9))] 105)] 4 0 rfl ⟨⟨_,rfl,rfl⟩,trivial⟩ ⟨⟨_,_,rfl,rfl⟩,⟨_,_,rfl,rfl⟩,trivial⟩) (Ok.ret ?_))))))))
 obtain rfl:=Option.some.inj hr
 exact ⟨_,rfl,.inl rfl,trivial⟩
 clear hk10
 refine Ok.seq (Ok.region (OkOps.y (.c (.loc 5 0)) (OkOps.y (.c (.d (.sl (List.map (eInt .i64) x1)))) (OkOps.q (triLen (enc:=(eInt .i64)) x1 rfl rfl trivial rfl) (OkOps.y (aI 0) (OkOps.nil (Ok.block (Ok.loopK (fun (s11 : Int × (List (Int × Bool)))=>⟨[(4,.s (.c (.loc 1 0))),(5,.s (.c (.loc 5 0))),(74,.s (.c (.d (.sl (List.map (eInt .i64) x1))))),(75,.s (aI (x1.length : Int))),(76,.s (aI s11.1))],[(1,.blk [.d (.v (.slice none 0 0)),.d (.v (.map none)),.d (.v (.map none)),.d (.v (.map none))] 105),(2,.mp true (encM (kInt .i64) Node.cs s3)),(3,.mp false (encM (kInt .i64) eBool s7)),(4,.mp false (encM (kInt .i64) eBool s11.2)),(5,.blk [.d (.sl (List.map (eInt .i64) x1)),.own 2,.own 3,.own 4] 105)],0⟩) hr (Conv.mk (tau []) ⟨⟨_,rfl,.inl rfl⟩,⟨_,rfl,.inl rfl⟩,⟨_,rfl,.inl rfl⟩,⟨_,rfl,.inl rfl⟩,⟨_,rfl,.inl rfl⟩,trivial⟩ ⟨rfl,rfl,rfl,rfl,rfl,trivial⟩ rfl rfl rfl rfl) ?_))))))))
 clear hr
 intro again12 s11 hr
 unfold fo_look_L1 at hr
 refine Ok.seq (Ok.region (OkOps.y (aB (decide (s11.1 < (x1.length : Int)))) (OkOps.nil (Ok.seq ?_))))
 refine Ok.cond (b:=decide (s11.1 < (x1.length : Int))) rfl (fun h13=>?_) (fun h13=>?_)
 have hr:=selT h13 hr
 refine Ok.skip (Ok.seq (Ok.block (Ok.seq (Ok.region ?_))))
 obtain ⟨x14,hx14,hr⟩:=bind_some hr
 refine OkOps.q (triIdx (enc:=(eInt .i64)) (L:=x1) (row:=[dI x14]) hx14 rfl rfl rfl rfl (fun _=>rfl) trivial rfl) (OkOps.y (aI x14) (OkOps.y (aI x14) (OkOps.nil (Ok.seq (Ok.region (OkOps.y (.c (.loc 5 1)) (OkOps.y (.c (.own 2)) (OkOps.y (aI x14) ?_))))))))
 obtain ⟨x15,hx15,hr⟩:=bind_some hr
 refine OkOps.q (triLook (agg:=true) (ek:=(kInt .i64)) (ev:=Node.cs) (L:=s3) (r:=.agg [cI x15.1.ID,cI x15.1.Parent,cI x15.1.Kind,cS x15.1.Key,.d (.sl (List.map Attr.cs x15.1.Attrs)),.d (.sl (List.map Action.cs x15.1.Actions)),.d (.sl (List.map (eInt .i64) x15.1.Kids))]) hx15 rfl rfl rfl (keyInt Tryz.underlying3) rfl rfl (fun h=>by cases h) rfl trivial rfl) ?_
 refine OkOps.m 0 (triAlloc (j:=7) (cs:=[cI 0,cI 0,cI 0,cS ByteArray.empty,.d (.v (.slice none 0 0)),.d (.v (.slice none 0 0)),.d (.v (.slice none 0 0))]) rfl rfl rfl rfl) (OkOps.w (triStore (cs':=[cI x15.1.ID,cI x15.1.Parent,cI x15.1.Kind,cS x15.1.Key,.d (.sl (List.map Attr.cs x15.1.Attrs)),.d (.sl (List.map Action.cs x15.1.Actions)),.d (.sl (List.map (eInt .i64) x15.1.Kids))]) rfl rfl rfl rfl rfl rfl rfl rfl rfl) (OkOps.nil (Ok.regionD (by kernel_rfl) (OkD.x (.c (.loc 5 3)) rfl trivial rfl (OkD.x (.c (.own 4)) rfl trivial rfl (OkD.x (aI x14) rfl trivial rfl (OkD.x (.c (.loc 5 3)) rfl trivial rfl (OkD.x (.c (.own 4)) rfl trivial rfl (OkD.x (.c (.loc 7 1)) rfl trivial rfl (OkD.x (aI x15.1.Parent) rfl trivial rfl ?_))))))))))
 obtain ⟨x16,hx16,hr⟩:=bind_some hr
 refine OkD.q (triLook (agg:=false) (ek:=(kInt .i64)) (ev:=eBool) (L:=s11.2) (r:=aB x16.1) hx16 rfl rfl rfl (keyInt Tryz.underlying3) rfl rfl (fun _ _=>rfl) rfl trivial rfl) (OkD.x (aB x16.1) rfl trivial rfl (OkD.q (triQG (x:=.c (.loc 7 4)) rfl rfl trivial rfl) (OkD.q (triQG (x:=.c (.d (.sl (List.map Attr.cs x15.1.Attrs)))) rfl rfl ⟨fun h=>h,trivial⟩ rfl) ?_)))
 obtain ⟨x17,hx17,hr⟩:=bind_some hr
 refine OkD.q (triCallG (x:=aB x17) (fun hg=>vw_Flag_c _ _ (gO_t hx17 hg)) rfl rfl ⟨.inl rfl,.inl rfl,trivial⟩ ⟨fun h=>h,trivial⟩ entry45 rfl rfl rfl) ?_
 refine OkD.q (triOr rfl rfl (fun h=>by rw [h];rfl) rfl) ?_
 refine OkD.w (triMapUp (ek:=(kInt .i64)) (ev:=eBool) (L:=s11.2) (z:=x16.1 || x17) rfl rfl rfl rfl rfl rfl (keyInt Tryz.underlying3) (fun _ _=>rfl) rfl trivial) (OkD.nil (by kernel_rfl) (Ok.region (OkOps.y (aI (IntKind.i64.wrap (s11.1 + 1))) (OkOps.y (aI (IntKind.i64.wrap (s11.1 + 1))) (OkOps.nil ?_)))))
 exact ⟨(IntKind.i64.wrap (s11.1 + 1),msetL s11.2 x14 (x16.1 || x17)),hr,(Conv.mk (tau []) ⟨⟨_,rfl,.inl rfl⟩,⟨_,rfl,.inl rfl⟩,⟨_,rfl,.inl rfl⟩,⟨_,rfl,.inl rfl⟩,⟨_,rfl,.inl rfl⟩,trivial⟩ ⟨rfl,rfl,rfl,rfl,rfl,trivial⟩ rfl rfl rfl rfl)⟩
 have hr:=selF h13 hr
 refine Ok.exit ?_
 exact ⟨s11.2,hr,(Conv.mk (tau []) ⟨⟨_,rfl,.inl rfl⟩,⟨_,rfl,.inl rfl⟩,trivial⟩ ⟨rfl,rfl,rfl,rfl,rfl,trivial⟩ rfl rfl rfl rfl)⟩
 clear hk8
 refine Ok.seq (Ok.region (OkOps.y (.c (.d (.sl (List.map Styled.cs st)))) (OkOps.q (triLen (enc:=Styled.cs) st rfl rfl trivial rfl) (OkOps.y (aI 0) (OkOps.nil (Ok.block (Ok.loopK (fun (s18 : Int × (List (Int × Bool)))=>⟨[(4,.s (.c (.loc 1 0))),(5,.s (.c (.loc 5 0))),(8,.s (.c (.own 6))),(52,.s (.c (.d (.sl (List.map Styled.cs st))))),(53,.s (aI (st.length : Int))),(54,.s (aI s18.1))],[(1,.blk [.d (.v (.slice none 0 0)),.d (.v (.map none)),.d (.v (.map none)),.d (.v (.map none))] 105),(2,.mp true (encM (kInt .i64) Node.cs s3)),(3,.mp false (encM (kInt .i64) eBool s18.2)),(4,.mp false (encM (kInt .i64) eBool ([] : (List (Int × Bool))))),(5,.blk [.d (.sl (List.map (eInt .i64) x1)),.own 2,.own 3,.own 4] 105),(6,.mp false (encM (kInt .i64) eBool s5))],0⟩) hr (Conv.mk (tau []) ⟨⟨_,rfl,.inl rfl⟩,⟨_,rfl,.inl rfl⟩,⟨_,rfl,.inl rfl⟩,⟨_,rfl,.inl rfl⟩,⟨_,rfl,.inl rfl⟩,⟨_,rfl,.inl rfl⟩,trivial⟩ ⟨rfl,rfl,rfl,rfl,rfl,rfl,trivial⟩ rfl rfl rfl rfl) ?_)))))))
 clear hr
 intro again19 s18 hr
 unfold fo_look_L2 at hr
 refine Ok.seq (Ok.region (OkOps.y (aB (decide (s18.1 < (st.length : Int)))) (OkOps.nil (Ok.seq ?_))))
 refine Ok.cond (b:=decide (s18.1 < (st.length : Int))) rfl (fun h20=>?_) (fun h20=>?_)
 have hr:=selT h20 hr
 refine Ok.skip (Ok.seq (Ok.block (Ok.seq (Ok.region ?_))))
 obtain ⟨x21,hx21,hr⟩:=bind_some hr
 refine OkOps.q (triIdx (enc:=Styled.cs) (L:=st) (row:=[dI x21.ID,dI (x21.Style 0),dI (x21.Style 1),dI (x21.Style 2),dI (x21.Style 3),dI (x21.Style 4),dI (x21.Style 5),dI (x21.Style 6),dI (x21.Style 7),dI (x21.Style 8),dI (x21.Style 9),dI (x21.Style 10),dI (x21.Style 11),dI (x21.Style 12),dI (x21.Style 13),dI (x21.Style 14),dI (x21.Style 15),dI (x21.Style 16),dI (x21.Style 17),dI (x21.Style 18),dI (x21.Style 19),dI (x21.Style 20),dI (x21.Style 21)]) hx21 rfl rfl rfl rfl (fun _=>rfl) trivial rfl) (OkOps.y (.agg [cI x21.ID,cI (x21.Style 0),cI (x21.Style 1),cI (x21.Style 2),cI (x21.Style 3),cI (x21.Style 4),cI (x21.Style 5),cI (x21.Style 6),cI (x21.Style 7),cI (x21.Style 8),cI (x21.Style 9),cI (x21.Style 10),cI (x21.Style 11),cI (x21.Style 12),cI (x21.Style 13),cI (x21.Style 14),cI (x21.Style 15),cI (x21.Style 16),cI (x21.Style 17),cI (x21.Style 18),cI (x21.Style 19),cI (x21.Style 20),cI (x21.Style 21)]) (OkOps.m 0 (triAlloc (j:=8) (cs:=[cI 0,cI 0,cI 0,cI 0,cI 0,cI 0,cI 0,cI 0,cI 0,cI 0,cI 0,cI 0,cI 0,cI 0,cI 0,cI 0,cI 0,cI 0,cI 0,cI 0,cI 0,cI 0,cI 0]) rfl rfl rfl rfl) (OkOps.w (triStore (cs':=[cI x21.ID,cI (x21.Style 0),cI (x21.Style 1),cI (x21.Style 2),cI (x21.Style 3),cI (x21.Style 4),cI (x21.Style 5),cI (x21.Style 6),cI (x21.Style 7),cI (x21.Style 8),cI (x21.Style 9),cI (x21.Style 10),cI (x21.Style 11),cI (x21.Style 12),cI (x21.Style 13),cI (x21.Style 14),cI (x21.Style 15),cI (x21.Style 16),cI (x21.Style 17),cI (x21.Style 18),cI (x21.Style 19),cI (x21.Style 20),cI (x21.Style 21)]) rfl rfl rfl rfl rfl rfl rfl rfl (by kernel_rfl)) (OkOps.nil (Ok.region (OkOps.y (.c (.loc 5 2)) (OkOps.y (.c (.own 3)) (OkOps.y (.c (.loc 8 0)) (OkOps.y (aI x21.ID) (OkOps.y (.c (.own 6)) (OkOps.y (.c (.loc 8 0)) (OkOps.y (aI x21.ID) ?_))))))))))))
 obtain ⟨x22,hx22,hr⟩:=bind_some hr
 refine OkOps.q (triLook (agg:=false) (ek:=(kInt .i64)) (ev:=eBool) (L:=s5) (r:=aB x22.1) hx22 rfl rfl rfl (keyInt Tryz.underlying3) rfl rfl (fun _ _=>rfl) rfl trivial rfl) (OkOps.y (aB x22.1) (OkOps.q (triQG (x:=.c (.loc 8 1)) rfl rfl trivial rfl) (OkOps.q (triQG (x:=.c (.loc 8 22)) rfl rfl ⟨fun h=>h,trivial⟩ rfl) (OkOps.q (triQG (x:=aI (x21.Style 21)) rfl rfl ⟨fun h=>h,trivial⟩ rfl) (OkOps.q (triQG (x:=aB ((x21.Style 21) == 0)) rfl rfl ⟨fun h=>h,trivial⟩ rfl) (OkOps.q (triAnd rfl rfl (fun h=>h) rfl) (OkOps.w (triMapUp (ek:=(kInt .i64)) (ev:=eBool) (L:=s18.2) (z:=x22.1 && ((x21.Style 21) == 0)) rfl rfl rfl rfl rfl rfl (keyInt Tryz.underlying3) (fun _ _=>rfl) rfl trivial) (OkOps.nil (Ok.region (OkOps.y (aI (IntKind.i64.wrap (s18.1 + 1))) (OkOps.y (aI (IntKind.i64.wrap (s18.1 + 1))) (OkOps.nil ?_))))))))))))
 exact ⟨(IntKind.i64.wrap (s18.1 + 1),msetL s18.2 x21.ID (x22.1 && ((x21.Style 21) == 0))),hr,(Conv.mk (tau []) ⟨⟨_,rfl,.inl rfl⟩,⟨_,rfl,.inl rfl⟩,⟨_,rfl,.inl rfl⟩,⟨_,rfl,.inl rfl⟩,⟨_,rfl,.inl rfl⟩,⟨_,rfl,.inl rfl⟩,trivial⟩ ⟨rfl,rfl,rfl,rfl,rfl,rfl,trivial⟩ rfl rfl rfl rfl)⟩
 have hr:=selF h20 hr
 refine Ok.exit ?_
 exact ⟨s18.2,hr,(Conv.mk (tau []) ⟨⟨_,rfl,.inl rfl⟩,⟨_,rfl,.inl rfl⟩,trivial⟩ ⟨rfl,rfl,rfl,rfl,rfl,trivial⟩ rfl rfl rfl rfl)⟩
 clear hk6
 refine Ok.seq (Ok.region (OkOps.y (.agg [cI t.Root,cI t.Next,.d (.sl (List.map Node.cs t.Nodes))]) (OkOps.y (.c (.d (.sl (List.map Styled.cs st)))) ?_)))
 obtain ⟨x23,hx23,hr⟩:=bind_some hr
 refine OkOps.q (triCl (tau []) (.s (.c (.d (.sl (List.map (eInt .i64) x23))))) [] (widgetry_layout_Shown_c _ _ hx23) rfl ⟨.inl rfl,.inl rfl,trivial⟩ trivial entry78 trivial) (OkOps.q (triLen (enc:=(eInt .i64)) x23 rfl rfl trivial rfl) (OkOps.y (aI 0) (OkOps.nil (Ok.block (Ok.loopK (fun (s24 : Int × (List (Int × Bool)))=>⟨[(1,.s (.c (.d (.sl (List.map Styled.cs st))))),(4,.s (.c (.loc 1 0))),(5,.s (.c (.loc 5 0))),(8,.s (.c (.own 6))),(43,.s (.c (.d (.sl (List.map (eInt .i64) x23))))),(44,.s (aI (x23.length : Int))),(45,.s (aI s24.1))],[(1,.blk [.d (.v (.slice none 0 0)),.d (.v (.map none)),.d (.v (.map none)),.d (.v (.map none))] 105),(2,.mp true (encM (kInt .i64) Node.cs s3)),(3,.mp false (encM (kInt .i64) eBool ([] : (List (Int × Bool))))),(4,.mp false (encM (kInt .i64) eBool ([] : (List (Int × Bool))))),(5,.blk [.d (.sl (List.map (eInt .i64) x1)),.own 2,.own 3,.own 4] 105),(6,.mp false (encM (kInt .i64) eBool s24.2))],0⟩) hr (Conv.mk (tau []) ⟨⟨_,rfl,.inl rfl⟩,⟨_,rfl,.inl rfl⟩,⟨_,rfl,.inl rfl⟩,⟨_,rfl,.inl rfl⟩,⟨_,rfl,.inl rfl⟩,⟨_,rfl,.inl rfl⟩,⟨_,rfl,.inl rfl⟩,trivial⟩ ⟨rfl,rfl,rfl,rfl,rfl,rfl,trivial⟩ rfl rfl rfl rfl) ?_)))))
 clear hr
 intro again25 s24 hr
 unfold fo_look_L3 at hr
 refine Ok.seq (Ok.region (OkOps.y (aB (decide (s24.1 < (x23.length : Int)))) (OkOps.nil (Ok.seq ?_))))
 refine Ok.cond (b:=decide (s24.1 < (x23.length : Int))) rfl (fun h26=>?_) (fun h26=>?_)
 have hr:=selT h26 hr
 refine Ok.skip (Ok.seq (Ok.block (Ok.seq (Ok.region ?_))))
 obtain ⟨x27,hx27,hr⟩:=bind_some hr
 refine OkOps.q (triIdx (enc:=(eInt .i64)) (L:=x23) (row:=[dI x27]) hx27 rfl rfl rfl rfl (fun _=>rfl) trivial rfl) (OkOps.y (aI x27) (OkOps.y (aI x27) (OkOps.nil (Ok.region (OkOps.y (.c (.own 6)) (OkOps.y (aI x27) (OkOps.w (triMapUp (ek:=(kInt .i64)) (ev:=eBool) (L:=s24.2) (z:=true) rfl rfl rfl rfl rfl rfl (keyInt Tryz.underlying3) (fun _ _=>rfl) rfl trivial) (OkOps.nil (Ok.region (OkOps.y (aI (IntKind.i64.wrap (s24.1 + 1))) (OkOps.y (aI (IntKind.i64.wrap (s24.1 + 1))) (OkOps.nil ?_))))))))))))
 exact ⟨(IntKind.i64.wrap (s24.1 + 1),msetL s24.2 x27 true),hr,(Conv.mk (tau []) ⟨⟨_,rfl,.inl rfl⟩,⟨_,rfl,.inl rfl⟩,⟨_,rfl,.inl rfl⟩,⟨_,rfl,.inl rfl⟩,⟨_,rfl,.inl rfl⟩,⟨_,rfl,.inl rfl⟩,⟨_,rfl,.inl rfl⟩,trivial⟩ ⟨rfl,rfl,rfl,rfl,rfl,rfl,trivial⟩ rfl rfl rfl rfl)⟩
 have hr:=selF h26 hr
 refine Ok.exit ?_
 exact ⟨s24.2,hr,(Conv.mk (tau []) ⟨⟨_,rfl,.inl rfl⟩,⟨_,rfl,.inl rfl⟩,⟨_,rfl,.inl rfl⟩,⟨_,rfl,.inl rfl⟩,trivial⟩ ⟨rfl,rfl,rfl,rfl,rfl,rfl,trivial⟩ rfl rfl rfl rfl)⟩
 clear hk4
 refine Ok.seq (Ok.region (OkOps.y (.c (.loc 0 2)) (OkOps.y (.c (.d (.sl (List.map Node.cs t.Nodes)))) (OkOps.q (triLen (enc:=Node.cs) t.Nodes rfl rfl trivial rfl) (OkOps.y (aI 0) (OkOps.nil (Ok.block (Ok.loopK (fun (s28 : Int × (List (Int × Node)))=>⟨[(1,.s (.c (.d (.sl (List.map Styled.cs st))))),(2,.s (.c (.loc 0 0))),(4,.s (.c (.loc 1 0))),(5,.s (.c (.loc 5 0))),(28,.s (.c (.d (.sl (List.map Node.cs t.Nodes))))),(29,.s (aI (t.Nodes.length : Int))),(30,.s (aI s28.1))],[(0,.blk [cI t.Root,cI t.Next,.d (.sl (List.map Node.cs t.Nodes))] 30),(1,.blk [.d (.v (.slice none 0 0)),.d (.v (.map none)),.d (.v (.map none)),.d (.v (.map none))] 105),(2,.mp true (encM (kInt .i64) Node.cs s28.2)),(3,.mp false (encM (kInt .i64) eBool ([] : (List (Int × Bool))))),(4,.mp false (encM (kInt .i64) eBool ([] : (List (Int × Bool))))),(5,.blk [.d (.sl (List.map (eInt .i64) x1)),.own 2,.own 3,.own 4] 105)],0⟩) hr (Conv.mk (tau []) ⟨⟨_,rfl,.inl rfl⟩,⟨_,rfl,.inl rfl⟩,⟨_,rfl,.inl rfl⟩,⟨_,rfl,.inl rfl⟩,⟨_,rfl,.inl rfl⟩,⟨_,rfl,.inl rfl⟩,⟨_,rfl,.inl rfl⟩,trivial⟩ ⟨rfl,rfl,rfl,rfl,rfl,rfl,trivial⟩ rfl rfl rfl rfl) ?_))))))))
 clear hr
 intro again29 s28 hr
 unfold fo_look_L4 at hr
 refine Ok.seq (Ok.region (OkOps.y (aB (decide (s28.1 < (t.Nodes.length : Int)))) (OkOps.nil (Ok.seq ?_))))
 refine Ok.cond (b:=decide (s28.1 < (t.Nodes.length : Int))) rfl (fun h30=>?_) (fun h30=>?_)
 have hr:=selT h30 hr
 refine Ok.skip (Ok.seq (Ok.block (Ok.seq (Ok.region ?_))))
 obtain ⟨x31,hx31,hr⟩:=bind_some hr
 refine OkOps.q (triIdx (enc:=Node.cs) (L:=t.Nodes) (row:=[dI x31.ID,dI x31.Parent,dI x31.Kind,dS x31.Key,.sl (List.map Attr.cs x31.Attrs),.sl (List.map Action.cs x31.Actions),.sl (List.map (eInt .i64) x31.Kids)]) hx31 rfl rfl rfl rfl (fun _=>rfl) trivial rfl) (OkOps.y (.agg [cI x31.ID,cI x31.Parent,cI x31.Kind,cS x31.Key,.d (.sl (List.map Attr.cs x31.Attrs)),.d (.sl (List.map Action.cs x31.Actions)),.d (.sl (List.map (eInt .i64) x31.Kids))]) (OkOps.m 0 (triAlloc (j:=9) (cs:=[cI 0,cI 0,cI 0,cS ByteArray.empty,.d (.v (.slice none 0 0)),.d (.v (.slice none 0 0)),.d (.v (.slice none 0 0))]) rfl rfl rfl rfl) (OkOps.w (triStore (cs':=[cI x31.ID,cI x31.Parent,cI x31.Kind,cS x31.Key,.d (.sl (List.map Attr.cs x31.Attrs)),.d (.sl (List.map Action.cs x31.Actions)),.d (.sl (List.map (eInt .i64) x31.Kids))]) rfl rfl rfl rfl rfl rfl rfl rfl rfl) (OkOps.nil (Ok.region (OkOps.y (.c (.loc 5 1)) (OkOps.y (.c (.own 2)) (OkOps.y (.c (.loc 9 0)) (OkOps.y (aI x31.ID) (OkOps.y (.agg [cI x31.ID,cI x31.Parent,cI x31.Kind,cS x31.Key,.d (.sl (List.map Attr.cs x31.Attrs)),.d (.sl (List.map Action.cs x31.Actions)),.d (.sl (List.map (eInt .i64) x31.Kids))]) ?_))))))))))
 refine OkOps.w (triMapUp (ek:=(kInt .i64)) (ev:=Node.cs) (L:=s28.2) (z:=x31) rfl rfl rfl rfl rfl rfl (keyInt Tryz.underlying3) (fun h=>by cases h) rfl trivial) ?_
 refine OkOps.nil (Ok.region (OkOps.y (aI (IntKind.i64.wrap (s28.1 + 1))) (OkOps.y (aI (IntKind.i64.wrap (s28.1 + 1))) (OkOps.nil ?_))))
 exact ⟨(IntKind.i64.wrap (s28.1 + 1),msetL s28.2 x31.ID x31),hr,(Conv.mk (tau []) ⟨⟨_,rfl,.inl rfl⟩,⟨_,rfl,.inl rfl⟩,⟨_,rfl,.inl rfl⟩,⟨_,rfl,.inl rfl⟩,⟨_,rfl,.inl rfl⟩,⟨_,rfl,.inl rfl⟩,⟨_,rfl,.inl rfl⟩,trivial⟩ ⟨rfl,rfl,rfl,rfl,rfl,rfl,trivial⟩ rfl rfl rfl rfl)⟩
 have hr:=selF h30 hr
 refine Ok.exit ?_
 exact ⟨s28.2,hr,(Conv.mk (tau []) ⟨⟨_,rfl,.inl rfl⟩,⟨_,rfl,.inl rfl⟩,⟨_,rfl,.inl rfl⟩,⟨_,rfl,.inl rfl⟩,trivial⟩ ⟨rfl,rfl,rfl,rfl,rfl,rfl,trivial⟩ rfl rfl rfl rfl)⟩
theorem slices_Backward_Sl_int_int_c (L : (List Int)) : Con Tryz.prog 91 [.c (.d (.sl (List.map (eInt .i64) L)))] [] (.s (.c (.fn 126 [(0,0)]))) [(0,.blk [.d (.sl (List.map (eInt .i64) L))] 57)]:=by
 refine Con.of_ok 4 0 [.tmp 2] [(0,.s (.c (.d (.sl (List.map (eInt .i64) L)))))] Tryz.func91 rfl rfl rfl rfl rfl rfl rfl rfl fun w g M ρ _=>(Ok.seq (Ok.region (OkOps.m 0 (triBox (j:=0) (cs:=[.d (.sl (List.map (eInt .i64) L))]) rfl rfl rfl rfl rfl) (OkOps.y (.c (.d (.v .nilFunc))) (OkOps.nil (Ok.seq (Ok.region (OkOps.q (triMkF [(0,0)] rfl trivial rfl) (OkOps.y (.c (.fn 126 [(0,0)])) (OkOps.nil (Ok.ret ?_)))))))))))
 exact ⟨_,rfl,.inl rfl,⟨rfl,trivial⟩⟩
theorem fo_sight_scope_c (p_s : focus_sight) {r : Int} (hr : fo_sight_scope p_s = some r) : Con Tryz.prog 59 [.agg [.d (.sl (List.map (eInt .i64) p_s.order)),.d (.mp true (encM (kInt .i64) Node.cs p_s.nodes)),.d (.mp false (encM (kInt .i64) eBool p_s.visible)),.d (.mp false (encM (kInt .i64) eBool p_s.disabled))]] [] (.s (aI r)) []:=by
 unfold fo_sight_scope at hr
 refine Con.of_ok 31 0 [.cell 2 3] [(0,.s (.agg [.d (.sl (List.map (eInt .i64) p_s.order)),.d (.mp true (encM (kInt .i64) Node.cs p_s.nodes)),.d (.mp false (encM (kInt .i64) eBool p_s.visible)),.d (.mp false (encM (kInt .i64) eBool p_s.disabled))]))] Tryz.func59 rfl rfl rfl rfl rfl rfl rfl rfl fun w g M ρ _=>(Ok.seq (Ok.region (OkOps.m 0 (triBox (j:=0) (cs:=[.d (.sl (List.map (eInt .i64) p_s.order)),.d (.mp true (encM (kInt .i64) Node.cs p_s.nodes)),.d (.mp false (encM (kInt .i64) eBool p_s.visible)),.d (.mp false (encM (kInt .i64) eBool p_s.disabled))]) rfl rfl rfl rfl rfl) (OkOps.m 0 (triAlloc (j:=1) (cs:=[cI 0]) rfl rfl rfl rfl) (OkOps.nil ?_)))))
 obtain ⟨k2,hk2,hr⟩:=jn_some hr
 refine Ok.join (fun (s1 : Unit)=>⟨[(1,.s (.c (.loc 0 0))),(2,.s (.c (.loc 1 0)))],[(0,.blk [.d (.sl (List.map (eInt .i64) p_s.order)),.d (.mp true (encM (kInt .i64) Node.cs p_s.nodes)),.d (.mp false (encM (kInt .i64) eBool p_s.visible)),.d (.mp false (encM (kInt .i64) eBool p_s.disabled))] 105),(1,.blk [cI 0] 3)],0⟩) k2 r (fun s1 hr=>?_) ?_
 rw [hk2] at hr
 refine Ok.seq (Ok.seq (Ok.region (OkOps.y (.c (.loc 0 0)) (OkOps.y (.c (.d (.sl (List.map (eInt .i64) p_s.order)))) (OkOps.q (triLen (enc:=(eInt .i64)) p_s.order rfl rfl trivial rfl) (OkOps.y (aB ((p_s.order.length : Int) == 0)) (OkOps.nil ?_)))))))
 refine Ok.cond (b:=(p_s.order.length : Int) == 0) rfl (fun h3=>?_) (fun h3=>?_)
 have hr:=selT h3 hr
 refine Ok.seq (Ok.region (OkOps.w (triStore (cs':=[cI 0]) rfl rfl rfl rfl rfl rfl rfl rfl rfl) (OkOps.nil (Ok.ret ?_))))
 obtain rfl:=Option.some.inj hr
 exact ⟨_,rfl,.inl rfl,trivial⟩
 have hr:=selF h3 hr
 refine Ok.skip (Ok.seq (Ok.region (OkOps.y (.c (.loc 0 0)) (OkOps.y (.c (.d (.sl (List.map (eInt .i64) p_s.order)))) ?_))))
 obtain ⟨x4,hx4,hr⟩:=bind_some hr
 refine OkOps.q (triIdx (enc:=(eInt .i64)) (L:=p_s.order) (row:=[dI x4]) hx4 rfl rfl rfl rfl (fun _=>rfl) trivial rfl) (OkOps.y (aI x4) (OkOps.w (triStore (cs':=[cI x4]) rfl rfl rfl rfl rfl rfl rfl rfl rfl) (OkOps.nil (Ok.ret ?_))))
 obtain rfl:=Option.some.inj hr
 exact ⟨_,rfl,.inl rfl,trivial⟩
 clear hk2
 refine Ok.seq (Ok.region (OkOps.y (.c (.loc 0 0)) (OkOps.y (.c (.d (.sl (List.map (eInt .i64) p_s.order)))) (OkOps.m 0 (triCall (tau [(0,2)]) (.s (.c (.fn 126 [(2,0)]))) [(2,.blk [.d (.sl (List.map (eInt .i64) p_s.order))] 57)] (slices_Backward_Sl_int_int_c p_s.order) rfl ⟨.inl rfl,trivial⟩ trivial entry91 trivial rfl rfl rfl rfl ⟨rfl,trivial⟩ rfl rfl rfl) (OkOps.nil (Ok.block ?_))))))
 refine Ok.rangeB (jl:=3) (nx:=0) (nx1:=0) (caps:=[(2,0)]) rfl rfl trivial Tryz.func126 rfl rfl rfl rfl rfl rfl (fun l ρ1 M1 ob hT1 E=>?_)
 refine Ok.seq (Ok.region (OkOps.y (.c (.d (.sl (List.map (eInt .i64) p_s.order)))) (OkOps.q (triLen (enc:=(eInt .i64)) p_s.order rfl rfl trivial rfl) (OkOps.y (aI (IntKind.i64.wrap ((p_s.order.length : Int) - 1))) (OkOps.y (aI (IntKind.i64.wrap ((p_s.order.length : Int) - 1))) (OkOps.nil ?_))))))
 obtain ⟨k6,hk6,hr⟩:=jn_some hr
 refine Ok.joinEnd (fun (s5 : Unit)=>⟨[],[(0,.blk [.d (.sl (List.map (eInt .i64) p_s.order)),.d (.mp true (encM (kInt .i64) Node.cs p_s.nodes)),.d (.mp false (encM (kInt .i64) eBool p_s.visible)),.d (.mp false (encM (kInt .i64) eBool p_s.disabled))] 105),(1,.blk [cI 0] 3),(2,.blk [.d (.sl (List.map (eInt .i64) p_s.order))] 57),(3,.obj (ob .ready none))],0⟩) k6 r (fun s5 hr=>?_) ?_
 rw [hk6] at hr
 refine ⟨.inr rfl,.inl ⟨rfl,?_⟩⟩
 exact ⟨(),hr,(Conv.mk (tau []) ⟨⟨_,rfl,.inl rfl⟩,⟨_,rfl,.inl rfl⟩,trivial⟩ ⟨rfl,rfl,trivial⟩ rfl rfl rfl rfl)⟩
 clear hk6
 refine Ok.block (Ok.loopK (fun (s7 : Int)=>⟨[(0,.s (.c (.d (.v (yl l))))),(1,.s (.c (.loc 2 0))),(3,.s (aI s7))],[(0,.blk [.d (.sl (List.map (eInt .i64) p_s.order)),.d (.mp true (encM (kInt .i64) Node.cs p_s.nodes)),.d (.mp false (encM (kInt .i64) eBool p_s.visible)),.d (.mp false (encM (kInt .i64) eBool p_s.disabled))] 105),(1,.blk [cI 0] 3),(2,.blk [.d (.sl (List.map (eInt .i64) p_s.order))] 57),(3,.obj (ob .ready none))],0⟩) hr (Conv.mk (tau []) ⟨⟨_,rfl,.inl rfl⟩,⟨_,rfl,.inl rfl⟩,⟨_,rfl,.inl rfl⟩,trivial⟩ ⟨rfl,rfl,rfl,rfl,trivial⟩ rfl rfl rfl rfl) ?_)
 clear hr
 intro again8 s7 hr
 unfold fo_sight_scope_L1 at hr
 refine Ok.seq (Ok.seq (Ok.region (OkOps.y (aI s7) (OkOps.y (aB (decide (s7 ≥ 0))) (OkOps.nil ?_)))))
 refine Ok.cond (b:=decide (s7 ≥ 0)) rfl (fun h9=>?_) (fun h9=>?_)
 have hr:=selT h9 hr
 refine Ok.skip (Ok.seq (Ok.block (Ok.seq (Ok.region (OkOps.y (.c (.d (.v (yl l)))) (OkOps.y (aI s7) (OkOps.y (.c (.d (.sl (List.map (eInt .i64) p_s.order)))) (OkOps.y (aI s7) ?_))))))))
 obtain ⟨x10,hx10,hr⟩:=bind_some hr
 refine OkOps.q (triIdx (enc:=(eInt .i64)) (L:=p_s.order) (row:=[dI x10]) hx10 rfl rfl rfl rfl (fun _=>rfl) trivial rfl) (OkOps.y (aI x10) ?_)
 refine OkOps.yield (jl:=3) (v1:=aI s7) (v2:=aI x10) (nx:=0) E (by decide) rfl rfl rfl rfl trivial rfl rfl dom_cons dom_self (fun ρc Mc hT2=>?_)
 refine Ok.region (OkOps.y (aI x10) (OkOps.nil ?_))
 refine ⟨rfl,rfl,?_⟩
 refine Ok.block (Ok.seq (Ok.region (OkOps.y (.c (.loc 0 1)) (OkOps.y (.c (.d (.mp true (encM (kInt .i64) Node.cs p_s.nodes)))) (OkOps.y (aI x10) ?_)))))
 obtain ⟨x11,hx11,hr⟩:=bind_some hr
 refine OkOps.q (triLook (agg:=true) (ek:=(kInt .i64)) (ev:=Node.cs) (L:=p_s.nodes) (r:=.agg [cI x11.1.ID,cI x11.1.Parent,cI x11.1.Kind,cS x11.1.Key,.d (.sl (List.map Attr.cs x11.1.Attrs)),.d (.sl (List.map Action.cs x11.1.Actions)),.d (.sl (List.map (eInt .i64) x11.1.Kids))]) hx11 rfl rfl rfl (keyInt Tryz.underlying3) rfl rfl (fun h=>by cases h) rfl trivial rfl) ?_
 refine OkOps.y (aI x11.1.Kind) (OkOps.y (aB (x11.1.Kind == 12)) (OkOps.y (aB (x11.1.Kind == 12)) (OkOps.q (triQG (x:=.c (.loc 0 2)) rfl rfl trivial rfl) (OkOps.q (triQG (x:=.c (.d (.mp false (encM (kInt .i64) eBool p_s.visible)))) rfl rfl ⟨fun h=>h,trivial⟩ rfl) (OkOps.q (triQG (x:=aI x10) rfl rfl trivial rfl) ?_)))))
 obtain ⟨x12,hx12,hr⟩:=bind_some hr
 refine OkOps.q (triLookG (agg:=false) (ek:=(kInt .i64)) (ev:=eBool) (L:=p_s.visible) (r:=aB x12.1) (gO_t hx12) rfl rfl rfl rfl (keyInt Tryz.underlying3) rfl rfl (fun _ _=>rfl) rfl ⟨fun h=>h,⟨fun h=>h,trivial⟩⟩ rfl) (OkOps.q (triAnd rfl rfl (fun h=>h) rfl) (OkOps.nil ?_))
 refine Ok.cond (b:=(x11.1.Kind == 12) && x12.1) rfl (fun h13=>?_) (fun h13=>?_)
 have hr:=selT h13 hr
 refine Ok.seq (Ok.region (OkOps.y (aI x10) (OkOps.w (triStore (cs':=[cI x10]) rfl rfl rfl rfl rfl rfl rfl rfl rfl) (OkOps.nil (Ok.ret ?_)))))
 refine ⟨rfl,?_⟩
 refine OkOps.y (aB (!false)) (OkOps.nil ?_)
 refine Ok.cond (b:=!false) rfl (fun _=>?_) (fun h=>by cases h)
 refine Ok.ret ?_
 refine ⟨.inl rfl,.inr ⟨.ret,_,rfl,rfl,?_⟩⟩
 obtain rfl:=Option.some.inj hr
 exact ⟨_,rfl,.inl rfl,trivial⟩
 have hr:=selF h13 hr
 refine Ok.skip ?_
 refine ⟨rfl,?_⟩
 refine OkOps.y (aB (!true)) (OkOps.nil ?_)
 refine Ok.cond (b:=!true) rfl (fun h=>by cases h) (fun _=>?_)
 refine Ok.skip (Ok.region (OkOps.y (aI s7) (OkOps.y (aI (IntKind.i64.wrap (s7 - 1))) (OkOps.y (aI (IntKind.i64.wrap (s7 - 1))) (OkOps.nil ?_)))))
 exact ⟨IntKind.i64.wrap (s7 - 1),hr,(Conv.mk (tau []) ⟨⟨_,rfl,.inl rfl⟩,⟨_,rfl,.inl rfl⟩,⟨_,rfl,.inl rfl⟩,trivial⟩ ⟨rfl,rfl,rfl,rfl,trivial⟩ rfl rfl rfl rfl)⟩
 have hr:=selF h9 hr
 refine Ok.exit ?_
 exact ⟨(),hr,(Conv.mk (tau []) trivial ⟨rfl,rfl,rfl,rfl,trivial⟩ rfl rfl rfl rfl)⟩
theorem fo_sight_below_B_c (self0 : focus_sight → Int → Option (List Int)) (hself0 : ∀ (p_s : focus_sight) (id : Int) {r : (List Int)},self0 p_s id = some r → Con Tryz.prog 82 [.agg [.d (.sl (List.map (eInt .i64) p_s.order)),.d (.mp true (encM (kInt .i64) Node.cs p_s.nodes)),.d (.mp false (encM (kInt .i64) eBool p_s.visible)),.d (.mp false (encM (kInt .i64) eBool p_s.disabled))],aI id] [] (.s (.c (.d (.sl (List.map (eInt .i64) r))))) []) (p_s : focus_sight) (id : Int) {r : (List Int)} (hr : fo_sight_below_B self0 p_s id = some r) : Con Tryz.prog 82 [.agg [.d (.sl (List.map (eInt .i64) p_s.order)),.d (.mp true (encM (kInt .i64) Node.cs p_s.nodes)),.d (.mp false (encM (kInt .i64) eBool p_s.visible)),.d (.mp false (encM (kInt .i64) eBool p_s.disabled))],aI id] [] (.s (.c (.d (.sl (List.map (eInt .i64) r))))) []:=by
 unfold fo_sight_below_B at hr
 refine Con.of_ok 27 0 [.tmp 4] [(0,.s (.agg [.d (.sl (List.map (eInt .i64) p_s.order)),.d (.mp true (encM (kInt .i64) Node.cs p_s.nodes)),.d (.mp false (encM (kInt .i64) eBool p_s.visible)),.d (.mp false (encM (kInt .i64) eBool p_s.disabled))])),(1,.s (aI id))] Tryz.func82 rfl rfl rfl rfl rfl rfl rfl rfl fun w g M ρ _=>(Ok.seq (Ok.region (OkOps.m 0 (triBox (j:=0) (cs:=[.d (.sl (List.map (eInt .i64) p_s.order)),.d (.mp true (encM (kInt .i64) Node.cs p_s.nodes)),.d (.mp false (encM (kInt .i64) eBool p_s.visible)),.d (.mp false (encM (kInt .i64) eBool p_s.disabled))]) rfl rfl rfl rfl rfl) (OkOps.y (.c (.d (.v (.slice none 0 0)))) (OkOps.nil (Ok.seq (Ok.region (OkOps.y (aI id) (OkOps.m 0 (triBST (sz:=1) (enc:=(eInt .i64)) (j:=1) ([id]) rfl rfl rfl rfl rfl rfl rfl rfl (fun _=>rfl) trivial rfl rfl) (OkOps.y (.c (.tl 1 (List.map (eInt .i64) ([id])))) (OkOps.nil ?_)))))))))))
 obtain ⟨k2,hk2,hr⟩:=jn_some hr
 refine Ok.join (fun (s1 : (List Int))=>⟨[(5,.s (.c (.tl 1003 (List.map (eInt .i64) s1))))],[(1003,.tail 1)],0⟩) k2 r (fun s1 hr=>?_) ?_
 rw [hk2] at hr
 refine Ok.seq (Ok.region (OkOps.y (.c (.tl 1003 (List.map (eInt .i64) s1))) (OkOps.y (.c (.tl 1003 (List.map (eInt .i64) s1))) (OkOps.nil (Ok.ret ?_)))))
 obtain rfl:=Option.some.inj hr
 exact ⟨_,rfl,.inr rfl,trivial⟩
 clear hk2
 refine Ok.seq (Ok.region (OkOps.y (.c (.loc 0 1)) (OkOps.y (.c (.d (.mp true (encM (kInt .i64) Node.cs p_s.nodes)))) (OkOps.y (aI id) ?_))))
 obtain ⟨x3,hx3,hr⟩:=bind_some hr
 refine OkOps.q (triLook (agg:=true) (ek:=(kInt .i64)) (ev:=Node.cs) (L:=p_s.nodes) (r:=.agg [cI x3.1.ID,cI x3.1.Parent,cI x3.1.Kind,cS x3.1.Key,.d (.sl (List.map Attr.cs x3.1.Attrs)),.d (.sl (List.map Action.cs x3.1.Actions)),.d (.sl (List.map (eInt .i64) x3.1.Kids))]) hx3 rfl rfl rfl (keyInt Tryz.underlying3) rfl rfl (fun h=>by cases h) rfl trivial rfl) ?_
 refine OkOps.y (.c (.d (.sl (List.map (eInt .i64) x3.1.Kids)))) (OkOps.q (triLen (enc:=(eInt .i64)) x3.1.Kids rfl rfl trivial rfl) (OkOps.y (aI 0) (OkOps.nil (Ok.block (Ok.loopK (fun (s4 : (List Int) × Int)=>⟨[(2,.s (.c (.loc 0 0))),(5,.s (.c (.tl 1005 (List.map (eInt .i64) s4.1)))),(14,.s (.c (.d (.sl (List.map (eInt .i64) x3.1.Kids))))),(15,.s (aI (x3.1.Kids.length : Int))),(16,.s (aI s4.2))],[(0,.blk [.d (.sl (List.map (eInt .i64) p_s.order)),.d (.mp true (encM (kInt .i64) Node.cs p_s.nodes)),.d (.mp false (encM (kInt .i64) eBool p_s.visible)),.d (.mp false (encM (kInt .i64) eBool p_s.disabled))] 105),(1005,.tail 1)],0⟩) hr (Conv.mk (tau [(1005,1)]) ⟨⟨_,rfl,.inl rfl⟩,⟨_,rfl,.inl rfl⟩,⟨_,rfl,.inl rfl⟩,⟨_,rfl,.inl rfl⟩,⟨_,rfl,.inl rfl⟩,trivial⟩ ⟨rfl,rfl,trivial⟩ rfl rfl rfl rfl) ?_)))))
 clear hr
 intro again5 s4 hr
 unfold fo_sight_below_L1 at hr
 refine Ok.seq (Ok.region (OkOps.y (aB (decide (s4.2 < (x3.1.Kids.length : Int)))) (OkOps.nil (Ok.seq ?_))))
 refine Ok.cond (b:=decide (s4.2 < (x3.1.Kids.length : Int))) rfl (fun h6=>?_) (fun h6=>?_)
 have hr:=selT h6 hr
 refine Ok.skip (Ok.seq (Ok.block (Ok.seq (Ok.region ?_))))
 obtain ⟨x7,hx7,hr⟩:=bind_some hr
 refine OkOps.q (triIdx (enc:=(eInt .i64)) (L:=x3.1.Kids) (row:=[dI x7]) hx7 rfl rfl rfl rfl (fun _=>rfl) trivial rfl) (OkOps.y (aI x7) (OkOps.y (aI x7) (OkOps.nil (Ok.region (OkOps.y (.c (.tl 1005 (List.map (eInt .i64) s4.1))) (OkOps.y (.agg [.d (.sl (List.map (eInt .i64) p_s.order)),.d (.mp true (encM (kInt .i64) Node.cs p_s.nodes)),.d (.mp false (encM (kInt .i64) eBool p_s.visible)),.d (.mp false (encM (kInt .i64) eBool p_s.disabled))]) (OkOps.y (aI x7) ?_)))))))
 obtain ⟨x8,hx8,hr⟩:=bind_some hr
 refine OkOps.q (triCl (tau []) (.s (.c (.d (.sl (List.map (eInt .i64) x8))))) [] (hself0 _ _ hx8) rfl ⟨.inl rfl,.inl rfl,trivial⟩ trivial entry82 trivial) ?_
 obtain ⟨x9,hx9,hr⟩:=bind_some hr
 refine OkOps.m2 0 (triApp (enc:=(eInt .i64)) (L:=s4.1) (X:=x8) (j:=1005) (j':=2) hx9 rfl rfl rfl rfl rfl rfl (fun _=>rfl) (fun _=>rfl) (by decide) trivial rfl rfl) (OkOps.y (.c (.tl 2 (List.map (eInt .i64) x9))) (OkOps.nil (Ok.region (OkOps.y (aI (IntKind.i64.wrap (s4.2 + 1))) (OkOps.y (aI (IntKind.i64.wrap (s4.2 + 1))) (OkOps.nil ?_))))))
 exact ⟨(x9,IntKind.i64.wrap (s4.2 + 1)),hr,(Conv.mk (tau [(1005,2)]) ⟨⟨_,rfl,.inl rfl⟩,⟨_,rfl,.inl rfl⟩,⟨_,rfl,.inl rfl⟩,⟨_,rfl,.inl rfl⟩,⟨_,rfl,.inl rfl⟩,trivial⟩ ⟨rfl,rfl,trivial⟩ rfl rfl rfl rfl)⟩
 have hr:=selF h6 hr
 refine Ok.exit ?_
 exact ⟨s4.1,hr,(Conv.mk (tau [(1003,1005)]) ⟨⟨_,rfl,.inl rfl⟩,trivial⟩ ⟨rfl,trivial⟩ rfl rfl rfl rfl)⟩
theorem fo_sight_below_all : ∀ n : Nat,(∀ (p_s : focus_sight) (id : Int) {r : (List Int)},fo_sight_below n p_s id = some r → Con Tryz.prog 82 [.agg [.d (.sl (List.map (eInt .i64) p_s.order)),.d (.mp true (encM (kInt .i64) Node.cs p_s.nodes)),.d (.mp false (encM (kInt .i64) eBool p_s.visible)),.d (.mp false (encM (kInt .i64) eBool p_s.disabled))],aI id] [] (.s (.c (.d (.sl (List.map (eInt .i64) r))))) []) ∧ True:=by
 intro n
 induction n with
 | zero=>exact ⟨(by intros;rename_i hr;cases hr),trivial⟩
 | succ n ih=>exact ⟨(by intros;rename_i hr;exact fo_sight_below_B_c _ ih.1 _ _ hr),trivial⟩
theorem fo_sight_below_c (n : Nat) (p_s : focus_sight) (id : Int) {r : (List Int)} (hr : fo_sight_below n p_s id = some r) : Con Tryz.prog 82 [.agg [.d (.sl (List.map (eInt .i64) p_s.order)),.d (.mp true (encM (kInt .i64) Node.cs p_s.nodes)),.d (.mp false (encM (kInt .i64) eBool p_s.visible)),.d (.mp false (encM (kInt .i64) eBool p_s.disabled))],aI id] [] (.s (.c (.d (.sl (List.map (eInt .i64) r))))) []:=(fo_sight_below_all n).1 p_s id hr
theorem fo_pressable_1_c (a : Action) {r : Bool} (hr : fo_pressable_1 a = some r) : Con Tryz.prog 121 [.agg [cS a.Event,cS a.Instance,cS a.Handler,.d (.sl (List.map AValue.cs a.Args))]] [] (.s (aB r)) []:=by
 unfold fo_pressable_1 at hr
 refine Con.of_ok 6 0 [.tmp 2] [(0,.s (.agg [cS a.Event,cS a.Instance,cS a.Handler,.d (.sl (List.map AValue.cs a.Args))]))] Tryz.func121 rfl rfl rfl rfl rfl rfl rfl rfl fun w g M ρ _=>(Ok.seq (Ok.region (OkOps.m 0 (triBox (j:=0) (cs:=[cS a.Event,cS a.Instance,cS a.Handler,.d (.sl (List.map AValue.cs a.Args))]) rfl rfl rfl rfl rfl) (OkOps.y (aB false) (OkOps.nil (Ok.seq (Ok.region (OkOps.y (.c (.loc 0 0)) (OkOps.y (aS a.Event) (OkOps.y (aB (a.Event.toList == (ByteArray.mk #[112,114,101,115,115]).toList)) (OkOps.y (aB (a.Event.toList == (ByteArray.mk #[112,114,101,115,115]).toList)) (OkOps.nil (Ok.ret ?_)))))))))))))
 obtain rfl:=Option.some.inj hr
 exact ⟨_,rfl,.inl rfl,trivial⟩
theorem sl_IndexFunc_press_c (p_s : (List Action)) {r : Int} (hr : sl_IndexFunc_press p_s = some r) : Con Tryz.prog 85 [.c (.d (.sl (List.map Action.cs p_s))),.c (.fn 121 [])] [] (.s (aI r)) []:=by
 unfold sl_IndexFunc_press at hr
 refine Con.of_ok 19 0 [.tmp 4] [(0,.s (.c (.d (.sl (List.map Action.cs p_s))))),(1,.s (.c (.fn 121 [])))] Tryz.func85 rfl rfl rfl rfl rfl rfl rfl rfl fun w g M ρ _=>(Ok.seq (Ok.region (OkOps.y (aI 0) (OkOps.nil ?_))))
 obtain ⟨k2,hk2,hr⟩:=jn_some hr
 refine Ok.join (fun (s1 : Unit)=>⟨[],[],0⟩) k2 r (fun s1 hr=>?_) ?_
 rw [hk2] at hr
 refine Ok.seq (Ok.region (OkOps.y (aI (-1)) (OkOps.nil (Ok.ret ?_))))
 obtain rfl:=Option.some.inj hr
 exact ⟨_,rfl,.inl rfl,trivial⟩
 clear hk2
 refine Ok.seq (Ok.region (OkOps.y (.c (.d (.sl (List.map Action.cs p_s)))) (OkOps.q (triLen (enc:=Action.cs) p_s rfl rfl trivial rfl) (OkOps.y (aI 0) (OkOps.nil (Ok.block (Ok.loopK (fun (s3 : Int)=>⟨[(0,.s (.c (.d (.sl (List.map Action.cs p_s))))),(1,.s (.c (.fn 121 []))),(7,.s (aI (p_s.length : Int))),(8,.s (aI s3))],[],0⟩) hr (Conv.mk (tau []) ⟨⟨_,rfl,.inl rfl⟩,⟨_,rfl,.inl rfl⟩,⟨_,rfl,.inl rfl⟩,⟨_,rfl,.inl rfl⟩,trivial⟩ trivial rfl rfl rfl rfl) ?_)))))))
 clear hr
 intro again4 s3 hr
 unfold sl_IndexFunc_press_L1 at hr
 refine Ok.seq (Ok.region (OkOps.y (aB (decide (s3 < (p_s.length : Int)))) (OkOps.nil (Ok.seq ?_))))
 refine Ok.cond (b:=decide (s3 < (p_s.length : Int))) rfl (fun h5=>?_) (fun h5=>?_)
 have hr:=selT h5 hr
 refine Ok.skip (Ok.seq (Ok.block (Ok.seq (Ok.region (OkOps.y (aI s3) (OkOps.y (aI s3) (OkOps.nil (Ok.seq (Ok.region (OkOps.y (.c (.fn 121 [])) (OkOps.y (.c (.d (.sl (List.map Action.cs p_s)))) (OkOps.y (aI s3) ?_))))))))))))
 obtain ⟨x6,hx6,hr⟩:=bind_some hr
 refine OkOps.q (triIdx (enc:=Action.cs) (L:=p_s) (row:=[dS x6.Event,dS x6.Instance,dS x6.Handler,.sl (List.map AValue.cs x6.Args)]) hx6 rfl rfl rfl rfl (fun _=>rfl) trivial rfl) (OkOps.y (.agg [cS x6.Event,cS x6.Instance,cS x6.Handler,.d (.sl (List.map AValue.cs x6.Args))]) ?_)
 obtain ⟨x7,hx7,hr⟩:=bind_some hr
 refine OkOps.q (triCallF (caps:=[]) (tau []) (.s (aB x7)) [] rfl (fo_pressable_1_c _ hx7) rfl ⟨.inl rfl,trivial⟩ trivial entry121 trivial rfl rfl rfl rfl trivial rfl rfl rfl) (OkOps.nil ?_)
 refine Ok.cond (b:=x7) rfl (fun h8=>?_) (fun h8=>?_)
 have hr:=selT h8 hr
 refine Ok.seq (Ok.region (OkOps.y (aI s3) (OkOps.y (aI s3) (OkOps.nil (Ok.ret ?_)))))
 obtain rfl:=Option.some.inj hr
 exact ⟨_,rfl,.inl rfl,trivial⟩
 have hr:=selF h8 hr
 refine Ok.skip (Ok.region (OkOps.y (aI (IntKind.i64.wrap (s3 + 1))) (OkOps.y (aI (IntKind.i64.wrap (s3 + 1))) (OkOps.nil ?_))))
 exact ⟨IntKind.i64.wrap (s3 + 1),hr,(Conv.mk (tau []) ⟨⟨_,rfl,.inl rfl⟩,⟨_,rfl,.inl rfl⟩,⟨_,rfl,.inl rfl⟩,⟨_,rfl,.inl rfl⟩,trivial⟩ trivial rfl rfl rfl rfl)⟩
 have hr:=selF h5 hr
 refine Ok.exit ?_
 exact ⟨(),hr,(Conv.mk (tau []) trivial trivial rfl rfl rfl rfl)⟩
theorem sl_ContainsFunc_press_c (p_s : (List Action)) {r : Bool} (hr : sl_ContainsFunc_press p_s = some r) : Con Tryz.prog 48 [.c (.d (.sl (List.map Action.cs p_s))),.c (.fn 121 [])] [] (.s (aB r)) []:=by
 unfold sl_ContainsFunc_press at hr
 refine Con.of_ok 9 0 [.tmp 4] [(0,.s (.c (.d (.sl (List.map Action.cs p_s))))),(1,.s (.c (.fn 121 [])))] Tryz.func48 rfl rfl rfl rfl rfl rfl rfl rfl fun w g M ρ _=>(Ok.seq (Ok.region (OkOps.y (aB false) (OkOps.nil (Ok.seq (Ok.region (OkOps.y (.c (.d (.sl (List.map Action.cs p_s)))) (OkOps.y (.c (.fn 121 [])) ?_))))))))
 obtain ⟨x1,hx1,hr⟩:=bind_some hr
 refine OkOps.q (triCl (tau []) (.s (aI x1)) [] (sl_IndexFunc_press_c _ hx1) rfl ⟨.inl rfl,.inl rfl,trivial⟩ trivial entry85 trivial) (OkOps.y (aB (decide (x1 ≥ 0))) (OkOps.y (aB (decide (x1 ≥ 0))) (OkOps.nil (Ok.ret ?_))))
 obtain rfl:=Option.some.inj hr
 exact ⟨_,rfl,.inl rfl,trivial⟩
theorem fo_pressable_c (p_n : Node) {r : Bool} (hr : fo_pressable p_n = some r) : Con Tryz.prog 81 [.agg [cI p_n.ID,cI p_n.Parent,cI p_n.Kind,cS p_n.Key,.d (.sl (List.map Attr.cs p_n.Attrs)),.d (.sl (List.map Action.cs p_n.Actions)),.d (.sl (List.map (eInt .i64) p_n.Kids))]] [] (.s (aB r)) []:=by
 unfold fo_pressable at hr
 refine Con.of_ok 25 0 [.tmp 2] [(0,.s (.agg [cI p_n.ID,cI p_n.Parent,cI p_n.Kind,cS p_n.Key,.d (.sl (List.map Attr.cs p_n.Attrs)),.d (.sl (List.map Action.cs p_n.Actions)),.d (.sl (List.map (eInt .i64) p_n.Kids))]))] Tryz.func81 rfl rfl rfl rfl rfl rfl rfl rfl fun w g M ρ _=>(Ok.seq (Ok.region (OkOps.m 0 (triBox (j:=0) (cs:=[cI p_n.ID,cI p_n.Parent,cI p_n.Kind,cS p_n.Key,.d (.sl (List.map Attr.cs p_n.Attrs)),.d (.sl (List.map Action.cs p_n.Actions)),.d (.sl (List.map (eInt .i64) p_n.Kids))]) rfl rfl rfl rfl rfl) (OkOps.y (aB false) (OkOps.nil (Ok.seq (Ok.seq (Ok.region (OkOps.y (.c (.loc 0 2)) (OkOps.y (aI p_n.Kind) (OkOps.nil (Ok.block ?_))))))))))))
 obtain ⟨k2,hk2,hr⟩:=jn_some hr
 refine Ok.join (fun (s1 : Bool)=>⟨[(1,.s (.c (.loc 0 0))),(6,.s (aB s1))],[(0,.blk [cI p_n.ID,cI p_n.Parent,cI p_n.Kind,cS p_n.Key,.d (.sl (List.map Attr.cs p_n.Attrs)),.d (.sl (List.map Action.cs p_n.Actions)),.d (.sl (List.map (eInt .i64) p_n.Kids))] 61)],0⟩) k2 r (fun s1 hr=>?_) ?_
 rw [hk2] at hr
 refine Ok.cond (b:=s1) rfl (fun h3=>?_) (fun h3=>?_)
 have hr:=selT h3 hr
 refine Ok.seq (Ok.region (OkOps.y (aB true) (OkOps.nil (Ok.ret ?_))))
 obtain rfl:=Option.some.inj hr
 exact ⟨_,rfl,.inl rfl,trivial⟩
 have hr:=selF h3 hr
 refine Ok.skip (Ok.seq (Ok.region (OkOps.y (.c (.loc 0 2)) (OkOps.y (aI p_n.Kind) (OkOps.y (aB (p_n.Kind == 4)) (OkOps.y (aB (p_n.Kind == 4)) (OkOps.q (triQG (x:=.c (.loc 0 2)) rfl rfl trivial rfl) (OkOps.q (triQG (x:=aI p_n.Kind) rfl rfl ⟨fun h=>h,trivial⟩ rfl) (OkOps.q (triQG (x:=aB (p_n.Kind == 13)) rfl rfl ⟨fun h=>h,trivial⟩ rfl) ?_)))))))))
 refine OkOps.q (triOr rfl rfl (fun h=>by rw [h];rfl) rfl) ?_
 refine OkOps.y (aB ((p_n.Kind == 4) || (p_n.Kind == 13))) (OkOps.nil (Ok.seq (Ok.region (OkOps.y (aB ((p_n.Kind == 4) || (p_n.Kind == 13))) (OkOps.y (aB (!((p_n.Kind == 4) || (p_n.Kind == 13)))) (OkOps.y (aB (!((p_n.Kind == 4) || (p_n.Kind == 13)))) (OkOps.q (triQG (x:=.c (.loc 0 5)) rfl rfl trivial rfl) (OkOps.q (triQG (x:=.c (.d (.sl (List.map Action.cs p_n.Actions)))) rfl rfl ⟨fun h=>h,trivial⟩ rfl) ?_))))))))
 obtain ⟨x4,hx4,hr⟩:=bind_some hr
 refine OkOps.q (triCallG (x:=aB x4) (fun hg=>sl_ContainsFunc_press_c _ (gO_t hx4 hg)) rfl rfl ⟨.inl rfl,.inl rfl,trivial⟩ ⟨fun h=>h,trivial⟩ entry48 rfl rfl rfl) (OkOps.q (triAnd rfl rfl (fun h=>h) rfl) (OkOps.y (aB ((!((p_n.Kind == 4) || (p_n.Kind == 13))) && x4)) (OkOps.nil (Ok.ret ?_))))
 obtain rfl:=Option.some.inj hr
 exact ⟨_,rfl,.inl rfl,trivial⟩
 clear hk2
 refine Ok.seq (Ok.region (OkOps.y (aB (p_n.Kind == 3)) (OkOps.y (aB (p_n.Kind == 3)) (OkOps.nil ?_))))
 refine Ok.cond (b:=p_n.Kind == 3) rfl (fun h5=>?_) (fun h5=>?_)
 have hr:=selT h5 hr
 refine Ok.skip ?_
 exact ⟨p_n.Kind == 3,hr,(Conv.mk (tau []) ⟨⟨_,rfl,.inl rfl⟩,⟨_,rfl,.inl rfl⟩,trivial⟩ ⟨rfl,trivial⟩ rfl rfl rfl rfl)⟩
 have hr:=selF h5 hr
 refine Ok.seq (Ok.region (OkOps.y (aB (p_n.Kind == 6)) (OkOps.y (aB (p_n.Kind == 6)) (OkOps.nil ?_))))
 refine Ok.cond (b:=p_n.Kind == 6) rfl (fun h6=>?_) (fun h6=>?_)
 have hr:=selT h6 hr
 refine Ok.skip ?_
 exact ⟨p_n.Kind == 6,hr,(Conv.mk (tau []) ⟨⟨_,rfl,.inl rfl⟩,⟨_,rfl,.inl rfl⟩,trivial⟩ ⟨rfl,trivial⟩ rfl rfl rfl rfl)⟩
 have hr:=selF h6 hr
 refine Ok.region (OkOps.y (aB (p_n.Kind == 7)) (OkOps.y (aB (p_n.Kind == 7)) (OkOps.nil ?_)))
 exact ⟨p_n.Kind == 7,hr,(Conv.mk (tau []) ⟨⟨_,rfl,.inl rfl⟩,⟨_,rfl,.inl rfl⟩,trivial⟩ ⟨rfl,trivial⟩ rfl rfl rfl rfl)⟩
theorem fo_sight_focusable_c (p_s : focus_sight) (id : Int) {r : Bool} (hr : fo_sight_focusable p_s id = some r) : Con Tryz.prog 83 [.agg [.d (.sl (List.map (eInt .i64) p_s.order)),.d (.mp true (encM (kInt .i64) Node.cs p_s.nodes)),.d (.mp false (encM (kInt .i64) eBool p_s.visible)),.d (.mp false (encM (kInt .i64) eBool p_s.disabled))],aI id] [] (.s (aB r)) []:=by
 unfold fo_sight_focusable at hr
 refine Con.of_ok 38 0 [.tmp 4] [(0,.s (.agg [.d (.sl (List.map (eInt .i64) p_s.order)),.d (.mp true (encM (kInt .i64) Node.cs p_s.nodes)),.d (.mp false (encM (kInt .i64) eBool p_s.visible)),.d (.mp false (encM (kInt .i64) eBool p_s.disabled))])),(1,.s (aI id))] Tryz.func83 rfl rfl rfl rfl rfl rfl rfl rfl fun w g M ρ _=>(Ok.seq (Ok.region (OkOps.m 0 (triBox (j:=0) (cs:=[.d (.sl (List.map (eInt .i64) p_s.order)),.d (.mp true (encM (kInt .i64) Node.cs p_s.nodes)),.d (.mp false (encM (kInt .i64) eBool p_s.visible)),.d (.mp false (encM (kInt .i64) eBool p_s.disabled))]) rfl rfl rfl rfl rfl) (OkOps.y (aB false) (OkOps.nil (Ok.seq (Ok.region (OkOps.y (.c (.loc 0 1)) (OkOps.y (.c (.d (.mp true (encM (kInt .i64) Node.cs p_s.nodes)))) (OkOps.y (aI id) ?_))))))))))
 obtain ⟨x1,hx1,hr⟩:=bind_some hr
 refine OkOps.q (triLook (agg:=true) (ek:=(kInt .i64)) (ev:=Node.cs) (L:=p_s.nodes) (r:=.agg [cI x1.1.ID,cI x1.1.Parent,cI x1.1.Kind,cS x1.1.Key,.d (.sl (List.map Attr.cs x1.1.Attrs)),.d (.sl (List.map Action.cs x1.1.Actions)),.d (.sl (List.map (eInt .i64) x1.1.Kids))]) hx1 rfl rfl rfl (keyInt Tryz.underlying3) rfl rfl (fun h=>by cases h) rfl trivial rfl) ?_
 refine OkOps.m 0 (triAlloc (j:=1) (cs:=[cI 0,cI 0,cI 0,cS ByteArray.empty,.d (.v (.slice none 0 0)),.d (.v (.slice none 0 0)),.d (.v (.slice none 0 0))]) rfl rfl rfl rfl) (OkOps.w (triStore (cs':=[cI x1.1.ID,cI x1.1.Parent,cI x1.1.Kind,cS x1.1.Key,.d (.sl (List.map Attr.cs x1.1.Attrs)),.d (.sl (List.map Action.cs x1.1.Actions)),.d (.sl (List.map (eInt .i64) x1.1.Kids))]) rfl rfl rfl rfl rfl rfl rfl rfl rfl) (OkOps.nil (Ok.seq (Ok.seq (Ok.region (OkOps.y (.c (.loc 0 2)) (OkOps.y (.c (.d (.mp false (encM (kInt .i64) eBool p_s.visible)))) (OkOps.y (aI id) ?_))))))))
 obtain ⟨x2,hx2,hr⟩:=bind_some hr
 refine OkOps.q (triLook (agg:=false) (ek:=(kInt .i64)) (ev:=eBool) (L:=p_s.visible) (r:=aB x2.1) hx2 rfl rfl rfl (keyInt Tryz.underlying3) rfl rfl (fun _ _=>rfl) rfl trivial rfl) (OkOps.y (aB (!x2.1)) (OkOps.y (aB (!x2.1)) (OkOps.q (triQG (x:=.c (.loc 0 3)) rfl rfl trivial rfl) (OkOps.q (triQG (x:=.c (.d (.mp false (encM (kInt .i64) eBool p_s.disabled)))) rfl rfl ⟨fun h=>h,trivial⟩ rfl) (OkOps.q (triQG (x:=aI id) rfl rfl trivial rfl) ?_)))))
 obtain ⟨x3,hx3,hr⟩:=bind_some hr
 refine OkOps.q (triLookG (agg:=false) (ek:=(kInt .i64)) (ev:=eBool) (L:=p_s.disabled) (r:=aB x3.1) (gO_t hx3) rfl rfl rfl rfl (keyInt Tryz.underlying3) rfl rfl (fun _ _=>rfl) rfl ⟨fun h=>h,⟨fun h=>h,trivial⟩⟩ rfl) ?_
 refine OkOps.q (triOr rfl rfl (fun h=>by rw [h];rfl) rfl) ?_
 refine OkOps.nil ?_
 refine Ok.cond (b:=(!x2.1) || x3.1) rfl (fun h4=>?_) (fun h4=>?_)
 have hr:=selT h4 hr
 refine Ok.seq (Ok.region (OkOps.y (aB false) (OkOps.nil (Ok.ret ?_))))
 obtain rfl:=Option.some.inj hr
 exact ⟨_,rfl,.inl rfl,trivial⟩
 have hr:=selF h4 hr
 refine Ok.skip (Ok.seq (Ok.region (OkOps.y (.agg [cI x1.1.ID,cI x1.1.Parent,cI x1.1.Kind,cS x1.1.Key,.d (.sl (List.map Attr.cs x1.1.Attrs)),.d (.sl (List.map Action.cs x1.1.Actions)),.d (.sl (List.map (eInt .i64) x1.1.Kids))]) ?_)))
 obtain ⟨x5,hx5,hr⟩:=bind_some hr
 refine OkOps.q (triCl (tau []) (.s (aB x5)) [] (fo_pressable_c _ hx5) rfl ⟨.inl rfl,trivial⟩ trivial entry81 trivial) (OkOps.y (aB x5) (OkOps.q (triQG (x:=.c (.loc 1 2)) rfl rfl trivial rfl) (OkOps.q (triQG (x:=aI x1.1.Kind) rfl rfl ⟨fun h=>h,trivial⟩ rfl) (OkOps.q (triQG (x:=aB (x1.1.Kind == 4)) rfl rfl ⟨fun h=>h,trivial⟩ rfl) ?_))))
 refine OkOps.q (triOr rfl rfl (fun h=>by rw [h];rfl) rfl) ?_
 refine OkOps.y (aB (x5 || (x1.1.Kind == 4))) (OkOps.q (triQG (x:=.c (.loc 1 2)) rfl rfl trivial rfl) (OkOps.q (triQG (x:=aI x1.1.Kind) rfl rfl ⟨fun h=>h,trivial⟩ rfl) (OkOps.q (triQG (x:=aB (x1.1.Kind == 13)) rfl rfl ⟨fun h=>h,trivial⟩ rfl) ?_)))
 refine OkOps.q (triOr rfl rfl (fun h=>by rw [h];rfl) rfl) ?_
 refine OkOps.y (aB ((x5 || (x1.1.Kind == 4)) || (x1.1.Kind == 13))) (OkOps.q (triQG (x:=.c (.loc 1 4)) rfl rfl trivial rfl) (OkOps.q (triQG (x:=.c (.d (.sl (List.map Attr.cs x1.1.Attrs)))) rfl rfl ⟨fun h=>h,trivial⟩ rfl) ?_))
 obtain ⟨x6,hx6,hr⟩:=bind_some hr
 refine OkOps.q (triCallG (x:=aB x6) (fun hg=>vw_Flag_c _ _ (gO_t hx6 hg)) rfl rfl ⟨.inl rfl,.inl rfl,trivial⟩ ⟨fun h=>h,trivial⟩ entry45 rfl rfl rfl) ?_
 refine OkOps.q (triOr rfl rfl (fun h=>by rw [h];rfl) rfl) ?_
 refine OkOps.y (aB (((x5 || (x1.1.Kind == 4)) || (x1.1.Kind == 13)) || x6)) (OkOps.nil (Ok.ret ?_))
 obtain rfl:=Option.some.inj hr
 exact ⟨_,rfl,.inl rfl,trivial⟩
theorem fo_Candidates_c (t : Tree) (st : (List Styled)) {r : (List Int)} (hr : fo_Candidates t st = some r) : Con Tryz.prog 43 [.agg [cI t.Root,cI t.Next,.d (.sl (List.map Node.cs t.Nodes))],.c (.d (.sl (List.map Styled.cs st)))] [] (.s (.c (.own 2000))) [(2000,.vec 1 (List.map (eInt .i64) r))]:=by
 unfold fo_Candidates at hr
 refine Con.of_ok 34 0 [.tmp 4] [(0,.s (.agg [cI t.Root,cI t.Next,.d (.sl (List.map Node.cs t.Nodes))])),(1,.s (.c (.d (.sl (List.map Styled.cs st)))))] Tryz.func43 rfl rfl rfl rfl rfl rfl rfl rfl fun w g M ρ _=>(Ok.seq (Ok.region (OkOps.m 0 (triBox (j:=0) (cs:=[cI t.Root,cI t.Next,.d (.sl (List.map Node.cs t.Nodes))]) rfl rfl rfl rfl rfl) (OkOps.y (.c (.d (.v (.slice none 0 0)))) (OkOps.nil (Ok.seq (Ok.region (OkOps.y (.agg [cI t.Root,cI t.Next,.d (.sl (List.map Node.cs t.Nodes))]) (OkOps.y (.c (.d (.sl (List.map Styled.cs st)))) ?_)))))))))
 obtain ⟨x1,hx1,hr⟩:=bind_some hr
 refine OkOps.q (triCl (tau []) (.s (.agg [.d (.sl (List.map (eInt .i64) x1.order)),.d (.mp true (encM (kInt .i64) Node.cs x1.nodes)),.d (.mp false (encM (kInt .i64) eBool x1.visible)),.d (.mp false (encM (kInt .i64) eBool x1.disabled))])) [] (fo_look_c _ _ hx1) rfl ⟨.inl rfl,.inl rfl,trivial⟩ trivial entry58 trivial) (OkOps.m 0 (triAlloc (j:=1) (cs:=[.d (.v (.slice none 0 0)),.d (.v (.map none)),.d (.v (.map none)),.d (.v (.map none))]) rfl rfl rfl rfl) (OkOps.w (triStore (cs':=[.d (.sl (List.map (eInt .i64) x1.order)),.d (.mp true (encM (kInt .i64) Node.cs x1.nodes)),.d (.mp false (encM (kInt .i64) eBool x1.visible)),.d (.mp false (encM (kInt .i64) eBool x1.disabled))]) rfl rfl rfl rfl rfl rfl rfl rfl rfl) (OkOps.nil (Ok.seq (Ok.seq (Ok.region (OkOps.y (.c (.loc 1 0)) (OkOps.y (.c (.d (.sl (List.map (eInt .i64) x1.order)))) (OkOps.q (triLen (enc:=(eInt .i64)) x1.order rfl rfl trivial rfl) (OkOps.y (aB ((x1.order.length : Int) == 0)) (OkOps.nil ?_)))))))))))
 refine Ok.cond (b:=(x1.order.length : Int) == 0) rfl (fun h2=>?_) (fun h2=>?_)
 have hr:=selT h2 hr
 refine Ok.seq (Ok.region (OkOps.y (.c (.d (.v (.slice none 0 0)))) (OkOps.nil (Ok.conv (Conv.nilV (enc:=(eInt .i64)) 4 2 1 0 rfl rfl) (Ok.conv (T:=⟨[(4,.s (.c (.own 2000)))],[(2000,.vec 1 (List.map (eInt .i64) ([] : (List Int))))],0⟩) (Conv.mk (tau [(2000,2)]) ⟨⟨_,rfl,.inl rfl⟩,trivial⟩ ⟨rfl,trivial⟩ rfl rfl rfl rfl) (Ok.ret ?_))))))
 obtain rfl:=Option.some.inj hr
 exact ⟨_,rfl,.inl rfl,⟨rfl,trivial⟩⟩
 have hr:=selF h2 hr
 refine Ok.skip (Ok.seq (Ok.region (OkOps.y (.c (.d (.v (.slice none 0 0)))) (OkOps.conv (Conv.nilV (enc:=(eInt .i64)) 6 3 1 0 rfl rfl) (OkOps.nil ?_)))))
 obtain ⟨k4,hk4,hr⟩:=jn_some hr
 refine Ok.join (fun (s3 : (List Int))=>⟨[(6,.s (.c (.own 1006)))],[(1006,.vec 1 (List.map (eInt .i64) s3))],0⟩) k4 r (fun s3 hr=>?_) ?_
 rw [hk4] at hr
 refine Ok.seq (Ok.region (OkOps.y (.c (.own 1006)) (OkOps.y (.c (.own 1006)) (OkOps.nil (Ok.conv (T:=⟨[(4,.s (.c (.own 2000)))],[(2000,.vec 1 (List.map (eInt .i64) s3))],0⟩) (Conv.mk (tau [(2000,1006)]) ⟨⟨_,rfl,.inl rfl⟩,trivial⟩ ⟨rfl,trivial⟩ rfl rfl rfl rfl) (Ok.ret ?_))))))
 obtain rfl:=Option.some.inj hr
 exact ⟨_,rfl,.inl rfl,⟨rfl,trivial⟩⟩
 clear hk4
 refine Ok.seq (Ok.regionD (by kernel_rfl) (OkD.x (.agg [.d (.sl (List.map (eInt .i64) x1.order)),.d (.mp true (encM (kInt .i64) Node.cs x1.nodes)),.d (.mp false (encM (kInt .i64) eBool x1.visible)),.d (.mp false (encM (kInt .i64) eBool x1.disabled))]) rfl trivial rfl (OkD.x (.agg [.d (.sl (List.map (eInt .i64) x1.order)),.d (.mp true (encM (kInt .i64) Node.cs x1.nodes)),.d (.mp false (encM (kInt .i64) eBool x1.visible)),.d (.mp false (encM (kInt .i64) eBool x1.disabled))]) rfl trivial rfl ?_)))
 obtain ⟨x5,hx5,hr⟩:=bind_some hr
 refine OkD.q (triCl (tau []) (.s (aI x5)) [] (fo_sight_scope_c _ hx5) rfl ⟨.inl rfl,trivial⟩ trivial entry59 trivial) ?_
 obtain ⟨x6,hx6,hr⟩:=bind_some hr
 refine OkD.q (triCl (tau []) (.s (.c (.d (.sl (List.map (eInt .i64) x6))))) [] (fo_sight_below_c _ _ _ hx6) rfl ⟨.inl rfl,.inl rfl,trivial⟩ trivial entry82 trivial) (OkD.q (triLen (enc:=(eInt .i64)) x6 rfl rfl trivial rfl) (OkD.x (aI 0) rfl trivial rfl (OkD.nil (by kernel_rfl) (Ok.block (Ok.loopK (fun (s7 : (List Int) × Int)=>⟨[(5,.s (.c (.loc 1 0))),(6,.s (.c (.own 1009))),(19,.s (.c (.d (.sl (List.map (eInt .i64) x6))))),(20,.s (aI (x6.length : Int))),(21,.s (aI s7.2))],[(1,.blk [.d (.sl (List.map (eInt .i64) x1.order)),.d (.mp true (encM (kInt .i64) Node.cs x1.nodes)),.d (.mp false (encM (kInt .i64) eBool x1.visible)),.d (.mp false (encM (kInt .i64) eBool x1.disabled))] 105),(1009,.vec 1 (List.map (eInt .i64) s7.1))],0⟩) hr (Conv.mk (tau [(1009,3)]) ⟨⟨_,rfl,.inl rfl⟩,⟨_,rfl,.inl rfl⟩,⟨_,rfl,.inl rfl⟩,⟨_,rfl,.inl rfl⟩,⟨_,rfl,.inl rfl⟩,trivial⟩ ⟨rfl,rfl,trivial⟩ rfl rfl rfl rfl) ?_)))))
 clear hr
 intro again8 s7 hr
 unfold fo_Candidates_L1 at hr
 refine Ok.seq (Ok.region (OkOps.y (aB (decide (s7.2 < (x6.length : Int)))) (OkOps.nil (Ok.seq ?_))))
 refine Ok.cond (b:=decide (s7.2 < (x6.length : Int))) rfl (fun h9=>?_) (fun h9=>?_)
 have hr:=selT h9 hr
 refine Ok.skip ?_
 obtain ⟨k11,hk11,hr⟩:=jn_some hr
 refine Ok.join (fun (s10 : (List Int))=>⟨[(5,.s (.c (.loc 1 0))),(6,.s (.c (.own 1012))),(19,.s (.c (.d (.sl (List.map (eInt .i64) x6))))),(20,.s (aI (x6.length : Int))),(21,.s (aI s7.2))],[(1,.blk [.d (.sl (List.map (eInt .i64) x1.order)),.d (.mp true (encM (kInt .i64) Node.cs x1.nodes)),.d (.mp false (encM (kInt .i64) eBool x1.visible)),.d (.mp false (encM (kInt .i64) eBool x1.disabled))] 105),(1012,.vec 1 (List.map (eInt .i64) s10))],0⟩) k11 r (fun s10 hr=>?_) ?_
 rw [hk11] at hr
 refine Ok.region (OkOps.y (aI (IntKind.i64.wrap (s7.2 + 1))) (OkOps.y (aI (IntKind.i64.wrap (s7.2 + 1))) (OkOps.nil ?_)))
 exact ⟨(s10,IntKind.i64.wrap (s7.2 + 1)),hr,(Conv.mk (tau [(1009,1012)]) ⟨⟨_,rfl,.inl rfl⟩,⟨_,rfl,.inl rfl⟩,⟨_,rfl,.inl rfl⟩,⟨_,rfl,.inl rfl⟩,⟨_,rfl,.inl rfl⟩,trivial⟩ ⟨rfl,rfl,trivial⟩ rfl rfl rfl rfl)⟩
 clear hk11
 refine Ok.block (Ok.seq (Ok.region ?_))
 obtain ⟨x12,hx12,hr⟩:=bind_some hr
 refine OkOps.q (triIdx (enc:=(eInt .i64)) (L:=x6) (row:=[dI x12]) hx12 rfl rfl rfl rfl (fun _=>rfl) trivial rfl) (OkOps.y (aI x12) (OkOps.y (aI x12) (OkOps.nil (Ok.seq (Ok.region (OkOps.y (.agg [.d (.sl (List.map (eInt .i64) x1.order)),.d (.mp true (encM (kInt .i64) Node.cs x1.nodes)),.d (.mp false (encM (kInt .i64) eBool x1.visible)),.d (.mp false (encM (kInt .i64) eBool x1.disabled))]) (OkOps.y (aI x12) ?_)))))))
 obtain ⟨x13,hx13,hr⟩:=bind_some hr
 refine OkOps.q (triCl (tau []) (.s (aB x13)) [] (fo_sight_focusable_c _ _ hx13) rfl ⟨.inl rfl,.inl rfl,trivial⟩ trivial entry83 trivial) (OkOps.nil ?_)
 refine Ok.cond (b:=x13) rfl (fun h14=>?_) (fun h14=>?_)
 have hr:=selT h14 hr
 refine Ok.region (OkOps.y (.c (.own 1009)) (OkOps.y (aI x12) (OkOps.m 0 (triBST (sz:=1) (enc:=(eInt .i64)) (j:=4) ([x12]) rfl rfl rfl rfl rfl rfl rfl rfl (fun _=>rfl) trivial rfl rfl) ?_)))
 obtain ⟨x15,hx15,hr⟩:=bind_some hr
 refine OkOps.m2 0 (triAppV (enc:=(eInt .i64)) (L:=s7.1) (X:=[x12]) (j:=1009) (j':=5) hx15 rfl rfl rfl rfl rfl rfl (fun _=>rfl) (fun _=>rfl) trivial rfl rfl) (OkOps.y (.c (.own 5)) (OkOps.nil ?_))
 exact ⟨x15,hr,(Conv.mk (tau [(1012,5)]) ⟨⟨_,rfl,.inl rfl⟩,⟨_,rfl,.inl rfl⟩,⟨_,rfl,.inl rfl⟩,⟨_,rfl,.inl rfl⟩,⟨_,rfl,.inl rfl⟩,trivial⟩ ⟨rfl,rfl,trivial⟩ rfl rfl rfl rfl)⟩
 have hr:=selF h14 hr
 refine Ok.skip ?_
 exact ⟨s7.1,hr,(Conv.mk (tau [(1012,1009)]) ⟨⟨_,rfl,.inl rfl⟩,⟨_,rfl,.inl rfl⟩,⟨_,rfl,.inl rfl⟩,⟨_,rfl,.inl rfl⟩,⟨_,rfl,.inl rfl⟩,trivial⟩ ⟨rfl,rfl,trivial⟩ rfl rfl rfl rfl)⟩
 have hr:=selF h9 hr
 refine Ok.exit ?_
 exact ⟨s7.1,hr,(Conv.mk (tau [(1006,1009)]) ⟨⟨_,rfl,.inl rfl⟩,trivial⟩ ⟨rfl,trivial⟩ rfl rfl rfl rfl)⟩
theorem fo_Scope_c (t : Tree) (st : (List Styled)) {r : Int} (hr : fo_Scope t st = some r) : Con Tryz.prog 18 [.agg [cI t.Root,cI t.Next,.d (.sl (List.map Node.cs t.Nodes))],.c (.d (.sl (List.map Styled.cs st)))] [] (.s (aI r)) []:=by
 unfold fo_Scope at hr
 refine Con.of_ok 9 0 [.tmp 4] [(0,.s (.agg [cI t.Root,cI t.Next,.d (.sl (List.map Node.cs t.Nodes))])),(1,.s (.c (.d (.sl (List.map Styled.cs st)))))] Tryz.func18 rfl rfl rfl rfl rfl rfl rfl rfl fun w g M ρ _=>(Ok.seq (Ok.region (OkOps.m 0 (triBox (j:=0) (cs:=[cI t.Root,cI t.Next,.d (.sl (List.map Node.cs t.Nodes))]) rfl rfl rfl rfl rfl) (OkOps.y (aI 0) (OkOps.nil (Ok.seq (Ok.region (OkOps.y (.agg [cI t.Root,cI t.Next,.d (.sl (List.map Node.cs t.Nodes))]) (OkOps.y (.c (.d (.sl (List.map Styled.cs st)))) ?_)))))))))
 obtain ⟨x1,hx1,hr⟩:=bind_some hr
 refine OkOps.q (triCl (tau []) (.s (.agg [.d (.sl (List.map (eInt .i64) x1.order)),.d (.mp true (encM (kInt .i64) Node.cs x1.nodes)),.d (.mp false (encM (kInt .i64) eBool x1.visible)),.d (.mp false (encM (kInt .i64) eBool x1.disabled))])) [] (fo_look_c _ _ hx1) rfl ⟨.inl rfl,.inl rfl,trivial⟩ trivial entry58 trivial) ?_
 obtain ⟨x2,hx2,hr⟩:=bind_some hr
 refine OkOps.q (triCl (tau []) (.s (aI x2)) [] (fo_sight_scope_c _ hx2) rfl ⟨.inl rfl,trivial⟩ trivial entry59 trivial) (OkOps.y (aI x2) (OkOps.nil (Ok.ret ?_)))
 obtain rfl:=Option.some.inj hr
 exact ⟨_,rfl,.inl rfl,trivial⟩
end Go.Proofs.YtfoigppmcelgfaaGreatDoor
end
section
set_option maxRecDepth 100000
namespace Go.Proofs.YtfoigppmcelgfaaGreatDoor
open Go Go.E2
end Go.Proofs.YtfoigppmcelgfaaGreatDoor
end
section
set_option maxRecDepth 100000
namespace Go.Proofs.YtfoigppmcelgfaaGreatDoor
open Go Go.E2
theorem slices_Index_Sl_int_int_c (p_s : (List Int)) (v : Int) {r : Int} (hr : slices_Index_Sl_int_int p_s v = some r) : Con Tryz.prog 67 [.c (.d (.sl (List.map (eInt .i64) p_s))),aI v] [] (.s (aI r)) []:=by
 unfold slices_Index_Sl_int_int at hr
 refine Con.of_ok 19 0 [.tmp 4] [(0,.s (.c (.d (.sl (List.map (eInt .i64) p_s))))),(1,.s (aI v))] Tryz.func67 rfl rfl rfl rfl rfl rfl rfl rfl fun w g M ρ _=>(Ok.seq (Ok.region (OkOps.y (aI 0) (OkOps.nil ?_))))
 obtain ⟨k2,hk2,hr⟩:=jn_some hr
 refine Ok.join (fun (s1 : Unit)=>⟨[],[],0⟩) k2 r (fun s1 hr=>?_) ?_
 rw [hk2] at hr
 refine Ok.seq (Ok.region (OkOps.y (aI (-1)) (OkOps.nil (Ok.ret ?_))))
 obtain rfl:=Option.some.inj hr
 exact ⟨_,rfl,.inl rfl,trivial⟩
 clear hk2
 refine Ok.seq (Ok.region (OkOps.y (.c (.d (.sl (List.map (eInt .i64) p_s)))) (OkOps.q (triLen (enc:=(eInt .i64)) p_s rfl rfl trivial rfl) (OkOps.y (aI 0) (OkOps.nil (Ok.block (Ok.loopK (fun (s3 : Int)=>⟨[(0,.s (.c (.d (.sl (List.map (eInt .i64) p_s))))),(1,.s (aI v)),(7,.s (aI (p_s.length : Int))),(8,.s (aI s3))],[],0⟩) hr (Conv.mk (tau []) ⟨⟨_,rfl,.inl rfl⟩,⟨_,rfl,.inl rfl⟩,⟨_,rfl,.inl rfl⟩,⟨_,rfl,.inl rfl⟩,trivial⟩ trivial rfl rfl rfl rfl) ?_)))))))
 clear hr
 intro again4 s3 hr
 unfold slices_Index_Sl_int_int_L1 at hr
 refine Ok.seq (Ok.region (OkOps.y (aB (decide (s3 < (p_s.length : Int)))) (OkOps.nil (Ok.seq ?_))))
 refine Ok.cond (b:=decide (s3 < (p_s.length : Int))) rfl (fun h5=>?_) (fun h5=>?_)
 have hr:=selT h5 hr
 refine Ok.skip (Ok.seq (Ok.block (Ok.seq (Ok.region (OkOps.y (aI s3) (OkOps.y (aI s3) (OkOps.nil (Ok.seq (Ok.region (OkOps.y (aI v) (OkOps.y (.c (.d (.sl (List.map (eInt .i64) p_s)))) (OkOps.y (aI s3) ?_))))))))))))
 obtain ⟨x6,hx6,hr⟩:=bind_some hr
 refine OkOps.q (triIdx (enc:=(eInt .i64)) (L:=p_s) (row:=[dI x6]) hx6 rfl rfl rfl rfl (fun _=>rfl) trivial rfl) (OkOps.y (aI x6) (OkOps.y (aB (v == x6)) (OkOps.nil ?_)))
 refine Ok.cond (b:=v == x6) rfl (fun h7=>?_) (fun h7=>?_)
 have hr:=selT h7 hr
 refine Ok.seq (Ok.region (OkOps.y (aI s3) (OkOps.y (aI s3) (OkOps.nil (Ok.ret ?_)))))
 obtain rfl:=Option.some.inj hr
 exact ⟨_,rfl,.inl rfl,trivial⟩
 have hr:=selF h7 hr
 refine Ok.skip (Ok.region (OkOps.y (aI (IntKind.i64.wrap (s3 + 1))) (OkOps.y (aI (IntKind.i64.wrap (s3 + 1))) (OkOps.nil ?_))))
 exact ⟨IntKind.i64.wrap (s3 + 1),hr,(Conv.mk (tau []) ⟨⟨_,rfl,.inl rfl⟩,⟨_,rfl,.inl rfl⟩,⟨_,rfl,.inl rfl⟩,⟨_,rfl,.inl rfl⟩,trivial⟩ trivial rfl rfl rfl rfl)⟩
 have hr:=selF h5 hr
 refine Ok.exit ?_
 exact ⟨(),hr,(Conv.mk (tau []) trivial trivial rfl rfl rfl rfl)⟩
theorem slices_Contains_Sl_int_int_c (p_s : (List Int)) (v : Int) {r : Bool} (hr : slices_Contains_Sl_int_int p_s v = some r) : Con Tryz.prog 39 [.c (.d (.sl (List.map (eInt .i64) p_s))),aI v] [] (.s (aB r)) []:=by
 unfold slices_Contains_Sl_int_int at hr
 refine Con.of_ok 9 0 [.tmp 4] [(0,.s (.c (.d (.sl (List.map (eInt .i64) p_s))))),(1,.s (aI v))] Tryz.func39 rfl rfl rfl rfl rfl rfl rfl rfl fun w g M ρ _=>(Ok.seq (Ok.region (OkOps.y (aB false) (OkOps.nil (Ok.seq (Ok.region (OkOps.y (.c (.d (.sl (List.map (eInt .i64) p_s)))) (OkOps.y (aI v) ?_))))))))
 obtain ⟨x1,hx1,hr⟩:=bind_some hr
 refine OkOps.q (triCl (tau []) (.s (aI x1)) [] (slices_Index_Sl_int_int_c _ _ hx1) rfl ⟨.inl rfl,.inl rfl,trivial⟩ trivial entry67 trivial) (OkOps.y (aB (decide (x1 ≥ 0))) (OkOps.y (aB (decide (x1 ≥ 0))) (OkOps.nil (Ok.ret ?_))))
 obtain rfl:=Option.some.inj hr
 exact ⟨_,rfl,.inl rfl,trivial⟩
end Go.Proofs.YtfoigppmcelgfaaGreatDoor
end
section
set_option maxRecDepth 100000
namespace Go.Proofs.YtfoigppmcelgfaaGreatDoor
open Go Go.E2
theorem dp_steps_c (t : Tree) (id : Int) {r : (List dispatch_step)} (hr : dp_steps t id = some r) : Con Tryz.prog 77 [.agg [cI t.Root,cI t.Next,.d (.sl (List.map Node.cs t.Nodes))],aI id] [] (.s (.c (.d (.sl (List.map dispatch_step.cs r))))) []:=by
 unfold dp_steps at hr
 refine Con.of_ok 39 0 [.tmp 4] [(0,.s (.agg [cI t.Root,cI t.Next,.d (.sl (List.map Node.cs t.Nodes))])),(1,.s (aI id))] Tryz.func77 rfl rfl rfl rfl rfl rfl rfl rfl fun w g M ρ _=>(Ok.seq (Ok.region (OkOps.m 0 (triBox (j:=0) (cs:=[cI t.Root,cI t.Next,.d (.sl (List.map Node.cs t.Nodes))]) rfl rfl rfl rfl rfl) (OkOps.y (.c (.d (.v (.slice none 0 0)))) (OkOps.nil (Ok.seq (Ok.region (OkOps.y (.c (.d (.v (.slice none 0 0)))) (OkOps.nil (Ok.seq (Ok.region (OkOps.y (aB false) (OkOps.nil ?_)))))))))))))
 obtain ⟨k2,hk2,hr⟩:=jn_some hr
 refine Ok.join (fun (s1 : (List dispatch_step))=>⟨[(5,.s (.c (.tl 1004 (List.map dispatch_step.cs s1))))],[(1004,.tail 8)],0⟩) k2 r (fun s1 hr=>?_) ?_
 rw [hk2] at hr
 refine Ok.seq (Ok.region (OkOps.y (.c (.tl 1004 (List.map dispatch_step.cs s1))) (OkOps.y (.c (.tl 1004 (List.map dispatch_step.cs s1))) (OkOps.nil (Ok.ret ?_)))))
 obtain rfl:=Option.some.inj hr
 exact ⟨_,rfl,.inr rfl,trivial⟩
 clear hk2
 refine Ok.seq (Ok.region (OkOps.y (.agg [cI t.Root,cI t.Next,.d (.sl (List.map Node.cs t.Nodes))]) (OkOps.y (aI id) ?_)))
 obtain ⟨x3,hx3,hr⟩:=bind_some hr
 refine OkOps.q (triCl (tau []) (.s (.c (.d (.sl (List.map (eInt .i64) x3))))) [] (vw_Path_c _ _ hx3) rfl ⟨.inl rfl,.inl rfl,trivial⟩ trivial entry40 trivial) (OkOps.q (triLen (enc:=(eInt .i64)) x3 rfl rfl trivial rfl) (OkOps.y (aI 0) (OkOps.nil (Ok.block (Ok.loopK (fun (s4 : (List dispatch_step) × Bool × Int)=>⟨[(2,.s (.c (.loc 0 0))),(5,.s (.c (.tl 1007 (List.map dispatch_step.cs s4.1)))),(6,.s (aB s4.2.1)),(13,.s (.c (.d (.sl (List.map (eInt .i64) x3))))),(14,.s (aI (x3.length : Int))),(15,.s (aI s4.2.2))],[(0,.blk [cI t.Root,cI t.Next,.d (.sl (List.map Node.cs t.Nodes))] 30),(1007,.tail 8)],0⟩) hr (Conv.trans (Conv.nil 5 1009 8 0 rfl rfl) (Conv.mk (tau [(1007,1009)]) ⟨⟨_,rfl,.inl rfl⟩,⟨_,rfl,.inl rfl⟩,⟨_,rfl,.inl rfl⟩,⟨_,rfl,.inl rfl⟩,⟨_,rfl,.inl rfl⟩,⟨_,rfl,.inl rfl⟩,trivial⟩ ⟨rfl,rfl,trivial⟩ rfl rfl rfl rfl)) ?_)))))
 clear hr
 intro again5 s4 hr
 unfold dp_steps_L1 at hr
 refine Ok.seq (Ok.region (OkOps.y (aB (decide (s4.2.2 < (x3.length : Int)))) (OkOps.nil (Ok.seq ?_))))
 refine Ok.cond (b:=decide (s4.2.2 < (x3.length : Int))) rfl (fun h6=>?_) (fun h6=>?_)
 have hr:=selT h6 hr
 refine Ok.skip (Ok.seq (Ok.block (Ok.seq (Ok.region ?_))))
 obtain ⟨x7,hx7,hr⟩:=bind_some hr
 refine OkOps.q (triIdx (enc:=(eInt .i64)) (L:=x3) (row:=[dI x7]) hx7 rfl rfl rfl rfl (fun _=>rfl) trivial rfl) (OkOps.y (aI x7) (OkOps.y (aI x7) (OkOps.nil (Ok.seq (Ok.region (OkOps.y (.agg [cI t.Root,cI t.Next,.d (.sl (List.map Node.cs t.Nodes))]) (OkOps.y (aI x7) ?_)))))))
 obtain ⟨x8,hx8,hr⟩:=bind_some hr
 refine OkOps.q (triCl (tau []) (.tup [.agg [cI x8.1.ID,cI x8.1.Parent,cI x8.1.Kind,cS x8.1.Key,.d (.sl (List.map Attr.cs x8.1.Attrs)),.d (.sl (List.map Action.cs x8.1.Actions)),.d (.sl (List.map (eInt .i64) x8.1.Kids))],aB x8.2]) [] (vw_Find_c _ _ hx8) rfl ⟨.inl rfl,.inl rfl,trivial⟩ trivial entry36 trivial) (OkOps.q (triMv (v:=.tup [.agg [cI x8.1.ID,cI x8.1.Parent,cI x8.1.Kind,cS x8.1.Key,.d (.sl (List.map Attr.cs x8.1.Attrs)),.d (.sl (List.map Action.cs x8.1.Actions)),.d (.sl (List.map (eInt .i64) x8.1.Kids))],aB x8.2]) rfl rfl) (OkOps.y (.agg [cI x8.1.ID,cI x8.1.Parent,cI x8.1.Kind,cS x8.1.Key,.d (.sl (List.map Attr.cs x8.1.Attrs)),.d (.sl (List.map Action.cs x8.1.Actions)),.d (.sl (List.map (eInt .i64) x8.1.Kids))]) (OkOps.y (aB x8.2) (OkOps.m 0 (triAlloc (j:=1) (cs:=[cI 0,cI 0,cI 0,cS ByteArray.empty,.d (.v (.slice none 0 0)),.d (.v (.slice none 0 0)),.d (.v (.slice none 0 0))]) rfl rfl rfl rfl) (OkOps.w (triStore (cs':=[cI x8.1.ID,cI x8.1.Parent,cI x8.1.Kind,cS x8.1.Key,.d (.sl (List.map Attr.cs x8.1.Attrs)),.d (.sl (List.map Action.cs x8.1.Actions)),.d (.sl (List.map (eInt .i64) x8.1.Kids))]) rfl rfl rfl rfl rfl rfl rfl rfl rfl) (OkOps.y (aB x8.2) (OkOps.nil (Ok.seq (Ok.region (OkOps.y (aB s4.2.1) (OkOps.y (aB s4.2.1) (OkOps.q (triQG (x:=.c (.loc 1 4)) rfl rfl trivial rfl) (OkOps.q (triQG (x:=.c (.d (.sl (List.map Attr.cs x8.1.Attrs)))) rfl rfl ⟨fun h=>h,trivial⟩ rfl) ?_)))))))))))))
 obtain ⟨x9,hx9,hr⟩:=bind_some hr
 refine OkOps.q (triCallG (x:=aB x9) (fun hg=>vw_Flag_c _ _ (gO_t hx9 hg)) rfl rfl ⟨.inl rfl,.inl rfl,trivial⟩ ⟨fun h=>h,trivial⟩ entry45 rfl rfl rfl) ?_
 refine OkOps.q (triOr rfl rfl (fun h=>by rw [h];rfl) rfl) ?_
 refine OkOps.y (aB (s4.2.1 || x9)) (OkOps.nil (Ok.region (OkOps.y (.c (.tl 1007 (List.map dispatch_step.cs s4.1))) (OkOps.y (.agg [cI x8.1.ID,cI x8.1.Parent,cI x8.1.Kind,cS x8.1.Key,.d (.sl (List.map Attr.cs x8.1.Attrs)),.d (.sl (List.map Action.cs x8.1.Actions)),.d (.sl (List.map (eInt .i64) x8.1.Kids))]) (OkOps.y (aB (s4.2.1 || x9)) (OkOps.y (.agg [cI x8.1.ID,cI x8.1.Parent,cI x8.1.Kind,cS x8.1.Key,.d (.sl (List.map Attr.cs x8.1.Attrs)),.d (.sl (List.map Action.cs x8.1.Actions)),.d (.sl (List.map (eInt .i64) x8.1.Kids)),cB_ (s4.2.1 || x9)]) (OkOps.m 0 (triBST (sz:=8) (enc:=dispatch_step.cs) (j:=2) ([(dispatch_step.mk x8.1 (s4.2.1 || x9))]) rfl rfl rfl rfl rfl rfl rfl rfl (fun _=>rfl) trivial rfl rfl) ?_)))))))
 obtain ⟨x10,hx10,hr⟩:=bind_some hr
 refine OkOps.m2 0 (triApp (enc:=dispatch_step.cs) (L:=s4.1) (X:=[(dispatch_step.mk x8.1 (s4.2.1 || x9))]) (j:=1007) (j':=3) hx10 rfl rfl rfl rfl rfl rfl (fun _=>rfl) (fun _=>rfl) (by decide) trivial rfl rfl) (OkOps.y (.c (.tl 3 (List.map dispatch_step.cs x10))) (OkOps.nil (Ok.region (OkOps.y (aI (IntKind.i64.wrap (s4.2.2 + 1))) (OkOps.y (aI (IntKind.i64.wrap (s4.2.2 + 1))) (OkOps.nil ?_))))))
 exact ⟨(x10,s4.2.1 || x9,IntKind.i64.wrap (s4.2.2 + 1)),hr,(Conv.mk (tau [(1007,3)]) ⟨⟨_,rfl,.inl rfl⟩,⟨_,rfl,.inl rfl⟩,⟨_,rfl,.inl rfl⟩,⟨_,rfl,.inl rfl⟩,⟨_,rfl,.inl rfl⟩,⟨_,rfl,.inl rfl⟩,trivial⟩ ⟨rfl,rfl,trivial⟩ rfl rfl rfl rfl)⟩
 have hr:=selF h6 hr
 refine Ok.exit ?_
 exact ⟨s4.1,hr,(Conv.mk (tau [(1004,1007)]) ⟨⟨_,rfl,.inl rfl⟩,trivial⟩ ⟨rfl,trivial⟩ rfl rfl rfl rfl)⟩
theorem dp_Disabled_c (t : Tree) (id : Int) {r : Bool} (hr : dp_Disabled t id = some r) : Con Tryz.prog 37 [.agg [cI t.Root,cI t.Next,.d (.sl (List.map Node.cs t.Nodes))],aI id] [] (.s (aB r)) []:=by
 unfold dp_Disabled at hr
 refine Con.of_ok 21 0 [.tmp 4] [(0,.s (.agg [cI t.Root,cI t.Next,.d (.sl (List.map Node.cs t.Nodes))])),(1,.s (aI id))] Tryz.func37 rfl rfl rfl rfl rfl rfl rfl rfl fun w g M ρ _=>(Ok.seq (Ok.region (OkOps.m 0 (triBox (j:=0) (cs:=[cI t.Root,cI t.Next,.d (.sl (List.map Node.cs t.Nodes))]) rfl rfl rfl rfl rfl) (OkOps.y (aB false) (OkOps.nil (Ok.seq (Ok.region (OkOps.y (.agg [cI t.Root,cI t.Next,.d (.sl (List.map Node.cs t.Nodes))]) (OkOps.y (aI id) ?_)))))))))
 obtain ⟨x1,hx1,hr⟩:=bind_some hr
 refine OkOps.q (triCl (tau []) (.s (.c (.d (.sl (List.map dispatch_step.cs x1))))) [] (dp_steps_c _ _ hx1) rfl ⟨.inl rfl,.inl rfl,trivial⟩ trivial entry77 trivial) (OkOps.y (.c (.d (.sl (List.map dispatch_step.cs x1)))) (OkOps.nil (Ok.seq (Ok.region (OkOps.y (.c (.d (.sl (List.map dispatch_step.cs x1)))) (OkOps.q (triLen (enc:=dispatch_step.cs) x1 rfl rfl trivial rfl) (OkOps.y (aB (decide ((x1.length : Int) > 0))) (OkOps.y (aB (decide ((x1.length : Int) > 0))) (OkOps.q (triQG (x:=.c (.d (.sl (List.map dispatch_step.cs x1)))) rfl rfl trivial rfl) (OkOps.q (triQG (x:=.c (.d (.sl (List.map dispatch_step.cs x1)))) rfl rfl trivial rfl) (OkOps.q (triLenG (enc:=dispatch_step.cs) x1 rfl rfl rfl ⟨fun h=>h,trivial⟩ rfl) (OkOps.q (triQG (x:=aI (IntKind.i64.wrap ((x1.length : Int) - 1))) rfl rfl ⟨fun h=>h,trivial⟩ rfl) ?_))))))))))))
 obtain ⟨x2,hx2,hr⟩:=bind_some hr
 refine OkOps.q (triIdxG (enc:=dispatch_step.cs) (L:=x1) (row:=[dI x2.node.ID,dI x2.node.Parent,dI x2.node.Kind,dS x2.node.Key,.sl (List.map Attr.cs x2.node.Attrs),.sl (List.map Action.cs x2.node.Actions),.sl (List.map (eInt .i64) x2.node.Kids),dB x2.disabled]) (gO_t hx2) rfl rfl rfl rfl rfl (fun _=>rfl) ⟨fun h=>h,⟨fun h=>h,trivial⟩⟩ rfl) (OkOps.q (triQG (x:=.c (.pt [dB x2.disabled])) rfl rfl ⟨fun h=>h,trivial⟩ rfl) (OkOps.q (triQG (x:=aB x2.disabled) rfl rfl ⟨fun h=>h,trivial⟩ rfl) (OkOps.q (triAnd rfl rfl (fun h=>h) rfl) (OkOps.y (aB ((decide ((x1.length : Int) > 0)) && x2.disabled)) (OkOps.nil (Ok.ret ?_))))))
 obtain rfl:=Option.some.inj hr
 exact ⟨_,rfl,.inl rfl,trivial⟩
end Go.Proofs.YtfoigppmcelgfaaGreatDoor
end
section
set_option maxRecDepth 100000
namespace Go.Proofs.YtfoigppmcelgfaaGreatDoor
open Go Go.E2
theorem ht_Shown_c (t : Tree) (st : (List Styled)) (id : Int) {r : Bool} (hr : ht_Shown t st id = some r) : Con Tryz.prog 38 [.agg [cI t.Root,cI t.Next,.d (.sl (List.map Node.cs t.Nodes))],.c (.d (.sl (List.map Styled.cs st))),aI id] [] (.s (aB r)) []:=by
 unfold ht_Shown at hr
 refine Con.of_ok 30 0 [.tmp 6] [(0,.s (.agg [cI t.Root,cI t.Next,.d (.sl (List.map Node.cs t.Nodes))])),(1,.s (.c (.d (.sl (List.map Styled.cs st))))),(2,.s (aI id))] Tryz.func38 rfl rfl rfl rfl rfl rfl rfl rfl fun w g M ρ _=>(Ok.seq (Ok.region (OkOps.m 0 (triBox (j:=0) (cs:=[cI t.Root,cI t.Next,.d (.sl (List.map Node.cs t.Nodes))]) rfl rfl rfl rfl rfl) (OkOps.y (aB false) (OkOps.nil (Ok.seq (Ok.seq (Ok.region (OkOps.y (.agg [cI t.Root,cI t.Next,.d (.sl (List.map Node.cs t.Nodes))]) (OkOps.y (.c (.d (.sl (List.map Styled.cs st)))) ?_))))))))))
 obtain ⟨x1,hx1,hr⟩:=bind_some hr
 refine OkOps.q (triCl (tau []) (.s (.c (.d (.sl (List.map (eInt .i64) x1))))) [] (widgetry_layout_Shown_c _ _ hx1) rfl ⟨.inl rfl,.inl rfl,trivial⟩ trivial entry78 trivial) (OkOps.y (aI id) ?_)
 obtain ⟨x2,hx2,hr⟩:=bind_some hr
 refine OkOps.q (triCl (tau []) (.s (aB x2)) [] (slices_Contains_Sl_int_int_c _ _ hx2) rfl ⟨.inl rfl,.inl rfl,trivial⟩ trivial entry39 trivial) (OkOps.y (aB (!x2)) (OkOps.nil ?_))
 refine Ok.cond (b:=!x2) rfl (fun h3=>?_) (fun h3=>?_)
 have hr:=selT h3 hr
 refine Ok.seq (Ok.region (OkOps.y (aB false) (OkOps.nil (Ok.ret ?_))))
 obtain rfl:=Option.some.inj hr
 exact ⟨_,rfl,.inl rfl,trivial⟩
 have hr:=selF h3 hr
 refine Ok.skip ?_
 obtain ⟨k5,hk5,hr⟩:=jn_some hr
 refine Ok.join (fun (s4 : Unit)=>⟨[],[],0⟩) k5 r (fun s4 hr=>?_) ?_
 rw [hk5] at hr
 refine Ok.seq (Ok.region (OkOps.y (aB false) (OkOps.nil (Ok.ret ?_))))
 obtain rfl:=Option.some.inj hr
 exact ⟨_,rfl,.inl rfl,trivial⟩
 clear hk5
 refine Ok.seq (Ok.region (OkOps.y (.c (.d (.sl (List.map Styled.cs st)))) (OkOps.q (triLen (enc:=Styled.cs) st rfl rfl trivial rfl) (OkOps.y (aI 0) (OkOps.nil (Ok.block (Ok.loopK (fun (s6 : Int)=>⟨[(2,.s (aI id)),(15,.s (.c (.d (.sl (List.map Styled.cs st))))),(16,.s (aI (st.length : Int))),(17,.s (aI s6))],[],0⟩) hr (Conv.mk (tau []) ⟨⟨_,rfl,.inl rfl⟩,⟨_,rfl,.inl rfl⟩,⟨_,rfl,.inl rfl⟩,⟨_,rfl,.inl rfl⟩,trivial⟩ trivial rfl rfl rfl rfl) ?_)))))))
 clear hr
 intro again7 s6 hr
 unfold ht_Shown_L1 at hr
 refine Ok.seq (Ok.region (OkOps.y (aB (decide (s6 < (st.length : Int)))) (OkOps.nil (Ok.seq ?_))))
 refine Ok.cond (b:=decide (s6 < (st.length : Int))) rfl (fun h8=>?_) (fun h8=>?_)
 have hr:=selT h8 hr
 refine Ok.skip (Ok.seq (Ok.block (Ok.seq (Ok.region ?_))))
 obtain ⟨x9,hx9,hr⟩:=bind_some hr
 refine OkOps.q (triIdx (enc:=Styled.cs) (L:=st) (row:=[dI x9.ID,dI (x9.Style 0),dI (x9.Style 1),dI (x9.Style 2),dI (x9.Style 3),dI (x9.Style 4),dI (x9.Style 5),dI (x9.Style 6),dI (x9.Style 7),dI (x9.Style 8),dI (x9.Style 9),dI (x9.Style 10),dI (x9.Style 11),dI (x9.Style 12),dI (x9.Style 13),dI (x9.Style 14),dI (x9.Style 15),dI (x9.Style 16),dI (x9.Style 17),dI (x9.Style 18),dI (x9.Style 19),dI (x9.Style 20),dI (x9.Style 21)]) hx9 rfl rfl rfl rfl (fun _=>rfl) trivial rfl) (OkOps.y (.agg [cI x9.ID,cI (x9.Style 0),cI (x9.Style 1),cI (x9.Style 2),cI (x9.Style 3),cI (x9.Style 4),cI (x9.Style 5),cI (x9.Style 6),cI (x9.Style 7),cI (x9.Style 8),cI (x9.Style 9),cI (x9.Style 10),cI (x9.Style 11),cI (x9.Style 12),cI (x9.Style 13),cI (x9.Style 14),cI (x9.Style 15),cI (x9.Style 16),cI (x9.Style 17),cI (x9.Style 18),cI (x9.Style 19),cI (x9.Style 20),cI (x9.Style 21)]) (OkOps.m 0 (triAlloc (j:=1) (cs:=[cI 0,cI 0,cI 0,cI 0,cI 0,cI 0,cI 0,cI 0,cI 0,cI 0,cI 0,cI 0,cI 0,cI 0,cI 0,cI 0,cI 0,cI 0,cI 0,cI 0,cI 0,cI 0,cI 0]) rfl rfl rfl rfl) (OkOps.w (triStore (cs':=[cI x9.ID,cI (x9.Style 0),cI (x9.Style 1),cI (x9.Style 2),cI (x9.Style 3),cI (x9.Style 4),cI (x9.Style 5),cI (x9.Style 6),cI (x9.Style 7),cI (x9.Style 8),cI (x9.Style 9),cI (x9.Style 10),cI (x9.Style 11),cI (x9.Style 12),cI (x9.Style 13),cI (x9.Style 14),cI (x9.Style 15),cI (x9.Style 16),cI (x9.Style 17),cI (x9.Style 18),cI (x9.Style 19),cI (x9.Style 20),cI (x9.Style 21)]) rfl rfl rfl rfl rfl rfl rfl rfl (by kernel_rfl)) (OkOps.nil (Ok.seq (Ok.region (OkOps.y (.c (.loc 1 0)) (OkOps.y (aI x9.ID) (OkOps.y (aI id) (OkOps.y (aB (x9.ID == id)) (OkOps.nil ?_)))))))))))
 refine Ok.cond (b:=x9.ID == id) rfl (fun h10=>?_) (fun h10=>?_)
 have hr:=selT h10 hr
 refine Ok.seq (Ok.region (OkOps.y (.c (.loc 1 1)) (OkOps.y (.c (.loc 1 22)) (OkOps.y (aI (x9.Style 21)) (OkOps.y (aB ((x9.Style 21) == 0)) (OkOps.y (aB ((x9.Style 21) == 0)) (OkOps.nil (Ok.ret ?_))))))))
 obtain rfl:=Option.some.inj hr
 exact ⟨_,rfl,.inl rfl,trivial⟩
 have hr:=selF h10 hr
 refine Ok.skip (Ok.region (OkOps.y (aI (IntKind.i64.wrap (s6 + 1))) (OkOps.y (aI (IntKind.i64.wrap (s6 + 1))) (OkOps.nil ?_))))
 exact ⟨IntKind.i64.wrap (s6 + 1),hr,(Conv.mk (tau []) ⟨⟨_,rfl,.inl rfl⟩,⟨_,rfl,.inl rfl⟩,⟨_,rfl,.inl rfl⟩,⟨_,rfl,.inl rfl⟩,trivial⟩ trivial rfl rfl rfl rfl)⟩
 have hr:=selF h8 hr
 refine Ok.exit ?_
 exact ⟨(),hr,(Conv.mk (tau []) trivial trivial rfl rfl rfl rfl)⟩
theorem fo_Pressable_c (t : Tree) (id : Int) {r : Bool} (hr : fo_Pressable t id = some r) : Con Tryz.prog 42 [.agg [cI t.Root,cI t.Next,.d (.sl (List.map Node.cs t.Nodes))],aI id] [] (.s (aB r)) []:=by
 unfold fo_Pressable at hr
 refine Con.of_ok 18 0 [.tmp 4] [(0,.s (.agg [cI t.Root,cI t.Next,.d (.sl (List.map Node.cs t.Nodes))])),(1,.s (aI id))] Tryz.func42 rfl rfl rfl rfl rfl rfl rfl rfl fun w g M ρ _=>(Ok.seq (Ok.region (OkOps.m 0 (triBox (j:=0) (cs:=[cI t.Root,cI t.Next,.d (.sl (List.map Node.cs t.Nodes))]) rfl rfl rfl rfl rfl) (OkOps.y (aB false) (OkOps.nil (Ok.seq (Ok.region (OkOps.y (.agg [cI t.Root,cI t.Next,.d (.sl (List.map Node.cs t.Nodes))]) (OkOps.y (aI id) ?_)))))))))
 obtain ⟨x1,hx1,hr⟩:=bind_some hr
 refine OkOps.q (triCl (tau []) (.tup [.agg [cI x1.1.ID,cI x1.1.Parent,cI x1.1.Kind,cS x1.1.Key,.d (.sl (List.map Attr.cs x1.1.Attrs)),.d (.sl (List.map Action.cs x1.1.Actions)),.d (.sl (List.map (eInt .i64) x1.1.Kids))],aB x1.2]) [] (vw_Find_c _ _ hx1) rfl ⟨.inl rfl,.inl rfl,trivial⟩ trivial entry36 trivial) (OkOps.q (triMv (v:=.tup [.agg [cI x1.1.ID,cI x1.1.Parent,cI x1.1.Kind,cS x1.1.Key,.d (.sl (List.map Attr.cs x1.1.Attrs)),.d (.sl (List.map Action.cs x1.1.Actions)),.d (.sl (List.map (eInt .i64) x1.1.Kids))],aB x1.2]) rfl rfl) (OkOps.y (.agg [cI x1.1.ID,cI x1.1.Parent,cI x1.1.Kind,cS x1.1.Key,.d (.sl (List.map Attr.cs x1.1.Attrs)),.d (.sl (List.map Action.cs x1.1.Actions)),.d (.sl (List.map (eInt .i64) x1.1.Kids))]) (OkOps.y (aB x1.2) (OkOps.m 0 (triAlloc (j:=1) (cs:=[cI 0,cI 0,cI 0,cS ByteArray.empty,.d (.v (.slice none 0 0)),.d (.v (.slice none 0 0)),.d (.v (.slice none 0 0))]) rfl rfl rfl rfl) (OkOps.w (triStore (cs':=[cI x1.1.ID,cI x1.1.Parent,cI x1.1.Kind,cS x1.1.Key,.d (.sl (List.map Attr.cs x1.1.Attrs)),.d (.sl (List.map Action.cs x1.1.Actions)),.d (.sl (List.map (eInt .i64) x1.1.Kids))]) rfl rfl rfl rfl rfl rfl rfl rfl rfl) (OkOps.y (aB x1.2) (OkOps.nil (Ok.seq (Ok.region (OkOps.y (aB x1.2) (OkOps.y (aB x1.2) (OkOps.q (triQG (x:=.agg [cI x1.1.ID,cI x1.1.Parent,cI x1.1.Kind,cS x1.1.Key,.d (.sl (List.map Attr.cs x1.1.Attrs)),.d (.sl (List.map Action.cs x1.1.Actions)),.d (.sl (List.map (eInt .i64) x1.1.Kids))]) rfl rfl trivial rfl) ?_))))))))))))
 obtain ⟨x2,hx2,hr⟩:=bind_some hr
 refine OkOps.q (triCallG (x:=aB x2) (fun hg=>fo_pressable_c _ (gO_t hx2 hg)) rfl rfl ⟨.inl rfl,trivial⟩ ⟨fun h=>h,trivial⟩ entry81 rfl rfl rfl) (OkOps.q (triAnd rfl rfl (fun h=>h) rfl) (OkOps.y (aB (x1.2 && x2)) (OkOps.nil (Ok.ret ?_))))
 obtain rfl:=Option.some.inj hr
 exact ⟨_,rfl,.inl rfl,trivial⟩
theorem ac_box_c (boxes : (List Box)) (id : Int) {r : Rect × Bool} (hr : ac_box boxes id = some r) : Con Tryz.prog 46 [.c (.d (.sl (List.map Box.cs boxes))),aI id] [] (.tup [.agg [cI r.1.X,cI r.1.Y,cI r.1.W,cI r.1.H],aB r.2]) []:=by
 unfold ac_box at hr
 refine Con.of_ok 22 0 [.cell 4 35,.tmp 5] [(0,.s (.c (.d (.sl (List.map Box.cs boxes))))),(1,.s (aI id))] Tryz.func46 rfl rfl rfl rfl rfl rfl rfl rfl fun w g M ρ _=>(Ok.seq (Ok.region (OkOps.m 0 (triAlloc (j:=0) (cs:=[cI 0,cI 0,cI 0,cI 0]) rfl rfl rfl rfl) (OkOps.y (aB false) (OkOps.nil ?_)))))
 obtain ⟨k2,hk2,hr⟩:=jn_some hr
 refine Ok.join (fun (s1 : Unit)=>⟨[(4,.s (.c (.loc 0 0)))],[(0,.blk [cI 0,cI 0,cI 0,cI 0] 35)],0⟩) k2 r (fun s1 hr=>?_) ?_
 rw [hk2] at hr
 refine Ok.seq (Ok.region (OkOps.y (.agg [cI 0,cI 0,cI 0,cI 0]) (OkOps.w (triStore (cs':=[cI 0,cI 0,cI 0,cI 0]) rfl rfl rfl rfl rfl rfl rfl rfl rfl) (OkOps.y (aB false) (OkOps.nil (Ok.ret ?_))))))
 obtain rfl:=Option.some.inj hr
 exact ⟨_,rfl,.inl rfl,trivial⟩
 clear hk2
 refine Ok.seq (Ok.region (OkOps.y (.c (.d (.sl (List.map Box.cs boxes)))) (OkOps.q (triLen (enc:=Box.cs) boxes rfl rfl trivial rfl) (OkOps.y (aI 0) (OkOps.nil (Ok.block (Ok.loopK (fun (s3 : Int)=>⟨[(1,.s (aI id)),(4,.s (.c (.loc 0 0))),(8,.s (.c (.d (.sl (List.map Box.cs boxes))))),(9,.s (aI (boxes.length : Int))),(10,.s (aI s3))],[(0,.blk [cI 0,cI 0,cI 0,cI 0] 35)],0⟩) hr (Conv.mk (tau []) ⟨⟨_,rfl,.inl rfl⟩,⟨_,rfl,.inl rfl⟩,⟨_,rfl,.inl rfl⟩,⟨_,rfl,.inl rfl⟩,⟨_,rfl,.inl rfl⟩,trivial⟩ ⟨rfl,trivial⟩ rfl rfl rfl rfl) ?_)))))))
 clear hr
 intro again4 s3 hr
 unfold ac_box_L1 at hr
 refine Ok.seq (Ok.region (OkOps.y (aB (decide (s3 < (boxes.length : Int)))) (OkOps.nil (Ok.seq ?_))))
 refine Ok.cond (b:=decide (s3 < (boxes.length : Int))) rfl (fun h5=>?_) (fun h5=>?_)
 have hr:=selT h5 hr
 refine Ok.skip (Ok.seq (Ok.block (Ok.seq (Ok.region ?_))))
 obtain ⟨x6,hx6,hr⟩:=bind_some hr
 refine OkOps.q (triIdx (enc:=Box.cs) (L:=boxes) (row:=[dI x6.ID,dI x6.Rect.X,dI x6.Rect.Y,dI x6.Rect.W,dI x6.Rect.H,dI x6.Baseline,.sl (List.map Line.cs x6.Lines)]) hx6 rfl rfl rfl rfl (fun _=>rfl) trivial rfl) (OkOps.y (.agg [cI x6.ID,cI x6.Rect.X,cI x6.Rect.Y,cI x6.Rect.W,cI x6.Rect.H,cI x6.Baseline,.d (.sl (List.map Line.cs x6.Lines))]) (OkOps.m 0 (triAlloc (j:=1) (cs:=[cI 0,cI 0,cI 0,cI 0,cI 0,cI 0,.d (.v (.slice none 0 0))]) rfl rfl rfl rfl) (OkOps.w (triStore (cs':=[cI x6.ID,cI x6.Rect.X,cI x6.Rect.Y,cI x6.Rect.W,cI x6.Rect.H,cI x6.Baseline,.d (.sl (List.map Line.cs x6.Lines))]) rfl rfl rfl rfl rfl rfl rfl rfl rfl) (OkOps.nil (Ok.seq (Ok.region (OkOps.y (.c (.loc 1 0)) (OkOps.y (aI x6.ID) (OkOps.y (aI id) (OkOps.y (aB (x6.ID == id)) (OkOps.nil ?_)))))))))))
 refine Ok.cond (b:=x6.ID == id) rfl (fun h7=>?_) (fun h7=>?_)
 have hr:=selT h7 hr
 refine Ok.seq (Ok.region (OkOps.y (.c (.loc 1 1)) (OkOps.y (.agg [cI x6.Rect.X,cI x6.Rect.Y,cI x6.Rect.W,cI x6.Rect.H]) (OkOps.w (triStore (cs':=[cI x6.Rect.X,cI x6.Rect.Y,cI x6.Rect.W,cI x6.Rect.H]) rfl rfl rfl rfl rfl rfl rfl rfl rfl) (OkOps.y (aB true) (OkOps.nil (Ok.ret ?_)))))))
 obtain rfl:=Option.some.inj hr
 exact ⟨_,rfl,.inl rfl,trivial⟩
 have hr:=selF h7 hr
 refine Ok.skip (Ok.region (OkOps.y (aI (IntKind.i64.wrap (s3 + 1))) (OkOps.y (aI (IntKind.i64.wrap (s3 + 1))) (OkOps.nil ?_))))
 exact ⟨IntKind.i64.wrap (s3 + 1),hr,(Conv.mk (tau []) ⟨⟨_,rfl,.inl rfl⟩,⟨_,rfl,.inl rfl⟩,⟨_,rfl,.inl rfl⟩,⟨_,rfl,.inl rfl⟩,⟨_,rfl,.inl rfl⟩,trivial⟩ ⟨rfl,trivial⟩ rfl rfl rfl rfl)⟩
 have hr:=selF h5 hr
 refine Ok.exit ?_
 exact ⟨(),hr,(Conv.mk (tau []) ⟨⟨_,rfl,.inl rfl⟩,trivial⟩ ⟨rfl,trivial⟩ rfl rfl rfl rfl)⟩
theorem ac_Extent_c (t : Tree) (boxes : (List Box)) (id : Int) {r : Int} (hr : ac_Extent t boxes id = some r) : Con Tryz.prog 12 [.agg [cI t.Root,cI t.Next,.d (.sl (List.map Node.cs t.Nodes))],.c (.d (.sl (List.map Box.cs boxes))),aI id] [] (.s (aI r)) []:=by
 unfold ac_Extent at hr
 refine Con.of_ok 43 0 [.tmp 6] [(0,.s (.agg [cI t.Root,cI t.Next,.d (.sl (List.map Node.cs t.Nodes))])),(1,.s (.c (.d (.sl (List.map Box.cs boxes))))),(2,.s (aI id))] Tryz.func12 rfl rfl rfl rfl rfl rfl rfl rfl fun w g M ρ _=>(Ok.seq (Ok.region (OkOps.m 0 (triBox (j:=0) (cs:=[cI t.Root,cI t.Next,.d (.sl (List.map Node.cs t.Nodes))]) rfl rfl rfl rfl rfl) (OkOps.y (aI 0) (OkOps.nil (Ok.seq (Ok.region (OkOps.y (.agg [cI t.Root,cI t.Next,.d (.sl (List.map Node.cs t.Nodes))]) (OkOps.y (aI id) ?_)))))))))
 obtain ⟨x1,hx1,hr⟩:=bind_some hr
 refine OkOps.q (triCl (tau []) (.tup [.agg [cI x1.1.ID,cI x1.1.Parent,cI x1.1.Kind,cS x1.1.Key,.d (.sl (List.map Attr.cs x1.1.Attrs)),.d (.sl (List.map Action.cs x1.1.Actions)),.d (.sl (List.map (eInt .i64) x1.1.Kids))],aB x1.2]) [] (vw_Find_c _ _ hx1) rfl ⟨.inl rfl,.inl rfl,trivial⟩ trivial entry36 trivial) (OkOps.q (triMv (v:=.tup [.agg [cI x1.1.ID,cI x1.1.Parent,cI x1.1.Kind,cS x1.1.Key,.d (.sl (List.map Attr.cs x1.1.Attrs)),.d (.sl (List.map Action.cs x1.1.Actions)),.d (.sl (List.map (eInt .i64) x1.1.Kids))],aB x1.2]) rfl rfl) (OkOps.y (.agg [cI x1.1.ID,cI x1.1.Parent,cI x1.1.Kind,cS x1.1.Key,.d (.sl (List.map Attr.cs x1.1.Attrs)),.d (.sl (List.map Action.cs x1.1.Actions)),.d (.sl (List.map (eInt .i64) x1.1.Kids))]) (OkOps.y (aB x1.2) (OkOps.m 0 (triAlloc (j:=1) (cs:=[cI 0,cI 0,cI 0,cS ByteArray.empty,.d (.v (.slice none 0 0)),.d (.v (.slice none 0 0)),.d (.v (.slice none 0 0))]) rfl rfl rfl rfl) (OkOps.w (triStore (cs':=[cI x1.1.ID,cI x1.1.Parent,cI x1.1.Kind,cS x1.1.Key,.d (.sl (List.map Attr.cs x1.1.Attrs)),.d (.sl (List.map Action.cs x1.1.Actions)),.d (.sl (List.map (eInt .i64) x1.1.Kids))]) rfl rfl rfl rfl rfl rfl rfl rfl rfl) (OkOps.y (aB x1.2) (OkOps.nil (Ok.seq (Ok.region (OkOps.y (aI 0) (OkOps.nil ?_)))))))))))
 obtain ⟨k3,hk3,hr⟩:=jn_some hr
 refine Ok.join (fun (s2 : Int)=>⟨[(9,.s (aI s2))],[],0⟩) k3 r (fun s2 hr=>?_) ?_
 rw [hk3] at hr
 refine Ok.seq (Ok.region (OkOps.y (aI s2) (OkOps.y (aI s2) (OkOps.nil (Ok.ret ?_)))))
 obtain rfl:=Option.some.inj hr
 exact ⟨_,rfl,.inl rfl,trivial⟩
 clear hk3
 refine Ok.seq (Ok.region (OkOps.y (.c (.loc 1 6)) (OkOps.y (.c (.d (.sl (List.map (eInt .i64) x1.1.Kids)))) (OkOps.q (triLen (enc:=(eInt .i64)) x1.1.Kids rfl rfl trivial rfl) (OkOps.y (aI 0) (OkOps.nil (Ok.block (Ok.loopK (fun (s4 : Int × Int)=>⟨[(1,.s (.c (.d (.sl (List.map Box.cs boxes))))),(9,.s (aI s4.1)),(21,.s (.c (.d (.sl (List.map (eInt .i64) x1.1.Kids))))),(22,.s (aI (x1.1.Kids.length : Int))),(23,.s (aI s4.2))],[],0⟩) hr (Conv.mk (tau []) ⟨⟨_,rfl,.inl rfl⟩,⟨_,rfl,.inl rfl⟩,⟨_,rfl,.inl rfl⟩,⟨_,rfl,.inl rfl⟩,⟨_,rfl,.inl rfl⟩,trivial⟩ trivial rfl rfl rfl rfl) ?_))))))))
 clear hr
 intro again5 s4 hr
 unfold ac_Extent_L1 at hr
 refine Ok.seq (Ok.region (OkOps.y (aB (decide (s4.2 < (x1.1.Kids.length : Int)))) (OkOps.nil (Ok.seq ?_))))
 refine Ok.cond (b:=decide (s4.2 < (x1.1.Kids.length : Int))) rfl (fun h6=>?_) (fun h6=>?_)
 have hr:=selT h6 hr
 refine Ok.skip ?_
 obtain ⟨k8,hk8,hr⟩:=jn_some hr
 refine Ok.join (fun (s7 : Int)=>⟨[(1,.s (.c (.d (.sl (List.map Box.cs boxes))))),(9,.s (aI s7)),(21,.s (.c (.d (.sl (List.map (eInt .i64) x1.1.Kids))))),(22,.s (aI (x1.1.Kids.length : Int))),(23,.s (aI s4.2))],[],0⟩) k8 r (fun s7 hr=>?_) ?_
 rw [hk8] at hr
 refine Ok.region (OkOps.y (aI (IntKind.i64.wrap (s4.2 + 1))) (OkOps.y (aI (IntKind.i64.wrap (s4.2 + 1))) (OkOps.nil ?_)))
 exact ⟨(s7,IntKind.i64.wrap (s4.2 + 1)),hr,(Conv.mk (tau []) ⟨⟨_,rfl,.inl rfl⟩,⟨_,rfl,.inl rfl⟩,⟨_,rfl,.inl rfl⟩,⟨_,rfl,.inl rfl⟩,⟨_,rfl,.inl rfl⟩,trivial⟩ trivial rfl rfl rfl rfl)⟩
 clear hk8
 refine Ok.block (Ok.seq (Ok.region ?_))
 obtain ⟨x9,hx9,hr⟩:=bind_some hr
 refine OkOps.q (triIdx (enc:=(eInt .i64)) (L:=x1.1.Kids) (row:=[dI x9]) hx9 rfl rfl rfl rfl (fun _=>rfl) trivial rfl) (OkOps.y (aI x9) (OkOps.y (aI x9) (OkOps.nil (Ok.seq (Ok.region (OkOps.y (.c (.d (.sl (List.map Box.cs boxes)))) (OkOps.y (aI x9) ?_)))))))
 obtain ⟨x10,hx10,hr⟩:=bind_some hr
 refine OkOps.q (triCl (tau []) (.tup [.agg [cI x10.1.X,cI x10.1.Y,cI x10.1.W,cI x10.1.H],aB x10.2]) [] (ac_box_c _ _ hx10) rfl ⟨.inl rfl,.inl rfl,trivial⟩ trivial entry46 trivial) (OkOps.q (triMv (v:=.tup [.agg [cI x10.1.X,cI x10.1.Y,cI x10.1.W,cI x10.1.H],aB x10.2]) rfl rfl) (OkOps.y (.agg [cI x10.1.X,cI x10.1.Y,cI x10.1.W,cI x10.1.H]) (OkOps.y (aB x10.2) (OkOps.m 0 (triAlloc (j:=2) (cs:=[cI 0,cI 0,cI 0,cI 0]) rfl rfl rfl rfl) (OkOps.w (triStore (cs':=[cI x10.1.X,cI x10.1.Y,cI x10.1.W,cI x10.1.H]) rfl rfl rfl rfl rfl rfl rfl rfl rfl) (OkOps.y (aB x10.2) (OkOps.nil (Ok.seq (Ok.region (OkOps.y (aB x10.2) (OkOps.nil ?_)))))))))))
 refine Ok.cond (b:=x10.2) rfl (fun h11=>?_) (fun h11=>?_)
 have hr:=selT h11 hr
 refine Ok.region (OkOps.y (aI s4.1) (OkOps.y (.c (.loc 2 1)) (OkOps.y (aI x10.1.Y) (OkOps.y (.c (.loc 2 3)) (OkOps.y (aI x10.1.H) (OkOps.y (aI (IntKind.i64.wrap (x10.1.Y + x10.1.H))) (OkOps.y (aI (mxI s4.1 (IntKind.i64.wrap (x10.1.Y + x10.1.H)))) (OkOps.y (aI (mxI s4.1 (IntKind.i64.wrap (x10.1.Y + x10.1.H)))) (OkOps.nil ?_)))))))))
 exact ⟨mxI s4.1 (IntKind.i64.wrap (x10.1.Y + x10.1.H)),hr,(Conv.mk (tau []) ⟨⟨_,rfl,.inl rfl⟩,⟨_,rfl,.inl rfl⟩,⟨_,rfl,.inl rfl⟩,⟨_,rfl,.inl rfl⟩,⟨_,rfl,.inl rfl⟩,trivial⟩ trivial rfl rfl rfl rfl)⟩
 have hr:=selF h11 hr
 refine Ok.skip ?_
 exact ⟨s4.1,hr,(Conv.mk (tau []) ⟨⟨_,rfl,.inl rfl⟩,⟨_,rfl,.inl rfl⟩,⟨_,rfl,.inl rfl⟩,⟨_,rfl,.inl rfl⟩,⟨_,rfl,.inl rfl⟩,trivial⟩ trivial rfl rfl rfl rfl)⟩
 have hr:=selF h6 hr
 refine Ok.exit ?_
 exact ⟨s4.1,hr,(Conv.mk (tau []) ⟨⟨_,rfl,.inl rfl⟩,trivial⟩ trivial rfl rfl rfl rfl)⟩
theorem ac_offset_c (l : (List Offset)) (id : Int) {r : Int} (hr : ac_offset l id = some r) : Con Tryz.prog 47 [.c (.d (.sl (List.map Offset.cs l))),aI id] [] (.s (aI r)) []:=by
 unfold ac_offset at hr
 refine Con.of_ok 20 0 [.tmp 4] [(0,.s (.c (.d (.sl (List.map Offset.cs l))))),(1,.s (aI id))] Tryz.func47 rfl rfl rfl rfl rfl rfl rfl rfl fun w g M ρ _=>(Ok.seq (Ok.region (OkOps.y (aI 0) (OkOps.nil ?_))))
 obtain ⟨k2,hk2,hr⟩:=jn_some hr
 refine Ok.join (fun (s1 : Unit)=>⟨[],[],0⟩) k2 r (fun s1 hr=>?_) ?_
 rw [hk2] at hr
 refine Ok.seq (Ok.region (OkOps.y (aI 0) (OkOps.nil (Ok.ret ?_))))
 obtain rfl:=Option.some.inj hr
 exact ⟨_,rfl,.inl rfl,trivial⟩
 clear hk2
 refine Ok.seq (Ok.region (OkOps.y (.c (.d (.sl (List.map Offset.cs l)))) (OkOps.q (triLen (enc:=Offset.cs) l rfl rfl trivial rfl) (OkOps.y (aI 0) (OkOps.nil (Ok.block (Ok.loopK (fun (s3 : Int)=>⟨[(1,.s (aI id)),(7,.s (.c (.d (.sl (List.map Offset.cs l))))),(8,.s (aI (l.length : Int))),(9,.s (aI s3))],[],0⟩) hr (Conv.mk (tau []) ⟨⟨_,rfl,.inl rfl⟩,⟨_,rfl,.inl rfl⟩,⟨_,rfl,.inl rfl⟩,⟨_,rfl,.inl rfl⟩,trivial⟩ trivial rfl rfl rfl rfl) ?_)))))))
 clear hr
 intro again4 s3 hr
 unfold ac_offset_L1 at hr
 refine Ok.seq (Ok.region (OkOps.y (aB (decide (s3 < (l.length : Int)))) (OkOps.nil (Ok.seq ?_))))
 refine Ok.cond (b:=decide (s3 < (l.length : Int))) rfl (fun h5=>?_) (fun h5=>?_)
 have hr:=selT h5 hr
 refine Ok.skip (Ok.seq (Ok.block (Ok.seq (Ok.region ?_))))
 obtain ⟨x6,hx6,hr⟩:=bind_some hr
 refine OkOps.q (triIdx (enc:=Offset.cs) (L:=l) (row:=[dI x6.ID,dI x6.Y]) hx6 rfl rfl rfl rfl (fun _=>rfl) trivial rfl) (OkOps.y (.agg [cI x6.ID,cI x6.Y]) (OkOps.m 0 (triAlloc (j:=0) (cs:=[cI 0,cI 0]) rfl rfl rfl rfl) (OkOps.w (triStore (cs':=[cI x6.ID,cI x6.Y]) rfl rfl rfl rfl rfl rfl rfl rfl rfl) (OkOps.nil (Ok.seq (Ok.region (OkOps.y (.c (.loc 0 0)) (OkOps.y (aI x6.ID) (OkOps.y (aI id) (OkOps.y (aB (x6.ID == id)) (OkOps.nil ?_)))))))))))
 refine Ok.cond (b:=x6.ID == id) rfl (fun h7=>?_) (fun h7=>?_)
 have hr:=selT h7 hr
 refine Ok.seq (Ok.region (OkOps.y (.c (.loc 0 1)) (OkOps.y (aI x6.Y) (OkOps.y (aI x6.Y) (OkOps.nil (Ok.ret ?_))))))
 obtain rfl:=Option.some.inj hr
 exact ⟨_,rfl,.inl rfl,trivial⟩
 have hr:=selF h7 hr
 refine Ok.skip (Ok.region (OkOps.y (aI (IntKind.i64.wrap (s3 + 1))) (OkOps.y (aI (IntKind.i64.wrap (s3 + 1))) (OkOps.nil ?_))))
 exact ⟨IntKind.i64.wrap (s3 + 1),hr,(Conv.mk (tau []) ⟨⟨_,rfl,.inl rfl⟩,⟨_,rfl,.inl rfl⟩,⟨_,rfl,.inl rfl⟩,⟨_,rfl,.inl rfl⟩,trivial⟩ trivial rfl rfl rfl rfl)⟩
 have hr:=selF h5 hr
 refine Ok.exit ?_
 exact ⟨(),hr,(Conv.mk (tau []) trivial trivial rfl rfl rfl rfl)⟩
theorem ac_Actions_1_c (act : Int) (on : Bool) (c0 : Int) {r : Int} (hr : ac_Actions_1 act on c0 = some r) : Con Tryz.prog 41 [aI act,aB on,.c (.loc 0 0)] [(0,.blk [cI c0] 3)] (.tup []) [(0,.blk [cI r] 3)]:=by
 unfold ac_Actions_1 at hr
 refine Con.of_ok 9 0 [] [(0,.s (aI act)),(1,.s (aB on)),(2,.s (.c (.loc 0 0)))] Tryz.func41 rfl rfl rfl rfl rfl rfl rfl rfl fun w g M ρ _=>(Ok.seq (Ok.region (OkOps.y (aB on) (OkOps.nil ?_))))
 refine Ok.cond (b:=on) rfl (fun h1=>?_) (fun h1=>?_)
 have hr:=selT h1 hr
 refine Ok.region (OkOps.y (aI c0) (OkOps.y (aI act) (OkOps.y (aI (bOr .i64 c0 act)) (OkOps.w (triStore (cs':=[cI (bOr .i64 c0 act)]) rfl rfl rfl rfl rfl rfl rfl rfl rfl) (OkOps.nil ?_)))))
 obtain rfl:=Option.some.inj hr
 exact ⟨_,rfl,.inl rfl,⟨rfl,trivial⟩⟩
 have hr:=selF h1 hr
 refine Ok.skip ?_
 obtain rfl:=Option.some.inj hr
 exact ⟨_,rfl,.inl rfl,⟨rfl,trivial⟩⟩
theorem ac_Actions_2_c (a : Action) {r : Bool} (hr : ac_Actions_2 a = some r) : Con Tryz.prog 49 [.agg [cS a.Event,cS a.Instance,cS a.Handler,.d (.sl (List.map AValue.cs a.Args))]] [] (.s (aB r)) []:=by
 unfold ac_Actions_2 at hr
 refine Con.of_ok 6 0 [.tmp 2] [(0,.s (.agg [cS a.Event,cS a.Instance,cS a.Handler,.d (.sl (List.map AValue.cs a.Args))]))] Tryz.func49 rfl rfl rfl rfl rfl rfl rfl rfl fun w g M ρ _=>(Ok.seq (Ok.region (OkOps.m 0 (triBox (j:=0) (cs:=[cS a.Event,cS a.Instance,cS a.Handler,.d (.sl (List.map AValue.cs a.Args))]) rfl rfl rfl rfl rfl) (OkOps.y (aB false) (OkOps.nil (Ok.seq (Ok.region (OkOps.y (.c (.loc 0 0)) (OkOps.y (aS a.Event) (OkOps.y (aB (a.Event.toList == (ByteArray.mk #[100,105,115,109,105,115,115]).toList)) (OkOps.y (aB (a.Event.toList == (ByteArray.mk #[100,105,115,109,105,115,115]).toList)) (OkOps.nil (Ok.ret ?_)))))))))))))
 obtain rfl:=Option.some.inj hr
 exact ⟨_,rfl,.inl rfl,trivial⟩
theorem sl_IndexFunc_dis_c (p_s : (List Action)) {r : Int} (hr : sl_IndexFunc_dis p_s = some r) : Con Tryz.prog 85 [.c (.d (.sl (List.map Action.cs p_s))),.c (.fn 49 [])] [] (.s (aI r)) []:=by
 unfold sl_IndexFunc_dis at hr
 refine Con.of_ok 19 0 [.tmp 4] [(0,.s (.c (.d (.sl (List.map Action.cs p_s))))),(1,.s (.c (.fn 49 [])))] Tryz.func85 rfl rfl rfl rfl rfl rfl rfl rfl fun w g M ρ _=>(Ok.seq (Ok.region (OkOps.y (aI 0) (OkOps.nil ?_))))
 obtain ⟨k2,hk2,hr⟩:=jn_some hr
 refine Ok.join (fun (s1 : Unit)=>⟨[],[],0⟩) k2 r (fun s1 hr=>?_) ?_
 rw [hk2] at hr
 refine Ok.seq (Ok.region (OkOps.y (aI (-1)) (OkOps.nil (Ok.ret ?_))))
 obtain rfl:=Option.some.inj hr
 exact ⟨_,rfl,.inl rfl,trivial⟩
 clear hk2
 refine Ok.seq (Ok.region (OkOps.y (.c (.d (.sl (List.map Action.cs p_s)))) (OkOps.q (triLen (enc:=Action.cs) p_s rfl rfl trivial rfl) (OkOps.y (aI 0) (OkOps.nil (Ok.block (Ok.loopK (fun (s3 : Int)=>⟨[(0,.s (.c (.d (.sl (List.map Action.cs p_s))))),(1,.s (.c (.fn 49 []))),(7,.s (aI (p_s.length : Int))),(8,.s (aI s3))],[],0⟩) hr (Conv.mk (tau []) ⟨⟨_,rfl,.inl rfl⟩,⟨_,rfl,.inl rfl⟩,⟨_,rfl,.inl rfl⟩,⟨_,rfl,.inl rfl⟩,trivial⟩ trivial rfl rfl rfl rfl) ?_)))))))
 clear hr
 intro again4 s3 hr
 unfold sl_IndexFunc_dis_L1 at hr
 refine Ok.seq (Ok.region (OkOps.y (aB (decide (s3 < (p_s.length : Int)))) (OkOps.nil (Ok.seq ?_))))
 refine Ok.cond (b:=decide (s3 < (p_s.length : Int))) rfl (fun h5=>?_) (fun h5=>?_)
 have hr:=selT h5 hr
 refine Ok.skip (Ok.seq (Ok.block (Ok.seq (Ok.region (OkOps.y (aI s3) (OkOps.y (aI s3) (OkOps.nil (Ok.seq (Ok.region (OkOps.y (.c (.fn 49 [])) (OkOps.y (.c (.d (.sl (List.map Action.cs p_s)))) (OkOps.y (aI s3) ?_))))))))))))
 obtain ⟨x6,hx6,hr⟩:=bind_some hr
 refine OkOps.q (triIdx (enc:=Action.cs) (L:=p_s) (row:=[dS x6.Event,dS x6.Instance,dS x6.Handler,.sl (List.map AValue.cs x6.Args)]) hx6 rfl rfl rfl rfl (fun _=>rfl) trivial rfl) (OkOps.y (.agg [cS x6.Event,cS x6.Instance,cS x6.Handler,.d (.sl (List.map AValue.cs x6.Args))]) ?_)
 obtain ⟨x7,hx7,hr⟩:=bind_some hr
 refine OkOps.q (triCallF (caps:=[]) (tau []) (.s (aB x7)) [] rfl (ac_Actions_2_c _ hx7) rfl ⟨.inl rfl,trivial⟩ trivial entry49 trivial rfl rfl rfl rfl trivial rfl rfl rfl) (OkOps.nil ?_)
 refine Ok.cond (b:=x7) rfl (fun h8=>?_) (fun h8=>?_)
 have hr:=selT h8 hr
 refine Ok.seq (Ok.region (OkOps.y (aI s3) (OkOps.y (aI s3) (OkOps.nil (Ok.ret ?_)))))
 obtain rfl:=Option.some.inj hr
 exact ⟨_,rfl,.inl rfl,trivial⟩
 have hr:=selF h8 hr
 refine Ok.skip (Ok.region (OkOps.y (aI (IntKind.i64.wrap (s3 + 1))) (OkOps.y (aI (IntKind.i64.wrap (s3 + 1))) (OkOps.nil ?_))))
 exact ⟨IntKind.i64.wrap (s3 + 1),hr,(Conv.mk (tau []) ⟨⟨_,rfl,.inl rfl⟩,⟨_,rfl,.inl rfl⟩,⟨_,rfl,.inl rfl⟩,⟨_,rfl,.inl rfl⟩,trivial⟩ trivial rfl rfl rfl rfl)⟩
 have hr:=selF h5 hr
 refine Ok.exit ?_
 exact ⟨(),hr,(Conv.mk (tau []) trivial trivial rfl rfl rfl rfl)⟩
theorem sl_ContainsFunc_dis_c (p_s : (List Action)) {r : Bool} (hr : sl_ContainsFunc_dis p_s = some r) : Con Tryz.prog 48 [.c (.d (.sl (List.map Action.cs p_s))),.c (.fn 49 [])] [] (.s (aB r)) []:=by
 unfold sl_ContainsFunc_dis at hr
 refine Con.of_ok 9 0 [.tmp 4] [(0,.s (.c (.d (.sl (List.map Action.cs p_s))))),(1,.s (.c (.fn 49 [])))] Tryz.func48 rfl rfl rfl rfl rfl rfl rfl rfl fun w g M ρ _=>(Ok.seq (Ok.region (OkOps.y (aB false) (OkOps.nil (Ok.seq (Ok.region (OkOps.y (.c (.d (.sl (List.map Action.cs p_s)))) (OkOps.y (.c (.fn 49 [])) ?_))))))))
 obtain ⟨x1,hx1,hr⟩:=bind_some hr
 refine OkOps.q (triCl (tau []) (.s (aI x1)) [] (sl_IndexFunc_dis_c _ hx1) rfl ⟨.inl rfl,.inl rfl,trivial⟩ trivial entry85 trivial) (OkOps.y (aB (decide (x1 ≥ 0))) (OkOps.y (aB (decide (x1 ≥ 0))) (OkOps.nil (Ok.ret ?_))))
 obtain rfl:=Option.some.inj hr
 exact ⟨_,rfl,.inl rfl,trivial⟩
theorem ac_Actions_c (t : Tree) (st : (List Styled)) (boxes : (List Box)) (offsets : (List Offset)) (id : Int) {r : Int} (hr : ac_Actions t st boxes offsets id = some r) : Con Tryz.prog 10 [.agg [cI t.Root,cI t.Next,.d (.sl (List.map Node.cs t.Nodes))],.c (.d (.sl (List.map Styled.cs st))),.c (.d (.sl (List.map Box.cs boxes))),.c (.d (.sl (List.map Offset.cs offsets))),aI id] [] (.s (aI r)) []:=by
 unfold ac_Actions at hr
 refine Con.of_ok 133 0 [.tmp 10] [(0,.s (.agg [cI t.Root,cI t.Next,.d (.sl (List.map Node.cs t.Nodes))])),(1,.s (.c (.d (.sl (List.map Styled.cs st))))),(2,.s (.c (.d (.sl (List.map Box.cs boxes))))),(3,.s (.c (.d (.sl (List.map Offset.cs offsets))))),(4,.s (aI id))] Tryz.func10 rfl rfl rfl rfl rfl rfl rfl rfl fun w g M ρ _=>(Ok.seq (Ok.region (OkOps.m 0 (triBox (j:=0) (cs:=[cI t.Root,cI t.Next,.d (.sl (List.map Node.cs t.Nodes))]) rfl rfl rfl rfl rfl) (OkOps.y (aI 0) (OkOps.nil (Ok.seq (Ok.region (OkOps.y (.agg [cI t.Root,cI t.Next,.d (.sl (List.map Node.cs t.Nodes))]) (OkOps.y (aI id) ?_)))))))))
 obtain ⟨x1,hx1,hr⟩:=bind_some hr
 refine OkOps.q (triCl (tau []) (.tup [.agg [cI x1.1.ID,cI x1.1.Parent,cI x1.1.Kind,cS x1.1.Key,.d (.sl (List.map Attr.cs x1.1.Attrs)),.d (.sl (List.map Action.cs x1.1.Actions)),.d (.sl (List.map (eInt .i64) x1.1.Kids))],aB x1.2]) [] (vw_Find_c _ _ hx1) rfl ⟨.inl rfl,.inl rfl,trivial⟩ trivial entry36 trivial) (OkOps.q (triMv (v:=.tup [.agg [cI x1.1.ID,cI x1.1.Parent,cI x1.1.Kind,cS x1.1.Key,.d (.sl (List.map Attr.cs x1.1.Attrs)),.d (.sl (List.map Action.cs x1.1.Actions)),.d (.sl (List.map (eInt .i64) x1.1.Kids))],aB x1.2]) rfl rfl) (OkOps.y (.agg [cI x1.1.ID,cI x1.1.Parent,cI x1.1.Kind,cS x1.1.Key,.d (.sl (List.map Attr.cs x1.1.Attrs)),.d (.sl (List.map Action.cs x1.1.Actions)),.d (.sl (List.map (eInt .i64) x1.1.Kids))]) (OkOps.y (aB x1.2) (OkOps.m 0 (triAlloc (j:=1) (cs:=[cI 0,cI 0,cI 0,cS ByteArray.empty,.d (.v (.slice none 0 0)),.d (.v (.slice none 0 0)),.d (.v (.slice none 0 0))]) rfl rfl rfl rfl) (OkOps.w (triStore (cs':=[cI x1.1.ID,cI x1.1.Parent,cI x1.1.Kind,cS x1.1.Key,.d (.sl (List.map Attr.cs x1.1.Attrs)),.d (.sl (List.map Action.cs x1.1.Actions)),.d (.sl (List.map (eInt .i64) x1.1.Kids))]) rfl rfl rfl rfl rfl rfl rfl rfl rfl) (OkOps.y (aB x1.2) (OkOps.nil (Ok.seq (Ok.seq (Ok.regionD (by kernel_rfl) (OkD.x (aB x1.2) rfl trivial rfl (OkD.x (aB (!x1.2)) rfl trivial rfl (OkD.x (aB (!x1.2)) rfl trivial rfl (OkD.q (triQG (x:=.agg [cI t.Root,cI t.Next,.d (.sl (List.map Node.cs t.Nodes))]) rfl rfl trivial rfl) (OkD.q (triQG (x:=aI id) rfl rfl trivial rfl) ?_)))))))))))))))
 obtain ⟨x2,hx2,hr⟩:=bind_some hr
 refine OkD.q (triCallG (x:=aB x2) (fun hg=>dp_Disabled_c _ _ (gO_t hx2 hg)) rfl rfl ⟨.inl rfl,.inl rfl,trivial⟩ ⟨fun h=>h,⟨fun h=>h,trivial⟩⟩ entry37 rfl rfl rfl) ?_
 refine OkD.q (triOr rfl rfl (fun h=>by rw [h];rfl) rfl) ?_
 refine OkD.x (aB ((!x1.2) || x2)) rfl trivial rfl (OkD.q (triQG (x:=.agg [cI t.Root,cI t.Next,.d (.sl (List.map Node.cs t.Nodes))]) rfl rfl trivial rfl) (OkD.q (triQG (x:=.c (.d (.sl (List.map Styled.cs st)))) rfl rfl trivial rfl) (OkD.q (triQG (x:=aI id) rfl rfl trivial rfl) ?_)))
 obtain ⟨x3,hx3,hr⟩:=bind_some hr
 refine OkD.q (triCallG (x:=aB x3) (fun hg=>ht_Shown_c _ _ _ (gO_t hx3 hg)) rfl rfl ⟨.inl rfl,.inl rfl,.inl rfl,trivial⟩ ⟨fun h=>h,⟨fun h=>h,⟨fun h=>h,trivial⟩⟩⟩ entry38 rfl rfl rfl) (OkD.q (triQG (x:=aB (!x3)) rfl rfl ⟨fun h=>h,trivial⟩ rfl) ?_)
 refine OkD.q (triOr rfl rfl (fun h=>by rw [h];rfl) rfl) ?_
 refine OkD.x (aB (((!x1.2) || x2) || (!x3))) rfl trivial rfl (OkD.q (triQG (x:=.agg [cI t.Root,cI t.Next,.d (.sl (List.map Node.cs t.Nodes))]) rfl rfl trivial rfl) (OkD.q (triQG (x:=aI id) rfl rfl trivial rfl) ?_))
 obtain ⟨x4,hx4,hr⟩:=bind_some hr
 refine OkD.q (triCallG (x:=.c (.d (.sl (List.map (eInt .i64) x4)))) (fun hg=>vw_Path_c _ _ (gO_t hx4 hg)) rfl rfl ⟨.inl rfl,.inl rfl,trivial⟩ ⟨fun h=>h,⟨fun h=>h,trivial⟩⟩ entry40 rfl rfl rfl) (OkD.q (triQG (x:=.agg [cI t.Root,cI t.Next,.d (.sl (List.map Node.cs t.Nodes))]) rfl rfl trivial rfl) (OkD.q (triQG (x:=.c (.d (.sl (List.map Styled.cs st)))) rfl rfl trivial rfl) ?_))
 obtain ⟨x5,hx5,hr⟩:=bind_some hr
 refine OkD.q (triCallG (x:=aI x5) (fun hg=>fo_Scope_c _ _ (gO_t hx5 hg)) rfl rfl ⟨.inl rfl,.inl rfl,trivial⟩ ⟨fun h=>h,⟨fun h=>h,trivial⟩⟩ entry18 rfl rfl rfl) ?_
 obtain ⟨x6,hx6,hr⟩:=bind_some hr
 refine OkD.q (triCallG (x:=aB x6) (fun hg=>slices_Contains_Sl_int_int_c _ _ (gO_t hx6 hg)) rfl rfl ⟨.inl rfl,.inl rfl,trivial⟩ ⟨fun h=>h,⟨fun h=>h,trivial⟩⟩ entry39 rfl rfl rfl) (OkD.q (triQG (x:=aB (!x6)) rfl rfl ⟨fun h=>h,trivial⟩ rfl) ?_)
 refine OkD.q (triOr rfl rfl (fun h=>by rw [h];rfl) rfl) ?_
 refine OkD.nil (by kernel_rfl) ?_
 refine Ok.cond (b:=(((!x1.2) || x2) || (!x3)) || (!x6)) rfl (fun h7=>?_) (fun h7=>?_)
 have hr:=selT h7 hr
 refine Ok.seq (Ok.region (OkOps.y (aI 0) (OkOps.nil (Ok.ret ?_))))
 obtain rfl:=Option.some.inj hr
 exact ⟨_,rfl,.inl rfl,trivial⟩
 have hr:=selF h7 hr
 refine Ok.skip (Ok.seq (Ok.region (OkOps.m 0 (triAlloc (j:=2) (cs:=[cI 0]) rfl rfl rfl rfl) (OkOps.w (triStore (cs':=[cI 0]) rfl rfl rfl rfl rfl rfl rfl rfl rfl) (OkOps.nil (Ok.seq (Ok.region (OkOps.q (triMkF [(2,0)] rfl trivial rfl) (OkOps.y (.c (.fn 41 [(2,0)])) (OkOps.nil (Ok.seq (Ok.region (OkOps.y (.c (.fn 41 [(2,0)])) (OkOps.y (.agg [cI t.Root,cI t.Next,.d (.sl (List.map Node.cs t.Nodes))]) (OkOps.y (aI id) ?_)))))))))))))))
 obtain ⟨x8,hx8,hr⟩:=bind_some hr
 refine OkOps.q (triCl (tau []) (.s (aB x8)) [] (fo_Pressable_c _ _ hx8) rfl ⟨.inl rfl,.inl rfl,trivial⟩ trivial entry42 trivial) ?_
 obtain ⟨x9,hx9,hr⟩:=bind_some hr
 refine OkOps.m 0 (triCallF (caps:=[(2,0)]) (tau [(0,2)]) (.tup []) [(2,.blk [cI x9] 3)] rfl (ac_Actions_1_c _ _ _ hx9) rfl ⟨.inl rfl,.inl rfl,.inl rfl,trivial⟩ trivial entry41 ⟨rfl,trivial⟩ rfl rfl rfl rfl trivial rfl rfl rfl) (OkOps.nil (Ok.seq (Ok.region (OkOps.y (.c (.fn 41 [(2,0)])) (OkOps.y (.agg [cI t.Root,cI t.Next,.d (.sl (List.map Node.cs t.Nodes))]) (OkOps.y (.c (.d (.sl (List.map Styled.cs st)))) ?_))))))
 obtain ⟨x10,hx10,hr⟩:=bind_some hr
 refine OkOps.m 0 (triCall (tau [(2000,3)]) (.s (.c (.own 3))) [(3,.vec 1 (List.map (eInt .i64) x10))] (fo_Candidates_c _ _ hx10) rfl ⟨.inl rfl,.inl rfl,trivial⟩ trivial entry43 trivial rfl rfl rfl rfl ⟨rfl,trivial⟩ rfl rfl rfl) (OkOps.y (aI id) ?_)
 obtain ⟨x11,hx11,hr⟩:=bind_some hr
 refine OkOps.q (triLoan (slices_Contains_Sl_int_int_c _ _ hx11) rfl ⟨.inr ⟨_,_,_,rfl,rfl,rfl⟩,.inl (.inl rfl),trivial⟩ trivial entry39 rfl rfl rfl) ?_
 obtain ⟨x12,hx12,hr⟩:=bind_some hr
 refine OkOps.m 0 (triCallF (caps:=[(2,0)]) (tau [(0,2)]) (.tup []) [(2,.blk [cI x12] 3)] rfl (ac_Actions_1_c _ _ _ hx12) rfl ⟨.inl rfl,.inl rfl,.inl rfl,trivial⟩ trivial entry41 ⟨rfl,trivial⟩ rfl rfl rfl rfl trivial rfl rfl rfl) (OkOps.nil ?_)
 obtain ⟨k14,hk14,hr⟩:=jn_some hr
 refine Ok.join (fun (s13 : Int)=>⟨[(13,.s (.c (.loc 2 0)))],[(2,.blk [cI s13] 3)],0⟩) k14 r (fun s13 hr=>?_) ?_
 rw [hk14] at hr
 refine Ok.seq (Ok.region (OkOps.y (aI s13) (OkOps.y (aI s13) (OkOps.nil (Ok.ret ?_)))))
 obtain rfl:=Option.some.inj hr
 exact ⟨_,rfl,.inl rfl,trivial⟩
 clear hk14
 refine Ok.seq (Ok.region (OkOps.y (.c (.loc 1 2)) (OkOps.y (aI x1.1.Kind) (OkOps.nil (Ok.block (Ok.seq (Ok.region (OkOps.y (aB (x1.1.Kind == 13)) (OkOps.y (aB (x1.1.Kind == 13)) (OkOps.nil ?_))))))))))
 refine Ok.cond (b:=x1.1.Kind == 13) rfl (fun h15=>?_) (fun h15=>?_)
 have hr:=selT h15 hr
 refine Ok.seq (Ok.region (OkOps.y (.c (.loc 1 4)) (OkOps.y (.c (.d (.sl (List.map Attr.cs x1.1.Attrs)))) ?_)))
 obtain ⟨x16,hx16,hr⟩:=bind_some hr
 refine OkOps.q (triCl (tau []) (.s (aI x16)) [] (vw_Number_c _ _ _ hx16) rfl ⟨.inl rfl,.inl rfl,.inl rfl,trivial⟩ trivial entry44 trivial) (OkOps.y (aI x16) (OkOps.nil (Ok.seq (Ok.region (OkOps.y (.c (.fn 41 [(2,0)])) (OkOps.y (aI x16) (OkOps.y (.c (.loc 1 4)) (OkOps.y (.c (.d (.sl (List.map Attr.cs x1.1.Attrs)))) ?_))))))))
 obtain ⟨x17,hx17,hr⟩:=bind_some hr
 refine OkOps.q (triCl (tau []) (.s (aI x17)) [] (vw_Number_c _ _ _ hx17) rfl ⟨.inl rfl,.inl rfl,.inl rfl,trivial⟩ trivial entry44 trivial) (OkOps.y (aB (decide (x16 < x17))) ?_)
 obtain ⟨x18,hx18,hr⟩:=bind_some hr
 refine OkOps.m 0 (triCallF (caps:=[(2,0)]) (tau [(0,2)]) (.tup []) [(2,.blk [cI x18] 3)] rfl (ac_Actions_1_c _ _ _ hx18) rfl ⟨.inl rfl,.inl rfl,.inl rfl,trivial⟩ trivial entry41 ⟨rfl,trivial⟩ rfl rfl rfl rfl trivial rfl rfl rfl) (OkOps.nil (Ok.region (OkOps.y (.c (.fn 41 [(2,0)])) (OkOps.y (aI x16) (OkOps.y (.c (.loc 1 4)) (OkOps.y (.c (.d (.sl (List.map Attr.cs x1.1.Attrs)))) ?_))))))
 obtain ⟨x19,hx19,hr⟩:=bind_some hr
 refine OkOps.q (triCl (tau []) (.s (aI x19)) [] (vw_Number_c _ _ _ hx19) rfl ⟨.inl rfl,.inl rfl,.inl rfl,trivial⟩ trivial entry44 trivial) (OkOps.y (aB (decide (x16 > x19))) ?_)
 obtain ⟨x20,hx20,hr⟩:=bind_some hr
 refine OkOps.m 0 (triCallF (caps:=[(2,0)]) (tau [(0,2)]) (.tup []) [(2,.blk [cI x20] 3)] rfl (ac_Actions_1_c _ _ _ hx20) rfl ⟨.inl rfl,.inl rfl,.inl rfl,trivial⟩ trivial entry41 ⟨rfl,trivial⟩ rfl rfl rfl rfl trivial rfl rfl rfl) (OkOps.nil ?_)
 exact ⟨x20,hr,(Conv.mk (tau []) ⟨⟨_,rfl,.inl rfl⟩,trivial⟩ ⟨rfl,trivial⟩ rfl rfl rfl rfl)⟩
 have hr:=selF h15 hr
 refine Ok.seq (Ok.region (OkOps.y (aB (x1.1.Kind == 4)) (OkOps.y (aB (x1.1.Kind == 4)) (OkOps.nil ?_))))
 refine Ok.cond (b:=x1.1.Kind == 4) rfl (fun h21=>?_) (fun h21=>?_)
 have hr:=selT h21 hr
 refine Ok.seq (Ok.region (OkOps.y (.c (.fn 41 [(2,0)])) ?_))
 obtain ⟨x22,hx22,hr⟩:=bind_some hr
 refine OkOps.m 0 (triCallF (caps:=[(2,0)]) (tau [(0,2)]) (.tup []) [(2,.blk [cI x22] 3)] rfl (ac_Actions_1_c _ _ _ hx22) rfl ⟨.inl rfl,.inl rfl,.inl rfl,trivial⟩ trivial entry41 ⟨rfl,trivial⟩ rfl rfl rfl rfl trivial rfl rfl rfl) (OkOps.nil (Ok.region (OkOps.y (.c (.fn 41 [(2,0)])) (OkOps.y (.c (.loc 1 4)) (OkOps.y (.c (.d (.sl (List.map Attr.cs x1.1.Attrs)))) ?_)))))
 obtain ⟨x23,hx23,hr⟩:=bind_some hr
 refine OkOps.q (triCl (tau []) (.s (aB x23)) [] (vw_Flag_c _ _ hx23) rfl ⟨.inl rfl,.inl rfl,trivial⟩ trivial entry45 trivial) (OkOps.y (aB (!x23)) ?_)
 obtain ⟨x24,hx24,hr⟩:=bind_some hr
 refine OkOps.m 0 (triCallF (caps:=[(2,0)]) (tau [(0,2)]) (.tup []) [(2,.blk [cI x24] 3)] rfl (ac_Actions_1_c _ _ _ hx24) rfl ⟨.inl rfl,.inl rfl,.inl rfl,trivial⟩ trivial entry41 ⟨rfl,trivial⟩ rfl rfl rfl rfl trivial rfl rfl rfl) (OkOps.nil ?_)
 exact ⟨x24,hr,(Conv.mk (tau []) ⟨⟨_,rfl,.inl rfl⟩,trivial⟩ ⟨rfl,trivial⟩ rfl rfl rfl rfl)⟩
 have hr:=selF h21 hr
 refine Ok.seq (Ok.region (OkOps.y (aB (x1.1.Kind == 8)) (OkOps.y (aB (x1.1.Kind == 8)) (OkOps.nil ?_))))
 refine Ok.cond (b:=x1.1.Kind == 8) rfl (fun h25=>?_) (fun h25=>?_)
 have hr:=selT h25 hr
 refine Ok.seq (Ok.region (OkOps.y (.c (.d (.sl (List.map Box.cs boxes)))) (OkOps.y (aI id) ?_)))
 obtain ⟨x26,hx26,hr⟩:=bind_some hr
 refine OkOps.q (triCl (tau []) (.tup [.agg [cI x26.1.X,cI x26.1.Y,cI x26.1.W,cI x26.1.H],aB x26.2]) [] (ac_box_c _ _ hx26) rfl ⟨.inl rfl,.inl rfl,trivial⟩ trivial entry46 trivial) (OkOps.q (triMv (v:=.tup [.agg [cI x26.1.X,cI x26.1.Y,cI x26.1.W,cI x26.1.H],aB x26.2]) rfl rfl) (OkOps.y (.agg [cI x26.1.X,cI x26.1.Y,cI x26.1.W,cI x26.1.H]) (OkOps.y (aB x26.2) (OkOps.m 0 (triAlloc (j:=4) (cs:=[cI 0,cI 0,cI 0,cI 0]) rfl rfl rfl rfl) (OkOps.w (triStore (cs':=[cI x26.1.X,cI x26.1.Y,cI x26.1.W,cI x26.1.H]) rfl rfl rfl rfl rfl rfl rfl rfl rfl) (OkOps.y (aB x26.2) (OkOps.nil (Ok.seq (Ok.region (OkOps.y (.c (.d (.sl (List.map Offset.cs offsets)))) (OkOps.y (aI id) ?_)))))))))))
 obtain ⟨x27,hx27,hr⟩:=bind_some hr
 refine OkOps.q (triCl (tau []) (.s (aI x27)) [] (ac_offset_c _ _ hx27) rfl ⟨.inl rfl,.inl rfl,trivial⟩ trivial entry47 trivial) (OkOps.y (aI x27) (OkOps.nil (Ok.seq (Ok.region (OkOps.y (.c (.fn 41 [(2,0)])) (OkOps.y (aB x26.2) (OkOps.y (aB x26.2) (OkOps.q (triQG (x:=aI x27) rfl rfl trivial rfl) (OkOps.q (triQG (x:=aB (decide (x27 > 0))) rfl rfl ⟨fun h=>h,trivial⟩ rfl) (OkOps.q (triAnd rfl rfl (fun h=>h) rfl) ?_))))))))))
 obtain ⟨x28,hx28,hr⟩:=bind_some hr
 refine OkOps.m 0 (triCallF (caps:=[(2,0)]) (tau [(0,2)]) (.tup []) [(2,.blk [cI x28] 3)] rfl (ac_Actions_1_c _ _ _ hx28) rfl ⟨.inl rfl,.inl rfl,.inl rfl,trivial⟩ trivial entry41 ⟨rfl,trivial⟩ rfl rfl rfl rfl trivial rfl rfl rfl) (OkOps.nil (Ok.regionD (by kernel_rfl) (OkD.x (.c (.fn 41 [(2,0)])) rfl trivial rfl (OkD.x (aB x26.2) rfl trivial rfl (OkD.x (aB x26.2) rfl trivial rfl (OkD.q (triQG (x:=aI x27) rfl rfl trivial rfl) (OkD.q (triQG (x:=.agg [cI t.Root,cI t.Next,.d (.sl (List.map Node.cs t.Nodes))]) rfl rfl trivial rfl) (OkD.q (triQG (x:=.c (.d (.sl (List.map Box.cs boxes)))) rfl rfl trivial rfl) (OkD.q (triQG (x:=aI id) rfl rfl trivial rfl) ?_)))))))))
 obtain ⟨x29,hx29,hr⟩:=bind_some hr
 refine OkD.q (triCallG (x:=aI x29) (fun hg=>ac_Extent_c _ _ _ (gO_t hx29 hg)) rfl rfl ⟨.inl rfl,.inl rfl,.inl rfl,trivial⟩ ⟨fun h=>h,⟨fun h=>h,⟨fun h=>h,trivial⟩⟩⟩ entry12 rfl rfl rfl) (OkD.q (triQG (x:=.c (.loc 4 3)) rfl rfl trivial rfl) (OkD.q (triQG (x:=aI x26.1.H) rfl rfl ⟨fun h=>h,trivial⟩ rfl) (OkD.q (triQG (x:=aI (IntKind.i64.wrap (x29 - x26.1.H))) rfl rfl ⟨fun h=>h,⟨fun h=>h,trivial⟩⟩ rfl) (OkD.q (triQG (x:=aB (decide (x27 < (IntKind.i64.wrap (x29 - x26.1.H))))) rfl rfl ⟨fun h=>h,⟨fun h=>h,trivial⟩⟩ rfl) (OkD.q (triAnd rfl rfl (fun h=>h) rfl) ?_)))))
 obtain ⟨x30,hx30,hr⟩:=bind_some hr
 refine OkD.m 0 (triCallF (caps:=[(2,0)]) (tau [(0,2)]) (.tup []) [(2,.blk [cI x30] 3)] rfl (ac_Actions_1_c _ _ _ hx30) rfl ⟨.inl rfl,.inl rfl,.inl rfl,trivial⟩ trivial entry41 ⟨rfl,trivial⟩ rfl rfl rfl rfl trivial rfl rfl rfl) (OkD.nil (by kernel_rfl) ?_)
 exact ⟨x30,hr,(Conv.mk (tau []) ⟨⟨_,rfl,.inl rfl⟩,trivial⟩ ⟨rfl,trivial⟩ rfl rfl rfl rfl)⟩
 have hr:=selF h25 hr
 refine Ok.seq (Ok.region (OkOps.y (aB (x1.1.Kind == 12)) (OkOps.y (aB (x1.1.Kind == 12)) (OkOps.nil ?_))))
 refine Ok.cond (b:=x1.1.Kind == 12) rfl (fun h31=>?_) (fun h31=>?_)
 have hr:=selT h31 hr
 refine Ok.region (OkOps.y (.c (.fn 41 [(2,0)])) (OkOps.y (.c (.loc 1 5)) (OkOps.y (.c (.d (.sl (List.map Action.cs x1.1.Actions)))) ?_)))
 obtain ⟨x32,hx32,hr⟩:=bind_some hr
 refine OkOps.q (triCl (tau []) (.s (aB x32)) [] (sl_ContainsFunc_dis_c _ hx32) rfl ⟨.inl rfl,.inl rfl,trivial⟩ trivial entry48 trivial) ?_
 obtain ⟨x33,hx33,hr⟩:=bind_some hr
 refine OkOps.m 0 (triCallF (caps:=[(2,0)]) (tau [(0,2)]) (.tup []) [(2,.blk [cI x33] 3)] rfl (ac_Actions_1_c _ _ _ hx33) rfl ⟨.inl rfl,.inl rfl,.inl rfl,trivial⟩ trivial entry41 ⟨rfl,trivial⟩ rfl rfl rfl rfl trivial rfl rfl rfl) (OkOps.nil ?_)
 exact ⟨x33,hr,(Conv.mk (tau []) ⟨⟨_,rfl,.inl rfl⟩,trivial⟩ ⟨rfl,trivial⟩ rfl rfl rfl rfl)⟩
 have hr:=selF h31 hr
 refine Ok.skip ?_
 exact ⟨x12,hr,(Conv.mk (tau []) ⟨⟨_,rfl,.inl rfl⟩,trivial⟩ ⟨rfl,trivial⟩ rfl rfl rfl rfl)⟩
theorem ac_roles_c  {r : (List Str)} (hr : ac_roles  = some r) : Con Tryz.prog 150 [] [] (.s (.c (.d (.sl (List.map eStr r))))) []:=by
 unfold ac_roles at hr
 refine Con.of_ok 2 0 [.tmp 0] [] Tryz.func150 rfl rfl rfl rfl rfl rfl rfl rfl fun w g M ρ _=>(Ok.seq (Ok.region (OkOps.y (.c (.d (.v (.slice none 0 0)))) (OkOps.nil (Ok.seq (Ok.region (OkOps.m 0 (triBST (sz:=1) (enc:=eStr) (j:=0) ([(ByteArray.mk #[110,111,110,101]),(ByteArray.mk #[119,105,110,100,111,119]),(ByteArray.mk #[103,114,111,117,112]),(ByteArray.mk #[116,101,120,116]),(ByteArray.mk #[98,117,116,116,111,110]),(ByteArray.mk #[116,101,120,116,98,111,120]),(ByteArray.mk #[105,109,97,103,101]),(ByteArray.mk #[99,104,101,99,107,98,111,120]),(ByteArray.mk #[108,105,110,107]),(ByteArray.mk #[115,99,114,111,108,108]),(ByteArray.mk #[104,101,97,100,105,110,103]),(ByteArray.mk #[108,105,115,116]),(ByteArray.mk #[105,116,101,109]),(ByteArray.mk #[100,105,97,108,111,103]),(ByteArray.mk #[115,108,105,100,101,114]),(ByteArray.mk #[115,116,97,116,117,115])]) rfl rfl rfl rfl rfl rfl rfl rfl (fun _=>rfl) trivial rfl rfl) (OkOps.y (.c (.tl 0 (List.map eStr ([(ByteArray.mk #[110,111,110,101]),(ByteArray.mk #[119,105,110,100,111,119]),(ByteArray.mk #[103,114,111,117,112]),(ByteArray.mk #[116,101,120,116]),(ByteArray.mk #[98,117,116,116,111,110]),(ByteArray.mk #[116,101,120,116,98,111,120]),(ByteArray.mk #[105,109,97,103,101]),(ByteArray.mk #[99,104,101,99,107,98,111,120]),(ByteArray.mk #[108,105,110,107]),(ByteArray.mk #[115,99,114,111,108,108]),(ByteArray.mk #[104,101,97,100,105,110,103]),(ByteArray.mk #[108,105,115,116]),(ByteArray.mk #[105,116,101,109]),(ByteArray.mk #[100,105,97,108,111,103]),(ByteArray.mk #[115,108,105,100,101,114]),(ByteArray.mk #[115,116,97,116,117,115])])))) (OkOps.nil (Ok.ret ?_))))))))))
 obtain rfl:=Option.some.inj hr
 exact ⟨_,rfl,.inr rfl,trivial⟩
theorem ac_natural_c (p_n : Node) (pressable : Bool) {r : Int} (hr : ac_natural p_n pressable = some r) : Con Tryz.prog 148 [.agg [cI p_n.ID,cI p_n.Parent,cI p_n.Kind,cS p_n.Key,.d (.sl (List.map Attr.cs p_n.Attrs)),.d (.sl (List.map Action.cs p_n.Actions)),.d (.sl (List.map (eInt .i64) p_n.Kids))],aB pressable] [] (.s (aI r)) []:=by
 unfold ac_natural at hr
 refine Con.of_ok 54 0 [.tmp 4] [(0,.s (.agg [cI p_n.ID,cI p_n.Parent,cI p_n.Kind,cS p_n.Key,.d (.sl (List.map Attr.cs p_n.Attrs)),.d (.sl (List.map Action.cs p_n.Actions)),.d (.sl (List.map (eInt .i64) p_n.Kids))])),(1,.s (aB pressable))] Tryz.func148 rfl rfl rfl rfl rfl rfl rfl rfl fun w g M ρ _=>(Ok.seq (Ok.region (OkOps.m 0 (triBox (j:=0) (cs:=[cI p_n.ID,cI p_n.Parent,cI p_n.Kind,cS p_n.Key,.d (.sl (List.map Attr.cs p_n.Attrs)),.d (.sl (List.map Action.cs p_n.Actions)),.d (.sl (List.map (eInt .i64) p_n.Kids))]) rfl rfl rfl rfl rfl) (OkOps.y (aI 0) (OkOps.nil (Ok.seq (Ok.region (OkOps.y (.c (.loc 0 4)) (OkOps.y (.c (.d (.sl (List.map Attr.cs p_n.Attrs)))) ?_)))))))))
 obtain ⟨x1,hx1,hr⟩:=bind_some hr
 refine OkOps.q (triCl (tau []) (.s (aS x1)) [] (vw_Text_c _ _ hx1) rfl ⟨.inl rfl,.inl rfl,trivial⟩ trivial entry107 trivial) (OkOps.y (aB (!(x1.toList == (ByteArray.mk #[]).toList))) (OkOps.y (aB (!(x1.toList == (ByteArray.mk #[]).toList))) (OkOps.nil ?_)))
 obtain ⟨k3,hk3,hr⟩:=jn_some hr
 refine Ok.join (fun (s2 : Unit)=>⟨[],[],0⟩) k3 r (fun s2 hr=>?_) ?_
 rw [hk3] at hr
 refine Ok.seq (Ok.region (OkOps.y (aI 0) (OkOps.nil (Ok.ret ?_))))
 obtain rfl:=Option.some.inj hr
 exact ⟨_,rfl,.inl rfl,trivial⟩
 clear hk3
 refine Ok.seq (Ok.region (OkOps.y (.c (.loc 0 2)) (OkOps.y (aI p_n.Kind) (OkOps.nil (Ok.block (Ok.seq (Ok.region (OkOps.y (aB (p_n.Kind == 2)) (OkOps.y (aB (p_n.Kind == 2)) (OkOps.nil ?_))))))))))
 refine Ok.cond (b:=p_n.Kind == 2) rfl (fun h4=>?_) (fun h4=>?_)
 have hr:=selT h4 hr
 refine Ok.seq (Ok.region (OkOps.y (aI 3) (OkOps.nil (Ok.ret ?_))))
 obtain rfl:=Option.some.inj hr
 exact ⟨_,rfl,.inl rfl,trivial⟩
 have hr:=selF h4 hr
 refine Ok.seq (Ok.region (OkOps.y (aB (p_n.Kind == 3)) (OkOps.y (aB (p_n.Kind == 3)) (OkOps.nil ?_))))
 refine Ok.cond (b:=p_n.Kind == 3) rfl (fun h5=>?_) (fun h5=>?_)
 have hr:=selT h5 hr
 refine Ok.seq (Ok.region (OkOps.y (aI 4) (OkOps.nil (Ok.ret ?_))))
 obtain rfl:=Option.some.inj hr
 exact ⟨_,rfl,.inl rfl,trivial⟩
 have hr:=selF h5 hr
 refine Ok.seq (Ok.region (OkOps.y (aB (p_n.Kind == 4)) (OkOps.y (aB (p_n.Kind == 4)) (OkOps.nil ?_))))
 refine Ok.cond (b:=p_n.Kind == 4) rfl (fun h6=>?_) (fun h6=>?_)
 have hr:=selT h6 hr
 refine Ok.seq (Ok.region (OkOps.y (aI 5) (OkOps.nil (Ok.ret ?_))))
 obtain rfl:=Option.some.inj hr
 exact ⟨_,rfl,.inl rfl,trivial⟩
 have hr:=selF h6 hr
 refine Ok.seq (Ok.region (OkOps.y (aB (p_n.Kind == 6)) (OkOps.y (aB (p_n.Kind == 6)) (OkOps.nil ?_))))
 refine Ok.cond (b:=p_n.Kind == 6) rfl (fun h7=>?_) (fun h7=>?_)
 have hr:=selT h7 hr
 refine Ok.seq (Ok.region (OkOps.y (aI 7) (OkOps.nil (Ok.ret ?_))))
 obtain rfl:=Option.some.inj hr
 exact ⟨_,rfl,.inl rfl,trivial⟩
 have hr:=selF h7 hr
 refine Ok.seq (Ok.region (OkOps.y (aB (p_n.Kind == 7)) (OkOps.y (aB (p_n.Kind == 7)) (OkOps.nil ?_))))
 refine Ok.cond (b:=p_n.Kind == 7) rfl (fun h8=>?_) (fun h8=>?_)
 have hr:=selT h8 hr
 refine Ok.seq (Ok.region (OkOps.y (aI 8) (OkOps.nil (Ok.ret ?_))))
 obtain rfl:=Option.some.inj hr
 exact ⟨_,rfl,.inl rfl,trivial⟩
 have hr:=selF h8 hr
 refine Ok.seq (Ok.region (OkOps.y (aB (p_n.Kind == 8)) (OkOps.y (aB (p_n.Kind == 8)) (OkOps.nil ?_))))
 refine Ok.cond (b:=p_n.Kind == 8) rfl (fun h9=>?_) (fun h9=>?_)
 have hr:=selT h9 hr
 refine Ok.seq (Ok.region (OkOps.y (aI 9) (OkOps.nil (Ok.ret ?_))))
 obtain rfl:=Option.some.inj hr
 exact ⟨_,rfl,.inl rfl,trivial⟩
 have hr:=selF h9 hr
 refine Ok.seq (Ok.region (OkOps.y (aB (p_n.Kind == 9)) (OkOps.y (aB (p_n.Kind == 9)) (OkOps.nil ?_))))
 refine Ok.cond (b:=p_n.Kind == 9) rfl (fun h10=>?_) (fun h10=>?_)
 have hr:=selT h10 hr
 refine Ok.seq (Ok.region (OkOps.y (aI 10) (OkOps.nil (Ok.ret ?_))))
 obtain rfl:=Option.some.inj hr
 exact ⟨_,rfl,.inl rfl,trivial⟩
 have hr:=selF h10 hr
 refine Ok.seq (Ok.region (OkOps.y (aB (p_n.Kind == 10)) (OkOps.y (aB (p_n.Kind == 10)) (OkOps.nil ?_))))
 refine Ok.cond (b:=p_n.Kind == 10) rfl (fun h11=>?_) (fun h11=>?_)
 have hr:=selT h11 hr
 refine Ok.seq (Ok.region (OkOps.y (aI 11) (OkOps.nil (Ok.ret ?_))))
 obtain rfl:=Option.some.inj hr
 exact ⟨_,rfl,.inl rfl,trivial⟩
 have hr:=selF h11 hr
 refine Ok.seq (Ok.region (OkOps.y (aB (p_n.Kind == 11)) (OkOps.y (aB (p_n.Kind == 11)) (OkOps.nil ?_))))
 refine Ok.cond (b:=p_n.Kind == 11) rfl (fun h12=>?_) (fun h12=>?_)
 have hr:=selT h12 hr
 refine Ok.seq (Ok.region (OkOps.y (aI 12) (OkOps.nil (Ok.ret ?_))))
 obtain rfl:=Option.some.inj hr
 exact ⟨_,rfl,.inl rfl,trivial⟩
 have hr:=selF h12 hr
 refine Ok.seq (Ok.region (OkOps.y (aB (p_n.Kind == 12)) (OkOps.y (aB (p_n.Kind == 12)) (OkOps.nil ?_))))
 refine Ok.cond (b:=p_n.Kind == 12) rfl (fun h13=>?_) (fun h13=>?_)
 have hr:=selT h13 hr
 refine Ok.seq (Ok.region (OkOps.y (aI 13) (OkOps.nil (Ok.ret ?_))))
 obtain rfl:=Option.some.inj hr
 exact ⟨_,rfl,.inl rfl,trivial⟩
 have hr:=selF h13 hr
 refine Ok.seq (Ok.region (OkOps.y (aB (p_n.Kind == 13)) (OkOps.y (aB (p_n.Kind == 13)) (OkOps.nil ?_))))
 refine Ok.cond (b:=p_n.Kind == 13) rfl (fun h14=>?_) (fun h14=>?_)
 have hr:=selT h14 hr
 refine Ok.seq (Ok.region (OkOps.y (aI 14) (OkOps.nil (Ok.ret ?_))))
 obtain rfl:=Option.some.inj hr
 exact ⟨_,rfl,.inl rfl,trivial⟩
 have hr:=selF h14 hr
 refine Ok.seq (Ok.region (OkOps.y (aB (p_n.Kind == 5)) (OkOps.y (aB (p_n.Kind == 5)) (OkOps.nil ?_))))
 refine Ok.cond (b:=p_n.Kind == 5) rfl (fun h15=>?_) (fun h15=>?_)
 have hr:=selT h15 hr
 refine Ok.seq (Ok.region (OkOps.y (aB (!(x1.toList == (ByteArray.mk #[]).toList))) (OkOps.nil ?_)))
 refine Ok.cond (b:=!(x1.toList == (ByteArray.mk #[]).toList)) rfl (fun h16=>?_) (fun h16=>?_)
 have hr:=selT h16 hr
 refine Ok.seq (Ok.region (OkOps.y (aI 6) (OkOps.nil (Ok.ret ?_))))
 obtain rfl:=Option.some.inj hr
 exact ⟨_,rfl,.inl rfl,trivial⟩
 have hr:=selF h16 hr
 refine Ok.skip ?_
 exact ⟨(),hr,(Conv.mk (tau []) trivial trivial rfl rfl rfl rfl)⟩
 have hr:=selF h15 hr
 refine Ok.seq (Ok.region (OkOps.y (aB (p_n.Kind == 1)) (OkOps.y (aB (p_n.Kind == 1)) (OkOps.nil ?_))))
 refine Ok.cond (b:=p_n.Kind == 1) rfl (fun h17=>?_) (fun h17=>?_)
 have hr:=selT h17 hr
 refine Ok.seq (Ok.region (OkOps.y (.c (.loc 0 4)) (OkOps.y (.c (.d (.sl (List.map Attr.cs p_n.Attrs)))) ?_)))
 obtain ⟨x18,hx18,hr⟩:=bind_some hr
 refine OkOps.q (triCl (tau []) (.s (aS x18)) [] (vw_Text_c _ _ hx18) rfl ⟨.inl rfl,.inl rfl,trivial⟩ trivial entry107 trivial) (OkOps.y (aS x18) (OkOps.nil (Ok.block (Ok.seq (Ok.region (OkOps.y (aB pressable) (OkOps.y (aB pressable) (OkOps.nil ?_))))))))
 refine Ok.cond (b:=pressable) rfl (fun h19=>?_) (fun h19=>?_)
 have hr:=selT h19 hr
 refine Ok.seq (Ok.region (OkOps.y (aI 4) (OkOps.nil (Ok.ret ?_))))
 obtain rfl:=Option.some.inj hr
 exact ⟨_,rfl,.inl rfl,trivial⟩
 have hr:=selF h19 hr
 refine Ok.seq (Ok.region (OkOps.y (aS x18) (OkOps.y (aB (x18.toList == (ByteArray.mk #[112,111,108,105,116,101]).toList)) (OkOps.y (aB (x18.toList == (ByteArray.mk #[112,111,108,105,116,101]).toList)) (OkOps.q (triQG (x:=aS x18) rfl rfl trivial rfl) (OkOps.q (triQG (x:=aB (x18.toList == (ByteArray.mk #[97,115,115,101,114,116,105,118,101]).toList)) rfl rfl ⟨fun h=>h,trivial⟩ rfl) ?_))))))
 refine OkOps.q (triOr rfl rfl (fun h=>by rw [h];rfl) rfl) ?_
 refine OkOps.y (aB ((x18.toList == (ByteArray.mk #[112,111,108,105,116,101]).toList) || (x18.toList == (ByteArray.mk #[97,115,115,101,114,116,105,118,101]).toList))) (OkOps.nil ?_)
 refine Ok.cond (b:=(x18.toList == (ByteArray.mk #[112,111,108,105,116,101]).toList) || (x18.toList == (ByteArray.mk #[97,115,115,101,114,116,105,118,101]).toList)) rfl (fun h20=>?_) (fun h20=>?_)
 have hr:=selT h20 hr
 refine Ok.seq (Ok.region (OkOps.y (aI 15) (OkOps.nil (Ok.ret ?_))))
 obtain rfl:=Option.some.inj hr
 exact ⟨_,rfl,.inl rfl,trivial⟩
 have hr:=selF h20 hr
 refine Ok.seq (Ok.region (OkOps.y (aB (!(x1.toList == (ByteArray.mk #[]).toList))) (OkOps.y (aB (!(x1.toList == (ByteArray.mk #[]).toList))) (OkOps.nil ?_))))
 refine Ok.cond (b:=!(x1.toList == (ByteArray.mk #[]).toList)) rfl (fun h21=>?_) (fun h21=>?_)
 have hr:=selT h21 hr
 refine Ok.seq (Ok.region (OkOps.y (aI 2) (OkOps.nil (Ok.ret ?_))))
 obtain rfl:=Option.some.inj hr
 exact ⟨_,rfl,.inl rfl,trivial⟩
 have hr:=selF h21 hr
 refine Ok.skip ?_
 exact ⟨(),hr,(Conv.mk (tau []) trivial trivial rfl rfl rfl rfl)⟩
 have hr:=selF h17 hr
 refine Ok.skip ?_
 exact ⟨(),hr,(Conv.mk (tau []) trivial trivial rfl rfl rfl rfl)⟩
theorem slices_Index_Sl_string_string_c (p_s : (List Str)) (v : Str) {r : Int} (hr : slices_Index_Sl_string_string p_s v = some r) : Con Tryz.prog 149 [.c (.d (.sl (List.map eStr p_s))),aS v] [] (.s (aI r)) []:=by
 unfold slices_Index_Sl_string_string at hr
 refine Con.of_ok 19 0 [.tmp 4] [(0,.s (.c (.d (.sl (List.map eStr p_s))))),(1,.s (aS v))] Tryz.func149 rfl rfl rfl rfl rfl rfl rfl rfl fun w g M ρ _=>(Ok.seq (Ok.region (OkOps.y (aI 0) (OkOps.nil ?_))))
 obtain ⟨k2,hk2,hr⟩:=jn_some hr
 refine Ok.join (fun (s1 : Unit)=>⟨[],[],0⟩) k2 r (fun s1 hr=>?_) ?_
 rw [hk2] at hr
 refine Ok.seq (Ok.region (OkOps.y (aI (-1)) (OkOps.nil (Ok.ret ?_))))
 obtain rfl:=Option.some.inj hr
 exact ⟨_,rfl,.inl rfl,trivial⟩
 clear hk2
 refine Ok.seq (Ok.region (OkOps.y (.c (.d (.sl (List.map eStr p_s)))) (OkOps.q (triLen (enc:=eStr) p_s rfl rfl trivial rfl) (OkOps.y (aI 0) (OkOps.nil (Ok.block (Ok.loopK (fun (s3 : Int)=>⟨[(0,.s (.c (.d (.sl (List.map eStr p_s))))),(1,.s (aS v)),(7,.s (aI (p_s.length : Int))),(8,.s (aI s3))],[],0⟩) hr (Conv.mk (tau []) ⟨⟨_,rfl,.inl rfl⟩,⟨_,rfl,.inl rfl⟩,⟨_,rfl,.inl rfl⟩,⟨_,rfl,.inl rfl⟩,trivial⟩ trivial rfl rfl rfl rfl) ?_)))))))
 clear hr
 intro again4 s3 hr
 unfold slices_Index_Sl_string_string_L1 at hr
 refine Ok.seq (Ok.region (OkOps.y (aB (decide (s3 < (p_s.length : Int)))) (OkOps.nil (Ok.seq ?_))))
 refine Ok.cond (b:=decide (s3 < (p_s.length : Int))) rfl (fun h5=>?_) (fun h5=>?_)
 have hr:=selT h5 hr
 refine Ok.skip (Ok.seq (Ok.block (Ok.seq (Ok.region (OkOps.y (aI s3) (OkOps.y (aI s3) (OkOps.nil (Ok.seq (Ok.region (OkOps.y (aS v) (OkOps.y (.c (.d (.sl (List.map eStr p_s)))) (OkOps.y (aI s3) ?_))))))))))))
 obtain ⟨x6,hx6,hr⟩:=bind_some hr
 refine OkOps.q (triIdx (enc:=eStr) (L:=p_s) (row:=[dS x6]) hx6 rfl rfl rfl rfl (fun _=>rfl) trivial rfl) (OkOps.y (aS x6) (OkOps.y (aB (v.toList == x6.toList)) (OkOps.nil ?_)))
 refine Ok.cond (b:=v.toList == x6.toList) rfl (fun h7=>?_) (fun h7=>?_)
 have hr:=selT h7 hr
 refine Ok.seq (Ok.region (OkOps.y (aI s3) (OkOps.y (aI s3) (OkOps.nil (Ok.ret ?_)))))
 obtain rfl:=Option.some.inj hr
 exact ⟨_,rfl,.inl rfl,trivial⟩
 have hr:=selF h7 hr
 refine Ok.skip (Ok.region (OkOps.y (aI (IntKind.i64.wrap (s3 + 1))) (OkOps.y (aI (IntKind.i64.wrap (s3 + 1))) (OkOps.nil ?_))))
 exact ⟨IntKind.i64.wrap (s3 + 1),hr,(Conv.mk (tau []) ⟨⟨_,rfl,.inl rfl⟩,⟨_,rfl,.inl rfl⟩,⟨_,rfl,.inl rfl⟩,⟨_,rfl,.inl rfl⟩,trivial⟩ trivial rfl rfl rfl rfl)⟩
 have hr:=selF h5 hr
 refine Ok.exit ?_
 exact ⟨(),hr,(Conv.mk (tau []) trivial trivial rfl rfl rfl rfl)⟩
theorem ac_Role_c (t : Tree) (id : Int) {r : Int} (hr : ac_Role t id = some r) : Con Tryz.prog 109 [.agg [cI t.Root,cI t.Next,.d (.sl (List.map Node.cs t.Nodes))],aI id] [] (.s (aI r)) []:=by
 unfold ac_Role at hr
 refine Con.of_ok 58 0 [.tmp 4] [(0,.s (.agg [cI t.Root,cI t.Next,.d (.sl (List.map Node.cs t.Nodes))])),(1,.s (aI id))] Tryz.func109 rfl rfl rfl rfl rfl rfl rfl rfl fun w g M ρ _=>(Ok.seq (Ok.region (OkOps.m 0 (triBox (j:=0) (cs:=[cI t.Root,cI t.Next,.d (.sl (List.map Node.cs t.Nodes))]) rfl rfl rfl rfl rfl) (OkOps.y (aI 0) (OkOps.nil (Ok.seq (Ok.region (OkOps.y (.agg [cI t.Root,cI t.Next,.d (.sl (List.map Node.cs t.Nodes))]) (OkOps.y (aI id) ?_)))))))))
 obtain ⟨x1,hx1,hr⟩:=bind_some hr
 refine OkOps.q (triCl (tau []) (.tup [.agg [cI x1.1.ID,cI x1.1.Parent,cI x1.1.Kind,cS x1.1.Key,.d (.sl (List.map Attr.cs x1.1.Attrs)),.d (.sl (List.map Action.cs x1.1.Actions)),.d (.sl (List.map (eInt .i64) x1.1.Kids))],aB x1.2]) [] (vw_Find_c _ _ hx1) rfl ⟨.inl rfl,.inl rfl,trivial⟩ trivial entry36 trivial) (OkOps.q (triMv (v:=.tup [.agg [cI x1.1.ID,cI x1.1.Parent,cI x1.1.Kind,cS x1.1.Key,.d (.sl (List.map Attr.cs x1.1.Attrs)),.d (.sl (List.map Action.cs x1.1.Actions)),.d (.sl (List.map (eInt .i64) x1.1.Kids))],aB x1.2]) rfl rfl) (OkOps.y (.agg [cI x1.1.ID,cI x1.1.Parent,cI x1.1.Kind,cS x1.1.Key,.d (.sl (List.map Attr.cs x1.1.Attrs)),.d (.sl (List.map Action.cs x1.1.Actions)),.d (.sl (List.map (eInt .i64) x1.1.Kids))]) (OkOps.y (aB x1.2) (OkOps.m 0 (triAlloc (j:=1) (cs:=[cI 0,cI 0,cI 0,cS ByteArray.empty,.d (.v (.slice none 0 0)),.d (.v (.slice none 0 0)),.d (.v (.slice none 0 0))]) rfl rfl rfl rfl) (OkOps.w (triStore (cs':=[cI x1.1.ID,cI x1.1.Parent,cI x1.1.Kind,cS x1.1.Key,.d (.sl (List.map Attr.cs x1.1.Attrs)),.d (.sl (List.map Action.cs x1.1.Actions)),.d (.sl (List.map (eInt .i64) x1.1.Kids))]) rfl rfl rfl rfl rfl rfl rfl rfl rfl) (OkOps.y (aB x1.2) (OkOps.nil (Ok.seq (Ok.seq (Ok.region (OkOps.y (aB x1.2) (OkOps.y (aB (!x1.2)) (OkOps.nil ?_)))))))))))))
 refine Ok.cond (b:=!x1.2) rfl (fun h2=>?_) (fun h2=>?_)
 have hr:=selT h2 hr
 refine Ok.seq (Ok.region (OkOps.y (aI 0) (OkOps.nil (Ok.ret ?_))))
 obtain rfl:=Option.some.inj hr
 exact ⟨_,rfl,.inl rfl,trivial⟩
 have hr:=selF h2 hr
 refine Ok.skip (Ok.seq (Ok.region (OkOps.y (.agg [cI t.Root,cI t.Next,.d (.sl (List.map Node.cs t.Nodes))]) (OkOps.y (aI id) ?_))))
 obtain ⟨x3,hx3,hr⟩:=bind_some hr
 refine OkOps.q (triCl (tau []) (.s (aB x3)) [] (fo_Pressable_c _ _ hx3) rfl ⟨.inl rfl,.inl rfl,trivial⟩ trivial entry42 trivial) (OkOps.y (aB x3) (OkOps.nil (Ok.seq (Ok.region (OkOps.y (.agg [cI x1.1.ID,cI x1.1.Parent,cI x1.1.Kind,cS x1.1.Key,.d (.sl (List.map Attr.cs x1.1.Attrs)),.d (.sl (List.map Action.cs x1.1.Actions)),.d (.sl (List.map (eInt .i64) x1.1.Kids))]) (OkOps.y (aB x3) ?_))))))
 obtain ⟨x4,hx4,hr⟩:=bind_some hr
 refine OkOps.q (triCl (tau []) (.s (aI x4)) [] (ac_natural_c _ _ hx4) rfl ⟨.inl rfl,.inl rfl,trivial⟩ trivial entry148 trivial) (OkOps.y (aI x4) (OkOps.nil ?_))
 obtain ⟨k6,hk6,hr⟩:=jn_some hr
 refine Ok.join (fun (s5 : Int)=>⟨[(1,.s (aI id)),(2,.s (.c (.loc 0 0))),(5,.s (.c (.loc 1 0))),(7,.s (aB x3)),(8,.s (aI s5))],[(0,.blk [cI t.Root,cI t.Next,.d (.sl (List.map Node.cs t.Nodes))] 30),(1,.blk [cI x1.1.ID,cI x1.1.Parent,cI x1.1.Kind,cS x1.1.Key,.d (.sl (List.map Attr.cs x1.1.Attrs)),.d (.sl (List.map Action.cs x1.1.Actions)),.d (.sl (List.map (eInt .i64) x1.1.Kids))] 61)],0⟩) k6 r (fun s5 hr=>?_) ?_
 rw [hk6] at hr
 refine Ok.seq (Ok.block (Ok.seq (Ok.region (OkOps.y (aI s5) (OkOps.y (aB (s5 != 0)) (OkOps.y (aB (s5 != 0)) (OkOps.nil ?_)))))))
 refine Ok.cond (b:=s5 != 0) rfl (fun h7=>?_) (fun h7=>?_)
 have hr:=selT h7 hr
 refine Ok.seq (Ok.region (OkOps.y (aI s5) (OkOps.y (aI s5) (OkOps.nil (Ok.ret ?_)))))
 obtain rfl:=Option.some.inj hr
 exact ⟨_,rfl,.inl rfl,trivial⟩
 have hr:=selF h7 hr
 refine Ok.seq (Ok.region (OkOps.y (aI id) (OkOps.y (.c (.loc 0 0)) (OkOps.y (aI t.Root) (OkOps.y (aB (id == t.Root)) (OkOps.y (aB (id == t.Root)) (OkOps.nil ?_)))))))
 refine Ok.cond (b:=id == t.Root) rfl (fun h8=>?_) (fun h8=>?_)
 have hr:=selT h8 hr
 refine Ok.seq (Ok.region (OkOps.y (aI 1) (OkOps.nil (Ok.ret ?_))))
 obtain rfl:=Option.some.inj hr
 exact ⟨_,rfl,.inl rfl,trivial⟩
 have hr:=selF h8 hr
 refine Ok.seq (Ok.region (OkOps.y (aB x3) (OkOps.y (aB x3) (OkOps.q (triQG (x:=.c (.loc 1 2)) rfl rfl trivial rfl) (OkOps.q (triQG (x:=aI x1.1.Kind) rfl rfl ⟨fun h=>h,trivial⟩ rfl) (OkOps.q (triQG (x:=aB (x1.1.Kind == 4)) rfl rfl ⟨fun h=>h,trivial⟩ rfl) ?_))))))
 refine OkOps.q (triOr rfl rfl (fun h=>by rw [h];rfl) rfl) ?_
 refine OkOps.y (aB (x3 || (x1.1.Kind == 4))) (OkOps.q (triQG (x:=.c (.loc 1 2)) rfl rfl trivial rfl) (OkOps.q (triQG (x:=aI x1.1.Kind) rfl rfl ⟨fun h=>h,trivial⟩ rfl) (OkOps.q (triQG (x:=aB (x1.1.Kind == 13)) rfl rfl ⟨fun h=>h,trivial⟩ rfl) ?_)))
 refine OkOps.q (triOr rfl rfl (fun h=>by rw [h];rfl) rfl) ?_
 refine OkOps.y (aB ((x3 || (x1.1.Kind == 4)) || (x1.1.Kind == 13))) (OkOps.q (triQG (x:=.c (.loc 1 4)) rfl rfl trivial rfl) (OkOps.q (triQG (x:=.c (.d (.sl (List.map Attr.cs x1.1.Attrs)))) rfl rfl ⟨fun h=>h,trivial⟩ rfl) ?_))
 obtain ⟨x9,hx9,hr⟩:=bind_some hr
 refine OkOps.q (triCallG (x:=aB x9) (fun hg=>vw_Flag_c _ _ (gO_t hx9 hg)) rfl rfl ⟨.inl rfl,.inl rfl,trivial⟩ ⟨fun h=>h,trivial⟩ entry45 rfl rfl rfl) ?_
 refine OkOps.q (triOr rfl rfl (fun h=>by rw [h];rfl) rfl) ?_
 refine OkOps.y (aB (((x3 || (x1.1.Kind == 4)) || (x1.1.Kind == 13)) || x9)) (OkOps.nil ?_)
 refine Ok.cond (b:=((x3 || (x1.1.Kind == 4)) || (x1.1.Kind == 13)) || x9) rfl (fun h10=>?_) (fun h10=>?_)
 have hr:=selT h10 hr
 refine Ok.seq (Ok.region (OkOps.y (aI 2) (OkOps.nil (Ok.ret ?_))))
 obtain rfl:=Option.some.inj hr
 exact ⟨_,rfl,.inl rfl,trivial⟩
 have hr:=selF h10 hr
 refine Ok.skip (Ok.seq (Ok.region (OkOps.y (aI 0) (OkOps.nil (Ok.ret ?_)))))
 obtain rfl:=Option.some.inj hr
 exact ⟨_,rfl,.inl rfl,trivial⟩
 clear hk6
 refine Ok.seq (Ok.regionD (by kernel_rfl) ?_)
 obtain ⟨x11,hx11,hr⟩:=bind_some hr
 refine OkD.q (triCl (tau []) (.s (.c (.d (.sl (List.map eStr x11))))) [] (ac_roles_c  hx11) rfl trivial trivial entry150 trivial) (OkD.x (.c (.loc 1 4)) rfl trivial rfl (OkD.x (.c (.d (.sl (List.map Attr.cs x1.1.Attrs)))) rfl trivial rfl ?_))
 obtain ⟨x12,hx12,hr⟩:=bind_some hr
 refine OkD.q (triCl (tau []) (.s (aS x12)) [] (vw_Text_c _ _ hx12) rfl ⟨.inl rfl,.inl rfl,trivial⟩ trivial entry107 trivial) ?_
 obtain ⟨x13,hx13,hr⟩:=bind_some hr
 refine OkD.q (triCl (tau []) (.s (aI x13)) [] (slices_Index_Sl_string_string_c _ _ hx13) rfl ⟨.inl rfl,.inl rfl,trivial⟩ trivial entry149 trivial) (OkD.x (aI x13) rfl trivial rfl (OkD.nil (by kernel_rfl) (Ok.seq (Ok.region (OkOps.y (aI x13) (OkOps.y (aB (decide (x13 ≥ 0))) (OkOps.nil ?_)))))))
 refine Ok.cond (b:=decide (x13 ≥ 0)) rfl (fun h14=>?_) (fun h14=>?_)
 have hr:=selT h14 hr
 refine Ok.region (OkOps.y (aI x13) (OkOps.y (aI x13) (OkOps.nil ?_)))
 exact ⟨x13,hr,(Conv.mk (tau []) ⟨⟨_,rfl,.inl rfl⟩,⟨_,rfl,.inl rfl⟩,⟨_,rfl,.inl rfl⟩,⟨_,rfl,.inl rfl⟩,⟨_,rfl,.inl rfl⟩,trivial⟩ ⟨rfl,rfl,trivial⟩ rfl rfl rfl rfl)⟩
 have hr:=selF h14 hr
 refine Ok.skip ?_
 exact ⟨x4,hr,(Conv.mk (tau []) ⟨⟨_,rfl,.inl rfl⟩,⟨_,rfl,.inl rfl⟩,⟨_,rfl,.inl rfl⟩,⟨_,rfl,.inl rfl⟩,⟨_,rfl,.inl rfl⟩,trivial⟩ ⟨rfl,rfl,trivial⟩ rfl rfl rfl rfl)⟩
theorem ac_closed_c (role : Int) {r : Bool} (hr : ac_closed role = some r) : Con Tryz.prog 162 [aI role] [] (.s (aB r)) []:=by
 unfold ac_closed at hr
 refine Con.of_ok 12 0 [.tmp 2] [(0,.s (aI role))] Tryz.func162 rfl rfl rfl rfl rfl rfl rfl rfl fun w g M ρ _=>(Ok.seq (Ok.region (OkOps.y (aB false) (OkOps.nil (Ok.seq (Ok.seq (Ok.region (OkOps.y (aI role) (OkOps.nil (Ok.block ?_))))))))))
 obtain ⟨k2,hk2,hr⟩:=jn_some hr
 refine Ok.join (fun (s1 : Bool)=>⟨[(4,.s (aB s1))],[],0⟩) k2 r (fun s1 hr=>?_) ?_
 rw [hk2] at hr
 refine Ok.cond (b:=s1) rfl (fun h3=>?_) (fun h3=>?_)
 have hr:=selT h3 hr
 refine Ok.seq (Ok.region (OkOps.y (aB true) (OkOps.nil (Ok.ret ?_))))
 obtain rfl:=Option.some.inj hr
 exact ⟨_,rfl,.inl rfl,trivial⟩
 have hr:=selF h3 hr
 refine Ok.skip (Ok.seq (Ok.region (OkOps.y (aB false) (OkOps.nil (Ok.ret ?_)))))
 obtain rfl:=Option.some.inj hr
 exact ⟨_,rfl,.inl rfl,trivial⟩
 clear hk2
 refine Ok.seq (Ok.region (OkOps.y (aB (role == 3)) (OkOps.y (aB (role == 3)) (OkOps.nil ?_))))
 refine Ok.cond (b:=role == 3) rfl (fun h4=>?_) (fun h4=>?_)
 have hr:=selT h4 hr
 refine Ok.skip ?_
 exact ⟨role == 3,hr,(Conv.mk (tau []) ⟨⟨_,rfl,.inl rfl⟩,trivial⟩ trivial rfl rfl rfl rfl)⟩
 have hr:=selF h4 hr
 refine Ok.seq (Ok.region (OkOps.y (aB (role == 4)) (OkOps.y (aB (role == 4)) (OkOps.nil ?_))))
 refine Ok.cond (b:=role == 4) rfl (fun h5=>?_) (fun h5=>?_)
 have hr:=selT h5 hr
 refine Ok.skip ?_
 exact ⟨role == 4,hr,(Conv.mk (tau []) ⟨⟨_,rfl,.inl rfl⟩,trivial⟩ trivial rfl rfl rfl rfl)⟩
 have hr:=selF h5 hr
 refine Ok.seq (Ok.region (OkOps.y (aB (role == 5)) (OkOps.y (aB (role == 5)) (OkOps.nil ?_))))
 refine Ok.cond (b:=role == 5) rfl (fun h6=>?_) (fun h6=>?_)
 have hr:=selT h6 hr
 refine Ok.skip ?_
 exact ⟨role == 5,hr,(Conv.mk (tau []) ⟨⟨_,rfl,.inl rfl⟩,trivial⟩ trivial rfl rfl rfl rfl)⟩
 have hr:=selF h6 hr
 refine Ok.seq (Ok.region (OkOps.y (aB (role == 6)) (OkOps.y (aB (role == 6)) (OkOps.nil ?_))))
 refine Ok.cond (b:=role == 6) rfl (fun h7=>?_) (fun h7=>?_)
 have hr:=selT h7 hr
 refine Ok.skip ?_
 exact ⟨role == 6,hr,(Conv.mk (tau []) ⟨⟨_,rfl,.inl rfl⟩,trivial⟩ trivial rfl rfl rfl rfl)⟩
 have hr:=selF h7 hr
 refine Ok.seq (Ok.region (OkOps.y (aB (role == 7)) (OkOps.y (aB (role == 7)) (OkOps.nil ?_))))
 refine Ok.cond (b:=role == 7) rfl (fun h8=>?_) (fun h8=>?_)
 have hr:=selT h8 hr
 refine Ok.skip ?_
 exact ⟨role == 7,hr,(Conv.mk (tau []) ⟨⟨_,rfl,.inl rfl⟩,trivial⟩ trivial rfl rfl rfl rfl)⟩
 have hr:=selF h8 hr
 refine Ok.seq (Ok.region (OkOps.y (aB (role == 8)) (OkOps.y (aB (role == 8)) (OkOps.nil ?_))))
 refine Ok.cond (b:=role == 8) rfl (fun h9=>?_) (fun h9=>?_)
 have hr:=selT h9 hr
 refine Ok.skip ?_
 exact ⟨role == 8,hr,(Conv.mk (tau []) ⟨⟨_,rfl,.inl rfl⟩,trivial⟩ trivial rfl rfl rfl rfl)⟩
 have hr:=selF h9 hr
 refine Ok.region (OkOps.y (aB (role == 14)) (OkOps.y (aB (role == 14)) (OkOps.nil ?_)))
 exact ⟨role == 14,hr,(Conv.mk (tau []) ⟨⟨_,rfl,.inl rfl⟩,trivial⟩ trivial rfl rfl rfl rfl)⟩
theorem fo_CandidatesS_c (t : Tree) (st : (List Styled)) {r : (List Int)} (hr : fo_CandidatesS t st = some r) : Con Tryz.prog 43 [.agg [cI t.Root,cI t.Next,.d (.sl (List.map Node.cs t.Nodes))],.c (.d (.sl (List.map Styled.cs st)))] [] (.s (.c (.d (.sl (List.map (eInt .i64) r))))) []:=by
 unfold fo_CandidatesS at hr
 refine Con.of_ok 34 0 [.tmp 4] [(0,.s (.agg [cI t.Root,cI t.Next,.d (.sl (List.map Node.cs t.Nodes))])),(1,.s (.c (.d (.sl (List.map Styled.cs st)))))] Tryz.func43 rfl rfl rfl rfl rfl rfl rfl rfl fun w g M ρ _=>(Ok.seq (Ok.region (OkOps.m 0 (triBox (j:=0) (cs:=[cI t.Root,cI t.Next,.d (.sl (List.map Node.cs t.Nodes))]) rfl rfl rfl rfl rfl) (OkOps.y (.c (.d (.v (.slice none 0 0)))) (OkOps.nil (Ok.seq (Ok.region (OkOps.y (.agg [cI t.Root,cI t.Next,.d (.sl (List.map Node.cs t.Nodes))]) (OkOps.y (.c (.d (.sl (List.map Styled.cs st)))) ?_)))))))))
 obtain ⟨x1,hx1,hr⟩:=bind_some hr
 refine OkOps.q (triCl (tau []) (.s (.agg [.d (.sl (List.map (eInt .i64) x1.order)),.d (.mp true (encM (kInt .i64) Node.cs x1.nodes)),.d (.mp false (encM (kInt .i64) eBool x1.visible)),.d (.mp false (encM (kInt .i64) eBool x1.disabled))])) [] (fo_look_c _ _ hx1) rfl ⟨.inl rfl,.inl rfl,trivial⟩ trivial entry58 trivial) (OkOps.m 0 (triAlloc (j:=1) (cs:=[.d (.v (.slice none 0 0)),.d (.v (.map none)),.d (.v (.map none)),.d (.v (.map none))]) rfl rfl rfl rfl) (OkOps.w (triStore (cs':=[.d (.sl (List.map (eInt .i64) x1.order)),.d (.mp true (encM (kInt .i64) Node.cs x1.nodes)),.d (.mp false (encM (kInt .i64) eBool x1.visible)),.d (.mp false (encM (kInt .i64) eBool x1.disabled))]) rfl rfl rfl rfl rfl rfl rfl rfl rfl) (OkOps.nil (Ok.seq (Ok.seq (Ok.region (OkOps.y (.c (.loc 1 0)) (OkOps.y (.c (.d (.sl (List.map (eInt .i64) x1.order)))) (OkOps.q (triLen (enc:=(eInt .i64)) x1.order rfl rfl trivial rfl) (OkOps.y (aB ((x1.order.length : Int) == 0)) (OkOps.nil ?_)))))))))))
 refine Ok.cond (b:=(x1.order.length : Int) == 0) rfl (fun h2=>?_) (fun h2=>?_)
 have hr:=selT h2 hr
 refine Ok.seq (Ok.region (OkOps.y (.c (.d (.v (.slice none 0 0)))) (OkOps.nil (Ok.ret ?_))))
 obtain rfl:=Option.some.inj hr
 exact ⟨_,rfl,.inr rfl,trivial⟩
 have hr:=selF h2 hr
 refine Ok.skip (Ok.seq (Ok.region (OkOps.y (.c (.d (.v (.slice none 0 0)))) (OkOps.conv (Conv.nilV (enc:=(eInt .i64)) 6 2 1 0 rfl rfl) (OkOps.nil ?_)))))
 obtain ⟨k4,hk4,hr⟩:=jn_some hr
 refine Ok.join (fun (s3 : (List Int))=>⟨[(6,.s (.c (.own 1006)))],[(1006,.vec 1 (List.map (eInt .i64) s3))],0⟩) k4 r (fun s3 hr=>?_) ?_
 rw [hk4] at hr
 refine Ok.seq (Ok.region (OkOps.y (.c (.own 1006)) (OkOps.y (.c (.own 1006)) (OkOps.nil (Ok.conv (Conv.freeze (enc:=(eInt .i64)) (L:=s3) [4,6,33] 1006 3 1 0 ⟨rfl,rfl,rfl,trivial⟩ rfl (fun _=>rfl) rfl) (Ok.ret ?_))))))
 obtain rfl:=Option.some.inj hr
 exact ⟨_,rfl,.inr rfl,trivial⟩
 clear hk4
 refine Ok.seq (Ok.regionD (by kernel_rfl) (OkD.x (.agg [.d (.sl (List.map (eInt .i64) x1.order)),.d (.mp true (encM (kInt .i64) Node.cs x1.nodes)),.d (.mp false (encM (kInt .i64) eBool x1.visible)),.d (.mp false (encM (kInt .i64) eBool x1.disabled))]) rfl trivial rfl (OkD.x (.agg [.d (.sl (List.map (eInt .i64) x1.order)),.d (.mp true (encM (kInt .i64) Node.cs x1.nodes)),.d (.mp false (encM (kInt .i64) eBool x1.visible)),.d (.mp false (encM (kInt .i64) eBool x1.disabled))]) rfl trivial rfl ?_)))
 obtain ⟨x5,hx5,hr⟩:=bind_some hr
 refine OkD.q (triCl (tau []) (.s (aI x5)) [] (fo_sight_scope_c _ hx5) rfl ⟨.inl rfl,trivial⟩ trivial entry59 trivial) ?_
 obtain ⟨x6,hx6,hr⟩:=bind_some hr
 refine OkD.q (triCl (tau []) (.s (.c (.d (.sl (List.map (eInt .i64) x6))))) [] (fo_sight_below_c _ _ _ hx6) rfl ⟨.inl rfl,.inl rfl,trivial⟩ trivial entry82 trivial) (OkD.q (triLen (enc:=(eInt .i64)) x6 rfl rfl trivial rfl) (OkD.x (aI 0) rfl trivial rfl (OkD.nil (by kernel_rfl) (Ok.block (Ok.loopK (fun (s7 : (List Int) × Int)=>⟨[(5,.s (.c (.loc 1 0))),(6,.s (.c (.own 1009))),(19,.s (.c (.d (.sl (List.map (eInt .i64) x6))))),(20,.s (aI (x6.length : Int))),(21,.s (aI s7.2))],[(1,.blk [.d (.sl (List.map (eInt .i64) x1.order)),.d (.mp true (encM (kInt .i64) Node.cs x1.nodes)),.d (.mp false (encM (kInt .i64) eBool x1.visible)),.d (.mp false (encM (kInt .i64) eBool x1.disabled))] 105),(1009,.vec 1 (List.map (eInt .i64) s7.1))],0⟩) hr (Conv.mk (tau [(1009,2)]) ⟨⟨_,rfl,.inl rfl⟩,⟨_,rfl,.inl rfl⟩,⟨_,rfl,.inl rfl⟩,⟨_,rfl,.inl rfl⟩,⟨_,rfl,.inl rfl⟩,trivial⟩ ⟨rfl,rfl,trivial⟩ rfl rfl rfl rfl) ?_)))))
 clear hr
 intro again8 s7 hr
 unfold fo_CandidatesS_L1 at hr
 refine Ok.seq (Ok.region (OkOps.y (aB (decide (s7.2 < (x6.length : Int)))) (OkOps.nil (Ok.seq ?_))))
 refine Ok.cond (b:=decide (s7.2 < (x6.length : Int))) rfl (fun h9=>?_) (fun h9=>?_)
 have hr:=selT h9 hr
 refine Ok.skip ?_
 obtain ⟨k11,hk11,hr⟩:=jn_some hr
 refine Ok.join (fun (s10 : (List Int))=>⟨[(5,.s (.c (.loc 1 0))),(6,.s (.c (.own 1012))),(19,.s (.c (.d (.sl (List.map (eInt .i64) x6))))),(20,.s (aI (x6.length : Int))),(21,.s (aI s7.2))],[(1,.blk [.d (.sl (List.map (eInt .i64) x1.order)),.d (.mp true (encM (kInt .i64) Node.cs x1.nodes)),.d (.mp false (encM (kInt .i64) eBool x1.visible)),.d (.mp false (encM (kInt .i64) eBool x1.disabled))] 105),(1012,.vec 1 (List.map (eInt .i64) s10))],0⟩) k11 r (fun s10 hr=>?_) ?_
 rw [hk11] at hr
 refine Ok.region (OkOps.y (aI (IntKind.i64.wrap (s7.2 + 1))) (OkOps.y (aI (IntKind.i64.wrap (s7.2 + 1))) (OkOps.nil ?_)))
 exact ⟨(s10,IntKind.i64.wrap (s7.2 + 1)),hr,(Conv.mk (tau [(1009,1012)]) ⟨⟨_,rfl,.inl rfl⟩,⟨_,rfl,.inl rfl⟩,⟨_,rfl,.inl rfl⟩,⟨_,rfl,.inl rfl⟩,⟨_,rfl,.inl rfl⟩,trivial⟩ ⟨rfl,rfl,trivial⟩ rfl rfl rfl rfl)⟩
 clear hk11
 refine Ok.block (Ok.seq (Ok.region ?_))
 obtain ⟨x12,hx12,hr⟩:=bind_some hr
 refine OkOps.q (triIdx (enc:=(eInt .i64)) (L:=x6) (row:=[dI x12]) hx12 rfl rfl rfl rfl (fun _=>rfl) trivial rfl) (OkOps.y (aI x12) (OkOps.y (aI x12) (OkOps.nil (Ok.seq (Ok.region (OkOps.y (.agg [.d (.sl (List.map (eInt .i64) x1.order)),.d (.mp true (encM (kInt .i64) Node.cs x1.nodes)),.d (.mp false (encM (kInt .i64) eBool x1.visible)),.d (.mp false (encM (kInt .i64) eBool x1.disabled))]) (OkOps.y (aI x12) ?_)))))))
 obtain ⟨x13,hx13,hr⟩:=bind_some hr
 refine OkOps.q (triCl (tau []) (.s (aB x13)) [] (fo_sight_focusable_c _ _ hx13) rfl ⟨.inl rfl,.inl rfl,trivial⟩ trivial entry83 trivial) (OkOps.nil ?_)
 refine Ok.cond (b:=x13) rfl (fun h14=>?_) (fun h14=>?_)
 have hr:=selT h14 hr
 refine Ok.region (OkOps.y (.c (.own 1009)) (OkOps.y (aI x12) (OkOps.m 0 (triBST (sz:=1) (enc:=(eInt .i64)) (j:=4) ([x12]) rfl rfl rfl rfl rfl rfl rfl rfl (fun _=>rfl) trivial rfl rfl) ?_)))
 obtain ⟨x15,hx15,hr⟩:=bind_some hr
 refine OkOps.m2 0 (triAppV (enc:=(eInt .i64)) (L:=s7.1) (X:=[x12]) (j:=1009) (j':=5) hx15 rfl rfl rfl rfl rfl rfl (fun _=>rfl) (fun _=>rfl) trivial rfl rfl) (OkOps.y (.c (.own 5)) (OkOps.nil ?_))
 exact ⟨x15,hr,(Conv.mk (tau [(1012,5)]) ⟨⟨_,rfl,.inl rfl⟩,⟨_,rfl,.inl rfl⟩,⟨_,rfl,.inl rfl⟩,⟨_,rfl,.inl rfl⟩,⟨_,rfl,.inl rfl⟩,trivial⟩ ⟨rfl,rfl,trivial⟩ rfl rfl rfl rfl)⟩
 have hr:=selF h14 hr
 refine Ok.skip ?_
 exact ⟨s7.1,hr,(Conv.mk (tau [(1012,1009)]) ⟨⟨_,rfl,.inl rfl⟩,⟨_,rfl,.inl rfl⟩,⟨_,rfl,.inl rfl⟩,⟨_,rfl,.inl rfl⟩,⟨_,rfl,.inl rfl⟩,trivial⟩ ⟨rfl,rfl,trivial⟩ rfl rfl rfl rfl)⟩
 have hr:=selF h9 hr
 refine Ok.exit ?_
 exact ⟨s7.1,hr,(Conv.mk (tau [(1006,1009)]) ⟨⟨_,rfl,.inl rfl⟩,trivial⟩ ⟨rfl,trivial⟩ rfl rfl rfl rfl)⟩
theorem ac_visible_c (t : Tree) (st : (List Styled)) {r : (List (Int × Bool))} (hr : ac_visible t st = some r) : Con Tryz.prog 122 [.agg [cI t.Root,cI t.Next,.d (.sl (List.map Node.cs t.Nodes))],.c (.d (.sl (List.map Styled.cs st)))] [] (.s (.c (.d (.mp false (encM (kInt .i64) eBool r))))) []:=by
 unfold ac_visible at hr
 refine Con.of_ok 43 0 [.tmp 4] [(0,.s (.agg [cI t.Root,cI t.Next,.d (.sl (List.map Node.cs t.Nodes))])),(1,.s (.c (.d (.sl (List.map Styled.cs st)))))] Tryz.func122 rfl rfl rfl rfl rfl rfl rfl rfl fun w g M ρ _=>(Ok.seq (Ok.region (OkOps.m 0 (triBox (j:=0) (cs:=[cI t.Root,cI t.Next,.d (.sl (List.map Node.cs t.Nodes))]) rfl rfl rfl rfl rfl) (OkOps.y (.c (.d (.v (.map none)))) (OkOps.nil (Ok.seq (Ok.region (OkOps.m 0 (triMkM (j:=1) false rfl rfl) (OkOps.y (.c (.own 1)) (OkOps.nil ?_))))))))))
 obtain ⟨k2,hk2,hr⟩:=jn_some hr
 refine Ok.join (fun (s1 : (List (Int × Bool)))=>⟨[(1,.s (.c (.d (.sl (List.map Styled.cs st))))),(5,.s (.c (.own 1)))],[(1,.mp false (encM (kInt .i64) eBool s1))],0⟩) k2 r (fun s1 hr=>?_) ?_
 rw [hk2] at hr
 obtain ⟨k4,hk4,hr⟩:=jn_some hr
 refine Ok.join (fun (s3 : (List (Int × Bool)))=>⟨[(5,.s (.c (.own 1)))],[(1,.mp false (encM (kInt .i64) eBool s3))],0⟩) k4 r (fun s3 hr=>?_) ?_
 rw [hk4] at hr
 refine Ok.seq (Ok.region (OkOps.y (.c (.own 1)) (OkOps.y (.c (.own 1)) (OkOps.nil (Ok.conv (Conv.freezeM [(4,.s (.c (.d (.mp false (encM (kInt .i64) eBool s3))))),(5,.s (.c (.d (.mp false (encM (kInt .i64) eBool s3))))),(42,.s (.c (.d (.mp false (encM (kInt .i64) eBool s3)))))] [] 1 0 rfl ⟨⟨_,rfl,rfl⟩,⟨_,rfl,rfl⟩,⟨_,rfl,rfl⟩,trivial⟩ trivial) (Ok.ret ?_))))))
 obtain rfl:=Option.some.inj hr
 exact ⟨_,rfl,.inl rfl,trivial⟩
 clear hk4
 refine Ok.seq (Ok.region (OkOps.y (.c (.d (.sl (List.map Styled.cs st)))) (OkOps.q (triLen (enc:=Styled.cs) st rfl rfl trivial rfl) (OkOps.y (aI 0) (OkOps.nil (Ok.block (Ok.loopK (fun (s5 : Int × (List (Int × Bool)))=>⟨[(5,.s (.c (.own 1))),(22,.s (.c (.d (.sl (List.map Styled.cs st))))),(23,.s (aI (st.length : Int))),(24,.s (aI s5.1))],[(1,.mp false (encM (kInt .i64) eBool s5.2))],0⟩) hr (Conv.mk (tau []) ⟨⟨_,rfl,.inl rfl⟩,⟨_,rfl,.inl rfl⟩,⟨_,rfl,.inl rfl⟩,⟨_,rfl,.inl rfl⟩,trivial⟩ ⟨rfl,trivial⟩ rfl rfl rfl rfl) ?_)))))))
 clear hr
 intro again6 s5 hr
 unfold ac_visible_L1 at hr
 refine Ok.seq (Ok.region (OkOps.y (aB (decide (s5.1 < (st.length : Int)))) (OkOps.nil (Ok.seq ?_))))
 refine Ok.cond (b:=decide (s5.1 < (st.length : Int))) rfl (fun h7=>?_) (fun h7=>?_)
 have hr:=selT h7 hr
 refine Ok.skip (Ok.seq (Ok.block (Ok.seq (Ok.region ?_))))
 obtain ⟨x8,hx8,hr⟩:=bind_some hr
 refine OkOps.q (triIdx (enc:=Styled.cs) (L:=st) (row:=[dI x8.ID,dI (x8.Style 0),dI (x8.Style 1),dI (x8.Style 2),dI (x8.Style 3),dI (x8.Style 4),dI (x8.Style 5),dI (x8.Style 6),dI (x8.Style 7),dI (x8.Style 8),dI (x8.Style 9),dI (x8.Style 10),dI (x8.Style 11),dI (x8.Style 12),dI (x8.Style 13),dI (x8.Style 14),dI (x8.Style 15),dI (x8.Style 16),dI (x8.Style 17),dI (x8.Style 18),dI (x8.Style 19),dI (x8.Style 20),dI (x8.Style 21)]) hx8 rfl rfl rfl rfl (fun _=>rfl) trivial rfl) (OkOps.y (.agg [cI x8.ID,cI (x8.Style 0),cI (x8.Style 1),cI (x8.Style 2),cI (x8.Style 3),cI (x8.Style 4),cI (x8.Style 5),cI (x8.Style 6),cI (x8.Style 7),cI (x8.Style 8),cI (x8.Style 9),cI (x8.Style 10),cI (x8.Style 11),cI (x8.Style 12),cI (x8.Style 13),cI (x8.Style 14),cI (x8.Style 15),cI (x8.Style 16),cI (x8.Style 17),cI (x8.Style 18),cI (x8.Style 19),cI (x8.Style 20),cI (x8.Style 21)]) (OkOps.m 0 (triAlloc (j:=2) (cs:=[cI 0,cI 0,cI 0,cI 0,cI 0,cI 0,cI 0,cI 0,cI 0,cI 0,cI 0,cI 0,cI 0,cI 0,cI 0,cI 0,cI 0,cI 0,cI 0,cI 0,cI 0,cI 0,cI 0]) rfl rfl rfl rfl) (OkOps.w (triStore (cs':=[cI x8.ID,cI (x8.Style 0),cI (x8.Style 1),cI (x8.Style 2),cI (x8.Style 3),cI (x8.Style 4),cI (x8.Style 5),cI (x8.Style 6),cI (x8.Style 7),cI (x8.Style 8),cI (x8.Style 9),cI (x8.Style 10),cI (x8.Style 11),cI (x8.Style 12),cI (x8.Style 13),cI (x8.Style 14),cI (x8.Style 15),cI (x8.Style 16),cI (x8.Style 17),cI (x8.Style 18),cI (x8.Style 19),cI (x8.Style 20),cI (x8.Style 21)]) rfl rfl rfl rfl rfl rfl rfl rfl (by kernel_rfl)) (OkOps.nil (Ok.region (OkOps.y (.c (.own 1)) (OkOps.y (.c (.loc 2 0)) (OkOps.y (aI x8.ID) (OkOps.y (.c (.own 1)) (OkOps.y (.c (.loc 2 0)) (OkOps.y (aI x8.ID) ?_)))))))))))
 obtain ⟨x9,hx9,hr⟩:=bind_some hr
 refine OkOps.q (triLook (agg:=false) (ek:=(kInt .i64)) (ev:=eBool) (L:=s5.2) (r:=aB x9.1) hx9 rfl rfl rfl (keyInt Tryz.underlying3) rfl rfl (fun _ _=>rfl) rfl trivial rfl) (OkOps.y (aB x9.1) (OkOps.q (triQG (x:=.c (.loc 2 1)) rfl rfl trivial rfl) (OkOps.q (triQG (x:=.c (.loc 2 22)) rfl rfl ⟨fun h=>h,trivial⟩ rfl) (OkOps.q (triQG (x:=aI (x8.Style 21)) rfl rfl ⟨fun h=>h,trivial⟩ rfl) (OkOps.q (triQG (x:=aB ((x8.Style 21) == 0)) rfl rfl ⟨fun h=>h,trivial⟩ rfl) (OkOps.q (triAnd rfl rfl (fun h=>h) rfl) (OkOps.w (triMapUp (ek:=(kInt .i64)) (ev:=eBool) (L:=s5.2) (z:=x9.1 && ((x8.Style 21) == 0)) rfl rfl rfl rfl rfl rfl (keyInt Tryz.underlying3) (fun _ _=>rfl) rfl trivial) (OkOps.nil (Ok.region (OkOps.y (aI (IntKind.i64.wrap (s5.1 + 1))) (OkOps.y (aI (IntKind.i64.wrap (s5.1 + 1))) (OkOps.nil ?_))))))))))))
 exact ⟨(IntKind.i64.wrap (s5.1 + 1),msetL s5.2 x8.ID (x9.1 && ((x8.Style 21) == 0))),hr,(Conv.mk (tau []) ⟨⟨_,rfl,.inl rfl⟩,⟨_,rfl,.inl rfl⟩,⟨_,rfl,.inl rfl⟩,⟨_,rfl,.inl rfl⟩,trivial⟩ ⟨rfl,trivial⟩ rfl rfl rfl rfl)⟩
 have hr:=selF h7 hr
 refine Ok.exit ?_
 exact ⟨s5.2,hr,(Conv.mk (tau []) ⟨⟨_,rfl,.inl rfl⟩,trivial⟩ ⟨rfl,trivial⟩ rfl rfl rfl rfl)⟩
 clear hk2
 refine Ok.seq (Ok.region (OkOps.y (.agg [cI t.Root,cI t.Next,.d (.sl (List.map Node.cs t.Nodes))]) (OkOps.y (.c (.d (.sl (List.map Styled.cs st)))) ?_)))
 obtain ⟨x10,hx10,hr⟩:=bind_some hr
 refine OkOps.q (triCl (tau []) (.s (.c (.d (.sl (List.map (eInt .i64) x10))))) [] (widgetry_layout_Shown_c _ _ hx10) rfl ⟨.inl rfl,.inl rfl,trivial⟩ trivial entry78 trivial) (OkOps.q (triLen (enc:=(eInt .i64)) x10 rfl rfl trivial rfl) (OkOps.y (aI 0) (OkOps.nil (Ok.block (Ok.loopK (fun (s11 : Int × (List (Int × Bool)))=>⟨[(1,.s (.c (.d (.sl (List.map Styled.cs st))))),(5,.s (.c (.own 1))),(13,.s (.c (.d (.sl (List.map (eInt .i64) x10))))),(14,.s (aI (x10.length : Int))),(15,.s (aI s11.1))],[(1,.mp false (encM (kInt .i64) eBool s11.2))],0⟩) hr (Conv.mk (tau []) ⟨⟨_,rfl,.inl rfl⟩,⟨_,rfl,.inl rfl⟩,⟨_,rfl,.inl rfl⟩,⟨_,rfl,.inl rfl⟩,⟨_,rfl,.inl rfl⟩,trivial⟩ ⟨rfl,trivial⟩ rfl rfl rfl rfl) ?_)))))
 clear hr
 intro again12 s11 hr
 unfold ac_visible_L2 at hr
 refine Ok.seq (Ok.region (OkOps.y (aB (decide (s11.1 < (x10.length : Int)))) (OkOps.nil (Ok.seq ?_))))
 refine Ok.cond (b:=decide (s11.1 < (x10.length : Int))) rfl (fun h13=>?_) (fun h13=>?_)
 have hr:=selT h13 hr
 refine Ok.skip (Ok.seq (Ok.block (Ok.seq (Ok.region ?_))))
 obtain ⟨x14,hx14,hr⟩:=bind_some hr
 refine OkOps.q (triIdx (enc:=(eInt .i64)) (L:=x10) (row:=[dI x14]) hx14 rfl rfl rfl rfl (fun _=>rfl) trivial rfl) (OkOps.y (aI x14) (OkOps.y (aI x14) (OkOps.nil (Ok.region (OkOps.y (.c (.own 1)) (OkOps.y (aI x14) (OkOps.w (triMapUp (ek:=(kInt .i64)) (ev:=eBool) (L:=s11.2) (z:=true) rfl rfl rfl rfl rfl rfl (keyInt Tryz.underlying3) (fun _ _=>rfl) rfl trivial) (OkOps.nil (Ok.region (OkOps.y (aI (IntKind.i64.wrap (s11.1 + 1))) (OkOps.y (aI (IntKind.i64.wrap (s11.1 + 1))) (OkOps.nil ?_))))))))))))
 exact ⟨(IntKind.i64.wrap (s11.1 + 1),msetL s11.2 x14 true),hr,(Conv.mk (tau []) ⟨⟨_,rfl,.inl rfl⟩,⟨_,rfl,.inl rfl⟩,⟨_,rfl,.inl rfl⟩,⟨_,rfl,.inl rfl⟩,⟨_,rfl,.inl rfl⟩,trivial⟩ ⟨rfl,trivial⟩ rfl rfl rfl rfl)⟩
 have hr:=selF h13 hr
 refine Ok.exit ?_
 exact ⟨s11.2,hr,(Conv.mk (tau []) ⟨⟨_,rfl,.inl rfl⟩,⟨_,rfl,.inl rfl⟩,trivial⟩ ⟨rfl,trivial⟩ rfl rfl rfl rfl)⟩
theorem ac_walker_walk_B_c (self0 : accessible_walker → Int → Int → Bool → Bool → Option accessible_walker) (hself0 : ∀ (p_w : accessible_walker) (id : Int) (parent : Int) (excluded : Bool) (shut : Bool) {r : accessible_walker},self0 p_w id parent excluded shut = some r → Con Tryz.prog 123 [.c (.loc 0 0),aI id,aI parent,aB excluded,aB shut] [(0,.blk [cI p_w.t.Root,cI p_w.t.Next,.d (.sl (List.map Node.cs p_w.t.Nodes)),.d (.mp true (encM (kInt .i64) Node.cs p_w.nodes)),.d (.mp false (encM (kInt .i64) eBool p_w.visible)),.d (.sl (List.map (eInt .i64) p_w.candidates)),.tl 1 (List.map (eInt .i64) p_w.ids),.tl 2 (List.map (eInt .i64) p_w.parents)] 175),(1,.tail 1),(2,.tail 1)] (.tup []) [(0,.blk [cI r.t.Root,cI r.t.Next,.d (.sl (List.map Node.cs r.t.Nodes)),.d (.mp true (encM (kInt .i64) Node.cs r.nodes)),.d (.mp false (encM (kInt .i64) eBool r.visible)),.d (.sl (List.map (eInt .i64) r.candidates)),.tl 3000 (List.map (eInt .i64) r.ids),.tl 3001 (List.map (eInt .i64) r.parents)] 175),(1,.dead),(2,.dead),(3000,.tail 1),(3001,.tail 1)]) (p_w : accessible_walker) (id : Int) (parent : Int) (excluded : Bool) (shut : Bool) {r : accessible_walker} (hr : ac_walker_walk_B self0 p_w id parent excluded shut = some r) : Con Tryz.prog 123 [.c (.loc 0 0),aI id,aI parent,aB excluded,aB shut] [(0,.blk [cI p_w.t.Root,cI p_w.t.Next,.d (.sl (List.map Node.cs p_w.t.Nodes)),.d (.mp true (encM (kInt .i64) Node.cs p_w.nodes)),.d (.mp false (encM (kInt .i64) eBool p_w.visible)),.d (.sl (List.map (eInt .i64) p_w.candidates)),.tl 1 (List.map (eInt .i64) p_w.ids),.tl 2 (List.map (eInt .i64) p_w.parents)] 175),(1,.tail 1),(2,.tail 1)] (.tup []) [(0,.blk [cI r.t.Root,cI r.t.Next,.d (.sl (List.map Node.cs r.t.Nodes)),.d (.mp true (encM (kInt .i64) Node.cs r.nodes)),.d (.mp false (encM (kInt .i64) eBool r.visible)),.d (.sl (List.map (eInt .i64) r.candidates)),.tl 3000 (List.map (eInt .i64) r.ids),.tl 3001 (List.map (eInt .i64) r.parents)] 175),(1,.dead),(2,.dead),(3000,.tail 1),(3001,.tail 1)]:=by
 unfold ac_walker_walk_B at hr
 refine Con.of_ok 113 0 [] [(0,.s (.c (.loc 0 0))),(1,.s (aI id)),(2,.s (aI parent)),(3,.s (aB excluded)),(4,.s (aB shut))] Tryz.func123 rfl rfl rfl rfl rfl rfl rfl rfl fun w g M ρ _=>(Ok.seq (Ok.region (OkOps.y (.c (.loc 0 0)) (OkOps.y (.c (.loc 0 0)) (OkOps.y (.c (.loc 0 3)) (OkOps.y (.c (.d (.mp true (encM (kInt .i64) Node.cs p_w.nodes)))) (OkOps.y (aI id) ?_)))))))
 obtain ⟨x1,hx1,hr⟩:=bind_some hr
 refine OkOps.q (triLook (agg:=true) (ek:=(kInt .i64)) (ev:=Node.cs) (L:=p_w.nodes) (r:=.agg [cI x1.1.ID,cI x1.1.Parent,cI x1.1.Kind,cS x1.1.Key,.d (.sl (List.map Attr.cs x1.1.Attrs)),.d (.sl (List.map Action.cs x1.1.Actions)),.d (.sl (List.map (eInt .i64) x1.1.Kids))]) hx1 rfl rfl rfl (keyInt Tryz.underlying3) rfl rfl (fun h=>by cases h) rfl trivial rfl) ?_
 refine OkOps.m 0 (triAlloc (j:=3) (cs:=[cI 0,cI 0,cI 0,cS ByteArray.empty,.d (.v (.slice none 0 0)),.d (.v (.slice none 0 0)),.d (.v (.slice none 0 0))]) rfl rfl rfl rfl) (OkOps.w (triStore (cs':=[cI x1.1.ID,cI x1.1.Parent,cI x1.1.Kind,cS x1.1.Key,.d (.sl (List.map Attr.cs x1.1.Attrs)),.d (.sl (List.map Action.cs x1.1.Actions)),.d (.sl (List.map (eInt .i64) x1.1.Kids))]) rfl rfl rfl rfl rfl rfl rfl rfl rfl) (OkOps.nil (Ok.seq (Ok.region (OkOps.y (aB excluded) (OkOps.y (aB excluded) (OkOps.q (triQG (x:=.c (.loc 3 4)) rfl rfl trivial rfl) (OkOps.q (triQG (x:=.c (.d (.sl (List.map Attr.cs x1.1.Attrs)))) rfl rfl ⟨fun h=>h,trivial⟩ rfl) ?_))))))))
 obtain ⟨x2,hx2,hr⟩:=bind_some hr
 refine OkOps.q (triCallG (x:=aB x2) (fun hg=>vw_Flag_c _ _ (gO_t hx2 hg)) rfl rfl ⟨.inl rfl,.inl rfl,trivial⟩ ⟨fun h=>h,trivial⟩ entry45 rfl rfl rfl) ?_
 refine OkOps.q (triOr rfl rfl (fun h=>by rw [h];rfl) rfl) ?_
 refine OkOps.y (aB (excluded || x2)) (OkOps.nil (Ok.seq (Ok.region (OkOps.y (aI id) (OkOps.y (.c (.loc 0 0)) (OkOps.y (.c (.loc 0 0)) (OkOps.y (.c (.loc 0 0)) (OkOps.y (.c (.loc 0 0)) (OkOps.y (aI p_w.t.Root) (OkOps.y (aB (id == p_w.t.Root)) (OkOps.y (aB (id == p_w.t.Root)) (OkOps.nil (Ok.seq (Ok.region (OkOps.y (.c (.loc 0 0)) ?_)))))))))))))))
 refine OkOps.y (.c (.loc 0 0)) (OkOps.y (.c (.loc 0 0)) (OkOps.y (.agg [cI p_w.t.Root,cI p_w.t.Next,.d (.sl (List.map Node.cs p_w.t.Nodes))]) (OkOps.y (aI id) ?_)))
 obtain ⟨x3,hx3,hr⟩:=bind_some hr
 refine OkOps.q (triCl (tau []) (.s (aI x3)) [] (ac_Role_c _ _ hx3) rfl ⟨.inl rfl,.inl rfl,trivial⟩ trivial entry109 trivial) (OkOps.y (aI x3) (OkOps.nil ?_))
 obtain ⟨k5,hk5,hr⟩:=jn_some hr
 refine Ok.join (fun (s4 : Int × Bool × (List Int) × (List Int))=>⟨[(0,.s (.c (.loc 0 0))),(2,.s (aI s4.1)),(3,.s (aB (excluded || x2))),(4,.s (aB s4.2.1)),(10,.s (.c (.loc 3 0)))],[(0,.blk [cI p_w.t.Root,cI p_w.t.Next,.d (.sl (List.map Node.cs p_w.t.Nodes)),.d (.mp true (encM (kInt .i64) Node.cs p_w.nodes)),.d (.mp false (encM (kInt .i64) eBool p_w.visible)),.d (.sl (List.map (eInt .i64) p_w.candidates)),.tl 1000 (List.map (eInt .i64) s4.2.2.1),.tl 1001 (List.map (eInt .i64) s4.2.2.2)] 175),(1,.dead),(2,.dead),(3,.blk [cI x1.1.ID,cI x1.1.Parent,cI x1.1.Kind,cS x1.1.Key,.d (.sl (List.map Attr.cs x1.1.Attrs)),.d (.sl (List.map Action.cs x1.1.Actions)),.d (.sl (List.map (eInt .i64) x1.1.Kids))] 61),(1000,.tail 1),(1001,.tail 1)],0⟩) k5 r (fun s4 hr=>?_) ?_
 rw [hk5] at hr
 refine Ok.seq (Ok.region (OkOps.y (.c (.loc 3 6)) (OkOps.y (.c (.d (.sl (List.map (eInt .i64) x1.1.Kids)))) (OkOps.q (triLen (enc:=(eInt .i64)) x1.1.Kids rfl rfl trivial rfl) (OkOps.y (aI 0) (OkOps.nil (Ok.block (Ok.loopK (fun (s6 : Int × Int × Int × (List Node) × (List (Int × Node)) × (List (Int × Bool)) × (List Int) × (List Int) × (List Int))=>⟨[(0,.s (.c (.loc 0 0))),(2,.s (aI s4.1)),(3,.s (aB (excluded || x2))),(4,.s (aB s4.2.1)),(100,.s (.c (.d (.sl (List.map (eInt .i64) x1.1.Kids))))),(101,.s (aI (x1.1.Kids.length : Int))),(102,.s (aI s6.1))],[(0,.blk [cI s6.2.1,cI s6.2.2.1,.d (.sl (List.map Node.cs s6.2.2.2.1)),.d (.mp true (encM (kInt .i64) Node.cs s6.2.2.2.2.1)),.d (.mp false (encM (kInt .i64) eBool s6.2.2.2.2.2.1)),.d (.sl (List.map (eInt .i64) s6.2.2.2.2.2.2.1)),.tl 1004 (List.map (eInt .i64) s6.2.2.2.2.2.2.2.1),.tl 1005 (List.map (eInt .i64) s6.2.2.2.2.2.2.2.2)] 175),(1,.dead),(2,.dead),(1004,.tail 1),(1005,.tail 1)],0⟩) hr (Conv.mk (tau [(1004,1000),(1005,1001)]) ⟨⟨_,rfl,.inl rfl⟩,⟨_,rfl,.inl rfl⟩,⟨_,rfl,.inl rfl⟩,⟨_,rfl,.inl rfl⟩,⟨_,rfl,.inl rfl⟩,⟨_,rfl,.inl rfl⟩,⟨_,rfl,.inl rfl⟩,trivial⟩ ⟨rfl,rfl,rfl,trivial⟩ rfl rfl rfl rfl) ?_))))))))
 clear hr
 intro again7 s6 hr
 unfold ac_walker_walk_L1 at hr
 refine Ok.seq (Ok.region (OkOps.y (aB (decide (s6.1 < (x1.1.Kids.length : Int)))) (OkOps.nil (Ok.seq ?_))))
 refine Ok.cond (b:=decide (s6.1 < (x1.1.Kids.length : Int))) rfl (fun h8=>?_) (fun h8=>?_)
 have hr:=selT h8 hr
 refine Ok.skip (Ok.seq (Ok.block (Ok.seq (Ok.region ?_))))
 obtain ⟨x9,hx9,hr⟩:=bind_some hr
 refine OkOps.q (triIdx (enc:=(eInt .i64)) (L:=x1.1.Kids) (row:=[dI x9]) hx9 rfl rfl rfl rfl (fun _=>rfl) trivial rfl) (OkOps.y (aI x9) (OkOps.y (aI x9) (OkOps.nil (Ok.region (OkOps.y (.c (.loc 0 0)) (OkOps.y (aI x9) (OkOps.y (aI s4.1) (OkOps.y (aB (excluded || x2)) (OkOps.y (aB s4.2.1) ?_)))))))))
 obtain ⟨x10,hx10,hr⟩:=bind_some hr
 refine OkOps.wq [(0,.blk [cI x10.t.Root,cI x10.t.Next,.d (.sl (List.map Node.cs x10.t.Nodes)),.d (.mp true (encM (kInt .i64) Node.cs x10.nodes)),.d (.mp false (encM (kInt .i64) eBool x10.visible)),.d (.sl (List.map (eInt .i64) x10.candidates)),.tl 4 (List.map (eInt .i64) x10.ids),.tl 5 (List.map (eInt .i64) x10.parents)] 175),(1004,.dead),(1005,.dead),(4,.tail 1),(5,.tail 1)] (triCall (tau [(0,0),(1,1004),(2,1005),(3000,4),(3001,5)]) (.tup []) [(0,.blk [cI x10.t.Root,cI x10.t.Next,.d (.sl (List.map Node.cs x10.t.Nodes)),.d (.mp true (encM (kInt .i64) Node.cs x10.nodes)),.d (.mp false (encM (kInt .i64) eBool x10.visible)),.d (.sl (List.map (eInt .i64) x10.candidates)),.tl 4 (List.map (eInt .i64) x10.ids),.tl 5 (List.map (eInt .i64) x10.parents)] 175),(1004,.dead),(1005,.dead),(4,.tail 1),(5,.tail 1)] (hself0 _ _ _ _ _ hx10) rfl ⟨.inl rfl,.inl rfl,.inl rfl,.inl rfl,.inl rfl,trivial⟩ trivial entry123 ⟨rfl,rfl,rfl,trivial⟩ rfl rfl rfl rfl ⟨rfl,rfl,trivial⟩ rfl rfl rfl) (OkOps.nil (Ok.region (OkOps.y (aI (IntKind.i64.wrap (s6.1 + 1))) (OkOps.y (aI (IntKind.i64.wrap (s6.1 + 1))) (OkOps.nil ?_)))))
 exact ⟨(IntKind.i64.wrap (s6.1 + 1),x10.t.Root,x10.t.Next,x10.t.Nodes,x10.nodes,x10.visible,x10.candidates,x10.ids,x10.parents),hr,(Conv.mk (tau [(1004,4),(1005,5)]) ⟨⟨_,rfl,.inl rfl⟩,⟨_,rfl,.inl rfl⟩,⟨_,rfl,.inl rfl⟩,⟨_,rfl,.inl rfl⟩,⟨_,rfl,.inl rfl⟩,⟨_,rfl,.inl rfl⟩,⟨_,rfl,.inl rfl⟩,trivial⟩ ⟨rfl,rfl,rfl,trivial⟩ rfl rfl rfl rfl)⟩
 have hr:=selF h8 hr
 refine Ok.conv (T:=⟨[],[(0,.blk [cI s6.2.1,cI s6.2.2.1,.d (.sl (List.map Node.cs s6.2.2.2.1)),.d (.mp true (encM (kInt .i64) Node.cs s6.2.2.2.2.1)),.d (.mp false (encM (kInt .i64) eBool s6.2.2.2.2.2.1)),.d (.sl (List.map (eInt .i64) s6.2.2.2.2.2.2.1)),.tl 3000 (List.map (eInt .i64) s6.2.2.2.2.2.2.2.1),.tl 3001 (List.map (eInt .i64) s6.2.2.2.2.2.2.2.2)] 175),(1,.dead),(2,.dead),(3000,.tail 1),(3001,.tail 1)],0⟩) (Conv.mk (tau [(3000,1004),(3001,1005)]) trivial ⟨rfl,rfl,rfl,trivial⟩ rfl rfl rfl rfl) (Ok.exit ?_)
 obtain rfl:=Option.some.inj hr
 exact ⟨_,rfl,.inl rfl,⟨rfl,(fun h=>by cases h),(fun h=>by cases h),rfl,rfl,trivial⟩⟩
 clear hk5
 refine Ok.seq (Ok.region (OkOps.y (aB (id == p_w.t.Root)) (OkOps.y (aB (id == p_w.t.Root)) (OkOps.q (triQG (x:=.c (.loc 0 0)) rfl rfl trivial rfl) (OkOps.q (triQG (x:=.c (.loc 0 0)) rfl rfl ⟨fun h=>h,trivial⟩ rfl) (OkOps.q (triQG (x:=.c (.loc 0 4)) rfl rfl ⟨fun h=>h,trivial⟩ rfl) (OkOps.q (triQG (x:=.c (.d (.mp false (encM (kInt .i64) eBool p_w.visible)))) rfl rfl ⟨fun h=>h,trivial⟩ rfl) (OkOps.q (triQG (x:=aI id) rfl rfl trivial rfl) ?_))))))))
 obtain ⟨x11,hx11,hr⟩:=bind_some hr
 refine OkOps.q (triLookG (agg:=false) (ek:=(kInt .i64)) (ev:=eBool) (L:=p_w.visible) (r:=aB x11.1) (gO_t hx11) rfl rfl rfl rfl (keyInt Tryz.underlying3) rfl rfl (fun _ _=>rfl) rfl ⟨fun h=>h,⟨fun h=>h,trivial⟩⟩ rfl) (OkOps.q (triQG (x:=aB x11.1) rfl rfl ⟨fun h=>h,trivial⟩ rfl) (OkOps.q (triQG (x:=aI x3) rfl rfl trivial rfl) (OkOps.q (triQG (x:=aB (x3 != 0)) rfl rfl ⟨fun h=>h,trivial⟩ rfl) ?_)))
 refine OkOps.q (triAndG rfl rfl rfl (fun h=>h) (fun h h2=>by rw [h,h2];rfl) rfl) ?_
 refine OkOps.q (triQG (x:=aB (x11.1 && (x3 != 0))) rfl rfl ⟨fun h=>h,trivial⟩ rfl) (OkOps.q (triQG (x:=aB (excluded || x2)) rfl rfl trivial rfl) (OkOps.q (triQG (x:=aB (!(excluded || x2))) rfl rfl ⟨fun h=>h,trivial⟩ rfl) ?_))
 refine OkOps.q (triAndG rfl rfl rfl (fun h=>h) (fun h h2=>by rw [h,h2];rfl) rfl) ?_
 refine OkOps.q (triQG (x:=aB ((x11.1 && (x3 != 0)) && (!(excluded || x2)))) rfl rfl ⟨fun h=>h,trivial⟩ rfl) (OkOps.q (triQG (x:=aB shut) rfl rfl trivial rfl) (OkOps.q (triQG (x:=aB (!shut)) rfl rfl ⟨fun h=>h,trivial⟩ rfl) (OkOps.q (triQG (x:=aB (!shut)) rfl rfl ⟨fun h=>h,trivial⟩ rfl) (OkOps.q (triQG (x:=.c (.loc 0 0)) rfl rfl trivial rfl) (OkOps.q (triQG (x:=.c (.loc 0 0)) rfl rfl ⟨fun h=>h,trivial⟩ rfl) (OkOps.q (triQG (x:=.c (.loc 0 5)) rfl rfl ⟨fun h=>h,trivial⟩ rfl) (OkOps.q (triQG (x:=.c (.d (.sl (List.map (eInt .i64) p_w.candidates)))) rfl rfl ⟨fun h=>h,trivial⟩ rfl) (OkOps.q (triQG (x:=aI id) rfl rfl trivial rfl) ?_))))))))
 obtain ⟨x12,hx12,hr⟩:=bind_some hr
 refine OkOps.q (triCallG (x:=aB x12) (fun hg=>slices_Contains_Sl_int_int_c _ _ (gO_t hx12 hg)) rfl rfl ⟨.inl rfl,.inl rfl,trivial⟩ ⟨fun h=>h,⟨fun h=>h,trivial⟩⟩ entry39 rfl rfl rfl) ?_
 refine OkOps.q (triOrG rfl rfl rfl (fun h=>h) (fun h h2=>by rw [h,h2];rfl) rfl) ?_
 refine OkOps.q (triAndG rfl rfl rfl (fun h=>h) (fun h h2=>by rw [h,h2];rfl) rfl) ?_
 refine OkOps.q (triOr rfl rfl (fun h=>by rw [h];rfl) rfl) ?_
 refine OkOps.nil ?_
 refine Ok.cond (b:=(id == p_w.t.Root) || (((x11.1 && (x3 != 0)) && (!(excluded || x2))) && ((!shut) || x12))) rfl (fun h13=>?_) (fun h13=>?_)
 have hr:=selT h13 hr
 refine Ok.seq (Ok.regionD (by kernel_rfl) (OkD.x (.c (.loc 0 0)) rfl trivial rfl (OkD.x (.c (.loc 0 0)) rfl trivial rfl (OkD.x (.c (.loc 0 0)) rfl trivial rfl (OkD.x (.c (.loc 0 0)) rfl trivial rfl (OkD.x (.c (.loc 0 6)) rfl trivial rfl (OkD.x (.c (.tl 1 (List.map (eInt .i64) p_w.ids))) rfl trivial rfl (OkD.x (aI id) rfl trivial rfl (OkD.m 0 (triBST (sz:=1) (enc:=(eInt .i64)) (j:=6) ([id]) rfl rfl rfl rfl rfl rfl rfl rfl (fun _=>rfl) trivial rfl rfl) ?_)))))))))
 obtain ⟨x14,hx14,hr⟩:=bind_some hr
 refine OkD.m2 0 (triApp (enc:=(eInt .i64)) (L:=p_w.ids) (X:=[id]) (j:=1) (j':=7) hx14 rfl rfl rfl rfl rfl rfl (fun _=>rfl) (fun _=>rfl) (by decide) trivial rfl rfl) (OkD.x (.c (.loc 0 0)) rfl trivial rfl (OkD.x (.c (.loc 0 0)) rfl trivial rfl (OkD.x (.c (.loc 0 7)) rfl trivial rfl (OkD.x (.c (.tl 2 (List.map (eInt .i64) p_w.parents))) rfl trivial rfl (OkD.x (aI parent) rfl trivial rfl (OkD.m 0 (triBST (sz:=1) (enc:=(eInt .i64)) (j:=8) ([parent]) rfl rfl rfl rfl rfl rfl rfl rfl (fun _=>rfl) trivial rfl rfl) ?_))))))
 obtain ⟨x15,hx15,hr⟩:=bind_some hr
 refine OkD.m2 0 (triApp (enc:=(eInt .i64)) (L:=p_w.parents) (X:=[parent]) (j:=2) (j':=9) hx15 rfl rfl rfl rfl rfl rfl (fun _=>rfl) (fun _=>rfl) (by decide) trivial rfl rfl) (OkD.x (.c (.loc 0 0)) rfl trivial rfl (OkD.x (.c (.loc 0 6)) rfl trivial rfl (OkD.w (triStore (cs':=[cI p_w.t.Root,cI p_w.t.Next,.d (.sl (List.map Node.cs p_w.t.Nodes)),.d (.mp true (encM (kInt .i64) Node.cs p_w.nodes)),.d (.mp false (encM (kInt .i64) eBool p_w.visible)),.d (.sl (List.map (eInt .i64) p_w.candidates)),.tl 7 (List.map (eInt .i64) x14),.tl 2 (List.map (eInt .i64) p_w.parents)]) rfl rfl rfl rfl rfl rfl rfl rfl rfl) (OkD.x (.c (.loc 0 0)) rfl trivial rfl (OkD.x (.c (.loc 0 7)) rfl trivial rfl (OkD.w (triStore (cs':=[cI p_w.t.Root,cI p_w.t.Next,.d (.sl (List.map Node.cs p_w.t.Nodes)),.d (.mp true (encM (kInt .i64) Node.cs p_w.nodes)),.d (.mp false (encM (kInt .i64) eBool p_w.visible)),.d (.sl (List.map (eInt .i64) p_w.candidates)),.tl 7 (List.map (eInt .i64) x14),.tl 9 (List.map (eInt .i64) x15)]) rfl rfl rfl rfl rfl rfl rfl rfl rfl) (OkD.nil (by kernel_rfl) (Ok.region (OkOps.y (aI id) (OkOps.y (aB shut) (OkOps.y (aB shut) (OkOps.q (triQG (x:=aB (id == p_w.t.Root)) rfl rfl trivial rfl) (OkOps.q (triQG (x:=aB (!(id == p_w.t.Root))) rfl rfl ⟨fun h=>h,trivial⟩ rfl) (OkOps.q (triQG (x:=aB (!(id == p_w.t.Root))) rfl rfl ⟨fun h=>h,trivial⟩ rfl) (OkOps.q (triQG (x:=aI x3) rfl rfl trivial rfl) ?_)))))))))))))))
 obtain ⟨x16,hx16,hr⟩:=bind_some hr
 refine OkOps.q (triCallG (x:=aB x16) (fun hg=>ac_closed_c _ (gO_t hx16 hg)) rfl rfl ⟨.inl rfl,trivial⟩ ⟨fun h=>h,trivial⟩ entry162 rfl rfl rfl) ?_
 refine OkOps.q (triAndG rfl rfl rfl (fun h=>h) (fun h h2=>by rw [h,h2];rfl) rfl) ?_
 refine OkOps.q (triOr rfl rfl (fun h=>by rw [h];rfl) rfl) ?_
 refine OkOps.y (aI id) (OkOps.y (aB (shut || ((!(id == p_w.t.Root)) && x16))) (OkOps.nil ?_))
 exact ⟨(id,shut || ((!(id == p_w.t.Root)) && x16),x14,x15),hr,(Conv.mk (tau [(1000,7),(1001,9)]) ⟨⟨_,rfl,.inl rfl⟩,⟨_,rfl,.inl rfl⟩,⟨_,rfl,.inl rfl⟩,⟨_,rfl,.inl rfl⟩,⟨_,rfl,.inl rfl⟩,trivial⟩ ⟨rfl,rfl,rfl,rfl,trivial⟩ rfl rfl rfl rfl)⟩
 have hr:=selF h13 hr
 refine Ok.skip ?_
 exact ⟨(parent,shut,p_w.ids,p_w.parents),hr,(Conv.mk (tau [(1000,1),(1001,2)]) ⟨⟨_,rfl,.inl rfl⟩,⟨_,rfl,.inl rfl⟩,⟨_,rfl,.inl rfl⟩,⟨_,rfl,.inl rfl⟩,⟨_,rfl,.inl rfl⟩,trivial⟩ ⟨rfl,rfl,rfl,rfl,trivial⟩ rfl rfl rfl rfl)⟩
theorem ac_walker_walk_all : ∀ n : Nat,(∀ (p_w : accessible_walker) (id : Int) (parent : Int) (excluded : Bool) (shut : Bool) {r : accessible_walker},ac_walker_walk n p_w id parent excluded shut = some r → Con Tryz.prog 123 [.c (.loc 0 0),aI id,aI parent,aB excluded,aB shut] [(0,.blk [cI p_w.t.Root,cI p_w.t.Next,.d (.sl (List.map Node.cs p_w.t.Nodes)),.d (.mp true (encM (kInt .i64) Node.cs p_w.nodes)),.d (.mp false (encM (kInt .i64) eBool p_w.visible)),.d (.sl (List.map (eInt .i64) p_w.candidates)),.tl 1 (List.map (eInt .i64) p_w.ids),.tl 2 (List.map (eInt .i64) p_w.parents)] 175),(1,.tail 1),(2,.tail 1)] (.tup []) [(0,.blk [cI r.t.Root,cI r.t.Next,.d (.sl (List.map Node.cs r.t.Nodes)),.d (.mp true (encM (kInt .i64) Node.cs r.nodes)),.d (.mp false (encM (kInt .i64) eBool r.visible)),.d (.sl (List.map (eInt .i64) r.candidates)),.tl 3000 (List.map (eInt .i64) r.ids),.tl 3001 (List.map (eInt .i64) r.parents)] 175),(1,.dead),(2,.dead),(3000,.tail 1),(3001,.tail 1)]) ∧ True:=by
 intro n
 induction n with
 | zero=>exact ⟨(by intros;rename_i hr;cases hr),trivial⟩
 | succ n ih=>exact ⟨(by intros;rename_i hr;exact ac_walker_walk_B_c _ ih.1 _ _ _ _ _ hr),trivial⟩
theorem ac_walker_walk_c (n : Nat) (p_w : accessible_walker) (id : Int) (parent : Int) (excluded : Bool) (shut : Bool) {r : accessible_walker} (hr : ac_walker_walk n p_w id parent excluded shut = some r) : Con Tryz.prog 123 [.c (.loc 0 0),aI id,aI parent,aB excluded,aB shut] [(0,.blk [cI p_w.t.Root,cI p_w.t.Next,.d (.sl (List.map Node.cs p_w.t.Nodes)),.d (.mp true (encM (kInt .i64) Node.cs p_w.nodes)),.d (.mp false (encM (kInt .i64) eBool p_w.visible)),.d (.sl (List.map (eInt .i64) p_w.candidates)),.tl 1 (List.map (eInt .i64) p_w.ids),.tl 2 (List.map (eInt .i64) p_w.parents)] 175),(1,.tail 1),(2,.tail 1)] (.tup []) [(0,.blk [cI r.t.Root,cI r.t.Next,.d (.sl (List.map Node.cs r.t.Nodes)),.d (.mp true (encM (kInt .i64) Node.cs r.nodes)),.d (.mp false (encM (kInt .i64) eBool r.visible)),.d (.sl (List.map (eInt .i64) r.candidates)),.tl 3000 (List.map (eInt .i64) r.ids),.tl 3001 (List.map (eInt .i64) r.parents)] 175),(1,.dead),(2,.dead),(3000,.tail 1),(3001,.tail 1)]:=(ac_walker_walk_all n).1 p_w id parent excluded shut hr
theorem ac_export_c (t : Tree) (st : (List Styled)) {r : (List Int) × (List Int)} (hr : ac_export t st = some r) : Con Tryz.prog 86 [.agg [cI t.Root,cI t.Next,.d (.sl (List.map Node.cs t.Nodes))],.c (.d (.sl (List.map Styled.cs st)))] [] (.tup [.c (.d (.sl (List.map (eInt .i64) r.1))),.c (.d (.sl (List.map (eInt .i64) r.2)))]) []:=by
 unfold ac_export at hr
 refine Con.of_ok 50 0 [.tmp 4,.tmp 5] [(0,.s (.agg [cI t.Root,cI t.Next,.d (.sl (List.map Node.cs t.Nodes))])),(1,.s (.c (.d (.sl (List.map Styled.cs st)))))] Tryz.func86 rfl rfl rfl rfl rfl rfl rfl rfl fun w g M ρ _=>(Ok.seq (Ok.region (OkOps.m 0 (triBox (j:=0) (cs:=[cI t.Root,cI t.Next,.d (.sl (List.map Node.cs t.Nodes))]) rfl rfl rfl rfl rfl) (OkOps.y (.c (.d (.v (.slice none 0 0)))) (OkOps.y (.c (.d (.v (.slice none 0 0)))) (OkOps.nil (Ok.seq (Ok.seq (Ok.region (OkOps.y (.agg [cI t.Root,cI t.Next,.d (.sl (List.map Node.cs t.Nodes))]) ?_))))))))))
 obtain ⟨x1,hx1,hr⟩:=bind_some hr
 refine OkOps.q (triCl (tau []) (.s (.c (.d (.sl (List.map (eInt .i64) x1))))) [] (vw_Order_c _ hx1) rfl ⟨.inl rfl,trivial⟩ trivial entry90 trivial) (OkOps.q (triLen (enc:=(eInt .i64)) x1 rfl rfl trivial rfl) (OkOps.y (aB ((x1.length : Int) == 0)) (OkOps.nil ?_)))
 refine Ok.cond (b:=(x1.length : Int) == 0) rfl (fun h2=>?_) (fun h2=>?_)
 have hr:=selT h2 hr
 refine Ok.seq (Ok.region (OkOps.y (.c (.d (.v (.slice none 0 0)))) (OkOps.y (.c (.d (.v (.slice none 0 0)))) (OkOps.nil (Ok.ret ?_)))))
 obtain rfl:=Option.some.inj hr
 exact ⟨_,rfl,.inr rfl,trivial⟩
 have hr:=selF h2 hr
 refine Ok.skip (Ok.seq (Ok.regionD (by kernel_rfl) (OkD.x (.agg [cI t.Root,cI t.Next,.d (.sl (List.map Node.cs t.Nodes))]) rfl trivial rfl (OkD.m 0 (triMkM (j:=1) true rfl rfl) (OkD.x (.agg [cI t.Root,cI t.Next,.d (.sl (List.map Node.cs t.Nodes))]) rfl trivial rfl (OkD.x (.c (.d (.sl (List.map Styled.cs st)))) rfl trivial rfl ?_))))))
 obtain ⟨x3,hx3,hr⟩:=bind_some hr
 refine OkD.q (triCl (tau []) (.s (.c (.d (.mp false (encM (kInt .i64) eBool x3))))) [] (ac_visible_c _ _ hx3) rfl ⟨.inl rfl,.inl rfl,trivial⟩ trivial entry122 trivial) (OkD.x (.agg [cI t.Root,cI t.Next,.d (.sl (List.map Node.cs t.Nodes))]) rfl trivial rfl (OkD.x (.c (.d (.sl (List.map Styled.cs st)))) rfl trivial rfl ?_))
 obtain ⟨x4,hx4,hr⟩:=bind_some hr
 refine OkD.q (triCl (tau []) (.s (.c (.d (.sl (List.map (eInt .i64) x4))))) [] (fo_CandidatesS_c _ _ hx4) rfl ⟨.inl rfl,.inl rfl,trivial⟩ trivial entry43 trivial) (OkD.q (triBuildF (x:=.agg [cI t.Root,cI t.Next,.d (.sl (List.map Node.cs t.Nodes)),.own 1,.d (.mp false (encM (kInt .i64) eBool x3)),.d (.sl (List.map (eInt .i64) x4)),.d (.v (.slice none 0 0)),.d (.v (.slice none 0 0))]) rfl rfl trivial rfl) (OkD.m 0 (triBox (j:=2) (cs:=[cI t.Root,cI t.Next,.d (.sl (List.map Node.cs t.Nodes)),.own 1,.d (.mp false (encM (kInt .i64) eBool x3)),.d (.sl (List.map (eInt .i64) x4)),.d (.v (.slice none 0 0)),.d (.v (.slice none 0 0))]) rfl rfl rfl rfl rfl) (OkD.x (.c (.loc 2 0)) rfl trivial rfl (OkD.nil (by kernel_rfl) ?_))))
 obtain ⟨k6,hk6,hr⟩:=jn_some hr
 refine Ok.join (fun (s5 : (List (Int × Node)))=>⟨[(2,.s (.c (.loc 0 0))),(6,.s (.c (.loc 2 0)))],[(0,.blk [cI t.Root,cI t.Next,.d (.sl (List.map Node.cs t.Nodes))] 30),(1,.mp true (encM (kInt .i64) Node.cs s5)),(2,.blk [cI t.Root,cI t.Next,.d (.sl (List.map Node.cs t.Nodes)),.own 1,.d (.mp false (encM (kInt .i64) eBool x3)),.d (.sl (List.map (eInt .i64) x4)),.d (.v (.slice none 0 0)),.d (.v (.slice none 0 0))] 175)],0⟩) k6 r (fun s5 hr=>?_) ?_
 rw [hk6] at hr
 refine Ok.seq (Ok.region (OkOps.y (.c (.loc 2 0)) (OkOps.y (.c (.loc 0 0)) (OkOps.y (aI t.Root) (OkOps.conv (Conv.nilB 2 6 3 (.tail 1) (.tl 3 (List.map (eInt .i64) ([] : (List Int)))) [cI t.Root,cI t.Next,.d (.sl (List.map Node.cs t.Nodes)),.own 1,.d (.mp false (encM (kInt .i64) eBool x3)),.d (.sl (List.map (eInt .i64) x4)),.d (.v (.slice none 0 0)),.d (.v (.slice none 0 0))] [cI t.Root,cI t.Next,.d (.sl (List.map Node.cs t.Nodes)),.own 1,.d (.mp false (encM (kInt .i64) eBool x3)),.d (.sl (List.map (eInt .i64) x4)),.tl 3 (List.map (eInt .i64) ([] : (List Int))),.d (.v (.slice none 0 0))] 175 0 rfl rfl rfl rfl (nil_tail 1 3) (fun _ _ h=>⟨h.symm,Rep.nil⟩)) (OkOps.conv (Conv.nilB 2 7 4 (.tail 1) (.tl 4 (List.map (eInt .i64) ([] : (List Int)))) [cI t.Root,cI t.Next,.d (.sl (List.map Node.cs t.Nodes)),.own 1,.d (.mp false (encM (kInt .i64) eBool x3)),.d (.sl (List.map (eInt .i64) x4)),.tl 3 (List.map (eInt .i64) ([] : (List Int))),.d (.v (.slice none 0 0))] [cI t.Root,cI t.Next,.d (.sl (List.map Node.cs t.Nodes)),.own 1,.d (.mp false (encM (kInt .i64) eBool x3)),.d (.sl (List.map (eInt .i64) x4)),.tl 3 (List.map (eInt .i64) ([] : (List Int))),.tl 4 (List.map (eInt .i64) ([] : (List Int)))] 175 0 rfl rfl rfl rfl (nil_tail 1 4) (fun _ _ h=>⟨h.symm,Rep.nil⟩)) (OkOps.conv (Conv.freezeM [] [(2,.blk [cI t.Root,cI t.Next,.d (.sl (List.map Node.cs t.Nodes)),.d (.mp true (encM (kInt .i64) Node.cs s5)),.d (.mp false (encM (kInt .i64) eBool x3)),.d (.sl (List.map (eInt .i64) x4)),.tl 3 (List.map (eInt .i64) ([] : (List Int))),.tl 4 (List.map (eInt .i64) ([] : (List Int)))] 175)] 1 0 rfl trivial ⟨⟨_,_,rfl,rfl⟩,trivial⟩) ?_)))))))
 obtain ⟨x7,hx7,hr⟩:=bind_some hr
 refine OkOps.wq [(2,.blk [cI x7.t.Root,cI x7.t.Next,.d (.sl (List.map Node.cs x7.t.Nodes)),.d (.mp true (encM (kInt .i64) Node.cs x7.nodes)),.d (.mp false (encM (kInt .i64) eBool x7.visible)),.d (.sl (List.map (eInt .i64) x7.candidates)),.tl 5 (List.map (eInt .i64) x7.ids),.tl 6 (List.map (eInt .i64) x7.parents)] 175),(3,.dead),(4,.dead),(5,.tail 1),(6,.tail 1)] (triCall (tau [(0,2),(1,3),(2,4),(3000,5),(3001,6)]) (.tup []) [(2,.blk [cI x7.t.Root,cI x7.t.Next,.d (.sl (List.map Node.cs x7.t.Nodes)),.d (.mp true (encM (kInt .i64) Node.cs x7.nodes)),.d (.mp false (encM (kInt .i64) eBool x7.visible)),.d (.sl (List.map (eInt .i64) x7.candidates)),.tl 5 (List.map (eInt .i64) x7.ids),.tl 6 (List.map (eInt .i64) x7.parents)] 175),(3,.dead),(4,.dead),(5,.tail 1),(6,.tail 1)] (ac_walker_walk_c _ _ _ _ _ _ hx7) rfl ⟨.inl rfl,.inl rfl,.inl rfl,.inl rfl,.inl rfl,trivial⟩ trivial entry123 ⟨rfl,rfl,rfl,trivial⟩ rfl rfl rfl rfl ⟨rfl,rfl,trivial⟩ rfl rfl rfl) (OkOps.nil (Ok.seq (Ok.regionD (by kernel_rfl) (OkD.x (.c (.loc 2 0)) rfl trivial rfl (OkD.x (.c (.loc 2 0)) rfl trivial rfl (OkD.x (.c (.loc 2 6)) rfl trivial rfl (OkD.x (.c (.tl 5 (List.map (eInt .i64) x7.ids))) rfl trivial rfl (OkD.x (.c (.loc 2 0)) rfl trivial rfl (OkD.x (.c (.loc 2 0)) rfl trivial rfl (OkD.x (.c (.loc 2 7)) rfl trivial rfl (OkD.x (.c (.tl 6 (List.map (eInt .i64) x7.parents))) rfl trivial rfl (OkD.x (.c (.tl 5 (List.map (eInt .i64) x7.ids))) rfl trivial rfl (OkD.x (.c (.tl 6 (List.map (eInt .i64) x7.parents))) rfl trivial rfl (OkD.nil (by kernel_rfl) (Ok.ret ?_)))))))))))))))
 obtain rfl:=Option.some.inj hr
 exact ⟨_,rfl,.inr rfl,trivial⟩
 clear hk6
 refine Ok.seq (Ok.region (OkOps.y (.c (.loc 0 2)) (OkOps.y (.c (.d (.sl (List.map Node.cs t.Nodes)))) (OkOps.q (triLen (enc:=Node.cs) t.Nodes rfl rfl trivial rfl) (OkOps.y (aI 0) (OkOps.nil (Ok.block (Ok.loopK (fun (s8 : Int × (List (Int × Node)))=>⟨[(2,.s (.c (.loc 0 0))),(6,.s (.c (.loc 2 0))),(24,.s (.c (.d (.sl (List.map Node.cs t.Nodes))))),(25,.s (aI (t.Nodes.length : Int))),(26,.s (aI s8.1))],[(0,.blk [cI t.Root,cI t.Next,.d (.sl (List.map Node.cs t.Nodes))] 30),(1,.mp true (encM (kInt .i64) Node.cs s8.2)),(2,.blk [cI t.Root,cI t.Next,.d (.sl (List.map Node.cs t.Nodes)),.own 1,.d (.mp false (encM (kInt .i64) eBool x3)),.d (.sl (List.map (eInt .i64) x4)),.d (.v (.slice none 0 0)),.d (.v (.slice none 0 0))] 175)],0⟩) hr (Conv.mk (tau []) ⟨⟨_,rfl,.inl rfl⟩,⟨_,rfl,.inl rfl⟩,⟨_,rfl,.inl rfl⟩,⟨_,rfl,.inl rfl⟩,⟨_,rfl,.inl rfl⟩,trivial⟩ ⟨rfl,rfl,rfl,trivial⟩ rfl rfl rfl rfl) ?_))))))))
 clear hr
 intro again9 s8 hr
 unfold ac_export_L1 at hr
 refine Ok.seq (Ok.region (OkOps.y (aB (decide (s8.1 < (t.Nodes.length : Int)))) (OkOps.nil (Ok.seq ?_))))
 refine Ok.cond (b:=decide (s8.1 < (t.Nodes.length : Int))) rfl (fun h10=>?_) (fun h10=>?_)
 have hr:=selT h10 hr
 refine Ok.skip (Ok.seq (Ok.block (Ok.seq (Ok.region ?_))))
 obtain ⟨x11,hx11,hr⟩:=bind_some hr
 refine OkOps.q (triIdx (enc:=Node.cs) (L:=t.Nodes) (row:=[dI x11.ID,dI x11.Parent,dI x11.Kind,dS x11.Key,.sl (List.map Attr.cs x11.Attrs),.sl (List.map Action.cs x11.Actions),.sl (List.map (eInt .i64) x11.Kids)]) hx11 rfl rfl rfl rfl (fun _=>rfl) trivial rfl) (OkOps.y (.agg [cI x11.ID,cI x11.Parent,cI x11.Kind,cS x11.Key,.d (.sl (List.map Attr.cs x11.Attrs)),.d (.sl (List.map Action.cs x11.Actions)),.d (.sl (List.map (eInt .i64) x11.Kids))]) (OkOps.m 0 (triAlloc (j:=7) (cs:=[cI 0,cI 0,cI 0,cS ByteArray.empty,.d (.v (.slice none 0 0)),.d (.v (.slice none 0 0)),.d (.v (.slice none 0 0))]) rfl rfl rfl rfl) (OkOps.w (triStore (cs':=[cI x11.ID,cI x11.Parent,cI x11.Kind,cS x11.Key,.d (.sl (List.map Attr.cs x11.Attrs)),.d (.sl (List.map Action.cs x11.Actions)),.d (.sl (List.map (eInt .i64) x11.Kids))]) rfl rfl rfl rfl rfl rfl rfl rfl rfl) (OkOps.nil (Ok.regionD (by kernel_rfl) (OkD.x (.c (.loc 2 0)) rfl trivial rfl (OkD.x (.c (.loc 2 0)) rfl trivial rfl (OkD.x (.c (.loc 2 3)) rfl trivial rfl (OkD.x (.c (.own 1)) rfl trivial rfl (OkD.x (.c (.loc 7 0)) rfl trivial rfl (OkD.x (aI x11.ID) rfl trivial rfl (OkD.x (.agg [cI x11.ID,cI x11.Parent,cI x11.Kind,cS x11.Key,.d (.sl (List.map Attr.cs x11.Attrs)),.d (.sl (List.map Action.cs x11.Actions)),.d (.sl (List.map (eInt .i64) x11.Kids))]) rfl trivial rfl ?_))))))))))))
 refine OkD.w (triMapUp (ek:=(kInt .i64)) (ev:=Node.cs) (L:=s8.2) (z:=x11) rfl rfl rfl rfl rfl rfl (keyInt Tryz.underlying3) (fun h=>by cases h) rfl trivial) ?_
 refine OkD.nil (by kernel_rfl) (Ok.region (OkOps.y (aI (IntKind.i64.wrap (s8.1 + 1))) (OkOps.y (aI (IntKind.i64.wrap (s8.1 + 1))) (OkOps.nil ?_))))
 exact ⟨(IntKind.i64.wrap (s8.1 + 1),msetL s8.2 x11.ID x11),hr,(Conv.mk (tau []) ⟨⟨_,rfl,.inl rfl⟩,⟨_,rfl,.inl rfl⟩,⟨_,rfl,.inl rfl⟩,⟨_,rfl,.inl rfl⟩,⟨_,rfl,.inl rfl⟩,trivial⟩ ⟨rfl,rfl,rfl,trivial⟩ rfl rfl rfl rfl)⟩
 have hr:=selF h10 hr
 refine Ok.exit ?_
 exact ⟨s8.2,hr,(Conv.mk (tau []) ⟨⟨_,rfl,.inl rfl⟩,⟨_,rfl,.inl rfl⟩,trivial⟩ ⟨rfl,rfl,rfl,trivial⟩ rfl rfl rfl rfl)⟩
theorem ac_Exported_c (t : Tree) (st : (List Styled)) {r : (List Int)} (hr : ac_Exported t st = some r) : Con Tryz.prog 52 [.agg [cI t.Root,cI t.Next,.d (.sl (List.map Node.cs t.Nodes))],.c (.d (.sl (List.map Styled.cs st)))] [] (.s (.c (.d (.sl (List.map (eInt .i64) r))))) []:=by
 unfold ac_Exported at hr
 refine Con.of_ok 14 0 [.tmp 4] [(0,.s (.agg [cI t.Root,cI t.Next,.d (.sl (List.map Node.cs t.Nodes))])),(1,.s (.c (.d (.sl (List.map Styled.cs st)))))] Tryz.func52 rfl rfl rfl rfl rfl rfl rfl rfl fun w g M ρ _=>(Ok.seq (Ok.region (OkOps.m 0 (triBox (j:=0) (cs:=[cI t.Root,cI t.Next,.d (.sl (List.map Node.cs t.Nodes))]) rfl rfl rfl rfl rfl) (OkOps.y (.c (.d (.v (.slice none 0 0)))) (OkOps.nil (Ok.seq (Ok.region (OkOps.y (.agg [cI t.Root,cI t.Next,.d (.sl (List.map Node.cs t.Nodes))]) (OkOps.y (.c (.d (.sl (List.map Styled.cs st)))) ?_)))))))))
 obtain ⟨x1,hx1,hr⟩:=bind_some hr
 refine OkOps.q (triCl (tau []) (.tup [.c (.d (.sl (List.map (eInt .i64) x1.1))),.c (.d (.sl (List.map (eInt .i64) x1.2)))]) [] (ac_export_c _ _ hx1) rfl ⟨.inl rfl,.inl rfl,trivial⟩ trivial entry86 trivial) (OkOps.q (triMv (v:=.tup [.c (.d (.sl (List.map (eInt .i64) x1.1))),.c (.d (.sl (List.map (eInt .i64) x1.2)))]) rfl rfl) (OkOps.y (.c (.d (.sl (List.map (eInt .i64) x1.1)))) (OkOps.y (.c (.d (.sl (List.map (eInt .i64) x1.2)))) (OkOps.y (.c (.d (.sl (List.map (eInt .i64) x1.1)))) (OkOps.y (.c (.d (.sl (List.map (eInt .i64) x1.2)))) (OkOps.nil (Ok.seq (Ok.region (OkOps.y (.c (.d (.sl (List.map (eInt .i64) x1.1)))) (OkOps.y (.c (.d (.sl (List.map (eInt .i64) x1.1)))) (OkOps.nil (Ok.ret ?_))))))))))))
 obtain rfl:=Option.some.inj hr
 exact ⟨_,rfl,.inl rfl,trivial⟩
theorem ac_Parents_c (t : Tree) (st : (List Styled)) {r : (List Int)} (hr : ac_Parents t st = some r) : Con Tryz.prog 53 [.agg [cI t.Root,cI t.Next,.d (.sl (List.map Node.cs t.Nodes))],.c (.d (.sl (List.map Styled.cs st)))] [] (.s (.c (.d (.sl (List.map (eInt .i64) r))))) []:=by
 unfold ac_Parents at hr
 refine Con.of_ok 14 0 [.tmp 4] [(0,.s (.agg [cI t.Root,cI t.Next,.d (.sl (List.map Node.cs t.Nodes))])),(1,.s (.c (.d (.sl (List.map Styled.cs st)))))] Tryz.func53 rfl rfl rfl rfl rfl rfl rfl rfl fun w g M ρ _=>(Ok.seq (Ok.region (OkOps.m 0 (triBox (j:=0) (cs:=[cI t.Root,cI t.Next,.d (.sl (List.map Node.cs t.Nodes))]) rfl rfl rfl rfl rfl) (OkOps.y (.c (.d (.v (.slice none 0 0)))) (OkOps.nil (Ok.seq (Ok.region (OkOps.y (.agg [cI t.Root,cI t.Next,.d (.sl (List.map Node.cs t.Nodes))]) (OkOps.y (.c (.d (.sl (List.map Styled.cs st)))) ?_)))))))))
 obtain ⟨x1,hx1,hr⟩:=bind_some hr
 refine OkOps.q (triCl (tau []) (.tup [.c (.d (.sl (List.map (eInt .i64) x1.1))),.c (.d (.sl (List.map (eInt .i64) x1.2)))]) [] (ac_export_c _ _ hx1) rfl ⟨.inl rfl,.inl rfl,trivial⟩ trivial entry86 trivial) (OkOps.q (triMv (v:=.tup [.c (.d (.sl (List.map (eInt .i64) x1.1))),.c (.d (.sl (List.map (eInt .i64) x1.2)))]) rfl rfl) (OkOps.y (.c (.d (.sl (List.map (eInt .i64) x1.1)))) (OkOps.y (.c (.d (.sl (List.map (eInt .i64) x1.2)))) (OkOps.y (.c (.d (.sl (List.map (eInt .i64) x1.1)))) (OkOps.y (.c (.d (.sl (List.map (eInt .i64) x1.2)))) (OkOps.nil (Ok.seq (Ok.region (OkOps.y (.c (.d (.sl (List.map (eInt .i64) x1.2)))) (OkOps.y (.c (.d (.sl (List.map (eInt .i64) x1.2)))) (OkOps.nil (Ok.ret ?_))))))))))))
 obtain rfl:=Option.some.inj hr
 exact ⟨_,rfl,.inl rfl,trivial⟩
end Go.Proofs.YtfoigppmcelgfaaGreatDoor
end

/-
  Part 4 of the texts under the law FocusTabs: the calculus, the plain functions, their walks, plain facts.
-/
import Derived.Test.YtfoigppmcelgfaaDoorFocusTabsB3
import Derived.Test.YtfoigppmcelgfaaDoorProg
import Derived.KernelRfl
section
set_option maxRecDepth 100000
namespace Go.Proofs.YtfoigppmcelgfaaDoor
open Go Go.E2
theorem widgetry_layout_isText_c (kind : Int) {r : Bool} (hr : widgetry_layout_isText kind = some r) : Con Tryd.prog 118 [aI kind] [] (.s (aB r)) []:=by
 unfold widgetry_layout_isText at hr
 refine Con.of_ok 17 0 [.tmp 2] [(0,.s (aI kind))] Tryd.func118 rfl rfl rfl rfl rfl rfl rfl rfl fun w g M ρ _=>(Ok.seq (Ok.region (OkOps.y (aB false) (OkOps.nil (Ok.seq (Ok.region (OkOps.y (aI kind) (OkOps.y (aB (kind == 2)) (OkOps.y (aB (kind == 2)) (OkOps.q (triQG (x:=aI kind) rfl rfl trivial rfl) (OkOps.q (triQG (x:=aB (kind == 4)) rfl rfl ⟨fun h=>h,trivial⟩ rfl) ?_)))))))))))
 refine OkOps.q (triOr rfl rfl (fun h=>by rw [h];rfl) rfl) ?_
 refine OkOps.y (aB ((kind == 2) || (kind == 4))) (OkOps.q (triQG (x:=aI kind) rfl rfl trivial rfl) (OkOps.q (triQG (x:=aB (kind == 7)) rfl rfl ⟨fun h=>h,trivial⟩ rfl) ?_))
 refine OkOps.q (triOr rfl rfl (fun h=>by rw [h];rfl) rfl) ?_
 refine OkOps.y (aB (((kind == 2) || (kind == 4)) || (kind == 7))) (OkOps.q (triQG (x:=aI kind) rfl rfl trivial rfl) (OkOps.q (triQG (x:=aB (kind == 9)) rfl rfl ⟨fun h=>h,trivial⟩ rfl) ?_))
 refine OkOps.q (triOr rfl rfl (fun h=>by rw [h];rfl) rfl) ?_
 refine OkOps.y (aB ((((kind == 2) || (kind == 4)) || (kind == 7)) || (kind == 9))) (OkOps.nil (Ok.ret ?_))
 obtain rfl:=Option.some.inj hr
 exact ⟨_,rfl,.inl rfl,trivial⟩
theorem widgetry_layout_isFigure_c (kind : Int) {r : Bool} (hr : widgetry_layout_isFigure kind = some r) : Con Tryd.prog 119 [aI kind] [] (.s (aB r)) []:=by
 unfold widgetry_layout_isFigure at hr
 refine Con.of_ok 9 0 [.tmp 2] [(0,.s (aI kind))] Tryd.func119 rfl rfl rfl rfl rfl rfl rfl rfl fun w g M ρ _=>(Ok.seq (Ok.region (OkOps.y (aB false) (OkOps.nil (Ok.seq (Ok.region (OkOps.y (aI kind) (OkOps.y (aB (kind == 5)) (OkOps.y (aB (kind == 5)) (OkOps.q (triQG (x:=aI kind) rfl rfl trivial rfl) (OkOps.q (triQG (x:=aB (kind == 13)) rfl rfl ⟨fun h=>h,trivial⟩ rfl) ?_)))))))))))
 refine OkOps.q (triOr rfl rfl (fun h=>by rw [h];rfl) rfl) ?_
 refine OkOps.y (aB ((kind == 5) || (kind == 13))) (OkOps.nil (Ok.ret ?_))
 obtain rfl:=Option.some.inj hr
 exact ⟨_,rfl,.inl rfl,trivial⟩
theorem widgetry_layout_complete_1_c (p_n : Node) (p_s : Styled) {r : Bool} (hr : widgetry_layout_complete_1 p_n p_s = some r) : Con Tryd.prog 109 [.agg [cI p_n.ID,cI p_n.Parent,cI p_n.Kind,cS p_n.Key,.d (.sl (List.map Attr.cs p_n.Attrs)),.d (.sl (List.map Action.cs p_n.Actions)),.d (.sl (List.map (eInt .i64) p_n.Kids))],.agg [cI p_s.ID,cI (p_s.Style 0),cI (p_s.Style 1),cI (p_s.Style 2),cI (p_s.Style 3),cI (p_s.Style 4),cI (p_s.Style 5),cI (p_s.Style 6),cI (p_s.Style 7),cI (p_s.Style 8),cI (p_s.Style 9),cI (p_s.Style 10),cI (p_s.Style 11),cI (p_s.Style 12),cI (p_s.Style 13),cI (p_s.Style 14),cI (p_s.Style 15),cI (p_s.Style 16),cI (p_s.Style 17),cI (p_s.Style 18),cI (p_s.Style 19),cI (p_s.Style 20),cI (p_s.Style 21)]] [] (.s (aB r)) []:=by
 unfold widgetry_layout_complete_1 at hr
 refine Con.of_ok 10 0 [.tmp 4] [(0,.s (.agg [cI p_n.ID,cI p_n.Parent,cI p_n.Kind,cS p_n.Key,.d (.sl (List.map Attr.cs p_n.Attrs)),.d (.sl (List.map Action.cs p_n.Actions)),.d (.sl (List.map (eInt .i64) p_n.Kids))])),(1,.s (.agg [cI p_s.ID,cI (p_s.Style 0),cI (p_s.Style 1),cI (p_s.Style 2),cI (p_s.Style 3),cI (p_s.Style 4),cI (p_s.Style 5),cI (p_s.Style 6),cI (p_s.Style 7),cI (p_s.Style 8),cI (p_s.Style 9),cI (p_s.Style 10),cI (p_s.Style 11),cI (p_s.Style 12),cI (p_s.Style 13),cI (p_s.Style 14),cI (p_s.Style 15),cI (p_s.Style 16),cI (p_s.Style 17),cI (p_s.Style 18),cI (p_s.Style 19),cI (p_s.Style 20),cI (p_s.Style 21)]))] Tryd.func109 rfl rfl rfl rfl rfl rfl rfl rfl fun w g M ρ _=>(Ok.seq (Ok.region (OkOps.m 0 (triBox (j:=0) (cs:=[cI p_n.ID,cI p_n.Parent,cI p_n.Kind,cS p_n.Key,.d (.sl (List.map Attr.cs p_n.Attrs)),.d (.sl (List.map Action.cs p_n.Actions)),.d (.sl (List.map (eInt .i64) p_n.Kids))]) rfl rfl rfl rfl rfl) (OkOps.m 0 (triBox (j:=1) (cs:=[cI p_s.ID,cI (p_s.Style 0),cI (p_s.Style 1),cI (p_s.Style 2),cI (p_s.Style 3),cI (p_s.Style 4),cI (p_s.Style 5),cI (p_s.Style 6),cI (p_s.Style 7),cI (p_s.Style 8),cI (p_s.Style 9),cI (p_s.Style 10),cI (p_s.Style 11),cI (p_s.Style 12),cI (p_s.Style 13),cI (p_s.Style 14),cI (p_s.Style 15),cI (p_s.Style 16),cI (p_s.Style 17),cI (p_s.Style 18),cI (p_s.Style 19),cI (p_s.Style 20),cI (p_s.Style 21)]) rfl rfl rfl rfl rfl) (OkOps.y (aB false) (OkOps.nil (Ok.seq (Ok.region (OkOps.y (.c (.loc 0 0)) (OkOps.y (aI p_n.ID) (OkOps.y (.c (.loc 1 0)) (OkOps.y (aI p_s.ID) (OkOps.y (aB (p_n.ID == p_s.ID)) (OkOps.y (aB (p_n.ID == p_s.ID)) (OkOps.nil ?_)))))))))))))))
 refine Ok.ret ?_
 obtain rfl:=Option.some.inj hr
 exact ⟨_,rfl,.inl rfl,trivial⟩
theorem slices_EqualFunc_Sl_Node_Sl_Styled_Node_Styled_c (p_s1 : (List Node)) (p_s2 : (List Styled)) {r : Bool} (hr : slices_EqualFunc_Sl_Node_Sl_Styled_Node_Styled p_s1 p_s2 = some r) : Con Tryd.prog 108 [.c (.d (.sl (List.map Node.cs p_s1))),.c (.d (.sl (List.map Styled.cs p_s2))),.c (.fn 109 [])] [] (.s (aB r)) []:=by
 unfold slices_EqualFunc_Sl_Node_Sl_Styled_Node_Styled at hr
 refine Con.of_ok 32 0 [.tmp 6] [(0,.s (.c (.d (.sl (List.map Node.cs p_s1))))),(1,.s (.c (.d (.sl (List.map Styled.cs p_s2))))),(2,.s (.c (.fn 109 [])))] Tryd.func108 rfl rfl rfl rfl rfl rfl rfl rfl fun w g M ρ _=>(Ok.seq (Ok.region (OkOps.y (aB false) (OkOps.nil (Ok.seq (Ok.seq (Ok.region (OkOps.y (.c (.d (.sl (List.map Node.cs p_s1)))) (OkOps.q (triLen (enc:=Node.cs) p_s1 rfl rfl trivial rfl) (OkOps.y (.c (.d (.sl (List.map Styled.cs p_s2)))) (OkOps.q (triLen (enc:=Styled.cs) p_s2 rfl rfl trivial rfl) (OkOps.y (aB ((p_s1.length : Int) != (p_s2.length : Int))) (OkOps.nil ?_)))))))))))))
 refine Ok.cond (b:=(p_s1.length : Int) != (p_s2.length : Int)) rfl (fun h1=>?_) (fun h1=>?_)
 have hr:=selT h1 hr
 refine Ok.seq (Ok.region (OkOps.y (aB false) (OkOps.nil (Ok.ret ?_))))
 obtain rfl:=Option.some.inj hr
 exact ⟨_,rfl,.inl rfl,trivial⟩
 have hr:=selF h1 hr
 refine Ok.skip ?_
 obtain ⟨k3,hk3,hr⟩:=jn_some hr
 refine Ok.join (fun (s2 : Unit)=>⟨[],[],0⟩) k3 r (fun s2 hr=>?_) ?_
 rw [hk3] at hr
 refine Ok.seq (Ok.region (OkOps.y (aB true) (OkOps.nil (Ok.ret ?_))))
 obtain rfl:=Option.some.inj hr
 exact ⟨_,rfl,.inl rfl,trivial⟩
 clear hk3
 refine Ok.seq (Ok.region (OkOps.y (.c (.d (.sl (List.map Node.cs p_s1)))) (OkOps.q (triLen (enc:=Node.cs) p_s1 rfl rfl trivial rfl) (OkOps.y (aI 0) (OkOps.nil (Ok.block (Ok.loopK (fun (s4 : Int)=>⟨[(1,.s (.c (.d (.sl (List.map Styled.cs p_s2))))),(2,.s (.c (.fn 109 []))),(15,.s (.c (.d (.sl (List.map Node.cs p_s1))))),(16,.s (aI (p_s1.length : Int))),(17,.s (aI s4))],[],0⟩) hr (Conv.mk (tau []) ⟨⟨_,rfl,.inl rfl⟩,⟨_,rfl,.inl rfl⟩,⟨_,rfl,.inl rfl⟩,⟨_,rfl,.inl rfl⟩,⟨_,rfl,.inl rfl⟩,trivial⟩ trivial rfl rfl rfl rfl) ?_)))))))
 clear hr
 intro again5 s4 hr
 unfold slices_EqualFunc_Sl_Node_Sl_Styled_Node_Styled_L1 at hr
 refine Ok.seq (Ok.region (OkOps.y (aB (decide (s4 < (p_s1.length : Int)))) (OkOps.nil (Ok.seq ?_))))
 refine Ok.cond (b:=decide (s4 < (p_s1.length : Int))) rfl (fun h6=>?_) (fun h6=>?_)
 have hr:=selT h6 hr
 refine Ok.skip (Ok.seq (Ok.block (Ok.seq (Ok.region (OkOps.y (aI s4) ?_)))))
 obtain ⟨x7,hx7,hr⟩:=bind_some hr
 refine OkOps.q (triIdx (enc:=Node.cs) (L:=p_s1) (row:=[dI x7.ID,dI x7.Parent,dI x7.Kind,dS x7.Key,.sl (List.map Attr.cs x7.Attrs),.sl (List.map Action.cs x7.Actions),.sl (List.map (eInt .i64) x7.Kids)]) hx7 rfl rfl rfl rfl (fun _=>rfl) trivial rfl) (OkOps.y (.agg [cI x7.ID,cI x7.Parent,cI x7.Kind,cS x7.Key,.d (.sl (List.map Attr.cs x7.Attrs)),.d (.sl (List.map Action.cs x7.Actions)),.d (.sl (List.map (eInt .i64) x7.Kids))]) (OkOps.m 0 (triAlloc (j:=0) (cs:=[cI 0,cI 0,cI 0,cS ByteArray.empty,.d (.v (.slice none 0 0)),.d (.v (.slice none 0 0)),.d (.v (.slice none 0 0))]) rfl rfl rfl rfl) (OkOps.y (aI s4) (OkOps.w (triStore (cs':=[cI x7.ID,cI x7.Parent,cI x7.Kind,cS x7.Key,.d (.sl (List.map Attr.cs x7.Attrs)),.d (.sl (List.map Action.cs x7.Actions)),.d (.sl (List.map (eInt .i64) x7.Kids))]) rfl rfl rfl rfl rfl rfl rfl rfl rfl) (OkOps.nil (Ok.seq (Ok.region (OkOps.y (.c (.d (.sl (List.map Styled.cs p_s2)))) (OkOps.y (aI s4) ?_)))))))))
 obtain ⟨x8,hx8,hr⟩:=bind_some hr
 refine OkOps.q (triIdx (enc:=Styled.cs) (L:=p_s2) (row:=[dI x8.ID,dI (x8.Style 0),dI (x8.Style 1),dI (x8.Style 2),dI (x8.Style 3),dI (x8.Style 4),dI (x8.Style 5),dI (x8.Style 6),dI (x8.Style 7),dI (x8.Style 8),dI (x8.Style 9),dI (x8.Style 10),dI (x8.Style 11),dI (x8.Style 12),dI (x8.Style 13),dI (x8.Style 14),dI (x8.Style 15),dI (x8.Style 16),dI (x8.Style 17),dI (x8.Style 18),dI (x8.Style 19),dI (x8.Style 20),dI (x8.Style 21)]) hx8 rfl rfl rfl rfl (fun _=>rfl) trivial rfl) (OkOps.y (.agg [cI x8.ID,cI (x8.Style 0),cI (x8.Style 1),cI (x8.Style 2),cI (x8.Style 3),cI (x8.Style 4),cI (x8.Style 5),cI (x8.Style 6),cI (x8.Style 7),cI (x8.Style 8),cI (x8.Style 9),cI (x8.Style 10),cI (x8.Style 11),cI (x8.Style 12),cI (x8.Style 13),cI (x8.Style 14),cI (x8.Style 15),cI (x8.Style 16),cI (x8.Style 17),cI (x8.Style 18),cI (x8.Style 19),cI (x8.Style 20),cI (x8.Style 21)]) (OkOps.m 0 (triAlloc (j:=1) (cs:=[cI 0,cI 0,cI 0,cI 0,cI 0,cI 0,cI 0,cI 0,cI 0,cI 0,cI 0,cI 0,cI 0,cI 0,cI 0,cI 0,cI 0,cI 0,cI 0,cI 0,cI 0,cI 0,cI 0]) rfl rfl rfl rfl) (OkOps.w (triStore (cs':=[cI x8.ID,cI (x8.Style 0),cI (x8.Style 1),cI (x8.Style 2),cI (x8.Style 3),cI (x8.Style 4),cI (x8.Style 5),cI (x8.Style 6),cI (x8.Style 7),cI (x8.Style 8),cI (x8.Style 9),cI (x8.Style 10),cI (x8.Style 11),cI (x8.Style 12),cI (x8.Style 13),cI (x8.Style 14),cI (x8.Style 15),cI (x8.Style 16),cI (x8.Style 17),cI (x8.Style 18),cI (x8.Style 19),cI (x8.Style 20),cI (x8.Style 21)]) rfl rfl rfl rfl rfl rfl rfl rfl (by kernel_rfl)) (OkOps.nil (Ok.seq (Ok.region (OkOps.y (.c (.fn 109 [])) (OkOps.y (.agg [cI x7.ID,cI x7.Parent,cI x7.Kind,cS x7.Key,.d (.sl (List.map Attr.cs x7.Attrs)),.d (.sl (List.map Action.cs x7.Actions)),.d (.sl (List.map (eInt .i64) x7.Kids))]) (OkOps.y (.agg [cI x8.ID,cI (x8.Style 0),cI (x8.Style 1),cI (x8.Style 2),cI (x8.Style 3),cI (x8.Style 4),cI (x8.Style 5),cI (x8.Style 6),cI (x8.Style 7),cI (x8.Style 8),cI (x8.Style 9),cI (x8.Style 10),cI (x8.Style 11),cI (x8.Style 12),cI (x8.Style 13),cI (x8.Style 14),cI (x8.Style 15),cI (x8.Style 16),cI (x8.Style 17),cI (x8.Style 18),cI (x8.Style 19),cI (x8.Style 20),cI (x8.Style 21)]) ?_)))))))))
 obtain ⟨x9,hx9,hr⟩:=bind_some hr
 refine OkOps.q (triCallF (caps:=[]) (tau []) (.s (aB x9)) [] rfl (widgetry_layout_complete_1_c _ _ hx9) rfl ⟨.inl rfl,.inl rfl,trivial⟩ trivial entry109 trivial rfl rfl rfl rfl trivial rfl rfl rfl) (OkOps.y (aB (!x9)) (OkOps.nil ?_))
 refine Ok.cond (b:=!x9) rfl (fun h10=>?_) (fun h10=>?_)
 have hr:=selT h10 hr
 refine Ok.seq (Ok.region (OkOps.y (aB false) (OkOps.nil (Ok.ret ?_))))
 obtain rfl:=Option.some.inj hr
 exact ⟨_,rfl,.inl rfl,trivial⟩
 have hr:=selF h10 hr
 refine Ok.skip (Ok.region (OkOps.y (aI (IntKind.i64.wrap (s4 + 1))) (OkOps.y (aI (IntKind.i64.wrap (s4 + 1))) (OkOps.nil ?_))))
 exact ⟨IntKind.i64.wrap (s4 + 1),hr,(Conv.mk (tau []) ⟨⟨_,rfl,.inl rfl⟩,⟨_,rfl,.inl rfl⟩,⟨_,rfl,.inl rfl⟩,⟨_,rfl,.inl rfl⟩,⟨_,rfl,.inl rfl⟩,trivial⟩ trivial rfl rfl rfl rfl)⟩
 have hr:=selF h6 hr
 refine Ok.exit ?_
 exact ⟨(),hr,(Conv.mk (tau []) trivial trivial rfl rfl rfl rfl)⟩
theorem widgetry_layout_complete_c (t : Tree) (st : (List Styled)) {r : Bool} (hr : widgetry_layout_complete t st = some r) : Con Tryd.prog 95 [.agg [cI t.Root,cI t.Next,.d (.sl (List.map Node.cs t.Nodes))],.c (.d (.sl (List.map Styled.cs st)))] [] (.s (aB r)) []:=by
 unfold widgetry_layout_complete at hr
 refine Con.of_ok 9 0 [.tmp 4] [(0,.s (.agg [cI t.Root,cI t.Next,.d (.sl (List.map Node.cs t.Nodes))])),(1,.s (.c (.d (.sl (List.map Styled.cs st)))))] Tryd.func95 rfl rfl rfl rfl rfl rfl rfl rfl fun w g M ρ _=>(Ok.seq (Ok.region (OkOps.m 0 (triBox (j:=0) (cs:=[cI t.Root,cI t.Next,.d (.sl (List.map Node.cs t.Nodes))]) rfl rfl rfl rfl rfl) (OkOps.y (aB false) (OkOps.nil (Ok.seq (Ok.region (OkOps.y (.c (.loc 0 2)) (OkOps.y (.c (.d (.sl (List.map Node.cs t.Nodes)))) (OkOps.y (.c (.d (.sl (List.map Styled.cs st)))) ?_))))))))))
 obtain ⟨x1,hx1,hr⟩:=bind_some hr
 refine OkOps.q (triCl (tau []) (.s (aB x1)) [] (slices_EqualFunc_Sl_Node_Sl_Styled_Node_Styled_c _ _ hx1) rfl ⟨.inl rfl,.inl rfl,.inl rfl,trivial⟩ trivial entry108 trivial) (OkOps.y (aB x1) (OkOps.nil (Ok.ret ?_)))
 obtain rfl:=Option.some.inj hr
 exact ⟨_,rfl,.inl rfl,trivial⟩
theorem widgetry_layout_styled_c (st : (List Styled)) {r : Bool} (hr : widgetry_layout_styled st = some r) : Con Tryd.prog 96 [.c (.d (.sl (List.map Styled.cs st)))] [] (.s (aB r)) []:=by
 unfold widgetry_layout_styled at hr
 refine Con.of_ok 25 0 [.tmp 2] [(0,.s (.c (.d (.sl (List.map Styled.cs st)))))] Tryd.func96 rfl rfl rfl rfl rfl rfl rfl rfl fun w g M ρ _=>(Ok.seq (Ok.region (OkOps.y (aB false) (OkOps.nil ?_))))
 obtain ⟨k2,hk2,hr⟩:=jn_some hr
 refine Ok.join (fun (s1 : Unit)=>⟨[],[],0⟩) k2 r (fun s1 hr=>?_) ?_
 rw [hk2] at hr
 refine Ok.seq (Ok.region (OkOps.y (aB true) (OkOps.nil (Ok.ret ?_))))
 obtain rfl:=Option.some.inj hr
 exact ⟨_,rfl,.inl rfl,trivial⟩
 clear hk2
 refine Ok.seq (Ok.region (OkOps.y (.c (.d (.sl (List.map Styled.cs st)))) (OkOps.q (triLen (enc:=Styled.cs) st rfl rfl trivial rfl) (OkOps.y (aI 0) (OkOps.nil (Ok.block (Ok.loopK (fun (s3 : Int)=>⟨[(7,.s (.c (.d (.sl (List.map Styled.cs st))))),(8,.s (aI (st.length : Int))),(9,.s (aI s3))],[],0⟩) hr (Conv.mk (tau []) ⟨⟨_,rfl,.inl rfl⟩,⟨_,rfl,.inl rfl⟩,⟨_,rfl,.inl rfl⟩,trivial⟩ trivial rfl rfl rfl rfl) ?_)))))))
 clear hr
 intro again4 s3 hr
 unfold widgetry_layout_styled_L2 at hr
 refine Ok.seq (Ok.region (OkOps.y (aB (decide (s3 < (st.length : Int)))) (OkOps.nil (Ok.seq ?_))))
 refine Ok.cond (b:=decide (s3 < (st.length : Int))) rfl (fun h5=>?_) (fun h5=>?_)
 have hr:=selT h5 hr
 refine Ok.skip ?_
 obtain ⟨k7,hk7,hr⟩:=jn_some hr
 refine Ok.join (fun (s6 : Unit)=>⟨[(7,.s (.c (.d (.sl (List.map Styled.cs st))))),(8,.s (aI (st.length : Int))),(9,.s (aI s3))],[],0⟩) k7 r (fun s6 hr=>?_) ?_
 rw [hk7] at hr
 refine Ok.region (OkOps.y (aI (IntKind.i64.wrap (s3 + 1))) (OkOps.y (aI (IntKind.i64.wrap (s3 + 1))) (OkOps.nil ?_)))
 exact ⟨IntKind.i64.wrap (s3 + 1),hr,(Conv.mk (tau []) ⟨⟨_,rfl,.inl rfl⟩,⟨_,rfl,.inl rfl⟩,⟨_,rfl,.inl rfl⟩,trivial⟩ trivial rfl rfl rfl rfl)⟩
 clear hk7
 refine Ok.block (Ok.seq (Ok.region ?_))
 obtain ⟨x8,hx8,hr⟩:=bind_some hr
 refine OkOps.q (triIdx (enc:=Styled.cs) (L:=st) (row:=[dI x8.ID,dI (x8.Style 0),dI (x8.Style 1),dI (x8.Style 2),dI (x8.Style 3),dI (x8.Style 4),dI (x8.Style 5),dI (x8.Style 6),dI (x8.Style 7),dI (x8.Style 8),dI (x8.Style 9),dI (x8.Style 10),dI (x8.Style 11),dI (x8.Style 12),dI (x8.Style 13),dI (x8.Style 14),dI (x8.Style 15),dI (x8.Style 16),dI (x8.Style 17),dI (x8.Style 18),dI (x8.Style 19),dI (x8.Style 20),dI (x8.Style 21)]) hx8 rfl rfl rfl rfl (fun _=>rfl) trivial rfl) (OkOps.y (.agg [cI x8.ID,cI (x8.Style 0),cI (x8.Style 1),cI (x8.Style 2),cI (x8.Style 3),cI (x8.Style 4),cI (x8.Style 5),cI (x8.Style 6),cI (x8.Style 7),cI (x8.Style 8),cI (x8.Style 9),cI (x8.Style 10),cI (x8.Style 11),cI (x8.Style 12),cI (x8.Style 13),cI (x8.Style 14),cI (x8.Style 15),cI (x8.Style 16),cI (x8.Style 17),cI (x8.Style 18),cI (x8.Style 19),cI (x8.Style 20),cI (x8.Style 21)]) (OkOps.m 0 (triAlloc (j:=0) (cs:=[cI 0,cI 0,cI 0,cI 0,cI 0,cI 0,cI 0,cI 0,cI 0,cI 0,cI 0,cI 0,cI 0,cI 0,cI 0,cI 0,cI 0,cI 0,cI 0,cI 0,cI 0,cI 0,cI 0]) rfl rfl rfl rfl) (OkOps.w (triStore (cs':=[cI x8.ID,cI (x8.Style 0),cI (x8.Style 1),cI (x8.Style 2),cI (x8.Style 3),cI (x8.Style 4),cI (x8.Style 5),cI (x8.Style 6),cI (x8.Style 7),cI (x8.Style 8),cI (x8.Style 9),cI (x8.Style 10),cI (x8.Style 11),cI (x8.Style 12),cI (x8.Style 13),cI (x8.Style 14),cI (x8.Style 15),cI (x8.Style 16),cI (x8.Style 17),cI (x8.Style 18),cI (x8.Style 19),cI (x8.Style 20),cI (x8.Style 21)]) rfl rfl rfl rfl rfl rfl rfl rfl (by kernel_rfl)) (OkOps.nil (Ok.seq (Ok.region (OkOps.y (.c (.loc 0 1)) (OkOps.y (.agg [cI (x8.Style 0),cI (x8.Style 1),cI (x8.Style 2),cI (x8.Style 3),cI (x8.Style 4),cI (x8.Style 5),cI (x8.Style 6),cI (x8.Style 7),cI (x8.Style 8),cI (x8.Style 9),cI (x8.Style 10),cI (x8.Style 11),cI (x8.Style 12),cI (x8.Style 13),cI (x8.Style 14),cI (x8.Style 15),cI (x8.Style 16),cI (x8.Style 17),cI (x8.Style 18),cI (x8.Style 19),cI (x8.Style 20),cI (x8.Style 21)]) (OkOps.y (aI 0) (OkOps.nil ?_))))))))))
 obtain ⟨k10,hk10,hr⟩:=jn_some hr
 refine Ok.joinEnd (fun (s9 : Unit)=>⟨[(7,.s (.c (.d (.sl (List.map Styled.cs st))))),(8,.s (aI (st.length : Int))),(9,.s (aI s3))],[],0⟩) k10 r (fun s9 hr=>?_) ?_
 rw [hk10] at hr
 exact ⟨(),hr,(Conv.mk (tau []) ⟨⟨_,rfl,.inl rfl⟩,⟨_,rfl,.inl rfl⟩,⟨_,rfl,.inl rfl⟩,trivial⟩ trivial rfl rfl rfl rfl)⟩
 clear hk10
 refine Ok.block (Ok.loopK (fun (s11 : Int)=>⟨[(7,.s (.c (.d (.sl (List.map Styled.cs st))))),(8,.s (aI (st.length : Int))),(9,.s (aI s3)),(14,.s (.agg [cI (x8.Style 0),cI (x8.Style 1),cI (x8.Style 2),cI (x8.Style 3),cI (x8.Style 4),cI (x8.Style 5),cI (x8.Style 6),cI (x8.Style 7),cI (x8.Style 8),cI (x8.Style 9),cI (x8.Style 10),cI (x8.Style 11),cI (x8.Style 12),cI (x8.Style 13),cI (x8.Style 14),cI (x8.Style 15),cI (x8.Style 16),cI (x8.Style 17),cI (x8.Style 18),cI (x8.Style 19),cI (x8.Style 20),cI (x8.Style 21)])),(15,.s (aI s11))],[],0⟩) hr (Conv.mk (tau []) ⟨⟨_,rfl,.inl rfl⟩,⟨_,rfl,.inl rfl⟩,⟨_,rfl,.inl rfl⟩,⟨_,rfl,.inl rfl⟩,⟨_,rfl,.inl rfl⟩,trivial⟩ trivial rfl rfl rfl rfl) ?_)
 clear hr
 intro again12 s11 hr
 unfold widgetry_layout_styled_L1 at hr
 refine Ok.seq (Ok.region (OkOps.y (aB (decide (s11 < 22))) (OkOps.nil (Ok.seq ?_))))
 refine Ok.cond (b:=decide (s11 < 22)) rfl (fun h13=>?_) (fun h13=>?_)
 have hr:=selT h13 hr
 refine Ok.skip (Ok.seq (Ok.block (Ok.seq (Ok.region (OkOps.y (aI s11) ?_)))))
 obtain ⟨x14,hx14,hr⟩:=bind_some hr
 refine OkOps.q (triIxA (c:=cI (x8.Style x14)) hx14 rfl rfl rfl rfl (arr1_get (e1:=dInt .i64) (a:=x8.Style) (ixO_spec hx14).2) trivial rfl) (OkOps.y (aI s11) (OkOps.y (aI (x8.Style x14)) (OkOps.nil (Ok.seq (Ok.region (OkOps.y (aI s11) (OkOps.y (aI (x8.Style x14)) ?_)))))))
 obtain ⟨x15,hx15,hr⟩:=bind_some hr
 refine OkOps.q (triCl (tau []) (.s (aB x15)) [] (widgetry_style_InRange_c _ _ hx15) rfl ⟨.inl rfl,.inl rfl,trivial⟩ trivial entry52 trivial) (OkOps.y (aB (!x15)) (OkOps.nil ?_))
 refine Ok.cond (b:=!x15) rfl (fun h16=>?_) (fun h16=>?_)
 have hr:=selT h16 hr
 refine Ok.seq (Ok.region (OkOps.y (aB false) (OkOps.nil (Ok.ret ?_))))
 obtain rfl:=Option.some.inj hr
 exact ⟨_,rfl,.inl rfl,trivial⟩
 have hr:=selF h16 hr
 refine Ok.skip (Ok.region (OkOps.y (aI (IntKind.i64.wrap (s11 + 1))) (OkOps.y (aI (IntKind.i64.wrap (s11 + 1))) (OkOps.nil ?_))))
 exact ⟨IntKind.i64.wrap (s11 + 1),hr,(Conv.mk (tau []) ⟨⟨_,rfl,.inl rfl⟩,⟨_,rfl,.inl rfl⟩,⟨_,rfl,.inl rfl⟩,⟨_,rfl,.inl rfl⟩,⟨_,rfl,.inl rfl⟩,trivial⟩ trivial rfl rfl rfl rfl)⟩
 have hr:=selF h13 hr
 refine Ok.exit ?_
 exact ⟨(),hr,(Conv.mk (tau []) ⟨⟨_,rfl,.inl rfl⟩,⟨_,rfl,.inl rfl⟩,⟨_,rfl,.inl rfl⟩,trivial⟩ trivial rfl rfl rfl rfl)⟩
 have hr:=selF h5 hr
 refine Ok.exit ?_
 exact ⟨(),hr,(Conv.mk (tau []) trivial trivial rfl rfl rfl rfl)⟩
theorem widgetry_layout_scene_hidden_c (p_x : layout_scene) (id : Int) {r : Bool × layout_scene} (hr : widgetry_layout_scene_hidden p_x id = some r) : Con Tryd.prog 110 [.c (.loc 0 0),aI id] [(0,.blk [cI p_x.t.Root,cI p_x.t.Next,.d (.sl (List.map Node.cs p_x.t.Nodes)),.d (.sl (List.map Font.cs p_x.fonts)),.d (.mp true (encM (kInt .i64) Node.cs p_x.nodes)),.d (.mp true (encM (kInt .i64) (eArr 22 (dInt .i64)) p_x.style)),.own 1,.tl 2 (List.map (eInt .i64) p_x.shown),.d (.mp false (encM (kInt .i64) (eInt .i64) p_x.least)),.d (.mp false (encM (kInt .i64) (eInt .i64) p_x.most)),.d (.mp false (encM (kPair .i64) (eInt .i64) p_x.tall)),.d (.mp false (encM (kPair .i64) (eInt .i64) p_x.first))] 176),(1,.mp false (encM (kInt .i64) (eJ 1) p_x.kids)),(2,.tail 1)] (.s (aB r.1)) [(0,.blk [cI r.2.t.Root,cI r.2.t.Next,.d (.sl (List.map Node.cs r.2.t.Nodes)),.d (.sl (List.map Font.cs r.2.fonts)),.d (.mp true (encM (kInt .i64) Node.cs r.2.nodes)),.d (.mp true (encM (kInt .i64) (eArr 22 (dInt .i64)) r.2.style)),.own 3000,.tl 3001 (List.map (eInt .i64) r.2.shown),.d (.mp false (encM (kInt .i64) (eInt .i64) r.2.least)),.d (.mp false (encM (kInt .i64) (eInt .i64) r.2.most)),.d (.mp false (encM (kPair .i64) (eInt .i64) r.2.tall)),.d (.mp false (encM (kPair .i64) (eInt .i64) r.2.first))] 176),(1,.dead),(2,.dead),(3000,.mp false (encM (kInt .i64) (eJ 1) r.2.kids)),(3001,.tail 1)]:=by
 unfold widgetry_layout_scene_hidden at hr
 refine Con.of_ok 23 0 [.tmp 4] [(0,.s (.c (.loc 0 0))),(1,.s (aI id))] Tryd.func110 rfl rfl rfl rfl rfl rfl rfl rfl fun w g M ρ _=>(Ok.seq (Ok.region (OkOps.y (aB false) (OkOps.nil (Ok.seq (Ok.region (OkOps.y (.c (.loc 0 0)) (OkOps.y (.c (.loc 0 0)) (OkOps.y (.c (.loc 0 5)) (OkOps.y (.c (.d (.mp true (encM (kInt .i64) (eArr 22 (dInt .i64)) p_x.style)))) (OkOps.y (aI id) ?_)))))))))))
 obtain ⟨x1,hx1,hr⟩:=bind_some hr
 refine OkOps.q (triLook (agg:=true) (ek:=(kInt .i64)) (ev:=(eArr 22 (dInt .i64))) (L:=p_x.style) (r:=.agg [cI (x1.1 0),cI (x1.1 1),cI (x1.1 2),cI (x1.1 3),cI (x1.1 4),cI (x1.1 5),cI (x1.1 6),cI (x1.1 7),cI (x1.1 8),cI (x1.1 9),cI (x1.1 10),cI (x1.1 11),cI (x1.1 12),cI (x1.1 13),cI (x1.1 14),cI (x1.1 15),cI (x1.1 16),cI (x1.1 17),cI (x1.1 18),cI (x1.1 19),cI (x1.1 20),cI (x1.1 21)]) hx1 rfl rfl rfl (keyInt Tryd.underlying3) rfl rfl (fun h=>by cases h) rfl trivial rfl) ?_
 refine OkOps.q (triIxA (k:=5) (c:=cI (x1.1 5)) rfl rfl rfl rfl rfl rfl trivial rfl) (OkOps.y (aB ((x1.1 5) == 0)) (OkOps.y (aB ((x1.1 5) == 0)) (OkOps.q (triQG (x:=.c (.loc 0 0)) rfl rfl trivial rfl) (OkOps.q (triQG (x:=.c (.loc 0 0)) rfl rfl ⟨fun h=>h,trivial⟩ rfl) (OkOps.q (triQG (x:=.c (.loc 0 4)) rfl rfl ⟨fun h=>h,trivial⟩ rfl) (OkOps.q (triQG (x:=.c (.d (.mp true (encM (kInt .i64) Node.cs p_x.nodes)))) rfl rfl ⟨fun h=>h,trivial⟩ rfl) (OkOps.q (triQG (x:=aI id) rfl rfl trivial rfl) ?_)))))))
 obtain ⟨x2,hx2,hr⟩:=bind_some hr
 refine OkOps.q (triLookG (agg:=true) (ek:=(kInt .i64)) (ev:=Node.cs) (L:=p_x.nodes) (r:=.agg [cI x2.1.ID,cI x2.1.Parent,cI x2.1.Kind,cS x2.1.Key,.d (.sl (List.map Attr.cs x2.1.Attrs)),.d (.sl (List.map Action.cs x2.1.Actions)),.d (.sl (List.map (eInt .i64) x2.1.Kids))]) (gO_t hx2) rfl rfl rfl rfl (keyInt Tryd.underlying3) rfl rfl (fun h=>by cases h) rfl ⟨fun h=>h,⟨fun h=>h,trivial⟩⟩ rfl) ?_
 refine OkOps.q (triQG (x:=.c (.d (.sl (List.map Attr.cs x2.1.Attrs)))) rfl rfl ⟨fun h=>h,trivial⟩ rfl) ?_
 obtain ⟨x3,hx3,hr⟩:=bind_some hr
 refine OkOps.q (triCallG (x:=aB x3) (fun hg=>vw_Flag_c _ _ (gO_t hx3 hg)) rfl rfl ⟨.inl rfl,.inl rfl,trivial⟩ ⟨fun h=>h,trivial⟩ entry62 rfl rfl rfl) ?_
 refine OkOps.q (triOr rfl rfl (fun h=>by rw [h];rfl) rfl) ?_
 refine OkOps.y (aB (((x1.1 5) == 0) || x3)) (OkOps.nil (Ok.conv (T:=⟨[(4,.s (aB (((x1.1 5) == 0) || x3)))],[(0,.blk [cI p_x.t.Root,cI p_x.t.Next,.d (.sl (List.map Node.cs p_x.t.Nodes)),.d (.sl (List.map Font.cs p_x.fonts)),.d (.mp true (encM (kInt .i64) Node.cs p_x.nodes)),.d (.mp true (encM (kInt .i64) (eArr 22 (dInt .i64)) p_x.style)),.own 3000,.tl 3001 (List.map (eInt .i64) p_x.shown),.d (.mp false (encM (kInt .i64) (eInt .i64) p_x.least)),.d (.mp false (encM (kInt .i64) (eInt .i64) p_x.most)),.d (.mp false (encM (kPair .i64) (eInt .i64) p_x.tall)),.d (.mp false (encM (kPair .i64) (eInt .i64) p_x.first))] 176),(1,.dead),(2,.dead),(3000,.mp false (encM (kInt .i64) (eJ 1) p_x.kids)),(3001,.tail 1)],0⟩) (Conv.mk (tau [(3000,1),(3001,2)]) ⟨⟨_,rfl,.inl rfl⟩,trivial⟩ ⟨rfl,rfl,rfl,trivial⟩ rfl rfl rfl rfl) (Ok.ret ?_)))
 obtain rfl:=Option.some.inj hr
 exact ⟨_,rfl,.inl rfl,⟨rfl,(fun h=>by cases h),(fun h=>by cases h),rfl,rfl,trivial⟩⟩
theorem widgetry_layout_scene_show_B_c (self0 : layout_scene → Int → Option layout_scene) (hself0 : ∀ (p_x : layout_scene) (id : Int) {r : layout_scene},self0 p_x id = some r → Con Tryd.prog 111 [.c (.loc 0 0),aI id] [(0,.blk [cI p_x.t.Root,cI p_x.t.Next,.d (.sl (List.map Node.cs p_x.t.Nodes)),.d (.sl (List.map Font.cs p_x.fonts)),.d (.mp true (encM (kInt .i64) Node.cs p_x.nodes)),.d (.mp true (encM (kInt .i64) (eArr 22 (dInt .i64)) p_x.style)),.own 1,.tl 2 (List.map (eInt .i64) p_x.shown),.d (.mp false (encM (kInt .i64) (eInt .i64) p_x.least)),.d (.mp false (encM (kInt .i64) (eInt .i64) p_x.most)),.d (.mp false (encM (kPair .i64) (eInt .i64) p_x.tall)),.d (.mp false (encM (kPair .i64) (eInt .i64) p_x.first))] 176),(1,.mp false (encM (kInt .i64) (eJ 1) p_x.kids)),(2,.tail 1)] (.tup []) [(0,.blk [cI r.t.Root,cI r.t.Next,.d (.sl (List.map Node.cs r.t.Nodes)),.d (.sl (List.map Font.cs r.fonts)),.d (.mp true (encM (kInt .i64) Node.cs r.nodes)),.d (.mp true (encM (kInt .i64) (eArr 22 (dInt .i64)) r.style)),.own 3000,.tl 3001 (List.map (eInt .i64) r.shown),.d (.mp false (encM (kInt .i64) (eInt .i64) r.least)),.d (.mp false (encM (kInt .i64) (eInt .i64) r.most)),.d (.mp false (encM (kPair .i64) (eInt .i64) r.tall)),.d (.mp false (encM (kPair .i64) (eInt .i64) r.first))] 176),(1,.dead),(2,.dead),(3000,.mp false (encM (kInt .i64) (eJ 1) r.kids)),(3001,.tail 1)]) (p_x : layout_scene) (id : Int) {r : layout_scene} (hr : widgetry_layout_scene_show_B self0 p_x id = some r) : Con Tryd.prog 111 [.c (.loc 0 0),aI id] [(0,.blk [cI p_x.t.Root,cI p_x.t.Next,.d (.sl (List.map Node.cs p_x.t.Nodes)),.d (.sl (List.map Font.cs p_x.fonts)),.d (.mp true (encM (kInt .i64) Node.cs p_x.nodes)),.d (.mp true (encM (kInt .i64) (eArr 22 (dInt .i64)) p_x.style)),.own 1,.tl 2 (List.map (eInt .i64) p_x.shown),.d (.mp false (encM (kInt .i64) (eInt .i64) p_x.least)),.d (.mp false (encM (kInt .i64) (eInt .i64) p_x.most)),.d (.mp false (encM (kPair .i64) (eInt .i64) p_x.tall)),.d (.mp false (encM (kPair .i64) (eInt .i64) p_x.first))] 176),(1,.mp false (encM (kInt .i64) (eJ 1) p_x.kids)),(2,.tail 1)] (.tup []) [(0,.blk [cI r.t.Root,cI r.t.Next,.d (.sl (List.map Node.cs r.t.Nodes)),.d (.sl (List.map Font.cs r.fonts)),.d (.mp true (encM (kInt .i64) Node.cs r.nodes)),.d (.mp true (encM (kInt .i64) (eArr 22 (dInt .i64)) r.style)),.own 3000,.tl 3001 (List.map (eInt .i64) r.shown),.d (.mp false (encM (kInt .i64) (eInt .i64) r.least)),.d (.mp false (encM (kInt .i64) (eInt .i64) r.most)),.d (.mp false (encM (kPair .i64) (eInt .i64) r.tall)),.d (.mp false (encM (kPair .i64) (eInt .i64) r.first))] 176),(1,.dead),(2,.dead),(3000,.mp false (encM (kInt .i64) (eJ 1) r.kids)),(3001,.tail 1)]:=by
 unfold widgetry_layout_scene_show_B at hr
 refine Con.of_ok 60 0 [] [(0,.s (.c (.loc 0 0))),(1,.s (aI id))] Tryd.func111 rfl rfl rfl rfl rfl rfl rfl rfl fun w g M ρ _=>(Ok.seq (Ok.region (OkOps.y (.c (.loc 0 0)) (OkOps.y (.c (.loc 0 0)) (OkOps.y (.c (.loc 0 0)) (OkOps.y (.c (.loc 0 7)) (OkOps.y (.c (.tl 2 (List.map (eInt .i64) p_x.shown))) (OkOps.y (aI id) (OkOps.m 0 (triBST (sz:=1) (enc:=(eInt .i64)) (j:=3) ([id]) rfl rfl rfl rfl rfl rfl rfl rfl (fun _=>rfl) trivial rfl rfl) ?_)))))))))
 obtain ⟨x1,hx1,hr⟩:=bind_some hr
 refine OkOps.m2 0 (triApp (enc:=(eInt .i64)) (L:=p_x.shown) (X:=[id]) (j:=2) (j':=4) hx1 rfl rfl rfl rfl rfl rfl (fun _=>rfl) (fun _=>rfl) (by decide) trivial rfl rfl) (OkOps.y (.c (.loc 0 0)) (OkOps.y (.c (.loc 0 7)) (OkOps.w (triStore (cs':=[cI p_x.t.Root,cI p_x.t.Next,.d (.sl (List.map Node.cs p_x.t.Nodes)),.d (.sl (List.map Font.cs p_x.fonts)),.d (.mp true (encM (kInt .i64) Node.cs p_x.nodes)),.d (.mp true (encM (kInt .i64) (eArr 22 (dInt .i64)) p_x.style)),.own 1,.tl 4 (List.map (eInt .i64) x1),.d (.mp false (encM (kInt .i64) (eInt .i64) p_x.least)),.d (.mp false (encM (kInt .i64) (eInt .i64) p_x.most)),.d (.mp false (encM (kPair .i64) (eInt .i64) p_x.tall)),.d (.mp false (encM (kPair .i64) (eInt .i64) p_x.first))]) rfl rfl rfl rfl rfl rfl rfl rfl rfl) (OkOps.nil (Ok.seq (Ok.region (OkOps.y (.c (.loc 0 0)) (OkOps.y (.c (.loc 0 0)) (OkOps.y (.c (.loc 0 4)) (OkOps.y (.c (.d (.mp true (encM (kInt .i64) Node.cs p_x.nodes)))) (OkOps.y (aI id) ?_)))))))))))
 obtain ⟨x2,hx2,hr⟩:=bind_some hr
 refine OkOps.q (triLook (agg:=true) (ek:=(kInt .i64)) (ev:=Node.cs) (L:=p_x.nodes) (r:=.agg [cI x2.1.ID,cI x2.1.Parent,cI x2.1.Kind,cS x2.1.Key,.d (.sl (List.map Attr.cs x2.1.Attrs)),.d (.sl (List.map Action.cs x2.1.Actions)),.d (.sl (List.map (eInt .i64) x2.1.Kids))]) hx2 rfl rfl rfl (keyInt Tryd.underlying3) rfl rfl (fun h=>by cases h) rfl trivial rfl) ?_
 refine OkOps.m 0 (triAlloc (j:=5) (cs:=[cI 0,cI 0,cI 0,cS ByteArray.empty,.d (.v (.slice none 0 0)),.d (.v (.slice none 0 0)),.d (.v (.slice none 0 0))]) rfl rfl rfl rfl) (OkOps.w (triStore (cs':=[cI x2.1.ID,cI x2.1.Parent,cI x2.1.Kind,cS x2.1.Key,.d (.sl (List.map Attr.cs x2.1.Attrs)),.d (.sl (List.map Action.cs x2.1.Actions)),.d (.sl (List.map (eInt .i64) x2.1.Kids))]) rfl rfl rfl rfl rfl rfl rfl rfl rfl) (OkOps.nil (Ok.seq (Ok.seq (Ok.region (OkOps.y (.c (.loc 5 2)) (OkOps.y (aI x2.1.Kind) ?_)))))))
 obtain ⟨x3,hx3,hr⟩:=bind_some hr
 refine OkOps.q (triCl (tau []) (.s (aB x3)) [] (widgetry_layout_isText_c _ hx3) rfl ⟨.inl rfl,trivial⟩ trivial entry118 trivial) (OkOps.y (aB x3) (OkOps.q (triQG (x:=.c (.loc 5 2)) rfl rfl trivial rfl) (OkOps.q (triQG (x:=aI x2.1.Kind) rfl rfl ⟨fun h=>h,trivial⟩ rfl) ?_)))
 obtain ⟨x4,hx4,hr⟩:=bind_some hr
 refine OkOps.q (triCallG (x:=aB x4) (fun hg=>widgetry_layout_isFigure_c _ (gO_t hx4 hg)) rfl rfl ⟨.inl rfl,trivial⟩ ⟨fun h=>h,trivial⟩ entry119 rfl rfl rfl) ?_
 refine OkOps.q (triOr rfl rfl (fun h=>by rw [h];rfl) rfl) ?_
 refine OkOps.nil ?_
 refine Ok.cond (b:=x3 || x4) rfl (fun h5=>?_) (fun h5=>?_)
 have hr:=selT h5 hr
 refine Ok.conv (T:=⟨[],[(0,.blk [cI p_x.t.Root,cI p_x.t.Next,.d (.sl (List.map Node.cs p_x.t.Nodes)),.d (.sl (List.map Font.cs p_x.fonts)),.d (.mp true (encM (kInt .i64) Node.cs p_x.nodes)),.d (.mp true (encM (kInt .i64) (eArr 22 (dInt .i64)) p_x.style)),.own 3000,.tl 3001 (List.map (eInt .i64) x1),.d (.mp false (encM (kInt .i64) (eInt .i64) p_x.least)),.d (.mp false (encM (kInt .i64) (eInt .i64) p_x.most)),.d (.mp false (encM (kPair .i64) (eInt .i64) p_x.tall)),.d (.mp false (encM (kPair .i64) (eInt .i64) p_x.first))] 176),(1,.dead),(2,.dead),(3000,.mp false (encM (kInt .i64) (eJ 1) p_x.kids)),(3001,.tail 1)],0⟩) (Conv.mk (tau [(3000,1),(3001,4)]) trivial ⟨rfl,rfl,rfl,trivial⟩ rfl rfl rfl rfl) (Ok.ret ?_)
 obtain rfl:=Option.some.inj hr
 exact ⟨_,rfl,.inl rfl,⟨rfl,(fun h=>by cases h),(fun h=>by cases h),rfl,rfl,trivial⟩⟩
 have hr:=selF h5 hr
 refine Ok.skip (Ok.seq (Ok.region (OkOps.y (.c (.loc 5 6)) (OkOps.y (.c (.d (.sl (List.map (eInt .i64) x2.1.Kids)))) (OkOps.q (triLen (enc:=(eInt .i64)) x2.1.Kids rfl rfl trivial rfl) (OkOps.y (aI 0) (OkOps.nil (Ok.block (Ok.loopK (fun (s6 : Int × Int × Int × (List Node) × (List Font) × (List (Int × Node)) × (List (Int × (Nat → Int))) × (List (Int × Nat)) × (List Int) × (List (Int × Int)) × (List (Int × Int)) × (List ((Int × Int) × Int)) × (List ((Int × Int) × Int)))=>⟨[(0,.s (.c (.loc 0 0))),(1,.s (aI id)),(32,.s (.c (.d (.sl (List.map (eInt .i64) x2.1.Kids))))),(33,.s (aI (x2.1.Kids.length : Int))),(34,.s (aI s6.1))],[(0,.blk [cI s6.2.1,cI s6.2.2.1,.d (.sl (List.map Node.cs s6.2.2.2.1)),.d (.sl (List.map Font.cs s6.2.2.2.2.1)),.d (.mp true (encM (kInt .i64) Node.cs s6.2.2.2.2.2.1)),.d (.mp true (encM (kInt .i64) (eArr 22 (dInt .i64)) s6.2.2.2.2.2.2.1)),.own 1004,.tl 1005 (List.map (eInt .i64) s6.2.2.2.2.2.2.2.2.1),.d (.mp false (encM (kInt .i64) (eInt .i64) s6.2.2.2.2.2.2.2.2.2.1)),.d (.mp false (encM (kInt .i64) (eInt .i64) s6.2.2.2.2.2.2.2.2.2.2.1)),.d (.mp false (encM (kPair .i64) (eInt .i64) s6.2.2.2.2.2.2.2.2.2.2.2.1)),.d (.mp false (encM (kPair .i64) (eInt .i64) s6.2.2.2.2.2.2.2.2.2.2.2.2))] 176),(1,.dead),(2,.dead),(1004,.mp false (encM (kInt .i64) (eJ 1) s6.2.2.2.2.2.2.2.1)),(1005,.tail 1)],0⟩) hr (Conv.mk (tau [(1004,1),(1005,4)]) ⟨⟨_,rfl,.inl rfl⟩,⟨_,rfl,.inl rfl⟩,⟨_,rfl,.inl rfl⟩,⟨_,rfl,.inl rfl⟩,⟨_,rfl,.inl rfl⟩,trivial⟩ ⟨rfl,rfl,rfl,trivial⟩ rfl rfl rfl rfl) ?_)))))))))
 clear hr
 intro again7 s6 hr
 unfold widgetry_layout_scene_show_L1 at hr
 refine Ok.seq (Ok.region (OkOps.y (aB (decide (s6.1 < (x2.1.Kids.length : Int)))) (OkOps.nil (Ok.seq ?_))))
 refine Ok.cond (b:=decide (s6.1 < (x2.1.Kids.length : Int))) rfl (fun h8=>?_) (fun h8=>?_)
 have hr:=selT h8 hr
 refine Ok.skip ?_
 obtain ⟨k10,hk10,hr⟩:=jn_some hr
 refine Ok.join (fun (s9 : Int × Int × (List Node) × (List Font) × (List (Int × Node)) × (List (Int × (Nat → Int))) × (List (Int × Nat)) × (List Int) × (List (Int × Int)) × (List (Int × Int)) × (List ((Int × Int) × Int)) × (List ((Int × Int) × Int)))=>⟨[(0,.s (.c (.loc 0 0))),(1,.s (aI id)),(32,.s (.c (.d (.sl (List.map (eInt .i64) x2.1.Kids))))),(33,.s (aI (x2.1.Kids.length : Int))),(34,.s (aI s6.1))],[(0,.blk [cI s9.1,cI s9.2.1,.d (.sl (List.map Node.cs s9.2.2.1)),.d (.sl (List.map Font.cs s9.2.2.2.1)),.d (.mp true (encM (kInt .i64) Node.cs s9.2.2.2.2.1)),.d (.mp true (encM (kInt .i64) (eArr 22 (dInt .i64)) s9.2.2.2.2.2.1)),.own 1010,.tl 1011 (List.map (eInt .i64) s9.2.2.2.2.2.2.2.1),.d (.mp false (encM (kInt .i64) (eInt .i64) s9.2.2.2.2.2.2.2.2.1)),.d (.mp false (encM (kInt .i64) (eInt .i64) s9.2.2.2.2.2.2.2.2.2.1)),.d (.mp false (encM (kPair .i64) (eInt .i64) s9.2.2.2.2.2.2.2.2.2.2.1)),.d (.mp false (encM (kPair .i64) (eInt .i64) s9.2.2.2.2.2.2.2.2.2.2.2))] 176),(1,.dead),(2,.dead),(1010,.mp false (encM (kInt .i64) (eJ 1) s9.2.2.2.2.2.2.1)),(1011,.tail 1)],0⟩) k10 r (fun s9 hr=>?_) ?_
 rw [hk10] at hr
 refine Ok.region (OkOps.y (aI (IntKind.i64.wrap (s6.1 + 1))) (OkOps.y (aI (IntKind.i64.wrap (s6.1 + 1))) (OkOps.nil ?_)))
 exact ⟨(IntKind.i64.wrap (s6.1 + 1),s9.1,s9.2.1,s9.2.2.1,s9.2.2.2.1,s9.2.2.2.2.1,s9.2.2.2.2.2.1,s9.2.2.2.2.2.2.1,s9.2.2.2.2.2.2.2.1,s9.2.2.2.2.2.2.2.2.1,s9.2.2.2.2.2.2.2.2.2.1,s9.2.2.2.2.2.2.2.2.2.2.1,s9.2.2.2.2.2.2.2.2.2.2.2),hr,(Conv.mk (tau [(1004,1010),(1005,1011)]) ⟨⟨_,rfl,.inl rfl⟩,⟨_,rfl,.inl rfl⟩,⟨_,rfl,.inl rfl⟩,⟨_,rfl,.inl rfl⟩,⟨_,rfl,.inl rfl⟩,trivial⟩ ⟨rfl,rfl,rfl,trivial⟩ rfl rfl rfl rfl)⟩
 clear hk10
 refine Ok.block (Ok.seq (Ok.region ?_))
 obtain ⟨x11,hx11,hr⟩:=bind_some hr
 refine OkOps.q (triIdx (enc:=(eInt .i64)) (L:=x2.1.Kids) (row:=[dI x11]) hx11 rfl rfl rfl rfl (fun _=>rfl) trivial rfl) (OkOps.y (aI x11) (OkOps.y (aI x11) (OkOps.nil (Ok.seq (Ok.region (OkOps.y (.c (.loc 0 0)) (OkOps.y (aI x11) ?_)))))))
 obtain ⟨x12,hx12,hr⟩:=bind_some hr
 refine OkOps.wq [(0,.blk [cI x12.2.t.Root,cI x12.2.t.Next,.d (.sl (List.map Node.cs x12.2.t.Nodes)),.d (.sl (List.map Font.cs x12.2.fonts)),.d (.mp true (encM (kInt .i64) Node.cs x12.2.nodes)),.d (.mp true (encM (kInt .i64) (eArr 22 (dInt .i64)) x12.2.style)),.own 6,.tl 7 (List.map (eInt .i64) x12.2.shown),.d (.mp false (encM (kInt .i64) (eInt .i64) x12.2.least)),.d (.mp false (encM (kInt .i64) (eInt .i64) x12.2.most)),.d (.mp false (encM (kPair .i64) (eInt .i64) x12.2.tall)),.d (.mp false (encM (kPair .i64) (eInt .i64) x12.2.first))] 176),(1004,.dead),(1005,.dead),(6,.mp false (encM (kInt .i64) (eJ 1) x12.2.kids)),(7,.tail 1)] (triCall (tau [(0,0),(1,1004),(2,1005),(3000,6),(3001,7)]) (.s (aB x12.1)) [(0,.blk [cI x12.2.t.Root,cI x12.2.t.Next,.d (.sl (List.map Node.cs x12.2.t.Nodes)),.d (.sl (List.map Font.cs x12.2.fonts)),.d (.mp true (encM (kInt .i64) Node.cs x12.2.nodes)),.d (.mp true (encM (kInt .i64) (eArr 22 (dInt .i64)) x12.2.style)),.own 6,.tl 7 (List.map (eInt .i64) x12.2.shown),.d (.mp false (encM (kInt .i64) (eInt .i64) x12.2.least)),.d (.mp false (encM (kInt .i64) (eInt .i64) x12.2.most)),.d (.mp false (encM (kPair .i64) (eInt .i64) x12.2.tall)),.d (.mp false (encM (kPair .i64) (eInt .i64) x12.2.first))] 176),(1004,.dead),(1005,.dead),(6,.mp false (encM (kInt .i64) (eJ 1) x12.2.kids)),(7,.tail 1)] (widgetry_layout_scene_hidden_c _ _ hx12) rfl ⟨.inl rfl,.inl rfl,trivial⟩ trivial entry110 ⟨rfl,rfl,rfl,trivial⟩ rfl rfl rfl rfl ⟨rfl,rfl,trivial⟩ rfl rfl rfl) (OkOps.y (aB (!x12.1)) (OkOps.nil ?_))
 refine Ok.cond (b:=!x12.1) rfl (fun h13=>?_) (fun h13=>?_)
 have hr:=selT h13 hr
 refine Ok.seq (Ok.regionD (by kernel_rfl) (OkD.x (.c (.loc 0 0)) rfl trivial rfl (OkD.x (.c (.loc 0 0)) rfl trivial rfl (OkD.x (.c (.loc 0 6)) rfl trivial rfl (OkD.x (.c (.own 6)) rfl trivial rfl (OkD.x (aI id) rfl trivial rfl (OkD.x (.c (.loc 0 0)) rfl trivial rfl (OkD.x (.c (.loc 0 0)) rfl trivial rfl (OkD.x (.c (.loc 0 6)) rfl trivial rfl (OkD.x (.c (.own 6)) rfl trivial rfl (OkD.x (aI id) rfl trivial rfl ?_)))))))))))
 obtain ⟨x14,hx14,hr⟩:=bind_some hr
 refine OkD.q (triLookJ (sz:=1) (L:=x12.2.kids) hx14 rfl rfl rfl (keyInt Tryd.underlying3) rfl trivial rfl) (OkD.x (aI x11) rfl trivial rfl (OkD.m 0 (triBST (sz:=1) (enc:=(eInt .i64)) (j:=8) ([x11]) rfl rfl rfl rfl rfl rfl rfl rfl (fun _=>rfl) trivial rfl rfl) ?_))
 obtain ⟨x15,hx15,hr⟩:=bind_some hr
 refine OkD.q (triAppJ (enc:=(eInt .i64)) (X:=[x11]) hx15 rfl rfl rfl rfl rfl (fun _=>rfl) (fun _=>rfl) trivial rfl) (OkD.w (triMapUp (ek:=(kInt .i64)) (ev:=eJ 1) (L:=x12.2.kids) (z:=x15) rfl rfl rfl rfl rfl rfl (keyInt Tryd.underlying3) (fun _ _=>rfl) rfl trivial) (OkD.nil (by kernel_rfl) (Ok.region (OkOps.y (.c (.loc 0 0)) (OkOps.y (aI x11) ?_)))))
 obtain ⟨x16,hx16,hr⟩:=bind_some hr
 refine OkOps.wq [(0,.blk [cI x16.t.Root,cI x16.t.Next,.d (.sl (List.map Node.cs x16.t.Nodes)),.d (.sl (List.map Font.cs x16.fonts)),.d (.mp true (encM (kInt .i64) Node.cs x16.nodes)),.d (.mp true (encM (kInt .i64) (eArr 22 (dInt .i64)) x16.style)),.own 9,.tl 10 (List.map (eInt .i64) x16.shown),.d (.mp false (encM (kInt .i64) (eInt .i64) x16.least)),.d (.mp false (encM (kInt .i64) (eInt .i64) x16.most)),.d (.mp false (encM (kPair .i64) (eInt .i64) x16.tall)),.d (.mp false (encM (kPair .i64) (eInt .i64) x16.first))] 176),(6,.dead),(7,.dead),(9,.mp false (encM (kInt .i64) (eJ 1) x16.kids)),(10,.tail 1)] (triCall (tau [(0,0),(1,6),(2,7),(3000,9),(3001,10)]) (.tup []) [(0,.blk [cI x16.t.Root,cI x16.t.Next,.d (.sl (List.map Node.cs x16.t.Nodes)),.d (.sl (List.map Font.cs x16.fonts)),.d (.mp true (encM (kInt .i64) Node.cs x16.nodes)),.d (.mp true (encM (kInt .i64) (eArr 22 (dInt .i64)) x16.style)),.own 9,.tl 10 (List.map (eInt .i64) x16.shown),.d (.mp false (encM (kInt .i64) (eInt .i64) x16.least)),.d (.mp false (encM (kInt .i64) (eInt .i64) x16.most)),.d (.mp false (encM (kPair .i64) (eInt .i64) x16.tall)),.d (.mp false (encM (kPair .i64) (eInt .i64) x16.first))] 176),(6,.dead),(7,.dead),(9,.mp false (encM (kInt .i64) (eJ 1) x16.kids)),(10,.tail 1)] (hself0 _ _ hx16) rfl ⟨.inl rfl,.inl rfl,trivial⟩ trivial entry111 ⟨rfl,rfl,rfl,trivial⟩ rfl rfl rfl rfl ⟨rfl,rfl,trivial⟩ rfl rfl rfl) (OkOps.nil ?_)
 exact ⟨(x16.t.Root,x16.t.Next,x16.t.Nodes,x16.fonts,x16.nodes,x16.style,x16.kids,x16.shown,x16.least,x16.most,x16.tall,x16.first),hr,(Conv.mk (tau [(1010,9),(1011,10)]) ⟨⟨_,rfl,.inl rfl⟩,⟨_,rfl,.inl rfl⟩,⟨_,rfl,.inl rfl⟩,⟨_,rfl,.inl rfl⟩,⟨_,rfl,.inl rfl⟩,trivial⟩ ⟨rfl,rfl,rfl,trivial⟩ rfl rfl rfl rfl)⟩
 have hr:=selF h13 hr
 refine Ok.skip ?_
 exact ⟨(x12.2.t.Root,x12.2.t.Next,x12.2.t.Nodes,x12.2.fonts,x12.2.nodes,x12.2.style,x12.2.kids,x12.2.shown,x12.2.least,x12.2.most,x12.2.tall,x12.2.first),hr,(Conv.mk (tau [(1010,6),(1011,7)]) ⟨⟨_,rfl,.inl rfl⟩,⟨_,rfl,.inl rfl⟩,⟨_,rfl,.inl rfl⟩,⟨_,rfl,.inl rfl⟩,⟨_,rfl,.inl rfl⟩,trivial⟩ ⟨rfl,rfl,rfl,trivial⟩ rfl rfl rfl rfl)⟩
 have hr:=selF h8 hr
 refine Ok.conv (T:=⟨[],[(0,.blk [cI s6.2.1,cI s6.2.2.1,.d (.sl (List.map Node.cs s6.2.2.2.1)),.d (.sl (List.map Font.cs s6.2.2.2.2.1)),.d (.mp true (encM (kInt .i64) Node.cs s6.2.2.2.2.2.1)),.d (.mp true (encM (kInt .i64) (eArr 22 (dInt .i64)) s6.2.2.2.2.2.2.1)),.own 3000,.tl 3001 (List.map (eInt .i64) s6.2.2.2.2.2.2.2.2.1),.d (.mp false (encM (kInt .i64) (eInt .i64) s6.2.2.2.2.2.2.2.2.2.1)),.d (.mp false (encM (kInt .i64) (eInt .i64) s6.2.2.2.2.2.2.2.2.2.2.1)),.d (.mp false (encM (kPair .i64) (eInt .i64) s6.2.2.2.2.2.2.2.2.2.2.2.1)),.d (.mp false (encM (kPair .i64) (eInt .i64) s6.2.2.2.2.2.2.2.2.2.2.2.2))] 176),(1,.dead),(2,.dead),(3000,.mp false (encM (kInt .i64) (eJ 1) s6.2.2.2.2.2.2.2.1)),(3001,.tail 1)],0⟩) (Conv.mk (tau [(3000,1004),(3001,1005)]) trivial ⟨rfl,rfl,rfl,trivial⟩ rfl rfl rfl rfl) (Ok.exit ?_)
 obtain rfl:=Option.some.inj hr
 exact ⟨_,rfl,.inl rfl,⟨rfl,(fun h=>by cases h),(fun h=>by cases h),rfl,rfl,trivial⟩⟩
theorem widgetry_layout_scene_show_all : ∀ n : Nat,(∀ (p_x : layout_scene) (id : Int) {r : layout_scene},widgetry_layout_scene_show n p_x id = some r → Con Tryd.prog 111 [.c (.loc 0 0),aI id] [(0,.blk [cI p_x.t.Root,cI p_x.t.Next,.d (.sl (List.map Node.cs p_x.t.Nodes)),.d (.sl (List.map Font.cs p_x.fonts)),.d (.mp true (encM (kInt .i64) Node.cs p_x.nodes)),.d (.mp true (encM (kInt .i64) (eArr 22 (dInt .i64)) p_x.style)),.own 1,.tl 2 (List.map (eInt .i64) p_x.shown),.d (.mp false (encM (kInt .i64) (eInt .i64) p_x.least)),.d (.mp false (encM (kInt .i64) (eInt .i64) p_x.most)),.d (.mp false (encM (kPair .i64) (eInt .i64) p_x.tall)),.d (.mp false (encM (kPair .i64) (eInt .i64) p_x.first))] 176),(1,.mp false (encM (kInt .i64) (eJ 1) p_x.kids)),(2,.tail 1)] (.tup []) [(0,.blk [cI r.t.Root,cI r.t.Next,.d (.sl (List.map Node.cs r.t.Nodes)),.d (.sl (List.map Font.cs r.fonts)),.d (.mp true (encM (kInt .i64) Node.cs r.nodes)),.d (.mp true (encM (kInt .i64) (eArr 22 (dInt .i64)) r.style)),.own 3000,.tl 3001 (List.map (eInt .i64) r.shown),.d (.mp false (encM (kInt .i64) (eInt .i64) r.least)),.d (.mp false (encM (kInt .i64) (eInt .i64) r.most)),.d (.mp false (encM (kPair .i64) (eInt .i64) r.tall)),.d (.mp false (encM (kPair .i64) (eInt .i64) r.first))] 176),(1,.dead),(2,.dead),(3000,.mp false (encM (kInt .i64) (eJ 1) r.kids)),(3001,.tail 1)]) ∧ True:=by
 intro n
 induction n with
 | zero=>exact ⟨(by intros;rename_i hr;cases hr),trivial⟩
 | succ n ih=>exact ⟨(by intros;rename_i hr;exact widgetry_layout_scene_show_B_c _ ih.1 _ _ hr),trivial⟩
theorem widgetry_layout_scene_show_c (n : Nat) (p_x : layout_scene) (id : Int) {r : layout_scene} (hr : widgetry_layout_scene_show n p_x id = some r) : Con Tryd.prog 111 [.c (.loc 0 0),aI id] [(0,.blk [cI p_x.t.Root,cI p_x.t.Next,.d (.sl (List.map Node.cs p_x.t.Nodes)),.d (.sl (List.map Font.cs p_x.fonts)),.d (.mp true (encM (kInt .i64) Node.cs p_x.nodes)),.d (.mp true (encM (kInt .i64) (eArr 22 (dInt .i64)) p_x.style)),.own 1,.tl 2 (List.map (eInt .i64) p_x.shown),.d (.mp false (encM (kInt .i64) (eInt .i64) p_x.least)),.d (.mp false (encM (kInt .i64) (eInt .i64) p_x.most)),.d (.mp false (encM (kPair .i64) (eInt .i64) p_x.tall)),.d (.mp false (encM (kPair .i64) (eInt .i64) p_x.first))] 176),(1,.mp false (encM (kInt .i64) (eJ 1) p_x.kids)),(2,.tail 1)] (.tup []) [(0,.blk [cI r.t.Root,cI r.t.Next,.d (.sl (List.map Node.cs r.t.Nodes)),.d (.sl (List.map Font.cs r.fonts)),.d (.mp true (encM (kInt .i64) Node.cs r.nodes)),.d (.mp true (encM (kInt .i64) (eArr 22 (dInt .i64)) r.style)),.own 3000,.tl 3001 (List.map (eInt .i64) r.shown),.d (.mp false (encM (kInt .i64) (eInt .i64) r.least)),.d (.mp false (encM (kInt .i64) (eInt .i64) r.most)),.d (.mp false (encM (kPair .i64) (eInt .i64) r.tall)),.d (.mp false (encM (kPair .i64) (eInt .i64) r.first))] 176),(1,.dead),(2,.dead),(3000,.mp false (encM (kInt .i64) (eJ 1) r.kids)),(3001,.tail 1)]:=(widgetry_layout_scene_show_all n).1 p_x id hr
theorem widgetry_layout_open_c (t : Tree) (st : (List Styled)) (fonts : (List Font)) {r : layout_scene} (hr : widgetry_layout_open t st fonts = some r) : Con Tryd.prog 97 [.agg [cI t.Root,cI t.Next,.d (.sl (List.map Node.cs t.Nodes))],.c (.d (.sl (List.map Styled.cs st))),.c (.d (.sl (List.map Font.cs fonts)))] [] (.s (.c (.loc 8 0))) [(8,.blk [cI r.t.Root,cI r.t.Next,.d (.sl (List.map Node.cs r.t.Nodes)),.d (.sl (List.map Font.cs r.fonts)),.d (.mp true (encM (kInt .i64) Node.cs r.nodes)),.d (.mp true (encM (kInt .i64) (eArr 22 (dInt .i64)) r.style)),.d (.mp false (encM (kInt .i64) (eJ 1) r.kids)),.d (.sl (List.map (eInt .i64) r.shown)),.d (.mp false (encM (kInt .i64) (eInt .i64) r.least)),.d (.mp false (encM (kInt .i64) (eInt .i64) r.most)),.d (.mp false (encM (kPair .i64) (eInt .i64) r.tall)),.d (.mp false (encM (kPair .i64) (eInt .i64) r.first))] 176)]:=by
 unfold widgetry_layout_open at hr
 refine Con.of_ok 62 0 [.tmp 6] [(0,.s (.agg [cI t.Root,cI t.Next,.d (.sl (List.map Node.cs t.Nodes))])),(1,.s (.c (.d (.sl (List.map Styled.cs st))))),(2,.s (.c (.d (.sl (List.map Font.cs fonts)))))] Tryd.func97 rfl rfl rfl rfl rfl rfl rfl rfl fun w g M ρ _=>(Ok.seq (Ok.region (OkOps.m 0 (triBox (j:=0) (cs:=[cI t.Root,cI t.Next,.d (.sl (List.map Node.cs t.Nodes))]) rfl rfl rfl rfl rfl) (OkOps.y (.c (.d (.v (.pointer none)))) (OkOps.nil (Ok.seq (Ok.region (OkOps.y (.agg [cI t.Root,cI t.Next,.d (.sl (List.map Node.cs t.Nodes))]) (OkOps.y (.c (.d (.sl (List.map Font.cs fonts)))) (OkOps.m 0 (triMkM (j:=1) true rfl rfl) (OkOps.m 0 (triMkM (j:=2) true rfl rfl) (OkOps.m 0 (triMkM (j:=3) false rfl rfl) (OkOps.m 0 (triMkM (j:=4) false rfl rfl) (OkOps.m 0 (triMkM (j:=5) false rfl rfl) (OkOps.m 0 (triMkM (j:=6) false rfl rfl) ?_)))))))))))))))
 refine OkOps.m 0 (triMkM (j:=7) false rfl rfl) (OkOps.q (triBuildF (x:=.agg [cI t.Root,cI t.Next,.d (.sl (List.map Node.cs t.Nodes)),.d (.sl (List.map Font.cs fonts)),.own 1,.own 2,.own 3,.d (.v (.slice none 0 0)),.own 4,.own 5,.own 6,.own 7]) rfl rfl trivial rfl) (OkOps.m 0 (triBox (j:=8) (cs:=[cI t.Root,cI t.Next,.d (.sl (List.map Node.cs t.Nodes)),.d (.sl (List.map Font.cs fonts)),.own 1,.own 2,.own 3,.d (.v (.slice none 0 0)),.own 4,.own 5,.own 6,.own 7]) rfl rfl rfl rfl rfl) (OkOps.y (.c (.loc 8 0)) (OkOps.nil ?_))))
 obtain ⟨k2,hk2,hr⟩:=jn_some hr
 refine Ok.join (fun (s1 : (List (Int × Node)) × (List (Int × (Nat → Int))))=>⟨[(3,.s (.c (.loc 0 0))),(7,.s (.c (.loc 8 0)))],[(0,.blk [cI t.Root,cI t.Next,.d (.sl (List.map Node.cs t.Nodes))] 46),(1,.mp true (encM (kInt .i64) Node.cs s1.1)),(2,.mp true (encM (kInt .i64) (eArr 22 (dInt .i64)) s1.2)),(3,.mp false (encM (kInt .i64) (eJ 1) ([] : (List (Int × Nat))))),(4,.mp false (encM (kInt .i64) (eInt .i64) ([] : (List (Int × Int))))),(5,.mp false (encM (kInt .i64) (eInt .i64) ([] : (List (Int × Int))))),(6,.mp false (encM (kPair .i64) (eInt .i64) ([] : (List ((Int × Int) × Int))))),(7,.mp false (encM (kPair .i64) (eInt .i64) ([] : (List ((Int × Int) × Int))))),(8,.blk [cI t.Root,cI t.Next,.d (.sl (List.map Node.cs t.Nodes)),.d (.sl (List.map Font.cs fonts)),.own 1,.own 2,.own 3,.d (.v (.slice none 0 0)),.own 4,.own 5,.own 6,.own 7] 176)],0⟩) k2 r (fun s1 hr=>?_) ?_
 rw [hk2] at hr
 obtain ⟨k4,hk4,hr⟩:=jn_some hr
 refine Ok.join (fun (s3 : Int × Int × (List Node) × (List Font) × (List (Int × Node)) × (List (Int × (Nat → Int))) × (List (Int × Nat)) × (List Int) × (List (Int × Int)) × (List (Int × Int)) × (List ((Int × Int) × Int)) × (List ((Int × Int) × Int)))=>⟨[(7,.s (.c (.loc 8 0)))],[(8,.blk [cI s3.1,cI s3.2.1,.d (.sl (List.map Node.cs s3.2.2.1)),.d (.sl (List.map Font.cs s3.2.2.2.1)),.d (.mp true (encM (kInt .i64) Node.cs s3.2.2.2.2.1)),.d (.mp true (encM (kInt .i64) (eArr 22 (dInt .i64)) s3.2.2.2.2.2.1)),.own 1000,.tl 1001 (List.map (eInt .i64) s3.2.2.2.2.2.2.2.1),.d (.mp false (encM (kInt .i64) (eInt .i64) s3.2.2.2.2.2.2.2.2.1)),.d (.mp false (encM (kInt .i64) (eInt .i64) s3.2.2.2.2.2.2.2.2.2.1)),.d (.mp false (encM (kPair .i64) (eInt .i64) s3.2.2.2.2.2.2.2.2.2.2.1)),.d (.mp false (encM (kPair .i64) (eInt .i64) s3.2.2.2.2.2.2.2.2.2.2.2))] 176),(1000,.mp false (encM (kInt .i64) (eJ 1) s3.2.2.2.2.2.2.1)),(1001,.tail 1)],0⟩) k4 r (fun s3 hr=>?_) ?_
 rw [hk4] at hr
 refine Ok.seq (Ok.region (OkOps.y (.c (.loc 8 0)) (OkOps.y (.c (.loc 8 0)) (OkOps.nil (Ok.conv (Conv.freezeM [] [(8,.blk [cI s3.1,cI s3.2.1,.d (.sl (List.map Node.cs s3.2.2.1)),.d (.sl (List.map Font.cs s3.2.2.2.1)),.d (.mp true (encM (kInt .i64) Node.cs s3.2.2.2.2.1)),.d (.mp true (encM (kInt .i64) (eArr 22 (dInt .i64)) s3.2.2.2.2.2.1)),.d (.mp false (encM (kInt .i64) (eJ 1) s3.2.2.2.2.2.2.1)),.tl 1001 (List.map (eInt .i64) s3.2.2.2.2.2.2.2.1),.d (.mp false (encM (kInt .i64) (eInt .i64) s3.2.2.2.2.2.2.2.2.1)),.d (.mp false (encM (kInt .i64) (eInt .i64) s3.2.2.2.2.2.2.2.2.2.1)),.d (.mp false (encM (kPair .i64) (eInt .i64) s3.2.2.2.2.2.2.2.2.2.2.1)),.d (.mp false (encM (kPair .i64) (eInt .i64) s3.2.2.2.2.2.2.2.2.2.2.2))] 176)] 1000 0 rfl trivial ⟨⟨_,_,rfl,rfl⟩,trivial⟩) (Ok.conv (Conv.norm 8 [cI s3.1,cI s3.2.1,.d (.sl (List.map Node.cs s3.2.2.1)),.d (.sl (List.map Font.cs s3.2.2.2.1)),.d (.mp true (encM (kInt .i64) Node.cs s3.2.2.2.2.1)),.d (.mp true (encM (kInt .i64) (eArr 22 (dInt .i64)) s3.2.2.2.2.2.1)),.d (.mp false (encM (kInt .i64) (eJ 1) s3.2.2.2.2.2.2.1)),.tl 1001 (List.map (eInt .i64) s3.2.2.2.2.2.2.2.1),.d (.mp false (encM (kInt .i64) (eInt .i64) s3.2.2.2.2.2.2.2.2.1)),.d (.mp false (encM (kInt .i64) (eInt .i64) s3.2.2.2.2.2.2.2.2.2.1)),.d (.mp false (encM (kPair .i64) (eInt .i64) s3.2.2.2.2.2.2.2.2.2.2.1)),.d (.mp false (encM (kPair .i64) (eInt .i64) s3.2.2.2.2.2.2.2.2.2.2.2))] [cI s3.1,cI s3.2.1,.d (.sl (List.map Node.cs s3.2.2.1)),.d (.sl (List.map Font.cs s3.2.2.2.1)),.d (.mp true (encM (kInt .i64) Node.cs s3.2.2.2.2.1)),.d (.mp true (encM (kInt .i64) (eArr 22 (dInt .i64)) s3.2.2.2.2.2.1)),.d (.mp false (encM (kInt .i64) (eJ 1) s3.2.2.2.2.2.2.1)),.d (.sl (List.map (eInt .i64) s3.2.2.2.2.2.2.2.1)),.d (.mp false (encM (kInt .i64) (eInt .i64) s3.2.2.2.2.2.2.2.2.1)),.d (.mp false (encM (kInt .i64) (eInt .i64) s3.2.2.2.2.2.2.2.2.2.1)),.d (.mp false (encM (kPair .i64) (eInt .i64) s3.2.2.2.2.2.2.2.2.2.2.1)),.d (.mp false (encM (kPair .i64) (eInt .i64) s3.2.2.2.2.2.2.2.2.2.2.2))] 176 0 rfl rfl) (Ok.ret ?_)))))))
 obtain rfl:=Option.some.inj hr
 exact ⟨_,rfl,.inl rfl,⟨rfl,trivial⟩⟩
 clear hk4
 refine Ok.seq (Ok.region (OkOps.y (.c (.loc 8 0)) (OkOps.y (.c (.loc 0 0)) (OkOps.y (aI t.Root) (OkOps.conv (Conv.nilB 8 7 9 (.tail 1) (.tl 9 (List.map (eInt .i64) ([] : (List Int)))) [cI t.Root,cI t.Next,.d (.sl (List.map Node.cs t.Nodes)),.d (.sl (List.map Font.cs fonts)),.own 1,.own 2,.own 3,.d (.v (.slice none 0 0)),.own 4,.own 5,.own 6,.own 7] [cI t.Root,cI t.Next,.d (.sl (List.map Node.cs t.Nodes)),.d (.sl (List.map Font.cs fonts)),.own 1,.own 2,.own 3,.tl 9 (List.map (eInt .i64) ([] : (List Int))),.own 4,.own 5,.own 6,.own 7] 176 0 rfl rfl rfl rfl (nil_tail 1 9) (fun _ _ h=>⟨h.symm,Rep.nil⟩)) (OkOps.conv (Conv.freezeM [] [(8,.blk [cI t.Root,cI t.Next,.d (.sl (List.map Node.cs t.Nodes)),.d (.sl (List.map Font.cs fonts)),.d (.mp true (encM (kInt .i64) Node.cs s1.1)),.own 2,.own 3,.tl 9 (List.map (eInt .i64) ([] : (List Int))),.own 4,.own 5,.own 6,.own 7] 176)] 1 0 rfl trivial ⟨⟨_,_,rfl,rfl⟩,trivial⟩) (OkOps.conv (Conv.freezeM [] [(8,.blk [cI t.Root,cI t.Next,.d (.sl (List.map Node.cs t.Nodes)),.d (.sl (List.map Font.cs fonts)),.d (.mp true (encM (kInt .i64) Node.cs s1.1)),.d (.mp true (encM (kInt .i64) (eArr 22 (dInt .i64)) s1.2)),.own 3,.tl 9 (List.map (eInt .i64) ([] : (List Int))),.own 4,.own 5,.own 6,.own 7] 176)] 2 0 rfl trivial ⟨⟨_,_,rfl,rfl⟩,trivial⟩) (OkOps.conv (Conv.freezeM [] [(8,.blk [cI t.Root,cI t.Next,.d (.sl (List.map Node.cs t.Nodes)),.d (.sl (List.map Font.cs fonts)),.d (.mp true (encM (kInt .i64) Node.cs s1.1)),.d (.mp true (encM (kInt .i64) (eArr 22 (dInt .i64)) s1.2)),.own 3,.tl 9 (List.map (eInt .i64) ([] : (List Int))),.d (.mp false (encM (kInt .i64) (eInt .i64) ([] : (List (Int × Int))))),.own 5,.own 6,.own 7] 176)] 4 0 rfl trivial ⟨⟨_,_,rfl,rfl⟩,trivial⟩) (OkOps.conv (Conv.freezeM [] [(8,.blk [cI t.Root,cI t.Next,.d (.sl (List.map Node.cs t.Nodes)),.d (.sl (List.map Font.cs fonts)),.d (.mp true (encM (kInt .i64) Node.cs s1.1)),.d (.mp true (encM (kInt .i64) (eArr 22 (dInt .i64)) s1.2)),.own 3,.tl 9 (List.map (eInt .i64) ([] : (List Int))),.d (.mp false (encM (kInt .i64) (eInt .i64) ([] : (List (Int × Int))))),.d (.mp false (encM (kInt .i64) (eInt .i64) ([] : (List (Int × Int))))),.own 6,.own 7] 176)] 5 0 rfl trivial ⟨⟨_,_,rfl,rfl⟩,trivial⟩) (OkOps.conv (Conv.freezeM [] [(8,.blk [cI t.Root,cI t.Next,.d (.sl (List.map Node.cs t.Nodes)),.d (.sl (List.map Font.cs fonts)),.d (.mp true (encM (kInt .i64) Node.cs s1.1)),.d (.mp true (encM (kInt .i64) (eArr 22 (dInt .i64)) s1.2)),.own 3,.tl 9 (List.map (eInt .i64) ([] : (List Int))),.d (.mp false (encM (kInt .i64) (eInt .i64) ([] : (List (Int × Int))))),.d (.mp false (encM (kInt .i64) (eInt .i64) ([] : (List (Int × Int))))),.d (.mp false (encM (kPair .i64) (eInt .i64) ([] : (List ((Int × Int) × Int))))),.own 7] 176)] 6 0 rfl trivial ⟨⟨_,_,rfl,rfl⟩,trivial⟩) (OkOps.conv (Conv.freezeM [] [(8,.blk [cI t.Root,cI t.Next,.d (.sl (List.map Node.cs t.Nodes)),.d (.sl (List.map Font.cs fonts)),.d (.mp true (encM (kInt .i64) Node.cs s1.1)),.d (.mp true (encM (kInt .i64) (eArr 22 (dInt .i64)) s1.2)),.own 3,.tl 9 (List.map (eInt .i64) ([] : (List Int))),.d (.mp false (encM (kInt .i64) (eInt .i64) ([] : (List (Int × Int))))),.d (.mp false (encM (kInt .i64) (eInt .i64) ([] : (List (Int × Int))))),.d (.mp false (encM (kPair .i64) (eInt .i64) ([] : (List ((Int × Int) × Int))))),.d (.mp false (encM (kPair .i64) (eInt .i64) ([] : (List ((Int × Int) × Int)))))] 176)] 7 0 rfl trivial ⟨⟨_,_,rfl,rfl⟩,trivial⟩) ?_)))))))))))
 obtain ⟨x5,hx5,hr⟩:=bind_some hr
 refine OkOps.wq [(8,.blk [cI x5.2.t.Root,cI x5.2.t.Next,.d (.sl (List.map Node.cs x5.2.t.Nodes)),.d (.sl (List.map Font.cs x5.2.fonts)),.d (.mp true (encM (kInt .i64) Node.cs x5.2.nodes)),.d (.mp true (encM (kInt .i64) (eArr 22 (dInt .i64)) x5.2.style)),.own 10,.tl 11 (List.map (eInt .i64) x5.2.shown),.d (.mp false (encM (kInt .i64) (eInt .i64) x5.2.least)),.d (.mp false (encM (kInt .i64) (eInt .i64) x5.2.most)),.d (.mp false (encM (kPair .i64) (eInt .i64) x5.2.tall)),.d (.mp false (encM (kPair .i64) (eInt .i64) x5.2.first))] 176),(3,.dead),(9,.dead),(10,.mp false (encM (kInt .i64) (eJ 1) x5.2.kids)),(11,.tail 1)] (triCall (tau [(0,8),(1,3),(2,9),(3000,10),(3001,11)]) (.s (aB x5.1)) [(8,.blk [cI x5.2.t.Root,cI x5.2.t.Next,.d (.sl (List.map Node.cs x5.2.t.Nodes)),.d (.sl (List.map Font.cs x5.2.fonts)),.d (.mp true (encM (kInt .i64) Node.cs x5.2.nodes)),.d (.mp true (encM (kInt .i64) (eArr 22 (dInt .i64)) x5.2.style)),.own 10,.tl 11 (List.map (eInt .i64) x5.2.shown),.d (.mp false (encM (kInt .i64) (eInt .i64) x5.2.least)),.d (.mp false (encM (kInt .i64) (eInt .i64) x5.2.most)),.d (.mp false (encM (kPair .i64) (eInt .i64) x5.2.tall)),.d (.mp false (encM (kPair .i64) (eInt .i64) x5.2.first))] 176),(3,.dead),(9,.dead),(10,.mp false (encM (kInt .i64) (eJ 1) x5.2.kids)),(11,.tail 1)] (widgetry_layout_scene_hidden_c _ _ hx5) rfl ⟨.inl rfl,.inl rfl,trivial⟩ trivial entry110 ⟨rfl,rfl,rfl,trivial⟩ rfl rfl rfl rfl ⟨rfl,rfl,trivial⟩ rfl rfl rfl) (OkOps.y (aB (!x5.1)) (OkOps.nil ?_))
 refine Ok.cond (b:=!x5.1) rfl (fun h6=>?_) (fun h6=>?_)
 have hr:=selT h6 hr
 refine Ok.region (OkOps.y (.c (.loc 8 0)) (OkOps.y (.c (.loc 0 0)) (OkOps.y (aI t.Root) ?_)))
 obtain ⟨x7,hx7,hr⟩:=bind_some hr
 refine OkOps.wq [(8,.blk [cI x7.t.Root,cI x7.t.Next,.d (.sl (List.map Node.cs x7.t.Nodes)),.d (.sl (List.map Font.cs x7.fonts)),.d (.mp true (encM (kInt .i64) Node.cs x7.nodes)),.d (.mp true (encM (kInt .i64) (eArr 22 (dInt .i64)) x7.style)),.own 12,.tl 13 (List.map (eInt .i64) x7.shown),.d (.mp false (encM (kInt .i64) (eInt .i64) x7.least)),.d (.mp false (encM (kInt .i64) (eInt .i64) x7.most)),.d (.mp false (encM (kPair .i64) (eInt .i64) x7.tall)),.d (.mp false (encM (kPair .i64) (eInt .i64) x7.first))] 176),(10,.dead),(11,.dead),(12,.mp false (encM (kInt .i64) (eJ 1) x7.kids)),(13,.tail 1)] (triCall (tau [(0,8),(1,10),(2,11),(3000,12),(3001,13)]) (.tup []) [(8,.blk [cI x7.t.Root,cI x7.t.Next,.d (.sl (List.map Node.cs x7.t.Nodes)),.d (.sl (List.map Font.cs x7.fonts)),.d (.mp true (encM (kInt .i64) Node.cs x7.nodes)),.d (.mp true (encM (kInt .i64) (eArr 22 (dInt .i64)) x7.style)),.own 12,.tl 13 (List.map (eInt .i64) x7.shown),.d (.mp false (encM (kInt .i64) (eInt .i64) x7.least)),.d (.mp false (encM (kInt .i64) (eInt .i64) x7.most)),.d (.mp false (encM (kPair .i64) (eInt .i64) x7.tall)),.d (.mp false (encM (kPair .i64) (eInt .i64) x7.first))] 176),(10,.dead),(11,.dead),(12,.mp false (encM (kInt .i64) (eJ 1) x7.kids)),(13,.tail 1)] (widgetry_layout_scene_show_c _ _ _ hx7) rfl ⟨.inl rfl,.inl rfl,trivial⟩ trivial entry111 ⟨rfl,rfl,rfl,trivial⟩ rfl rfl rfl rfl ⟨rfl,rfl,trivial⟩ rfl rfl rfl) (OkOps.nil ?_)
 exact ⟨(x7.t.Root,x7.t.Next,x7.t.Nodes,x7.fonts,x7.nodes,x7.style,x7.kids,x7.shown,x7.least,x7.most,x7.tall,x7.first),hr,(Conv.mk (tau [(1000,12),(1001,13)]) ⟨⟨_,rfl,.inl rfl⟩,trivial⟩ ⟨rfl,rfl,rfl,trivial⟩ rfl rfl rfl rfl)⟩
 have hr:=selF h6 hr
 refine Ok.skip ?_
 exact ⟨(x5.2.t.Root,x5.2.t.Next,x5.2.t.Nodes,x5.2.fonts,x5.2.nodes,x5.2.style,x5.2.kids,x5.2.shown,x5.2.least,x5.2.most,x5.2.tall,x5.2.first),hr,(Conv.mk (tau [(1000,10),(1001,11)]) ⟨⟨_,rfl,.inl rfl⟩,trivial⟩ ⟨rfl,rfl,rfl,trivial⟩ rfl rfl rfl rfl)⟩
 clear hk2
 refine Ok.seq (Ok.region (OkOps.y (.c (.loc 0 2)) (OkOps.y (.c (.d (.sl (List.map Node.cs t.Nodes)))) (OkOps.q (triLen (enc:=Node.cs) t.Nodes rfl rfl trivial rfl) (OkOps.y (aI 0) (OkOps.nil (Ok.block (Ok.loopK (fun (s8 : Int × (List (Int × Node)) × (List (Int × (Nat → Int))))=>⟨[(1,.s (.c (.d (.sl (List.map Styled.cs st))))),(3,.s (.c (.loc 0 0))),(7,.s (.c (.loc 8 0))),(22,.s (.c (.d (.sl (List.map Node.cs t.Nodes))))),(23,.s (aI (t.Nodes.length : Int))),(24,.s (aI s8.1))],[(0,.blk [cI t.Root,cI t.Next,.d (.sl (List.map Node.cs t.Nodes))] 46),(1,.mp true (encM (kInt .i64) Node.cs s8.2.1)),(2,.mp true (encM (kInt .i64) (eArr 22 (dInt .i64)) s8.2.2)),(3,.mp false (encM (kInt .i64) (eJ 1) ([] : (List (Int × Nat))))),(4,.mp false (encM (kInt .i64) (eInt .i64) ([] : (List (Int × Int))))),(5,.mp false (encM (kInt .i64) (eInt .i64) ([] : (List (Int × Int))))),(6,.mp false (encM (kPair .i64) (eInt .i64) ([] : (List ((Int × Int) × Int))))),(7,.mp false (encM (kPair .i64) (eInt .i64) ([] : (List ((Int × Int) × Int))))),(8,.blk [cI t.Root,cI t.Next,.d (.sl (List.map Node.cs t.Nodes)),.d (.sl (List.map Font.cs fonts)),.own 1,.own 2,.own 3,.d (.v (.slice none 0 0)),.own 4,.own 5,.own 6,.own 7] 176)],0⟩) hr (Conv.mk (tau []) ⟨⟨_,rfl,.inl rfl⟩,⟨_,rfl,.inl rfl⟩,⟨_,rfl,.inl rfl⟩,⟨_,rfl,.inl rfl⟩,⟨_,rfl,.inl rfl⟩,⟨_,rfl,.inl rfl⟩,trivial⟩ ⟨rfl,rfl,rfl,rfl,rfl,rfl,rfl,rfl,rfl,trivial⟩ rfl rfl rfl rfl) ?_))))))))
 clear hr
 intro again9 s8 hr
 unfold widgetry_layout_open_L1 at hr
 refine Ok.seq (Ok.region (OkOps.y (aB (decide (s8.1 < (t.Nodes.length : Int)))) (OkOps.nil (Ok.seq ?_))))
 refine Ok.cond (b:=decide (s8.1 < (t.Nodes.length : Int))) rfl (fun h10=>?_) (fun h10=>?_)
 have hr:=selT h10 hr
 refine Ok.skip (Ok.seq (Ok.block (Ok.seq (Ok.region (OkOps.y (aI s8.1) ?_)))))
 obtain ⟨x11,hx11,hr⟩:=bind_some hr
 refine OkOps.q (triIdx (enc:=Node.cs) (L:=t.Nodes) (row:=[dI x11.ID,dI x11.Parent,dI x11.Kind,dS x11.Key,.sl (List.map Attr.cs x11.Attrs),.sl (List.map Action.cs x11.Actions),.sl (List.map (eInt .i64) x11.Kids)]) hx11 rfl rfl rfl rfl (fun _=>rfl) trivial rfl) (OkOps.y (.agg [cI x11.ID,cI x11.Parent,cI x11.Kind,cS x11.Key,.d (.sl (List.map Attr.cs x11.Attrs)),.d (.sl (List.map Action.cs x11.Actions)),.d (.sl (List.map (eInt .i64) x11.Kids))]) (OkOps.m 0 (triAlloc (j:=14) (cs:=[cI 0,cI 0,cI 0,cS ByteArray.empty,.d (.v (.slice none 0 0)),.d (.v (.slice none 0 0)),.d (.v (.slice none 0 0))]) rfl rfl rfl rfl) (OkOps.y (aI s8.1) (OkOps.w (triStore (cs':=[cI x11.ID,cI x11.Parent,cI x11.Kind,cS x11.Key,.d (.sl (List.map Attr.cs x11.Attrs)),.d (.sl (List.map Action.cs x11.Actions)),.d (.sl (List.map (eInt .i64) x11.Kids))]) rfl rfl rfl rfl rfl rfl rfl rfl rfl) (OkOps.nil (Ok.regionD (by kernel_rfl) (OkD.x (.c (.loc 8 0)) rfl trivial rfl (OkD.x (.c (.loc 8 0)) rfl trivial rfl (OkD.x (.c (.loc 8 4)) rfl trivial rfl (OkD.x (.c (.own 1)) rfl trivial rfl (OkD.x (.c (.loc 14 0)) rfl trivial rfl (OkD.x (aI x11.ID) rfl trivial rfl (OkD.x (.c (.loc 8 0)) rfl trivial rfl (OkD.x (.c (.loc 8 0)) rfl trivial rfl (OkD.x (.c (.loc 8 5)) rfl trivial rfl ?_)))))))))))))))
 refine OkD.x (.c (.own 2)) rfl trivial rfl (OkD.x (.c (.loc 14 0)) rfl trivial rfl (OkD.x (aI x11.ID) rfl trivial rfl (OkD.x (.agg [cI x11.ID,cI x11.Parent,cI x11.Kind,cS x11.Key,.d (.sl (List.map Attr.cs x11.Attrs)),.d (.sl (List.map Action.cs x11.Actions)),.d (.sl (List.map (eInt .i64) x11.Kids))]) rfl trivial rfl (OkD.x (.c (.d (.sl (List.map Styled.cs st)))) rfl trivial rfl (OkD.x (aI s8.1) rfl trivial rfl ?_)))))
 obtain ⟨x12,hx12,hr⟩:=bind_some hr
 refine OkD.q (triIdx (enc:=Styled.cs) (L:=st) (row:=[dI x12.ID,dI (x12.Style 0),dI (x12.Style 1),dI (x12.Style 2),dI (x12.Style 3),dI (x12.Style 4),dI (x12.Style 5),dI (x12.Style 6),dI (x12.Style 7),dI (x12.Style 8),dI (x12.Style 9),dI (x12.Style 10),dI (x12.Style 11),dI (x12.Style 12),dI (x12.Style 13),dI (x12.Style 14),dI (x12.Style 15),dI (x12.Style 16),dI (x12.Style 17),dI (x12.Style 18),dI (x12.Style 19),dI (x12.Style 20),dI (x12.Style 21)]) hx12 rfl rfl rfl rfl (fun _=>rfl) trivial rfl) (OkD.x (.c (.pt [dI (x12.Style 0),dI (x12.Style 1),dI (x12.Style 2),dI (x12.Style 3),dI (x12.Style 4),dI (x12.Style 5),dI (x12.Style 6),dI (x12.Style 7),dI (x12.Style 8),dI (x12.Style 9),dI (x12.Style 10),dI (x12.Style 11),dI (x12.Style 12),dI (x12.Style 13),dI (x12.Style 14),dI (x12.Style 15),dI (x12.Style 16),dI (x12.Style 17),dI (x12.Style 18),dI (x12.Style 19),dI (x12.Style 20),dI (x12.Style 21)])) rfl trivial rfl (OkD.x (.agg [cI (x12.Style 0),cI (x12.Style 1),cI (x12.Style 2),cI (x12.Style 3),cI (x12.Style 4),cI (x12.Style 5),cI (x12.Style 6),cI (x12.Style 7),cI (x12.Style 8),cI (x12.Style 9),cI (x12.Style 10),cI (x12.Style 11),cI (x12.Style 12),cI (x12.Style 13),cI (x12.Style 14),cI (x12.Style 15),cI (x12.Style 16),cI (x12.Style 17),cI (x12.Style 18),cI (x12.Style 19),cI (x12.Style 20),cI (x12.Style 21)]) rfl trivial rfl ?_))
 obtain ⟨x13,hx13,hr⟩:=bind_some hr
 refine OkD.m 0 (triMapEntry (ek:=(kInt .i64)) (ev:=Node.cs) (L:=s8.2.1) (yo:=x13) (r:=.agg [cI x13.1.ID,cI x13.1.Parent,cI x13.1.Kind,cS x13.1.Key,.d (.sl (List.map Attr.cs x13.1.Attrs)),.d (.sl (List.map Action.cs x13.1.Actions)),.d (.sl (List.map (eInt .i64) x13.1.Kids))]) hx13 rfl rfl rfl rfl (keyInt Tryd.underlying3) rfl rfl (fun h=>by cases h) rfl rfl trivial rfl) ?_
 refine OkD.x (aI (((midx (msetL s8.2.1 x11.ID x13.1) x11.ID).getD 0 : Nat) : Int)) rfl trivial rfl ?_
 refine OkD.w (triEntryStore (ek:=(kInt .i64)) (ev:=Node.cs) (L:=msetL s8.2.1 x11.ID x13.1) (k:=x11.ID) (z:=x11) (midx_self s8.2.1 x11.ID x13.1) rfl rfl rfl rfl rfl rfl (keyInt Tryd.underlying3) (fun h=>by cases h) (msetL_twice s8.2.1 x11.ID x13.1 x11) trivial) ?_
 obtain ⟨x14,hx14,hr⟩:=bind_some hr
 refine OkD.m 0 (triMapEntry (ek:=(kInt .i64)) (ev:=(eArr 22 (dInt .i64))) (L:=s8.2.2) (yo:=x14) (r:=.agg [cI (x14.1 0),cI (x14.1 1),cI (x14.1 2),cI (x14.1 3),cI (x14.1 4),cI (x14.1 5),cI (x14.1 6),cI (x14.1 7),cI (x14.1 8),cI (x14.1 9),cI (x14.1 10),cI (x14.1 11),cI (x14.1 12),cI (x14.1 13),cI (x14.1 14),cI (x14.1 15),cI (x14.1 16),cI (x14.1 17),cI (x14.1 18),cI (x14.1 19),cI (x14.1 20),cI (x14.1 21)]) hx14 rfl rfl rfl rfl (keyInt Tryd.underlying3) rfl rfl (fun h=>by cases h) rfl rfl trivial rfl) ?_
 refine OkD.x (aI (((midx (msetL s8.2.2 x11.ID x14.1) x11.ID).getD 0 : Nat) : Int)) rfl trivial rfl ?_
 refine OkD.w (triEntryStore (ek:=(kInt .i64)) (ev:=(eArr 22 (dInt .i64))) (L:=msetL s8.2.2 x11.ID x14.1) (k:=x11.ID) (z:=x12.Style) (midx_self s8.2.2 x11.ID x14.1) rfl rfl rfl rfl rfl rfl (keyInt Tryd.underlying3) (fun h=>by cases h) (msetL_twice s8.2.2 x11.ID x14.1 x12.Style) trivial) ?_
 refine OkD.nil (by kernel_rfl) (Ok.region (OkOps.y (aI (IntKind.i64.wrap (s8.1 + 1))) (OkOps.y (aI (IntKind.i64.wrap (s8.1 + 1))) (OkOps.nil ?_))))
 exact ⟨(IntKind.i64.wrap (s8.1 + 1),msetL s8.2.1 x11.ID x11,msetL s8.2.2 x11.ID x12.Style),hr,(Conv.mk (tau []) ⟨⟨_,rfl,.inl rfl⟩,⟨_,rfl,.inl rfl⟩,⟨_,rfl,.inl rfl⟩,⟨_,rfl,.inl rfl⟩,⟨_,rfl,.inl rfl⟩,⟨_,rfl,.inl rfl⟩,trivial⟩ ⟨rfl,rfl,rfl,rfl,rfl,rfl,rfl,rfl,rfl,trivial⟩ rfl rfl rfl rfl)⟩
 have hr:=selF h10 hr
 refine Ok.exit ?_
 exact ⟨(s8.2.1,s8.2.2),hr,(Conv.mk (tau []) ⟨⟨_,rfl,.inl rfl⟩,⟨_,rfl,.inl rfl⟩,trivial⟩ ⟨rfl,rfl,rfl,rfl,rfl,rfl,rfl,rfl,rfl,trivial⟩ rfl rfl rfl rfl)⟩
theorem widgetry_layout_Shown_c (t : Tree) (st : (List Styled)) {r : (List Int)} (hr : widgetry_layout_Shown t st = some r) : Con Tryd.prog 74 [.agg [cI t.Root,cI t.Next,.d (.sl (List.map Node.cs t.Nodes))],.c (.d (.sl (List.map Styled.cs st)))] [] (.s (.c (.d (.sl (List.map (eInt .i64) r))))) []:=by
 unfold widgetry_layout_Shown at hr
 refine Con.of_ok 25 0 [.tmp 4] [(0,.s (.agg [cI t.Root,cI t.Next,.d (.sl (List.map Node.cs t.Nodes))])),(1,.s (.c (.d (.sl (List.map Styled.cs st)))))] Tryd.func74 rfl rfl rfl rfl rfl rfl rfl rfl fun w g M ρ _=>(Ok.seq (Ok.region (OkOps.m 0 (triBox (j:=0) (cs:=[cI t.Root,cI t.Next,.d (.sl (List.map Node.cs t.Nodes))]) rfl rfl rfl rfl rfl) (OkOps.y (.c (.d (.v (.slice none 0 0)))) (OkOps.nil (Ok.seq (Ok.seq (Ok.region (OkOps.y (.agg [cI t.Root,cI t.Next,.d (.sl (List.map Node.cs t.Nodes))]) ?_)))))))))
 obtain ⟨x1,hx1,hr⟩:=bind_some hr
 refine OkOps.q (triCl (tau []) (.s (aI x1)) [] (vw_Check_c _ hx1) rfl ⟨.inl rfl,trivial⟩ trivial entry51 trivial) (OkOps.y (aB (x1 != 0)) (OkOps.y (aB (x1 != 0)) (OkOps.q (triQG (x:=.agg [cI t.Root,cI t.Next,.d (.sl (List.map Node.cs t.Nodes))]) rfl rfl trivial rfl) (OkOps.q (triQG (x:=.c (.d (.sl (List.map Styled.cs st)))) rfl rfl trivial rfl) ?_))))
 obtain ⟨x2,hx2,hr⟩:=bind_some hr
 refine OkOps.q (triCallG (x:=aB x2) (fun hg=>widgetry_layout_complete_c _ _ (gO_t hx2 hg)) rfl rfl ⟨.inl rfl,.inl rfl,trivial⟩ ⟨fun h=>h,⟨fun h=>h,trivial⟩⟩ entry95 rfl rfl rfl) (OkOps.q (triQG (x:=aB (!x2)) rfl rfl ⟨fun h=>h,trivial⟩ rfl) ?_)
 refine OkOps.q (triOr rfl rfl (fun h=>by rw [h];rfl) rfl) ?_
 refine OkOps.y (aB ((x1 != 0) || (!x2))) (OkOps.q (triQG (x:=.c (.d (.sl (List.map Styled.cs st)))) rfl rfl trivial rfl) ?_)
 obtain ⟨x3,hx3,hr⟩:=bind_some hr
 refine OkOps.q (triCallG (x:=aB x3) (fun hg=>widgetry_layout_styled_c _ (gO_t hx3 hg)) rfl rfl ⟨.inl rfl,trivial⟩ ⟨fun h=>h,trivial⟩ entry96 rfl rfl rfl) (OkOps.q (triQG (x:=aB (!x3)) rfl rfl ⟨fun h=>h,trivial⟩ rfl) ?_)
 refine OkOps.q (triOr rfl rfl (fun h=>by rw [h];rfl) rfl) ?_
 refine OkOps.nil ?_
 refine Ok.cond (b:=((x1 != 0) || (!x2)) || (!x3)) rfl (fun h4=>?_) (fun h4=>?_)
 have hr:=selT h4 hr
 refine Ok.seq (Ok.region (OkOps.y (.c (.d (.v (.slice none 0 0)))) (OkOps.nil (Ok.ret ?_))))
 obtain rfl:=Option.some.inj hr
 exact ⟨_,rfl,.inr rfl,trivial⟩
 have hr:=selF h4 hr
 refine Ok.skip (Ok.seq (Ok.region (OkOps.y (.agg [cI t.Root,cI t.Next,.d (.sl (List.map Node.cs t.Nodes))]) (OkOps.y (.c (.d (.sl (List.map Styled.cs st)))) ?_))))
 obtain ⟨x5,hx5,hr⟩:=bind_some hr
 refine OkOps.m 0 (triCall (tau [(8,1)]) (.s (.c (.loc 1 0))) [(1,.blk [cI x5.t.Root,cI x5.t.Next,.d (.sl (List.map Node.cs x5.t.Nodes)),.d (.sl (List.map Font.cs x5.fonts)),.d (.mp true (encM (kInt .i64) Node.cs x5.nodes)),.d (.mp true (encM (kInt .i64) (eArr 22 (dInt .i64)) x5.style)),.d (.mp false (encM (kInt .i64) (eJ 1) x5.kids)),.d (.sl (List.map (eInt .i64) x5.shown)),.d (.mp false (encM (kInt .i64) (eInt .i64) x5.least)),.d (.mp false (encM (kInt .i64) (eInt .i64) x5.most)),.d (.mp false (encM (kPair .i64) (eInt .i64) x5.tall)),.d (.mp false (encM (kPair .i64) (eInt .i64) x5.first))] 176)] (widgetry_layout_open_c _ _ _ hx5) rfl ⟨.inl rfl,.inl rfl,.inr rfl,trivial⟩ trivial entry97 trivial rfl rfl rfl rfl ⟨rfl,trivial⟩ rfl rfl rfl) (OkOps.y (.c (.loc 1 0)) (OkOps.y (.c (.loc 1 7)) (OkOps.y (.c (.d (.sl (List.map (eInt .i64) x5.shown)))) (OkOps.y (.c (.d (.sl (List.map (eInt .i64) x5.shown)))) (OkOps.nil (Ok.ret ?_))))))
 obtain rfl:=Option.some.inj hr
 exact ⟨_,rfl,.inl rfl,trivial⟩
end Go.Proofs.YtfoigppmcelgfaaDoor
end
section
set_option maxRecDepth 100000
namespace Go.Proofs.YtfoigppmcelgfaaDoor
open Go Go.E2
theorem slices_Clone_Sl_int_int_c (s : (List Int)) {r : (List Int)} (hr : slices_Clone_Sl_int_int s = some r) : Con Tryd.prog 38 [.c (.d (.sl (List.map (eInt .i64) s)))] [] (.s (.c (.tl 2000 (List.map (eInt .i64) r)))) [(2000,.tail 1)]:=by
 unfold slices_Clone_Sl_int_int at hr
 refine Con.of_ok 8 0 [.tmp 2] [(0,.s (.c (.d (.sl (List.map (eInt .i64) s)))))] Tryd.func38 rfl rfl rfl rfl rfl rfl rfl rfl fun w g M ρ _=>(Ok.seq (Ok.region (OkOps.q (triQ (x:=.c (.d (.v (.slice none 0 0)))) rfl trivial rfl) (OkOps.nil (Ok.seq (Ok.seq (Ok.region (OkOps.q (triQ (x:=.c (.d (.sl (List.map (eInt .i64) s)))) rfl trivial rfl) ?_))))))))
 refine OkOps.eqNil (e:=3) rfl (by kernel_rfl) trivial rfl (fun b hb=>?_)
 refine OkOps.nil ?_
 refine Ok.cond (b:=b) rfl (fun h=>?_) (fun h=>?_)
 obtain rfl : s = []:=by simpa using hb h
 obtain rfl : r = []:=((appO_spec hr).2 : _)
 refine Ok.seq (Ok.region (OkOps.q (triQ (x:=.c (.d (.v (.slice none 0 0)))) rfl trivial rfl) (OkOps.nil (Ok.conv (Conv.nil 2 2000 1 0 rfl rfl) (Ok.ret ?_)))))
 exact ⟨_,rfl,.inl rfl,⟨rfl,trivial⟩⟩
 refine Ok.skip (Ok.seq (Ok.region (OkOps.m 0 (triBST (sz:=1) (enc:=(eInt .i64)) (j:=0) [] rfl rfl rfl rfl rfl rfl rfl rfl (fun _=>rfl) trivial rfl rfl) (OkOps.q (triQ (x:=.c (.d (.sl (List.map (eInt .i64) s)))) rfl trivial rfl) (OkOps.m2 0 (triApp (enc:=(eInt .i64)) (L:=[]) (X:=s) (j:=0) (j':=2000) hr rfl rfl rfl rfl rfl rfl (fun _=>rfl) (fun _=>rfl) (by decide) trivial rfl rfl) (OkOps.q (triQ (x:=.c (.tl 2000 (List.map (eInt .i64) r))) rfl trivial rfl) (OkOps.nil (Ok.ret ?_))))))))
 exact ⟨_,rfl,.inl rfl,⟨rfl,trivial⟩⟩
theorem vw_Find_c (t : Tree) (id : Int) {r : Node × Bool} (hr : vw_Find t id = some r) : Con Tryd.prog 33 [.agg [cI t.Root,cI t.Next,.d (.sl (List.map Node.cs t.Nodes))],aI id] [] (.tup [.agg [cI r.1.ID,cI r.1.Parent,cI r.1.Kind,cS r.1.Key,.d (.sl (List.map Attr.cs r.1.Attrs)),.d (.sl (List.map Action.cs r.1.Actions)),.d (.sl (List.map (eInt .i64) r.1.Kids))],aB r.2]) []:=by
 unfold vw_Find at hr
 refine Con.of_ok 36 0 [.cell 4 96,.tmp 5] [(0,.s (.agg [cI t.Root,cI t.Next,.d (.sl (List.map Node.cs t.Nodes))])),(1,.s (aI id))] Tryd.func33 rfl rfl rfl rfl rfl rfl rfl rfl fun w g M ρ _=>(Ok.seq (Ok.region (OkOps.m 0 (triBox (j:=0) (cs:=[cI t.Root,cI t.Next,.d (.sl (List.map Node.cs t.Nodes))]) rfl rfl rfl rfl rfl) (OkOps.m 0 (triAlloc (j:=1) (cs:=[cI 0,cI 0,cI 0,cS ByteArray.empty,.d (.v (.slice none 0 0)),.d (.v (.slice none 0 0)),.d (.v (.slice none 0 0))]) rfl rfl rfl rfl) (OkOps.y (aB false) (OkOps.nil ?_))))))
 obtain ⟨k2,hk2,hr⟩:=jn_some hr
 refine Ok.join (fun (s1 : Unit)=>⟨[(4,.s (.c (.loc 1 0)))],[(1,.blk [cI 0,cI 0,cI 0,cS ByteArray.empty,.d (.v (.slice none 0 0)),.d (.v (.slice none 0 0)),.d (.v (.slice none 0 0))] 96)],0⟩) k2 r (fun s1 hr=>?_) ?_
 rw [hk2] at hr
 refine Ok.seq (Ok.region (OkOps.y (.agg [cI 0,cI 0,cI 0,cS ByteArray.empty,.d (.v (.slice none 0 0)),.d (.v (.slice none 0 0)),.d (.v (.slice none 0 0))]) (OkOps.w (triStore (cs':=[cI 0,cI 0,cI 0,cS ByteArray.empty,.d (.v (.slice none 0 0)),.d (.v (.slice none 0 0)),.d (.v (.slice none 0 0))]) rfl rfl rfl rfl rfl rfl rfl rfl rfl) (OkOps.y (aB false) (OkOps.nil (Ok.ret ?_))))))
 obtain rfl:=Option.some.inj hr
 exact ⟨_,rfl,.inr rfl,trivial⟩
 clear hk2
 refine Ok.seq (Ok.region (OkOps.y (.c (.loc 0 2)) (OkOps.y (.c (.d (.sl (List.map Node.cs t.Nodes)))) (OkOps.q (triLen (enc:=Node.cs) t.Nodes rfl rfl trivial rfl) (OkOps.y (aI 0) (OkOps.nil (Ok.block (Ok.loopK (fun (s3 : Int)=>⟨[(1,.s (aI id)),(4,.s (.c (.loc 1 0))),(9,.s (.c (.d (.sl (List.map Node.cs t.Nodes))))),(10,.s (aI (t.Nodes.length : Int))),(11,.s (aI s3))],[(1,.blk [cI 0,cI 0,cI 0,cS ByteArray.empty,.d (.v (.slice none 0 0)),.d (.v (.slice none 0 0)),.d (.v (.slice none 0 0))] 96)],0⟩) hr (Conv.mk (tau []) ⟨⟨_,rfl,.inl rfl⟩,⟨_,rfl,.inl rfl⟩,⟨_,rfl,.inl rfl⟩,⟨_,rfl,.inl rfl⟩,⟨_,rfl,.inl rfl⟩,trivial⟩ ⟨rfl,trivial⟩ rfl rfl rfl rfl) ?_))))))))
 clear hr
 intro again4 s3 hr
 unfold vw_Find_L1 at hr
 refine Ok.seq (Ok.region (OkOps.y (aB (decide (s3 < (t.Nodes.length : Int)))) (OkOps.nil (Ok.seq ?_))))
 refine Ok.cond (b:=decide (s3 < (t.Nodes.length : Int))) rfl (fun h5=>?_) (fun h5=>?_)
 have hr:=selT h5 hr
 refine Ok.skip (Ok.seq (Ok.block (Ok.seq (Ok.region ?_))))
 obtain ⟨x6,hx6,hr⟩:=bind_some hr
 refine OkOps.q (triIdx (enc:=Node.cs) (L:=t.Nodes) (row:=[dI x6.ID,dI x6.Parent,dI x6.Kind,dS x6.Key,.sl (List.map Attr.cs x6.Attrs),.sl (List.map Action.cs x6.Actions),.sl (List.map (eInt .i64) x6.Kids)]) hx6 rfl rfl rfl rfl (fun _=>rfl) trivial rfl) (OkOps.y (.agg [cI x6.ID,cI x6.Parent,cI x6.Kind,cS x6.Key,.d (.sl (List.map Attr.cs x6.Attrs)),.d (.sl (List.map Action.cs x6.Actions)),.d (.sl (List.map (eInt .i64) x6.Kids))]) (OkOps.m 0 (triAlloc (j:=2) (cs:=[cI 0,cI 0,cI 0,cS ByteArray.empty,.d (.v (.slice none 0 0)),.d (.v (.slice none 0 0)),.d (.v (.slice none 0 0))]) rfl rfl rfl rfl) (OkOps.w (triStore (cs':=[cI x6.ID,cI x6.Parent,cI x6.Kind,cS x6.Key,.d (.sl (List.map Attr.cs x6.Attrs)),.d (.sl (List.map Action.cs x6.Actions)),.d (.sl (List.map (eInt .i64) x6.Kids))]) rfl rfl rfl rfl rfl rfl rfl rfl rfl) (OkOps.nil (Ok.seq (Ok.seq (Ok.region (OkOps.y (.c (.loc 2 0)) (OkOps.y (aI x6.ID) (OkOps.y (aI id) (OkOps.y (aB (x6.ID != id)) (OkOps.nil ?_))))))))))))
 refine Ok.cond (b:=x6.ID != id) rfl (fun h7=>?_) (fun h7=>?_)
 have hr:=selT h7 hr
 refine Ok.exit (Ok.region (OkOps.y (aI (IntKind.i64.wrap (s3 + 1))) (OkOps.y (aI (IntKind.i64.wrap (s3 + 1))) (OkOps.nil ?_))))
 exact ⟨IntKind.i64.wrap (s3 + 1),hr,(Conv.mk (tau []) ⟨⟨_,rfl,.inl rfl⟩,⟨_,rfl,.inl rfl⟩,⟨_,rfl,.inl rfl⟩,⟨_,rfl,.inl rfl⟩,⟨_,rfl,.inl rfl⟩,trivial⟩ ⟨rfl,trivial⟩ rfl rfl rfl rfl)⟩
 have hr:=selF h7 hr
 refine Ok.skip (Ok.seq (Ok.region (OkOps.y (.c (.loc 2 4)) (OkOps.y (.c (.d (.sl (List.map Attr.cs x6.Attrs)))) (OkOps.y (.c (.loc 2 5)) (OkOps.y (.c (.d (.sl (List.map Action.cs x6.Actions)))) ?_))))))
 obtain ⟨x8,hx8,hr⟩:=bind_some hr
 refine OkOps.q (triCl (tau []) (.tup [.c (.d (.sl (List.map Attr.cs x8.1))),.c (.d (.sl (List.map Action.cs x8.2)))]) [] (vw_copied_c _ _ hx8) rfl ⟨.inl rfl,.inl rfl,trivial⟩ trivial entry65 trivial) (OkOps.q (triMv (v:=.tup [.c (.d (.sl (List.map Attr.cs x8.1))),.c (.d (.sl (List.map Action.cs x8.2)))]) rfl rfl) (OkOps.y (.c (.d (.sl (List.map Attr.cs x8.1)))) (OkOps.y (.c (.d (.sl (List.map Action.cs x8.2)))) (OkOps.y (.c (.loc 2 4)) (OkOps.w (triStore (cs':=[cI x6.ID,cI x6.Parent,cI x6.Kind,cS x6.Key,.d (.sl (List.map Attr.cs x8.1)),.d (.sl (List.map Action.cs x6.Actions)),.d (.sl (List.map (eInt .i64) x6.Kids))]) rfl rfl rfl rfl rfl rfl rfl rfl rfl) (OkOps.y (.c (.loc 2 5)) (OkOps.w (triStore (cs':=[cI x6.ID,cI x6.Parent,cI x6.Kind,cS x6.Key,.d (.sl (List.map Attr.cs x8.1)),.d (.sl (List.map Action.cs x8.2)),.d (.sl (List.map (eInt .i64) x6.Kids))]) rfl rfl rfl rfl rfl rfl rfl rfl rfl) (OkOps.nil (Ok.seq (Ok.region (OkOps.y (.c (.loc 2 6)) (OkOps.y (.c (.d (.sl (List.map (eInt .i64) x6.Kids)))) ?_))))))))))))
 obtain ⟨x9,hx9,hr⟩:=bind_some hr
 refine OkOps.m 0 (triCall (tau [(2000,3)]) (.s (.c (.tl 3 (List.map (eInt .i64) x9)))) [(3,.tail 1)] (slices_Clone_Sl_int_int_c _ hx9) rfl ⟨.inl rfl,trivial⟩ trivial entry38 trivial rfl rfl rfl rfl ⟨rfl,trivial⟩ rfl rfl rfl) (OkOps.y (.c (.loc 2 6)) (OkOps.w (triStore (cs':=[cI x6.ID,cI x6.Parent,cI x6.Kind,cS x6.Key,.d (.sl (List.map Attr.cs x8.1)),.d (.sl (List.map Action.cs x8.2)),.tl 3 (List.map (eInt .i64) x9)]) rfl rfl rfl rfl rfl rfl rfl rfl rfl) (OkOps.nil (Ok.seq (Ok.region (OkOps.y (.agg [cI x6.ID,cI x6.Parent,cI x6.Kind,cS x6.Key,.d (.sl (List.map Attr.cs x8.1)),.d (.sl (List.map Action.cs x8.2)),.tl 3 (List.map (eInt .i64) x9)]) (OkOps.w (triStore (cs':=[cI x6.ID,cI x6.Parent,cI x6.Kind,cS x6.Key,.d (.sl (List.map Attr.cs x8.1)),.d (.sl (List.map Action.cs x8.2)),.tl 3 (List.map (eInt .i64) x9)]) rfl rfl rfl rfl rfl rfl rfl rfl rfl) (OkOps.y (aB true) (OkOps.nil (Ok.ret ?_))))))))))
 obtain rfl:=Option.some.inj hr
 exact ⟨_,rfl,.inr rfl,trivial⟩
 have hr:=selF h5 hr
 refine Ok.exit ?_
 exact ⟨(),hr,(Conv.mk (tau []) ⟨⟨_,rfl,.inl rfl⟩,trivial⟩ ⟨rfl,trivial⟩ rfl rfl rfl rfl)⟩
theorem vw_Order_c (t : Tree) {r : (List Int)} (hr : vw_Order t = some r) : Con Tryd.prog 73 [.agg [cI t.Root,cI t.Next,.d (.sl (List.map Node.cs t.Nodes))]] [] (.s (.c (.d (.sl (List.map (eInt .i64) r))))) []:=by
 unfold vw_Order at hr
 refine Con.of_ok 16 0 [.tmp 2] [(0,.s (.agg [cI t.Root,cI t.Next,.d (.sl (List.map Node.cs t.Nodes))]))] Tryd.func73 rfl rfl rfl rfl rfl rfl rfl rfl fun w g M ρ _=>(Ok.seq (Ok.region (OkOps.m 0 (triBox (j:=0) (cs:=[cI t.Root,cI t.Next,.d (.sl (List.map Node.cs t.Nodes))]) rfl rfl rfl rfl rfl) (OkOps.y (.c (.d (.v (.slice none 0 0)))) (OkOps.nil (Ok.seq (Ok.region (OkOps.y (.agg [cI t.Root,cI t.Next,.d (.sl (List.map Node.cs t.Nodes))]) ?_))))))))
 obtain ⟨x1,hx1,hr⟩:=bind_some hr
 refine OkOps.q (triCl (tau []) (.tup [.c (.d (.mp true (encM (kInt .i64) Node.cs x1.1))),aB x1.2]) [] (vw_valid_c _ hx1) rfl ⟨.inl rfl,trivial⟩ trivial entry93 trivial) (OkOps.q (triMv (v:=.tup [.c (.d (.mp true (encM (kInt .i64) Node.cs x1.1))),aB x1.2]) rfl rfl) (OkOps.y (.c (.d (.mp true (encM (kInt .i64) Node.cs x1.1)))) (OkOps.y (aB x1.2) (OkOps.y (.c (.d (.mp true (encM (kInt .i64) Node.cs x1.1)))) (OkOps.y (aB x1.2) (OkOps.nil (Ok.seq (Ok.seq (Ok.region (OkOps.y (aB x1.2) (OkOps.y (aB (!x1.2)) (OkOps.nil ?_))))))))))))
 refine Ok.cond (b:=!x1.2) rfl (fun h2=>?_) (fun h2=>?_)
 have hr:=selT h2 hr
 refine Ok.seq (Ok.region (OkOps.y (.c (.d (.v (.slice none 0 0)))) (OkOps.nil (Ok.ret ?_))))
 obtain rfl:=Option.some.inj hr
 exact ⟨_,rfl,.inr rfl,trivial⟩
 have hr:=selF h2 hr
 refine Ok.skip (Ok.seq (Ok.region (OkOps.y (.c (.d (.mp true (encM (kInt .i64) Node.cs x1.1)))) (OkOps.y (.c (.loc 0 0)) (OkOps.y (aI t.Root) ?_)))))
 obtain ⟨x3,hx3,hr⟩:=bind_some hr
 refine OkOps.q (triCl (tau []) (.s (.c (.d (.sl (List.map (eInt .i64) x3))))) [] (vw_preorder_c _ _ _ hx3) rfl ⟨.inl rfl,.inl rfl,trivial⟩ trivial entry94 trivial) (OkOps.y (.c (.d (.sl (List.map (eInt .i64) x3)))) (OkOps.nil (Ok.ret ?_)))
 obtain rfl:=Option.some.inj hr
 exact ⟨_,rfl,.inl rfl,trivial⟩
end Go.Proofs.YtfoigppmcelgfaaDoor
end
section
set_option maxRecDepth 100000
namespace Go.Proofs.YtfoigppmcelgfaaDoor
open Go Go.E2
theorem fo_look_c (t : Tree) (st : (List Styled)) {r : focus_sight} (hr : fo_look t st = some r) : Con Tryd.prog 46 [.agg [cI t.Root,cI t.Next,.d (.sl (List.map Node.cs t.Nodes))],.c (.d (.sl (List.map Styled.cs st)))] [] (.s (.agg [.d (.sl (List.map (eInt .i64) r.order)),.d (.mp true (encM (kInt .i64) Node.cs r.nodes)),.d (.mp false (encM (kInt .i64) eBool r.visible)),.d (.mp false (encM (kInt .i64) eBool r.disabled))])) []:=by
 unfold fo_look at hr
 refine Con.of_ok 99 0 [.cell 4 109] [(0,.s (.agg [cI t.Root,cI t.Next,.d (.sl (List.map Node.cs t.Nodes))])),(1,.s (.c (.d (.sl (List.map Styled.cs st)))))] Tryd.func46 rfl rfl rfl rfl rfl rfl rfl rfl fun w g M ρ _=>(Ok.seq (Ok.region (OkOps.m 0 (triBox (j:=0) (cs:=[cI t.Root,cI t.Next,.d (.sl (List.map Node.cs t.Nodes))]) rfl rfl rfl rfl rfl) (OkOps.m 0 (triAlloc (j:=1) (cs:=[.d (.v (.slice none 0 0)),.d (.v (.map none)),.d (.v (.map none)),.d (.v (.map none))]) rfl rfl rfl rfl) (OkOps.nil (Ok.seq (Ok.region (OkOps.y (.agg [cI t.Root,cI t.Next,.d (.sl (List.map Node.cs t.Nodes))]) ?_))))))))
 obtain ⟨x1,hx1,hr⟩:=bind_some hr
 refine OkOps.q (triCl (tau []) (.s (.c (.d (.sl (List.map (eInt .i64) x1))))) [] (vw_Order_c _ hx1) rfl ⟨.inl rfl,trivial⟩ trivial entry73 trivial) (OkOps.m 0 (triMkM (j:=2) true rfl rfl) (OkOps.m 0 (triMkM (j:=3) false rfl rfl) (OkOps.m 0 (triMkM (j:=4) false rfl rfl) (OkOps.q (triBuildF (x:=.agg [.d (.sl (List.map (eInt .i64) x1)),.own 2,.own 3,.own 4]) rfl rfl trivial rfl) (OkOps.m 0 (triAlloc (j:=5) (cs:=[.d (.v (.slice none 0 0)),.d (.v (.map none)),.d (.v (.map none)),.d (.v (.map none))]) rfl rfl rfl rfl) (OkOps.w (triStoreF (cs':=[.d (.sl (List.map (eInt .i64) x1)),.own 2,.own 3,.own 4]) rfl rfl rfl rfl rfl rfl rfl rfl) (OkOps.nil (Ok.seq (Ok.seq (Ok.region (OkOps.y (.c (.loc 5 0)) (OkOps.y (.c (.d (.sl (List.map (eInt .i64) x1)))) (OkOps.q (triLen (enc:=(eInt .i64)) x1 rfl rfl trivial rfl) (OkOps.y (aB ((x1.length : Int) == 0)) (OkOps.nil ?_)))))))))))))))
 refine Ok.cond (b:=(x1.length : Int) == 0) rfl (fun h2=>?_) (fun h2=>?_)
 have hr:=selT h2 hr
 refine Ok.seq (Ok.region (OkOps.y (.agg [.d (.sl (List.map (eInt .i64) x1)),.own 2,.own 3,.own 4]) (OkOps.w (triStoreF (cs':=[.d (.sl (List.map (eInt .i64) x1)),.own 2,.own 3,.own 4]) rfl rfl rfl rfl rfl rfl rfl rfl) (OkOps.nil (Ok.conv (Conv.freezeM [(18,.s (.c (.d (.mp true (encM (kInt .i64) Node.cs ([] : (List (Int × Node)))))))),(21,.s (.agg [.d (.sl (List.map (eInt .i64) x1)),.d (.mp true (encM (kInt .i64) Node.cs ([] : (List (Int × Node))))),.own 3,.own 4])),(26,.s (.agg [.d (.sl (List.map (eInt .i64) x1)),.d (.mp true (encM (kInt .i64) Node.cs ([] : (List (Int × Node))))),.own 3,.own 4]))] [(1,.blk [.d (.sl (List.map (eInt .i64) x1)),.d (.mp true (encM (kInt .i64) Node.cs ([] : (List (Int × Node))))),.own 3,.own 4] 109),(5,.blk [.d (.sl (List.map (eInt .i64) x1)),.d (.mp true (encM (kInt .i64) Node.cs ([] : (List (Int × Node))))),.own 3,.own 4] 109)] 2 0 rfl ⟨⟨_,rfl,rfl⟩,⟨_,rfl,rfl⟩,⟨_,rfl,rfl⟩,trivial⟩ ⟨⟨_,_,rfl,rfl⟩,⟨_,_,rfl,rfl⟩,trivial⟩) (Ok.conv (Conv.freezeM [(19,.s (.c (.d (.mp false (encM (kInt .i64) eBool ([] : (List (Int × Bool)))))))),(21,.s (.agg [.d (.sl (List.map (eInt .i64) x1)),.d (.mp true (encM (kInt .i64) Node.cs ([] : (List (Int × Node))))),.d (.mp false (encM (kInt .i64) eBool ([] : (List (Int × Bool))))),.own 4])),(26,.s (.agg [.d (.sl (List.map (eInt .i64) x1)),.d (.mp true (encM (kInt .i64) Node.cs ([] : (List (Int × Node))))),.d (.mp false (encM (kInt .i64) eBool ([] : (List (Int × Bool))))),.own 4]))] [(1,.blk [.d (.sl (List.map (eInt .i64) x1)),.d (.mp true (encM (kInt .i64) Node.cs ([] : (List (Int × Node))))),.d (.mp false (encM (kInt .i64) eBool ([] : (List (Int × Bool))))),.own 4] 109),(5,.blk [.d (.sl (List.map (eInt .i64) x1)),.d (.mp true (encM (kInt .i64) Node.cs ([] : (List (Int × Node))))),.d (.mp false (encM (kInt .i64) eBool ([] : (List (Int × Bool))))),.own 4] 109)] 3 0 rfl ⟨⟨_,rfl,rfl⟩,⟨_,rfl,rfl⟩,⟨_,rfl,rfl⟩,trivial⟩ ⟨⟨_,_,rfl,rfl⟩,⟨_,_,rfl,rfl⟩,trivial⟩) (Ok.conv (Conv.freezeM [(20,.s (.c (.d (.mp false (encM (kInt .i64) eBool ([] : (List (Int × Bool)))))))),(21,.s (.agg [.d (.sl (List.map (eInt .i64) x1)),.d (.mp true (encM (kInt .i64) Node.cs ([] : (List (Int × Node))))),.d (.mp false (encM (kInt .i64) eBool ([] : (List (Int × Bool))))),.d (.mp false (encM (kInt .i64) eBool ([] : (List (Int × Bool)))))])),(26,.s (.agg [.d (.sl (List.map (eInt .i64) x1)),.d (.mp true (encM (kInt .i64) Node.cs ([] : (List (Int × Node))))),.d (.mp false (encM (kInt .i64) eBool ([] : (List (Int × Bool))))),.d (.mp false (encM (kInt .i64) eBool ([] : (List (Int × Bool)))))]))] [(1,.blk [.d (.sl (List.map (eInt .i64) x1)),.d (.mp true (encM (kInt .i64) Node.cs ([] : (List (Int × Node))))),.d (.mp false (encM (kInt .i64) eBool ([] : (List (Int × Bool))))),.d (.mp false (encM (kInt .i64) eBool ([] : (List (Int × Bool)))))] 109),(5,.blk [.d (.sl (List.map (eInt .i64) x1)),.d (.mp true (encM (kInt .i64) Node.cs ([] : (List (Int × Node))))),.d (.mp false (encM (kInt .i64) eBool ([] : (List (Int × Bool))))),.d (.mp false (encM (kInt .i64) eBool ([] : (List (Int × Bool)))))] 109)] 4 0 rfl ⟨⟨_,rfl,rfl⟩,⟨_,rfl,rfl⟩,⟨_,rfl,rfl⟩,trivial⟩ ⟨⟨_,_,rfl,rfl⟩,⟨_,_,rfl,rfl⟩,trivial⟩) (Ok.ret ?_))))))))
 obtain rfl:=Option.some.inj hr
 exact ⟨_,rfl,.inl rfl,trivial⟩
 have hr:=selF h2 hr
 refine Ok.skip ?_
 obtain ⟨k4,hk4,hr⟩:=jn_some hr
 refine Ok.join (fun (s3 : (List (Int × Node)))=>⟨[(1,.s (.c (.d (.sl (List.map Styled.cs st))))),(2,.s (.c (.loc 0 0))),(4,.s (.c (.loc 1 0))),(5,.s (.c (.loc 5 0)))],[(0,.blk [cI t.Root,cI t.Next,.d (.sl (List.map Node.cs t.Nodes))] 46),(1,.blk [.d (.v (.slice none 0 0)),.d (.v (.map none)),.d (.v (.map none)),.d (.v (.map none))] 109),(2,.mp true (encM (kInt .i64) Node.cs s3)),(3,.mp false (encM (kInt .i64) eBool ([] : (List (Int × Bool))))),(4,.mp false (encM (kInt .i64) eBool ([] : (List (Int × Bool))))),(5,.blk [.d (.sl (List.map (eInt .i64) x1)),.own 2,.own 3,.own 4] 109)],0⟩) k4 r (fun s3 hr=>?_) ?_
 rw [hk4] at hr
 refine Ok.seq (Ok.region (OkOps.m 0 (triMkM (j:=6) false rfl rfl) (OkOps.y (.c (.own 6)) (OkOps.nil ?_))))
 obtain ⟨k6,hk6,hr⟩:=jn_some hr
 refine Ok.join (fun (s5 : (List (Int × Bool)))=>⟨[(1,.s (.c (.d (.sl (List.map Styled.cs st))))),(4,.s (.c (.loc 1 0))),(5,.s (.c (.loc 5 0))),(8,.s (.c (.own 6)))],[(1,.blk [.d (.v (.slice none 0 0)),.d (.v (.map none)),.d (.v (.map none)),.d (.v (.map none))] 109),(2,.mp true (encM (kInt .i64) Node.cs s3)),(3,.mp false (encM (kInt .i64) eBool ([] : (List (Int × Bool))))),(4,.mp false (encM (kInt .i64) eBool ([] : (List (Int × Bool))))),(5,.blk [.d (.sl (List.map (eInt .i64) x1)),.own 2,.own 3,.own 4] 109),(6,.mp false (encM (kInt .i64) eBool s5))],0⟩) k6 r (fun s5 hr=>?_) ?_
 rw [hk6] at hr
 obtain ⟨k8,hk8,hr⟩:=jn_some hr
 refine Ok.join (fun (s7 : (List (Int × Bool)))=>⟨[(4,.s (.c (.loc 1 0))),(5,.s (.c (.loc 5 0)))],[(1,.blk [.d (.v (.slice none 0 0)),.d (.v (.map none)),.d (.v (.map none)),.d (.v (.map none))] 109),(2,.mp true (encM (kInt .i64) Node.cs s3)),(3,.mp false (encM (kInt .i64) eBool s7)),(4,.mp false (encM (kInt .i64) eBool ([] : (List (Int × Bool))))),(5,.blk [.d (.sl (List.map (eInt .i64) x1)),.own 2,.own 3,.own 4] 109)],0⟩) k8 r (fun s7 hr=>?_) ?_
 rw [hk8] at hr
 obtain ⟨k10,hk10,hr⟩:=jn_some hr
 refine Ok.join (fun (s9 : (List (Int × Bool)))=>⟨[(4,.s (.c (.loc 1 0))),(5,.s (.c (.loc 5 0)))],[(1,.blk [.d (.v (.slice none 0 0)),.d (.v (.map none)),.d (.v (.map none)),.d (.v (.map none))] 109),(2,.mp true (encM (kInt .i64) Node.cs s3)),(3,.mp false (encM (kInt .i64) eBool s7)),(4,.mp false (encM (kInt .i64) eBool s9)),(5,.blk [.d (.sl (List.map (eInt .i64) x1)),.own 2,.own 3,.own 4] 109)],0⟩) k10 r (fun s9 hr=>?_) ?_
 rw [hk10] at hr
 refine Ok.seq (Ok.region (OkOps.y (.agg [.d (.sl (List.map (eInt .i64) x1)),.own 2,.own 3,.own 4]) (OkOps.w (triStoreF (cs':=[.d (.sl (List.map (eInt .i64) x1)),.own 2,.own 3,.own 4]) rfl rfl rfl rfl rfl rfl rfl rfl) (OkOps.nil (Ok.conv (Conv.freezeM [(98,.s (.agg [.d (.sl (List.map (eInt .i64) x1)),.d (.mp true (encM (kInt .i64) Node.cs s3)),.own 3,.own 4]))] [(1,.blk [.d (.sl (List.map (eInt .i64) x1)),.d (.mp true (encM (kInt .i64) Node.cs s3)),.own 3,.own 4] 109),(5,.blk [.d (.sl (List.map (eInt .i64) x1)),.d (.mp true (encM (kInt .i64) Node.cs s3)),.own 3,.own 4] 109)] 2 0 rfl ⟨⟨_,rfl,rfl⟩,trivial⟩ ⟨⟨_,_,rfl,rfl⟩,⟨_,_,rfl,rfl⟩,trivial⟩) (Ok.conv (Conv.freezeM [(98,.s (.agg [.d (.sl (List.map (eInt .i64) x1)),.d (.mp true (encM (kInt .i64) Node.cs s3)),.d (.mp false (encM (kInt .i64) eBool s7)),.own 4]))] [(1,.blk [.d (.sl (List.map (eInt .i64) x1)),.d (.mp true (encM (kInt .i64) Node.cs s3)),.d (.mp false (encM (kInt .i64) eBool s7)),.own 4] 109),(5,.blk [.d (.sl (List.map (eInt .i64) x1)),.d (.mp true (encM (kInt .i64) Node.cs s3)),.d (.mp false (encM (kInt .i64) eBool s7)),.own 4] 109)] 3 0 rfl ⟨⟨_,rfl,rfl⟩,trivial⟩ ⟨⟨_,_,rfl,rfl⟩,⟨_,_,rfl,rfl⟩,trivial⟩) (Ok.conv (Conv.freezeM [(98,.s (.agg [.d (.sl (List.map (eInt .i64) x1)),.d (.mp true (encM (kInt .i64) Node.cs s3)),.d (.mp false (encM (kInt .i64) eBool s7)),.d (.mp false (encM (kInt .i64) eBool s9))]))] [(1,.blk [.d (.sl (List.map (eInt .i64) x1)),.d (.mp true (encM (kInt .i64) Node.cs s3)),.d (.mp false (encM (kInt .i64) eBool s7)),.d (.mp false (encM (kInt .i64) eBool s9))] 109),(5,.blk [.d (.sl (List.map (eInt .i64) x1)),.d (.mp true (encM (kInt .i64) Node.cs s3)),.d (.mp false (encM (kInt .i64) eBool s7)),.d (.mp false (encM (kInt .i64) eBool s9))] 109)] 4 0 rfl ⟨⟨_,rfl,rfl⟩,trivial⟩ ⟨⟨_,_,rfl,rfl⟩,⟨_,_,rfl,rfl⟩,trivial⟩) (Ok.ret ?_))))))))
 obtain rfl:=Option.some.inj hr
 exact ⟨_,rfl,.inl rfl,trivial⟩
 clear hk10
 refine Ok.seq (Ok.region (OkOps.y (.c (.loc 5 0)) (OkOps.y (.c (.d (.sl (List.map (eInt .i64) x1)))) (OkOps.q (triLen (enc:=(eInt .i64)) x1 rfl rfl trivial rfl) (OkOps.y (aI 0) (OkOps.nil (Ok.block (Ok.loopK (fun (s11 : Int × (List (Int × Bool)))=>⟨[(4,.s (.c (.loc 1 0))),(5,.s (.c (.loc 5 0))),(74,.s (.c (.d (.sl (List.map (eInt .i64) x1))))),(75,.s (aI (x1.length : Int))),(76,.s (aI s11.1))],[(1,.blk [.d (.v (.slice none 0 0)),.d (.v (.map none)),.d (.v (.map none)),.d (.v (.map none))] 109),(2,.mp true (encM (kInt .i64) Node.cs s3)),(3,.mp false (encM (kInt .i64) eBool s7)),(4,.mp false (encM (kInt .i64) eBool s11.2)),(5,.blk [.d (.sl (List.map (eInt .i64) x1)),.own 2,.own 3,.own 4] 109)],0⟩) hr (Conv.mk (tau []) ⟨⟨_,rfl,.inl rfl⟩,⟨_,rfl,.inl rfl⟩,⟨_,rfl,.inl rfl⟩,⟨_,rfl,.inl rfl⟩,⟨_,rfl,.inl rfl⟩,trivial⟩ ⟨rfl,rfl,rfl,rfl,rfl,trivial⟩ rfl rfl rfl rfl) ?_))))))))
 clear hr
 intro again12 s11 hr
 unfold fo_look_L1 at hr
 refine Ok.seq (Ok.region (OkOps.y (aB (decide (s11.1 < (x1.length : Int)))) (OkOps.nil (Ok.seq ?_))))
 refine Ok.cond (b:=decide (s11.1 < (x1.length : Int))) rfl (fun h13=>?_) (fun h13=>?_)
 have hr:=selT h13 hr
 refine Ok.skip (Ok.seq (Ok.block (Ok.seq (Ok.region ?_))))
 obtain ⟨x14,hx14,hr⟩:=bind_some hr
 refine OkOps.q (triIdx (enc:=(eInt .i64)) (L:=x1) (row:=[dI x14]) hx14 rfl rfl rfl rfl (fun _=>rfl) trivial rfl) (OkOps.y (aI x14) (OkOps.y (aI x14) (OkOps.nil (Ok.seq (Ok.region (OkOps.y (.c (.loc 5 1)) (OkOps.y (.c (.own 2)) (OkOps.y (aI x14) ?_))))))))
 obtain ⟨x15,hx15,hr⟩:=bind_some hr
 refine OkOps.q (triLook (agg:=true) (ek:=(kInt .i64)) (ev:=Node.cs) (L:=s3) (r:=.agg [cI x15.1.ID,cI x15.1.Parent,cI x15.1.Kind,cS x15.1.Key,.d (.sl (List.map Attr.cs x15.1.Attrs)),.d (.sl (List.map Action.cs x15.1.Actions)),.d (.sl (List.map (eInt .i64) x15.1.Kids))]) hx15 rfl rfl rfl (keyInt Tryd.underlying3) rfl rfl (fun h=>by cases h) rfl trivial rfl) ?_
 refine OkOps.m 0 (triAlloc (j:=7) (cs:=[cI 0,cI 0,cI 0,cS ByteArray.empty,.d (.v (.slice none 0 0)),.d (.v (.slice none 0 0)),.d (.v (.slice none 0 0))]) rfl rfl rfl rfl) (OkOps.w (triStore (cs':=[cI x15.1.ID,cI x15.1.Parent,cI x15.1.Kind,cS x15.1.Key,.d (.sl (List.map Attr.cs x15.1.Attrs)),.d (.sl (List.map Action.cs x15.1.Actions)),.d (.sl (List.map (eInt .i64) x15.1.Kids))]) rfl rfl rfl rfl rfl rfl rfl rfl rfl) (OkOps.nil (Ok.regionD (by kernel_rfl) (OkD.x (.c (.loc 5 3)) rfl trivial rfl (OkD.x (.c (.own 4)) rfl trivial rfl (OkD.x (aI x14) rfl trivial rfl (OkD.x (.c (.loc 5 3)) rfl trivial rfl (OkD.x (.c (.own 4)) rfl trivial rfl (OkD.x (.c (.loc 7 1)) rfl trivial rfl (OkD.x (aI x15.1.Parent) rfl trivial rfl ?_))))))))))
 obtain ⟨x16,hx16,hr⟩:=bind_some hr
 refine OkD.q (triLook (agg:=false) (ek:=(kInt .i64)) (ev:=eBool) (L:=s11.2) (r:=aB x16.1) hx16 rfl rfl rfl (keyInt Tryd.underlying3) rfl rfl (fun _ _=>rfl) rfl trivial rfl) (OkD.x (aB x16.1) rfl trivial rfl (OkD.q (triQG (x:=.c (.loc 7 4)) rfl rfl trivial rfl) (OkD.q (triQG (x:=.c (.d (.sl (List.map Attr.cs x15.1.Attrs)))) rfl rfl ⟨fun h=>h,trivial⟩ rfl) ?_)))
 obtain ⟨x17,hx17,hr⟩:=bind_some hr
 refine OkD.q (triCallG (x:=aB x17) (fun hg=>vw_Flag_c _ _ (gO_t hx17 hg)) rfl rfl ⟨.inl rfl,.inl rfl,trivial⟩ ⟨fun h=>h,trivial⟩ entry62 rfl rfl rfl) ?_
 refine OkD.q (triOr rfl rfl (fun h=>by rw [h];rfl) rfl) ?_
 refine OkD.w (triMapUp (ek:=(kInt .i64)) (ev:=eBool) (L:=s11.2) (z:=x16.1 || x17) rfl rfl rfl rfl rfl rfl (keyInt Tryd.underlying3) (fun _ _=>rfl) rfl trivial) (OkD.nil (by kernel_rfl) (Ok.region (OkOps.y (aI (IntKind.i64.wrap (s11.1 + 1))) (OkOps.y (aI (IntKind.i64.wrap (s11.1 + 1))) (OkOps.nil ?_)))))
 exact ⟨(IntKind.i64.wrap (s11.1 + 1),msetL s11.2 x14 (x16.1 || x17)),hr,(Conv.mk (tau []) ⟨⟨_,rfl,.inl rfl⟩,⟨_,rfl,.inl rfl⟩,⟨_,rfl,.inl rfl⟩,⟨_,rfl,.inl rfl⟩,⟨_,rfl,.inl rfl⟩,trivial⟩ ⟨rfl,rfl,rfl,rfl,rfl,trivial⟩ rfl rfl rfl rfl)⟩
 have hr:=selF h13 hr
 refine Ok.exit ?_
 exact ⟨s11.2,hr,(Conv.mk (tau []) ⟨⟨_,rfl,.inl rfl⟩,⟨_,rfl,.inl rfl⟩,trivial⟩ ⟨rfl,rfl,rfl,rfl,rfl,trivial⟩ rfl rfl rfl rfl)⟩
 clear hk8
 refine Ok.seq (Ok.region (OkOps.y (.c (.d (.sl (List.map Styled.cs st)))) (OkOps.q (triLen (enc:=Styled.cs) st rfl rfl trivial rfl) (OkOps.y (aI 0) (OkOps.nil (Ok.block (Ok.loopK (fun (s18 : Int × (List (Int × Bool)))=>⟨[(4,.s (.c (.loc 1 0))),(5,.s (.c (.loc 5 0))),(8,.s (.c (.own 6))),(52,.s (.c (.d (.sl (List.map Styled.cs st))))),(53,.s (aI (st.length : Int))),(54,.s (aI s18.1))],[(1,.blk [.d (.v (.slice none 0 0)),.d (.v (.map none)),.d (.v (.map none)),.d (.v (.map none))] 109),(2,.mp true (encM (kInt .i64) Node.cs s3)),(3,.mp false (encM (kInt .i64) eBool s18.2)),(4,.mp false (encM (kInt .i64) eBool ([] : (List (Int × Bool))))),(5,.blk [.d (.sl (List.map (eInt .i64) x1)),.own 2,.own 3,.own 4] 109),(6,.mp false (encM (kInt .i64) eBool s5))],0⟩) hr (Conv.mk (tau []) ⟨⟨_,rfl,.inl rfl⟩,⟨_,rfl,.inl rfl⟩,⟨_,rfl,.inl rfl⟩,⟨_,rfl,.inl rfl⟩,⟨_,rfl,.inl rfl⟩,⟨_,rfl,.inl rfl⟩,trivial⟩ ⟨rfl,rfl,rfl,rfl,rfl,rfl,trivial⟩ rfl rfl rfl rfl) ?_)))))))
 clear hr
 intro again19 s18 hr
 unfold fo_look_L2 at hr
 refine Ok.seq (Ok.region (OkOps.y (aB (decide (s18.1 < (st.length : Int)))) (OkOps.nil (Ok.seq ?_))))
 refine Ok.cond (b:=decide (s18.1 < (st.length : Int))) rfl (fun h20=>?_) (fun h20=>?_)
 have hr:=selT h20 hr
 refine Ok.skip (Ok.seq (Ok.block (Ok.seq (Ok.region ?_))))
 obtain ⟨x21,hx21,hr⟩:=bind_some hr
 refine OkOps.q (triIdx (enc:=Styled.cs) (L:=st) (row:=[dI x21.ID,dI (x21.Style 0),dI (x21.Style 1),dI (x21.Style 2),dI (x21.Style 3),dI (x21.Style 4),dI (x21.Style 5),dI (x21.Style 6),dI (x21.Style 7),dI (x21.Style 8),dI (x21.Style 9),dI (x21.Style 10),dI (x21.Style 11),dI (x21.Style 12),dI (x21.Style 13),dI (x21.Style 14),dI (x21.Style 15),dI (x21.Style 16),dI (x21.Style 17),dI (x21.Style 18),dI (x21.Style 19),dI (x21.Style 20),dI (x21.Style 21)]) hx21 rfl rfl rfl rfl (fun _=>rfl) trivial rfl) (OkOps.y (.agg [cI x21.ID,cI (x21.Style 0),cI (x21.Style 1),cI (x21.Style 2),cI (x21.Style 3),cI (x21.Style 4),cI (x21.Style 5),cI (x21.Style 6),cI (x21.Style 7),cI (x21.Style 8),cI (x21.Style 9),cI (x21.Style 10),cI (x21.Style 11),cI (x21.Style 12),cI (x21.Style 13),cI (x21.Style 14),cI (x21.Style 15),cI (x21.Style 16),cI (x21.Style 17),cI (x21.Style 18),cI (x21.Style 19),cI (x21.Style 20),cI (x21.Style 21)]) (OkOps.m 0 (triAlloc (j:=8) (cs:=[cI 0,cI 0,cI 0,cI 0,cI 0,cI 0,cI 0,cI 0,cI 0,cI 0,cI 0,cI 0,cI 0,cI 0,cI 0,cI 0,cI 0,cI 0,cI 0,cI 0,cI 0,cI 0,cI 0]) rfl rfl rfl rfl) (OkOps.w (triStore (cs':=[cI x21.ID,cI (x21.Style 0),cI (x21.Style 1),cI (x21.Style 2),cI (x21.Style 3),cI (x21.Style 4),cI (x21.Style 5),cI (x21.Style 6),cI (x21.Style 7),cI (x21.Style 8),cI (x21.Style 9),cI (x21.Style 10),cI (x21.Style 11),cI (x21.Style 12),cI (x21.Style 13),cI (x21.Style 14),cI (x21.Style 15),cI (x21.Style 16),cI (x21.Style 17),cI (x21.Style 18),cI (x21.Style 19),cI (x21.Style 20),cI (x21.Style 21)]) rfl rfl rfl rfl rfl rfl rfl rfl (by kernel_rfl)) (OkOps.nil (Ok.region (OkOps.y (.c (.loc 5 2)) (OkOps.y (.c (.own 3)) (OkOps.y (.c (.loc 8 0)) (OkOps.y (aI x21.ID) (OkOps.y (.c (.own 6)) (OkOps.y (.c (.loc 8 0)) (OkOps.y (aI x21.ID) ?_))))))))))))
 obtain ⟨x22,hx22,hr⟩:=bind_some hr
 refine OkOps.q (triLook (agg:=false) (ek:=(kInt .i64)) (ev:=eBool) (L:=s5) (r:=aB x22.1) hx22 rfl rfl rfl (keyInt Tryd.underlying3) rfl rfl (fun _ _=>rfl) rfl trivial rfl) (OkOps.y (aB x22.1) (OkOps.q (triQG (x:=.c (.loc 8 1)) rfl rfl trivial rfl) (OkOps.q (triQG (x:=.c (.loc 8 22)) rfl rfl ⟨fun h=>h,trivial⟩ rfl) (OkOps.q (triQG (x:=aI (x21.Style 21)) rfl rfl ⟨fun h=>h,trivial⟩ rfl) (OkOps.q (triQG (x:=aB ((x21.Style 21) == 0)) rfl rfl ⟨fun h=>h,trivial⟩ rfl) (OkOps.q (triAnd rfl rfl (fun h=>h) rfl) (OkOps.w (triMapUp (ek:=(kInt .i64)) (ev:=eBool) (L:=s18.2) (z:=x22.1 && ((x21.Style 21) == 0)) rfl rfl rfl rfl rfl rfl (keyInt Tryd.underlying3) (fun _ _=>rfl) rfl trivial) (OkOps.nil (Ok.region (OkOps.y (aI (IntKind.i64.wrap (s18.1 + 1))) (OkOps.y (aI (IntKind.i64.wrap (s18.1 + 1))) (OkOps.nil ?_))))))))))))
 exact ⟨(IntKind.i64.wrap (s18.1 + 1),msetL s18.2 x21.ID (x22.1 && ((x21.Style 21) == 0))),hr,(Conv.mk (tau []) ⟨⟨_,rfl,.inl rfl⟩,⟨_,rfl,.inl rfl⟩,⟨_,rfl,.inl rfl⟩,⟨_,rfl,.inl rfl⟩,⟨_,rfl,.inl rfl⟩,⟨_,rfl,.inl rfl⟩,trivial⟩ ⟨rfl,rfl,rfl,rfl,rfl,rfl,trivial⟩ rfl rfl rfl rfl)⟩
 have hr:=selF h20 hr
 refine Ok.exit ?_
 exact ⟨s18.2,hr,(Conv.mk (tau []) ⟨⟨_,rfl,.inl rfl⟩,⟨_,rfl,.inl rfl⟩,trivial⟩ ⟨rfl,rfl,rfl,rfl,rfl,trivial⟩ rfl rfl rfl rfl)⟩
 clear hk6
 refine Ok.seq (Ok.region (OkOps.y (.agg [cI t.Root,cI t.Next,.d (.sl (List.map Node.cs t.Nodes))]) (OkOps.y (.c (.d (.sl (List.map Styled.cs st)))) ?_)))
 obtain ⟨x23,hx23,hr⟩:=bind_some hr
 refine OkOps.q (triCl (tau []) (.s (.c (.d (.sl (List.map (eInt .i64) x23))))) [] (widgetry_layout_Shown_c _ _ hx23) rfl ⟨.inl rfl,.inl rfl,trivial⟩ trivial entry74 trivial) (OkOps.q (triLen (enc:=(eInt .i64)) x23 rfl rfl trivial rfl) (OkOps.y (aI 0) (OkOps.nil (Ok.block (Ok.loopK (fun (s24 : Int × (List (Int × Bool)))=>⟨[(1,.s (.c (.d (.sl (List.map Styled.cs st))))),(4,.s (.c (.loc 1 0))),(5,.s (.c (.loc 5 0))),(8,.s (.c (.own 6))),(43,.s (.c (.d (.sl (List.map (eInt .i64) x23))))),(44,.s (aI (x23.length : Int))),(45,.s (aI s24.1))],[(1,.blk [.d (.v (.slice none 0 0)),.d (.v (.map none)),.d (.v (.map none)),.d (.v (.map none))] 109),(2,.mp true (encM (kInt .i64) Node.cs s3)),(3,.mp false (encM (kInt .i64) eBool ([] : (List (Int × Bool))))),(4,.mp false (encM (kInt .i64) eBool ([] : (List (Int × Bool))))),(5,.blk [.d (.sl (List.map (eInt .i64) x1)),.own 2,.own 3,.own 4] 109),(6,.mp false (encM (kInt .i64) eBool s24.2))],0⟩) hr (Conv.mk (tau []) ⟨⟨_,rfl,.inl rfl⟩,⟨_,rfl,.inl rfl⟩,⟨_,rfl,.inl rfl⟩,⟨_,rfl,.inl rfl⟩,⟨_,rfl,.inl rfl⟩,⟨_,rfl,.inl rfl⟩,⟨_,rfl,.inl rfl⟩,trivial⟩ ⟨rfl,rfl,rfl,rfl,rfl,rfl,trivial⟩ rfl rfl rfl rfl) ?_)))))
 clear hr
 intro again25 s24 hr
 unfold fo_look_L3 at hr
 refine Ok.seq (Ok.region (OkOps.y (aB (decide (s24.1 < (x23.length : Int)))) (OkOps.nil (Ok.seq ?_))))
 refine Ok.cond (b:=decide (s24.1 < (x23.length : Int))) rfl (fun h26=>?_) (fun h26=>?_)
 have hr:=selT h26 hr
 refine Ok.skip (Ok.seq (Ok.block (Ok.seq (Ok.region ?_))))
 obtain ⟨x27,hx27,hr⟩:=bind_some hr
 refine OkOps.q (triIdx (enc:=(eInt .i64)) (L:=x23) (row:=[dI x27]) hx27 rfl rfl rfl rfl (fun _=>rfl) trivial rfl) (OkOps.y (aI x27) (OkOps.y (aI x27) (OkOps.nil (Ok.region (OkOps.y (.c (.own 6)) (OkOps.y (aI x27) (OkOps.w (triMapUp (ek:=(kInt .i64)) (ev:=eBool) (L:=s24.2) (z:=true) rfl rfl rfl rfl rfl rfl (keyInt Tryd.underlying3) (fun _ _=>rfl) rfl trivial) (OkOps.nil (Ok.region (OkOps.y (aI (IntKind.i64.wrap (s24.1 + 1))) (OkOps.y (aI (IntKind.i64.wrap (s24.1 + 1))) (OkOps.nil ?_))))))))))))
 exact ⟨(IntKind.i64.wrap (s24.1 + 1),msetL s24.2 x27 true),hr,(Conv.mk (tau []) ⟨⟨_,rfl,.inl rfl⟩,⟨_,rfl,.inl rfl⟩,⟨_,rfl,.inl rfl⟩,⟨_,rfl,.inl rfl⟩,⟨_,rfl,.inl rfl⟩,⟨_,rfl,.inl rfl⟩,⟨_,rfl,.inl rfl⟩,trivial⟩ ⟨rfl,rfl,rfl,rfl,rfl,rfl,trivial⟩ rfl rfl rfl rfl)⟩
 have hr:=selF h26 hr
 refine Ok.exit ?_
 exact ⟨s24.2,hr,(Conv.mk (tau []) ⟨⟨_,rfl,.inl rfl⟩,⟨_,rfl,.inl rfl⟩,⟨_,rfl,.inl rfl⟩,⟨_,rfl,.inl rfl⟩,trivial⟩ ⟨rfl,rfl,rfl,rfl,rfl,rfl,trivial⟩ rfl rfl rfl rfl)⟩
 clear hk4
 refine Ok.seq (Ok.region (OkOps.y (.c (.loc 0 2)) (OkOps.y (.c (.d (.sl (List.map Node.cs t.Nodes)))) (OkOps.q (triLen (enc:=Node.cs) t.Nodes rfl rfl trivial rfl) (OkOps.y (aI 0) (OkOps.nil (Ok.block (Ok.loopK (fun (s28 : Int × (List (Int × Node)))=>⟨[(1,.s (.c (.d (.sl (List.map Styled.cs st))))),(2,.s (.c (.loc 0 0))),(4,.s (.c (.loc 1 0))),(5,.s (.c (.loc 5 0))),(28,.s (.c (.d (.sl (List.map Node.cs t.Nodes))))),(29,.s (aI (t.Nodes.length : Int))),(30,.s (aI s28.1))],[(0,.blk [cI t.Root,cI t.Next,.d (.sl (List.map Node.cs t.Nodes))] 46),(1,.blk [.d (.v (.slice none 0 0)),.d (.v (.map none)),.d (.v (.map none)),.d (.v (.map none))] 109),(2,.mp true (encM (kInt .i64) Node.cs s28.2)),(3,.mp false (encM (kInt .i64) eBool ([] : (List (Int × Bool))))),(4,.mp false (encM (kInt .i64) eBool ([] : (List (Int × Bool))))),(5,.blk [.d (.sl (List.map (eInt .i64) x1)),.own 2,.own 3,.own 4] 109)],0⟩) hr (Conv.mk (tau []) ⟨⟨_,rfl,.inl rfl⟩,⟨_,rfl,.inl rfl⟩,⟨_,rfl,.inl rfl⟩,⟨_,rfl,.inl rfl⟩,⟨_,rfl,.inl rfl⟩,⟨_,rfl,.inl rfl⟩,⟨_,rfl,.inl rfl⟩,trivial⟩ ⟨rfl,rfl,rfl,rfl,rfl,rfl,trivial⟩ rfl rfl rfl rfl) ?_))))))))
 clear hr
 intro again29 s28 hr
 unfold fo_look_L4 at hr
 refine Ok.seq (Ok.region (OkOps.y (aB (decide (s28.1 < (t.Nodes.length : Int)))) (OkOps.nil (Ok.seq ?_))))
 refine Ok.cond (b:=decide (s28.1 < (t.Nodes.length : Int))) rfl (fun h30=>?_) (fun h30=>?_)
 have hr:=selT h30 hr
 refine Ok.skip (Ok.seq (Ok.block (Ok.seq (Ok.region ?_))))
 obtain ⟨x31,hx31,hr⟩:=bind_some hr
 refine OkOps.q (triIdx (enc:=Node.cs) (L:=t.Nodes) (row:=[dI x31.ID,dI x31.Parent,dI x31.Kind,dS x31.Key,.sl (List.map Attr.cs x31.Attrs),.sl (List.map Action.cs x31.Actions),.sl (List.map (eInt .i64) x31.Kids)]) hx31 rfl rfl rfl rfl (fun _=>rfl) trivial rfl) (OkOps.y (.agg [cI x31.ID,cI x31.Parent,cI x31.Kind,cS x31.Key,.d (.sl (List.map Attr.cs x31.Attrs)),.d (.sl (List.map Action.cs x31.Actions)),.d (.sl (List.map (eInt .i64) x31.Kids))]) (OkOps.m 0 (triAlloc (j:=9) (cs:=[cI 0,cI 0,cI 0,cS ByteArray.empty,.d (.v (.slice none 0 0)),.d (.v (.slice none 0 0)),.d (.v (.slice none 0 0))]) rfl rfl rfl rfl) (OkOps.w (triStore (cs':=[cI x31.ID,cI x31.Parent,cI x31.Kind,cS x31.Key,.d (.sl (List.map Attr.cs x31.Attrs)),.d (.sl (List.map Action.cs x31.Actions)),.d (.sl (List.map (eInt .i64) x31.Kids))]) rfl rfl rfl rfl rfl rfl rfl rfl rfl) (OkOps.nil (Ok.region (OkOps.y (.c (.loc 5 1)) (OkOps.y (.c (.own 2)) (OkOps.y (.c (.loc 9 0)) (OkOps.y (aI x31.ID) (OkOps.y (.agg [cI x31.ID,cI x31.Parent,cI x31.Kind,cS x31.Key,.d (.sl (List.map Attr.cs x31.Attrs)),.d (.sl (List.map Action.cs x31.Actions)),.d (.sl (List.map (eInt .i64) x31.Kids))]) ?_))))))))))
 refine OkOps.w (triMapUp (ek:=(kInt .i64)) (ev:=Node.cs) (L:=s28.2) (z:=x31) rfl rfl rfl rfl rfl rfl (keyInt Tryd.underlying3) (fun h=>by cases h) rfl trivial) ?_
 refine OkOps.nil (Ok.region (OkOps.y (aI (IntKind.i64.wrap (s28.1 + 1))) (OkOps.y (aI (IntKind.i64.wrap (s28.1 + 1))) (OkOps.nil ?_))))
 exact ⟨(IntKind.i64.wrap (s28.1 + 1),msetL s28.2 x31.ID x31),hr,(Conv.mk (tau []) ⟨⟨_,rfl,.inl rfl⟩,⟨_,rfl,.inl rfl⟩,⟨_,rfl,.inl rfl⟩,⟨_,rfl,.inl rfl⟩,⟨_,rfl,.inl rfl⟩,⟨_,rfl,.inl rfl⟩,⟨_,rfl,.inl rfl⟩,trivial⟩ ⟨rfl,rfl,rfl,rfl,rfl,rfl,trivial⟩ rfl rfl rfl rfl)⟩
 have hr:=selF h30 hr
 refine Ok.exit ?_
 exact ⟨s28.2,hr,(Conv.mk (tau []) ⟨⟨_,rfl,.inl rfl⟩,⟨_,rfl,.inl rfl⟩,⟨_,rfl,.inl rfl⟩,⟨_,rfl,.inl rfl⟩,trivial⟩ ⟨rfl,rfl,rfl,rfl,rfl,rfl,trivial⟩ rfl rfl rfl rfl)⟩
theorem slices_Backward_Sl_int_int_c (L : (List Int)) : Con Tryd.prog 72 [.c (.d (.sl (List.map (eInt .i64) L)))] [] (.s (.c (.fn 92 [(0,0)]))) [(0,.blk [.d (.sl (List.map (eInt .i64) L))] 22)]:=by
 refine Con.of_ok 4 0 [.tmp 2] [(0,.s (.c (.d (.sl (List.map (eInt .i64) L)))))] Tryd.func72 rfl rfl rfl rfl rfl rfl rfl rfl fun w g M ρ _=>(Ok.seq (Ok.region (OkOps.m 0 (triBox (j:=0) (cs:=[.d (.sl (List.map (eInt .i64) L))]) rfl rfl rfl rfl rfl) (OkOps.y (.c (.d (.v .nilFunc))) (OkOps.nil (Ok.seq (Ok.region (OkOps.q (triMkF [(0,0)] rfl trivial rfl) (OkOps.y (.c (.fn 92 [(0,0)])) (OkOps.nil (Ok.ret ?_)))))))))))
 exact ⟨_,rfl,.inl rfl,⟨rfl,trivial⟩⟩
theorem fo_sight_scope_c (p_s : focus_sight) {r : Int} (hr : fo_sight_scope p_s = some r) : Con Tryd.prog 47 [.agg [.d (.sl (List.map (eInt .i64) p_s.order)),.d (.mp true (encM (kInt .i64) Node.cs p_s.nodes)),.d (.mp false (encM (kInt .i64) eBool p_s.visible)),.d (.mp false (encM (kInt .i64) eBool p_s.disabled))]] [] (.s (aI r)) []:=by
 unfold fo_sight_scope at hr
 refine Con.of_ok 31 0 [.cell 2 3] [(0,.s (.agg [.d (.sl (List.map (eInt .i64) p_s.order)),.d (.mp true (encM (kInt .i64) Node.cs p_s.nodes)),.d (.mp false (encM (kInt .i64) eBool p_s.visible)),.d (.mp false (encM (kInt .i64) eBool p_s.disabled))]))] Tryd.func47 rfl rfl rfl rfl rfl rfl rfl rfl fun w g M ρ _=>(Ok.seq (Ok.region (OkOps.m 0 (triBox (j:=0) (cs:=[.d (.sl (List.map (eInt .i64) p_s.order)),.d (.mp true (encM (kInt .i64) Node.cs p_s.nodes)),.d (.mp false (encM (kInt .i64) eBool p_s.visible)),.d (.mp false (encM (kInt .i64) eBool p_s.disabled))]) rfl rfl rfl rfl rfl) (OkOps.m 0 (triAlloc (j:=1) (cs:=[cI 0]) rfl rfl rfl rfl) (OkOps.nil ?_)))))
 obtain ⟨k2,hk2,hr⟩:=jn_some hr
 refine Ok.join (fun (s1 : Unit)=>⟨[(1,.s (.c (.loc 0 0))),(2,.s (.c (.loc 1 0)))],[(0,.blk [.d (.sl (List.map (eInt .i64) p_s.order)),.d (.mp true (encM (kInt .i64) Node.cs p_s.nodes)),.d (.mp false (encM (kInt .i64) eBool p_s.visible)),.d (.mp false (encM (kInt .i64) eBool p_s.disabled))] 109),(1,.blk [cI 0] 3)],0⟩) k2 r (fun s1 hr=>?_) ?_
 rw [hk2] at hr
 refine Ok.seq (Ok.seq (Ok.region (OkOps.y (.c (.loc 0 0)) (OkOps.y (.c (.d (.sl (List.map (eInt .i64) p_s.order)))) (OkOps.q (triLen (enc:=(eInt .i64)) p_s.order rfl rfl trivial rfl) (OkOps.y (aB ((p_s.order.length : Int) == 0)) (OkOps.nil ?_)))))))
 refine Ok.cond (b:=(p_s.order.length : Int) == 0) rfl (fun h3=>?_) (fun h3=>?_)
 have hr:=selT h3 hr
 refine Ok.seq (Ok.region (OkOps.w (triStore (cs':=[cI 0]) rfl rfl rfl rfl rfl rfl rfl rfl rfl) (OkOps.nil (Ok.ret ?_))))
 obtain rfl:=Option.some.inj hr
 exact ⟨_,rfl,.inl rfl,trivial⟩
 have hr:=selF h3 hr
 refine Ok.skip (Ok.seq (Ok.region (OkOps.y (.c (.loc 0 0)) (OkOps.y (.c (.d (.sl (List.map (eInt .i64) p_s.order)))) ?_))))
 obtain ⟨x4,hx4,hr⟩:=bind_some hr
 refine OkOps.q (triIdx (enc:=(eInt .i64)) (L:=p_s.order) (row:=[dI x4]) hx4 rfl rfl rfl rfl (fun _=>rfl) trivial rfl) (OkOps.y (aI x4) (OkOps.w (triStore (cs':=[cI x4]) rfl rfl rfl rfl rfl rfl rfl rfl rfl) (OkOps.nil (Ok.ret ?_))))
 obtain rfl:=Option.some.inj hr
 exact ⟨_,rfl,.inl rfl,trivial⟩
 clear hk2
 refine Ok.seq (Ok.region (OkOps.y (.c (.loc 0 0)) (OkOps.y (.c (.d (.sl (List.map (eInt .i64) p_s.order)))) (OkOps.m 0 (triCall (tau [(0,2)]) (.s (.c (.fn 92 [(2,0)]))) [(2,.blk [.d (.sl (List.map (eInt .i64) p_s.order))] 22)] (slices_Backward_Sl_int_int_c p_s.order) rfl ⟨.inl rfl,trivial⟩ trivial entry72 trivial rfl rfl rfl rfl ⟨rfl,trivial⟩ rfl rfl rfl) (OkOps.nil (Ok.block ?_))))))
 refine Ok.rangeB (jl:=3) (nx:=0) (nx1:=0) (caps:=[(2,0)]) rfl rfl trivial Tryd.func92 rfl rfl rfl rfl rfl rfl (fun l ρ1 M1 ob hT1 E=>?_)
 refine Ok.seq (Ok.region (OkOps.y (.c (.d (.sl (List.map (eInt .i64) p_s.order)))) (OkOps.q (triLen (enc:=(eInt .i64)) p_s.order rfl rfl trivial rfl) (OkOps.y (aI (IntKind.i64.wrap ((p_s.order.length : Int) - 1))) (OkOps.y (aI (IntKind.i64.wrap ((p_s.order.length : Int) - 1))) (OkOps.nil ?_))))))
 obtain ⟨k6,hk6,hr⟩:=jn_some hr
 refine Ok.joinEnd (fun (s5 : Unit)=>⟨[],[(0,.blk [.d (.sl (List.map (eInt .i64) p_s.order)),.d (.mp true (encM (kInt .i64) Node.cs p_s.nodes)),.d (.mp false (encM (kInt .i64) eBool p_s.visible)),.d (.mp false (encM (kInt .i64) eBool p_s.disabled))] 109),(1,.blk [cI 0] 3),(2,.blk [.d (.sl (List.map (eInt .i64) p_s.order))] 22),(3,.obj (ob .ready none))],0⟩) k6 r (fun s5 hr=>?_) ?_
 rw [hk6] at hr
 refine ⟨.inr rfl,.inl ⟨rfl,?_⟩⟩
 exact ⟨(),hr,(Conv.mk (tau []) ⟨⟨_,rfl,.inl rfl⟩,⟨_,rfl,.inl rfl⟩,trivial⟩ ⟨rfl,rfl,trivial⟩ rfl rfl rfl rfl)⟩
 clear hk6
 refine Ok.block (Ok.loopK (fun (s7 : Int)=>⟨[(0,.s (.c (.d (.v (yl l))))),(1,.s (.c (.loc 2 0))),(3,.s (aI s7))],[(0,.blk [.d (.sl (List.map (eInt .i64) p_s.order)),.d (.mp true (encM (kInt .i64) Node.cs p_s.nodes)),.d (.mp false (encM (kInt .i64) eBool p_s.visible)),.d (.mp false (encM (kInt .i64) eBool p_s.disabled))] 109),(1,.blk [cI 0] 3),(2,.blk [.d (.sl (List.map (eInt .i64) p_s.order))] 22),(3,.obj (ob .ready none))],0⟩) hr (Conv.mk (tau []) ⟨⟨_,rfl,.inl rfl⟩,⟨_,rfl,.inl rfl⟩,⟨_,rfl,.inl rfl⟩,trivial⟩ ⟨rfl,rfl,rfl,rfl,trivial⟩ rfl rfl rfl rfl) ?_)
 clear hr
 intro again8 s7 hr
 unfold fo_sight_scope_L1 at hr
 refine Ok.seq (Ok.seq (Ok.region (OkOps.y (aI s7) (OkOps.y (aB (decide (s7 ≥ 0))) (OkOps.nil ?_)))))
 refine Ok.cond (b:=decide (s7 ≥ 0)) rfl (fun h9=>?_) (fun h9=>?_)
 have hr:=selT h9 hr
 refine Ok.skip (Ok.seq (Ok.block (Ok.seq (Ok.region (OkOps.y (.c (.d (.v (yl l)))) (OkOps.y (aI s7) (OkOps.y (.c (.d (.sl (List.map (eInt .i64) p_s.order)))) (OkOps.y (aI s7) ?_))))))))
 obtain ⟨x10,hx10,hr⟩:=bind_some hr
 refine OkOps.q (triIdx (enc:=(eInt .i64)) (L:=p_s.order) (row:=[dI x10]) hx10 rfl rfl rfl rfl (fun _=>rfl) trivial rfl) (OkOps.y (aI x10) ?_)
 refine OkOps.yield (jl:=3) (v1:=aI s7) (v2:=aI x10) (nx:=0) E (by decide) rfl rfl rfl rfl trivial rfl rfl dom_cons dom_self (fun ρc Mc hT2=>?_)
 refine Ok.region (OkOps.y (aI x10) (OkOps.nil ?_))
 refine ⟨rfl,rfl,?_⟩
 refine Ok.block (Ok.seq (Ok.region (OkOps.y (.c (.loc 0 1)) (OkOps.y (.c (.d (.mp true (encM (kInt .i64) Node.cs p_s.nodes)))) (OkOps.y (aI x10) ?_)))))
 obtain ⟨x11,hx11,hr⟩:=bind_some hr
 refine OkOps.q (triLook (agg:=true) (ek:=(kInt .i64)) (ev:=Node.cs) (L:=p_s.nodes) (r:=.agg [cI x11.1.ID,cI x11.1.Parent,cI x11.1.Kind,cS x11.1.Key,.d (.sl (List.map Attr.cs x11.1.Attrs)),.d (.sl (List.map Action.cs x11.1.Actions)),.d (.sl (List.map (eInt .i64) x11.1.Kids))]) hx11 rfl rfl rfl (keyInt Tryd.underlying3) rfl rfl (fun h=>by cases h) rfl trivial rfl) ?_
 refine OkOps.y (aI x11.1.Kind) (OkOps.y (aB (x11.1.Kind == 12)) (OkOps.y (aB (x11.1.Kind == 12)) (OkOps.q (triQG (x:=.c (.loc 0 2)) rfl rfl trivial rfl) (OkOps.q (triQG (x:=.c (.d (.mp false (encM (kInt .i64) eBool p_s.visible)))) rfl rfl ⟨fun h=>h,trivial⟩ rfl) (OkOps.q (triQG (x:=aI x10) rfl rfl trivial rfl) ?_)))))
 obtain ⟨x12,hx12,hr⟩:=bind_some hr
 refine OkOps.q (triLookG (agg:=false) (ek:=(kInt .i64)) (ev:=eBool) (L:=p_s.visible) (r:=aB x12.1) (gO_t hx12) rfl rfl rfl rfl (keyInt Tryd.underlying3) rfl rfl (fun _ _=>rfl) rfl ⟨fun h=>h,⟨fun h=>h,trivial⟩⟩ rfl) (OkOps.q (triAnd rfl rfl (fun h=>h) rfl) (OkOps.nil ?_))
 refine Ok.cond (b:=(x11.1.Kind == 12) && x12.1) rfl (fun h13=>?_) (fun h13=>?_)
 have hr:=selT h13 hr
 refine Ok.seq (Ok.region (OkOps.y (aI x10) (OkOps.w (triStore (cs':=[cI x10]) rfl rfl rfl rfl rfl rfl rfl rfl rfl) (OkOps.nil (Ok.ret ?_)))))
 refine ⟨rfl,?_⟩
 refine OkOps.y (aB (!false)) (OkOps.nil ?_)
 refine Ok.cond (b:=!false) rfl (fun _=>?_) (fun h=>by cases h)
 refine Ok.ret ?_
 refine ⟨.inl rfl,.inr ⟨.ret,_,rfl,rfl,?_⟩⟩
 obtain rfl:=Option.some.inj hr
 exact ⟨_,rfl,.inl rfl,trivial⟩
 have hr:=selF h13 hr
 refine Ok.skip ?_
 refine ⟨rfl,?_⟩
 refine OkOps.y (aB (!true)) (OkOps.nil ?_)
 refine Ok.cond (b:=!true) rfl (fun h=>by cases h) (fun _=>?_)
 refine Ok.skip (Ok.region (OkOps.y (aI s7) (OkOps.y (aI (IntKind.i64.wrap (s7 - 1))) (OkOps.y (aI (IntKind.i64.wrap (s7 - 1))) (OkOps.nil ?_)))))
 exact ⟨IntKind.i64.wrap (s7 - 1),hr,(Conv.mk (tau []) ⟨⟨_,rfl,.inl rfl⟩,⟨_,rfl,.inl rfl⟩,⟨_,rfl,.inl rfl⟩,trivial⟩ ⟨rfl,rfl,rfl,rfl,trivial⟩ rfl rfl rfl rfl)⟩
 have hr:=selF h9 hr
 refine Ok.exit ?_
 exact ⟨(),hr,(Conv.mk (tau []) trivial ⟨rfl,rfl,rfl,rfl,trivial⟩ rfl rfl rfl rfl)⟩
theorem fo_sight_below_B_c (self0 : focus_sight → Int → Option (List Int)) (hself0 : ∀ (p_s : focus_sight) (id : Int) {r : (List Int)},self0 p_s id = some r → Con Tryd.prog 63 [.agg [.d (.sl (List.map (eInt .i64) p_s.order)),.d (.mp true (encM (kInt .i64) Node.cs p_s.nodes)),.d (.mp false (encM (kInt .i64) eBool p_s.visible)),.d (.mp false (encM (kInt .i64) eBool p_s.disabled))],aI id] [] (.s (.c (.d (.sl (List.map (eInt .i64) r))))) []) (p_s : focus_sight) (id : Int) {r : (List Int)} (hr : fo_sight_below_B self0 p_s id = some r) : Con Tryd.prog 63 [.agg [.d (.sl (List.map (eInt .i64) p_s.order)),.d (.mp true (encM (kInt .i64) Node.cs p_s.nodes)),.d (.mp false (encM (kInt .i64) eBool p_s.visible)),.d (.mp false (encM (kInt .i64) eBool p_s.disabled))],aI id] [] (.s (.c (.d (.sl (List.map (eInt .i64) r))))) []:=by
 unfold fo_sight_below_B at hr
 refine Con.of_ok 27 0 [.tmp 4] [(0,.s (.agg [.d (.sl (List.map (eInt .i64) p_s.order)),.d (.mp true (encM (kInt .i64) Node.cs p_s.nodes)),.d (.mp false (encM (kInt .i64) eBool p_s.visible)),.d (.mp false (encM (kInt .i64) eBool p_s.disabled))])),(1,.s (aI id))] Tryd.func63 rfl rfl rfl rfl rfl rfl rfl rfl fun w g M ρ _=>(Ok.seq (Ok.region (OkOps.m 0 (triBox (j:=0) (cs:=[.d (.sl (List.map (eInt .i64) p_s.order)),.d (.mp true (encM (kInt .i64) Node.cs p_s.nodes)),.d (.mp false (encM (kInt .i64) eBool p_s.visible)),.d (.mp false (encM (kInt .i64) eBool p_s.disabled))]) rfl rfl rfl rfl rfl) (OkOps.y (.c (.d (.v (.slice none 0 0)))) (OkOps.nil (Ok.seq (Ok.region (OkOps.y (aI id) (OkOps.m 0 (triBST (sz:=1) (enc:=(eInt .i64)) (j:=1) ([id]) rfl rfl rfl rfl rfl rfl rfl rfl (fun _=>rfl) trivial rfl rfl) (OkOps.y (.c (.tl 1 (List.map (eInt .i64) ([id])))) (OkOps.nil ?_)))))))))))
 obtain ⟨k2,hk2,hr⟩:=jn_some hr
 refine Ok.join (fun (s1 : (List Int))=>⟨[(5,.s (.c (.tl 1003 (List.map (eInt .i64) s1))))],[(1003,.tail 1)],0⟩) k2 r (fun s1 hr=>?_) ?_
 rw [hk2] at hr
 refine Ok.seq (Ok.region (OkOps.y (.c (.tl 1003 (List.map (eInt .i64) s1))) (OkOps.y (.c (.tl 1003 (List.map (eInt .i64) s1))) (OkOps.nil (Ok.ret ?_)))))
 obtain rfl:=Option.some.inj hr
 exact ⟨_,rfl,.inr rfl,trivial⟩
 clear hk2
 refine Ok.seq (Ok.region (OkOps.y (.c (.loc 0 1)) (OkOps.y (.c (.d (.mp true (encM (kInt .i64) Node.cs p_s.nodes)))) (OkOps.y (aI id) ?_))))
 obtain ⟨x3,hx3,hr⟩:=bind_some hr
 refine OkOps.q (triLook (agg:=true) (ek:=(kInt .i64)) (ev:=Node.cs) (L:=p_s.nodes) (r:=.agg [cI x3.1.ID,cI x3.1.Parent,cI x3.1.Kind,cS x3.1.Key,.d (.sl (List.map Attr.cs x3.1.Attrs)),.d (.sl (List.map Action.cs x3.1.Actions)),.d (.sl (List.map (eInt .i64) x3.1.Kids))]) hx3 rfl rfl rfl (keyInt Tryd.underlying3) rfl rfl (fun h=>by cases h) rfl trivial rfl) ?_
 refine OkOps.y (.c (.d (.sl (List.map (eInt .i64) x3.1.Kids)))) (OkOps.q (triLen (enc:=(eInt .i64)) x3.1.Kids rfl rfl trivial rfl) (OkOps.y (aI 0) (OkOps.nil (Ok.block (Ok.loopK (fun (s4 : (List Int) × Int)=>⟨[(2,.s (.c (.loc 0 0))),(5,.s (.c (.tl 1005 (List.map (eInt .i64) s4.1)))),(14,.s (.c (.d (.sl (List.map (eInt .i64) x3.1.Kids))))),(15,.s (aI (x3.1.Kids.length : Int))),(16,.s (aI s4.2))],[(0,.blk [.d (.sl (List.map (eInt .i64) p_s.order)),.d (.mp true (encM (kInt .i64) Node.cs p_s.nodes)),.d (.mp false (encM (kInt .i64) eBool p_s.visible)),.d (.mp false (encM (kInt .i64) eBool p_s.disabled))] 109),(1005,.tail 1)],0⟩) hr (Conv.mk (tau [(1005,1)]) ⟨⟨_,rfl,.inl rfl⟩,⟨_,rfl,.inl rfl⟩,⟨_,rfl,.inl rfl⟩,⟨_,rfl,.inl rfl⟩,⟨_,rfl,.inl rfl⟩,trivial⟩ ⟨rfl,rfl,trivial⟩ rfl rfl rfl rfl) ?_)))))
 clear hr
 intro again5 s4 hr
 unfold fo_sight_below_L1 at hr
 refine Ok.seq (Ok.region (OkOps.y (aB (decide (s4.2 < (x3.1.Kids.length : Int)))) (OkOps.nil (Ok.seq ?_))))
 refine Ok.cond (b:=decide (s4.2 < (x3.1.Kids.length : Int))) rfl (fun h6=>?_) (fun h6=>?_)
 have hr:=selT h6 hr
 refine Ok.skip (Ok.seq (Ok.block (Ok.seq (Ok.region ?_))))
 obtain ⟨x7,hx7,hr⟩:=bind_some hr
 refine OkOps.q (triIdx (enc:=(eInt .i64)) (L:=x3.1.Kids) (row:=[dI x7]) hx7 rfl rfl rfl rfl (fun _=>rfl) trivial rfl) (OkOps.y (aI x7) (OkOps.y (aI x7) (OkOps.nil (Ok.region (OkOps.y (.c (.tl 1005 (List.map (eInt .i64) s4.1))) (OkOps.y (.agg [.d (.sl (List.map (eInt .i64) p_s.order)),.d (.mp true (encM (kInt .i64) Node.cs p_s.nodes)),.d (.mp false (encM (kInt .i64) eBool p_s.visible)),.d (.mp false (encM (kInt .i64) eBool p_s.disabled))]) (OkOps.y (aI x7) ?_)))))))
 obtain ⟨x8,hx8,hr⟩:=bind_some hr
 refine OkOps.q (triCl (tau []) (.s (.c (.d (.sl (List.map (eInt .i64) x8))))) [] (hself0 _ _ hx8) rfl ⟨.inl rfl,.inl rfl,trivial⟩ trivial entry63 trivial) ?_
 obtain ⟨x9,hx9,hr⟩:=bind_some hr
 refine OkOps.m2 0 (triApp (enc:=(eInt .i64)) (L:=s4.1) (X:=x8) (j:=1005) (j':=2) hx9 rfl rfl rfl rfl rfl rfl (fun _=>rfl) (fun _=>rfl) (by decide) trivial rfl rfl) (OkOps.y (.c (.tl 2 (List.map (eInt .i64) x9))) (OkOps.nil (Ok.region (OkOps.y (aI (IntKind.i64.wrap (s4.2 + 1))) (OkOps.y (aI (IntKind.i64.wrap (s4.2 + 1))) (OkOps.nil ?_))))))
 exact ⟨(x9,IntKind.i64.wrap (s4.2 + 1)),hr,(Conv.mk (tau [(1005,2)]) ⟨⟨_,rfl,.inl rfl⟩,⟨_,rfl,.inl rfl⟩,⟨_,rfl,.inl rfl⟩,⟨_,rfl,.inl rfl⟩,⟨_,rfl,.inl rfl⟩,trivial⟩ ⟨rfl,rfl,trivial⟩ rfl rfl rfl rfl)⟩
 have hr:=selF h6 hr
 refine Ok.exit ?_
 exact ⟨s4.1,hr,(Conv.mk (tau [(1003,1005)]) ⟨⟨_,rfl,.inl rfl⟩,trivial⟩ ⟨rfl,trivial⟩ rfl rfl rfl rfl)⟩
theorem fo_sight_below_all : ∀ n : Nat,(∀ (p_s : focus_sight) (id : Int) {r : (List Int)},fo_sight_below n p_s id = some r → Con Tryd.prog 63 [.agg [.d (.sl (List.map (eInt .i64) p_s.order)),.d (.mp true (encM (kInt .i64) Node.cs p_s.nodes)),.d (.mp false (encM (kInt .i64) eBool p_s.visible)),.d (.mp false (encM (kInt .i64) eBool p_s.disabled))],aI id] [] (.s (.c (.d (.sl (List.map (eInt .i64) r))))) []) ∧ True:=by
 intro n
 induction n with
 | zero=>exact ⟨(by intros;rename_i hr;cases hr),trivial⟩
 | succ n ih=>exact ⟨(by intros;rename_i hr;exact fo_sight_below_B_c _ ih.1 _ _ hr),trivial⟩
theorem fo_sight_below_c (n : Nat) (p_s : focus_sight) (id : Int) {r : (List Int)} (hr : fo_sight_below n p_s id = some r) : Con Tryd.prog 63 [.agg [.d (.sl (List.map (eInt .i64) p_s.order)),.d (.mp true (encM (kInt .i64) Node.cs p_s.nodes)),.d (.mp false (encM (kInt .i64) eBool p_s.visible)),.d (.mp false (encM (kInt .i64) eBool p_s.disabled))],aI id] [] (.s (.c (.d (.sl (List.map (eInt .i64) r))))) []:=(fo_sight_below_all n).1 p_s id hr
theorem fo_pressable_1_c (a : Action) {r : Bool} (hr : fo_pressable_1 a = some r) : Con Tryd.prog 106 [.agg [cS a.Event,cS a.Instance,cS a.Handler,.d (.sl (List.map AValue.cs a.Args))]] [] (.s (aB r)) []:=by
 unfold fo_pressable_1 at hr
 refine Con.of_ok 6 0 [.tmp 2] [(0,.s (.agg [cS a.Event,cS a.Instance,cS a.Handler,.d (.sl (List.map AValue.cs a.Args))]))] Tryd.func106 rfl rfl rfl rfl rfl rfl rfl rfl fun w g M ρ _=>(Ok.seq (Ok.region (OkOps.m 0 (triBox (j:=0) (cs:=[cS a.Event,cS a.Instance,cS a.Handler,.d (.sl (List.map AValue.cs a.Args))]) rfl rfl rfl rfl rfl) (OkOps.y (aB false) (OkOps.nil (Ok.seq (Ok.region (OkOps.y (.c (.loc 0 0)) (OkOps.y (aS a.Event) (OkOps.y (aB (a.Event.toList == (ByteArray.mk #[112,114,101,115,115]).toList)) (OkOps.y (aB (a.Event.toList == (ByteArray.mk #[112,114,101,115,115]).toList)) (OkOps.nil (Ok.ret ?_)))))))))))))
 obtain rfl:=Option.some.inj hr
 exact ⟨_,rfl,.inl rfl,trivial⟩
theorem sl_IndexFunc_press_c (p_s : (List Action)) {r : Int} (hr : sl_IndexFunc_press p_s = some r) : Con Tryd.prog 116 [.c (.d (.sl (List.map Action.cs p_s))),.c (.fn 106 [])] [] (.s (aI r)) []:=by
 unfold sl_IndexFunc_press at hr
 refine Con.of_ok 19 0 [.tmp 4] [(0,.s (.c (.d (.sl (List.map Action.cs p_s))))),(1,.s (.c (.fn 106 [])))] Tryd.func116 rfl rfl rfl rfl rfl rfl rfl rfl fun w g M ρ _=>(Ok.seq (Ok.region (OkOps.y (aI 0) (OkOps.nil ?_))))
 obtain ⟨k2,hk2,hr⟩:=jn_some hr
 refine Ok.join (fun (s1 : Unit)=>⟨[],[],0⟩) k2 r (fun s1 hr=>?_) ?_
 rw [hk2] at hr
 refine Ok.seq (Ok.region (OkOps.y (aI (-1)) (OkOps.nil (Ok.ret ?_))))
 obtain rfl:=Option.some.inj hr
 exact ⟨_,rfl,.inl rfl,trivial⟩
 clear hk2
 refine Ok.seq (Ok.region (OkOps.y (.c (.d (.sl (List.map Action.cs p_s)))) (OkOps.q (triLen (enc:=Action.cs) p_s rfl rfl trivial rfl) (OkOps.y (aI 0) (OkOps.nil (Ok.block (Ok.loopK (fun (s3 : Int)=>⟨[(0,.s (.c (.d (.sl (List.map Action.cs p_s))))),(1,.s (.c (.fn 106 []))),(7,.s (aI (p_s.length : Int))),(8,.s (aI s3))],[],0⟩) hr (Conv.mk (tau []) ⟨⟨_,rfl,.inl rfl⟩,⟨_,rfl,.inl rfl⟩,⟨_,rfl,.inl rfl⟩,⟨_,rfl,.inl rfl⟩,trivial⟩ trivial rfl rfl rfl rfl) ?_)))))))
 clear hr
 intro again4 s3 hr
 unfold sl_IndexFunc_press_L1 at hr
 refine Ok.seq (Ok.region (OkOps.y (aB (decide (s3 < (p_s.length : Int)))) (OkOps.nil (Ok.seq ?_))))
 refine Ok.cond (b:=decide (s3 < (p_s.length : Int))) rfl (fun h5=>?_) (fun h5=>?_)
 have hr:=selT h5 hr
 refine Ok.skip (Ok.seq (Ok.block (Ok.seq (Ok.region (OkOps.y (aI s3) (OkOps.y (aI s3) (OkOps.nil (Ok.seq (Ok.region (OkOps.y (.c (.fn 106 [])) (OkOps.y (.c (.d (.sl (List.map Action.cs p_s)))) (OkOps.y (aI s3) ?_))))))))))))
 obtain ⟨x6,hx6,hr⟩:=bind_some hr
 refine OkOps.q (triIdx (enc:=Action.cs) (L:=p_s) (row:=[dS x6.Event,dS x6.Instance,dS x6.Handler,.sl (List.map AValue.cs x6.Args)]) hx6 rfl rfl rfl rfl (fun _=>rfl) trivial rfl) (OkOps.y (.agg [cS x6.Event,cS x6.Instance,cS x6.Handler,.d (.sl (List.map AValue.cs x6.Args))]) ?_)
 obtain ⟨x7,hx7,hr⟩:=bind_some hr
 refine OkOps.q (triCallF (caps:=[]) (tau []) (.s (aB x7)) [] rfl (fo_pressable_1_c _ hx7) rfl ⟨.inl rfl,trivial⟩ trivial entry106 trivial rfl rfl rfl rfl trivial rfl rfl rfl) (OkOps.nil ?_)
 refine Ok.cond (b:=x7) rfl (fun h8=>?_) (fun h8=>?_)
 have hr:=selT h8 hr
 refine Ok.seq (Ok.region (OkOps.y (aI s3) (OkOps.y (aI s3) (OkOps.nil (Ok.ret ?_)))))
 obtain rfl:=Option.some.inj hr
 exact ⟨_,rfl,.inl rfl,trivial⟩
 have hr:=selF h8 hr
 refine Ok.skip (Ok.region (OkOps.y (aI (IntKind.i64.wrap (s3 + 1))) (OkOps.y (aI (IntKind.i64.wrap (s3 + 1))) (OkOps.nil ?_))))
 exact ⟨IntKind.i64.wrap (s3 + 1),hr,(Conv.mk (tau []) ⟨⟨_,rfl,.inl rfl⟩,⟨_,rfl,.inl rfl⟩,⟨_,rfl,.inl rfl⟩,⟨_,rfl,.inl rfl⟩,trivial⟩ trivial rfl rfl rfl rfl)⟩
 have hr:=selF h5 hr
 refine Ok.exit ?_
 exact ⟨(),hr,(Conv.mk (tau []) trivial trivial rfl rfl rfl rfl)⟩
theorem sl_ContainsFunc_press_c (p_s : (List Action)) {r : Bool} (hr : sl_ContainsFunc_press p_s = some r) : Con Tryd.prog 105 [.c (.d (.sl (List.map Action.cs p_s))),.c (.fn 106 [])] [] (.s (aB r)) []:=by
 unfold sl_ContainsFunc_press at hr
 refine Con.of_ok 9 0 [.tmp 4] [(0,.s (.c (.d (.sl (List.map Action.cs p_s))))),(1,.s (.c (.fn 106 [])))] Tryd.func105 rfl rfl rfl rfl rfl rfl rfl rfl fun w g M ρ _=>(Ok.seq (Ok.region (OkOps.y (aB false) (OkOps.nil (Ok.seq (Ok.region (OkOps.y (.c (.d (.sl (List.map Action.cs p_s)))) (OkOps.y (.c (.fn 106 [])) ?_))))))))
 obtain ⟨x1,hx1,hr⟩:=bind_some hr
 refine OkOps.q (triCl (tau []) (.s (aI x1)) [] (sl_IndexFunc_press_c _ hx1) rfl ⟨.inl rfl,.inl rfl,trivial⟩ trivial entry116 trivial) (OkOps.y (aB (decide (x1 ≥ 0))) (OkOps.y (aB (decide (x1 ≥ 0))) (OkOps.nil (Ok.ret ?_))))
 obtain rfl:=Option.some.inj hr
 exact ⟨_,rfl,.inl rfl,trivial⟩
theorem fo_pressable_c (p_n : Node) {r : Bool} (hr : fo_pressable p_n = some r) : Con Tryd.prog 87 [.agg [cI p_n.ID,cI p_n.Parent,cI p_n.Kind,cS p_n.Key,.d (.sl (List.map Attr.cs p_n.Attrs)),.d (.sl (List.map Action.cs p_n.Actions)),.d (.sl (List.map (eInt .i64) p_n.Kids))]] [] (.s (aB r)) []:=by
 unfold fo_pressable at hr
 refine Con.of_ok 25 0 [.tmp 2] [(0,.s (.agg [cI p_n.ID,cI p_n.Parent,cI p_n.Kind,cS p_n.Key,.d (.sl (List.map Attr.cs p_n.Attrs)),.d (.sl (List.map Action.cs p_n.Actions)),.d (.sl (List.map (eInt .i64) p_n.Kids))]))] Tryd.func87 rfl rfl rfl rfl rfl rfl rfl rfl fun w g M ρ _=>(Ok.seq (Ok.region (OkOps.m 0 (triBox (j:=0) (cs:=[cI p_n.ID,cI p_n.Parent,cI p_n.Kind,cS p_n.Key,.d (.sl (List.map Attr.cs p_n.Attrs)),.d (.sl (List.map Action.cs p_n.Actions)),.d (.sl (List.map (eInt .i64) p_n.Kids))]) rfl rfl rfl rfl rfl) (OkOps.y (aB false) (OkOps.nil (Ok.seq (Ok.seq (Ok.region (OkOps.y (.c (.loc 0 2)) (OkOps.y (aI p_n.Kind) (OkOps.nil (Ok.block ?_))))))))))))
 obtain ⟨k2,hk2,hr⟩:=jn_some hr
 refine Ok.join (fun (s1 : Bool)=>⟨[(1,.s (.c (.loc 0 0))),(6,.s (aB s1))],[(0,.blk [cI p_n.ID,cI p_n.Parent,cI p_n.Kind,cS p_n.Key,.d (.sl (List.map Attr.cs p_n.Attrs)),.d (.sl (List.map Action.cs p_n.Actions)),.d (.sl (List.map (eInt .i64) p_n.Kids))] 96)],0⟩) k2 r (fun s1 hr=>?_) ?_
 rw [hk2] at hr
 refine Ok.cond (b:=s1) rfl (fun h3=>?_) (fun h3=>?_)
 have hr:=selT h3 hr
 refine Ok.seq (Ok.region (OkOps.y (aB true) (OkOps.nil (Ok.ret ?_))))
 obtain rfl:=Option.some.inj hr
 exact ⟨_,rfl,.inl rfl,trivial⟩
 have hr:=selF h3 hr
 refine Ok.skip (Ok.seq (Ok.region (OkOps.y (.c (.loc 0 2)) (OkOps.y (aI p_n.Kind) (OkOps.y (aB (p_n.Kind == 4)) (OkOps.y (aB (p_n.Kind == 4)) (OkOps.q (triQG (x:=.c (.loc 0 2)) rfl rfl trivial rfl) (OkOps.q (triQG (x:=aI p_n.Kind) rfl rfl ⟨fun h=>h,trivial⟩ rfl) (OkOps.q (triQG (x:=aB (p_n.Kind == 13)) rfl rfl ⟨fun h=>h,trivial⟩ rfl) ?_)))))))))
 refine OkOps.q (triOr rfl rfl (fun h=>by rw [h];rfl) rfl) ?_
 refine OkOps.y (aB ((p_n.Kind == 4) || (p_n.Kind == 13))) (OkOps.nil (Ok.seq (Ok.region (OkOps.y (aB ((p_n.Kind == 4) || (p_n.Kind == 13))) (OkOps.y (aB (!((p_n.Kind == 4) || (p_n.Kind == 13)))) (OkOps.y (aB (!((p_n.Kind == 4) || (p_n.Kind == 13)))) (OkOps.q (triQG (x:=.c (.loc 0 5)) rfl rfl trivial rfl) (OkOps.q (triQG (x:=.c (.d (.sl (List.map Action.cs p_n.Actions)))) rfl rfl ⟨fun h=>h,trivial⟩ rfl) ?_))))))))
 obtain ⟨x4,hx4,hr⟩:=bind_some hr
 refine OkOps.q (triCallG (x:=aB x4) (fun hg=>sl_ContainsFunc_press_c _ (gO_t hx4 hg)) rfl rfl ⟨.inl rfl,.inl rfl,trivial⟩ ⟨fun h=>h,trivial⟩ entry105 rfl rfl rfl) (OkOps.q (triAnd rfl rfl (fun h=>h) rfl) (OkOps.y (aB ((!((p_n.Kind == 4) || (p_n.Kind == 13))) && x4)) (OkOps.nil (Ok.ret ?_))))
 obtain rfl:=Option.some.inj hr
 exact ⟨_,rfl,.inl rfl,trivial⟩
 clear hk2
 refine Ok.seq (Ok.region (OkOps.y (aB (p_n.Kind == 3)) (OkOps.y (aB (p_n.Kind == 3)) (OkOps.nil ?_))))
 refine Ok.cond (b:=p_n.Kind == 3) rfl (fun h5=>?_) (fun h5=>?_)
 have hr:=selT h5 hr
 refine Ok.skip ?_
 exact ⟨p_n.Kind == 3,hr,(Conv.mk (tau []) ⟨⟨_,rfl,.inl rfl⟩,⟨_,rfl,.inl rfl⟩,trivial⟩ ⟨rfl,trivial⟩ rfl rfl rfl rfl)⟩
 have hr:=selF h5 hr
 refine Ok.seq (Ok.region (OkOps.y (aB (p_n.Kind == 6)) (OkOps.y (aB (p_n.Kind == 6)) (OkOps.nil ?_))))
 refine Ok.cond (b:=p_n.Kind == 6) rfl (fun h6=>?_) (fun h6=>?_)
 have hr:=selT h6 hr
 refine Ok.skip ?_
 exact ⟨p_n.Kind == 6,hr,(Conv.mk (tau []) ⟨⟨_,rfl,.inl rfl⟩,⟨_,rfl,.inl rfl⟩,trivial⟩ ⟨rfl,trivial⟩ rfl rfl rfl rfl)⟩
 have hr:=selF h6 hr
 refine Ok.region (OkOps.y (aB (p_n.Kind == 7)) (OkOps.y (aB (p_n.Kind == 7)) (OkOps.nil ?_)))
 exact ⟨p_n.Kind == 7,hr,(Conv.mk (tau []) ⟨⟨_,rfl,.inl rfl⟩,⟨_,rfl,.inl rfl⟩,trivial⟩ ⟨rfl,trivial⟩ rfl rfl rfl rfl)⟩
theorem fo_sight_focusable_c (p_s : focus_sight) (id : Int) {r : Bool} (hr : fo_sight_focusable p_s id = some r) : Con Tryd.prog 64 [.agg [.d (.sl (List.map (eInt .i64) p_s.order)),.d (.mp true (encM (kInt .i64) Node.cs p_s.nodes)),.d (.mp false (encM (kInt .i64) eBool p_s.visible)),.d (.mp false (encM (kInt .i64) eBool p_s.disabled))],aI id] [] (.s (aB r)) []:=by
 unfold fo_sight_focusable at hr
 refine Con.of_ok 38 0 [.tmp 4] [(0,.s (.agg [.d (.sl (List.map (eInt .i64) p_s.order)),.d (.mp true (encM (kInt .i64) Node.cs p_s.nodes)),.d (.mp false (encM (kInt .i64) eBool p_s.visible)),.d (.mp false (encM (kInt .i64) eBool p_s.disabled))])),(1,.s (aI id))] Tryd.func64 rfl rfl rfl rfl rfl rfl rfl rfl fun w g M ρ _=>(Ok.seq (Ok.region (OkOps.m 0 (triBox (j:=0) (cs:=[.d (.sl (List.map (eInt .i64) p_s.order)),.d (.mp true (encM (kInt .i64) Node.cs p_s.nodes)),.d (.mp false (encM (kInt .i64) eBool p_s.visible)),.d (.mp false (encM (kInt .i64) eBool p_s.disabled))]) rfl rfl rfl rfl rfl) (OkOps.y (aB false) (OkOps.nil (Ok.seq (Ok.region (OkOps.y (.c (.loc 0 1)) (OkOps.y (.c (.d (.mp true (encM (kInt .i64) Node.cs p_s.nodes)))) (OkOps.y (aI id) ?_))))))))))
 obtain ⟨x1,hx1,hr⟩:=bind_some hr
 refine OkOps.q (triLook (agg:=true) (ek:=(kInt .i64)) (ev:=Node.cs) (L:=p_s.nodes) (r:=.agg [cI x1.1.ID,cI x1.1.Parent,cI x1.1.Kind,cS x1.1.Key,.d (.sl (List.map Attr.cs x1.1.Attrs)),.d (.sl (List.map Action.cs x1.1.Actions)),.d (.sl (List.map (eInt .i64) x1.1.Kids))]) hx1 rfl rfl rfl (keyInt Tryd.underlying3) rfl rfl (fun h=>by cases h) rfl trivial rfl) ?_
 refine OkOps.m 0 (triAlloc (j:=1) (cs:=[cI 0,cI 0,cI 0,cS ByteArray.empty,.d (.v (.slice none 0 0)),.d (.v (.slice none 0 0)),.d (.v (.slice none 0 0))]) rfl rfl rfl rfl) (OkOps.w (triStore (cs':=[cI x1.1.ID,cI x1.1.Parent,cI x1.1.Kind,cS x1.1.Key,.d (.sl (List.map Attr.cs x1.1.Attrs)),.d (.sl (List.map Action.cs x1.1.Actions)),.d (.sl (List.map (eInt .i64) x1.1.Kids))]) rfl rfl rfl rfl rfl rfl rfl rfl rfl) (OkOps.nil (Ok.seq (Ok.seq (Ok.region (OkOps.y (.c (.loc 0 2)) (OkOps.y (.c (.d (.mp false (encM (kInt .i64) eBool p_s.visible)))) (OkOps.y (aI id) ?_))))))))
 obtain ⟨x2,hx2,hr⟩:=bind_some hr
 refine OkOps.q (triLook (agg:=false) (ek:=(kInt .i64)) (ev:=eBool) (L:=p_s.visible) (r:=aB x2.1) hx2 rfl rfl rfl (keyInt Tryd.underlying3) rfl rfl (fun _ _=>rfl) rfl trivial rfl) (OkOps.y (aB (!x2.1)) (OkOps.y (aB (!x2.1)) (OkOps.q (triQG (x:=.c (.loc 0 3)) rfl rfl trivial rfl) (OkOps.q (triQG (x:=.c (.d (.mp false (encM (kInt .i64) eBool p_s.disabled)))) rfl rfl ⟨fun h=>h,trivial⟩ rfl) (OkOps.q (triQG (x:=aI id) rfl rfl trivial rfl) ?_)))))
 obtain ⟨x3,hx3,hr⟩:=bind_some hr
 refine OkOps.q (triLookG (agg:=false) (ek:=(kInt .i64)) (ev:=eBool) (L:=p_s.disabled) (r:=aB x3.1) (gO_t hx3) rfl rfl rfl rfl (keyInt Tryd.underlying3) rfl rfl (fun _ _=>rfl) rfl ⟨fun h=>h,⟨fun h=>h,trivial⟩⟩ rfl) ?_
 refine OkOps.q (triOr rfl rfl (fun h=>by rw [h];rfl) rfl) ?_
 refine OkOps.nil ?_
 refine Ok.cond (b:=(!x2.1) || x3.1) rfl (fun h4=>?_) (fun h4=>?_)
 have hr:=selT h4 hr
 refine Ok.seq (Ok.region (OkOps.y (aB false) (OkOps.nil (Ok.ret ?_))))
 obtain rfl:=Option.some.inj hr
 exact ⟨_,rfl,.inl rfl,trivial⟩
 have hr:=selF h4 hr
 refine Ok.skip (Ok.seq (Ok.region (OkOps.y (.agg [cI x1.1.ID,cI x1.1.Parent,cI x1.1.Kind,cS x1.1.Key,.d (.sl (List.map Attr.cs x1.1.Attrs)),.d (.sl (List.map Action.cs x1.1.Actions)),.d (.sl (List.map (eInt .i64) x1.1.Kids))]) ?_)))
 obtain ⟨x5,hx5,hr⟩:=bind_some hr
 refine OkOps.q (triCl (tau []) (.s (aB x5)) [] (fo_pressable_c _ hx5) rfl ⟨.inl rfl,trivial⟩ trivial entry87 trivial) (OkOps.y (aB x5) (OkOps.q (triQG (x:=.c (.loc 1 2)) rfl rfl trivial rfl) (OkOps.q (triQG (x:=aI x1.1.Kind) rfl rfl ⟨fun h=>h,trivial⟩ rfl) (OkOps.q (triQG (x:=aB (x1.1.Kind == 4)) rfl rfl ⟨fun h=>h,trivial⟩ rfl) ?_))))
 refine OkOps.q (triOr rfl rfl (fun h=>by rw [h];rfl) rfl) ?_
 refine OkOps.y (aB (x5 || (x1.1.Kind == 4))) (OkOps.q (triQG (x:=.c (.loc 1 2)) rfl rfl trivial rfl) (OkOps.q (triQG (x:=aI x1.1.Kind) rfl rfl ⟨fun h=>h,trivial⟩ rfl) (OkOps.q (triQG (x:=aB (x1.1.Kind == 13)) rfl rfl ⟨fun h=>h,trivial⟩ rfl) ?_)))
 refine OkOps.q (triOr rfl rfl (fun h=>by rw [h];rfl) rfl) ?_
 refine OkOps.y (aB ((x5 || (x1.1.Kind == 4)) || (x1.1.Kind == 13))) (OkOps.q (triQG (x:=.c (.loc 1 4)) rfl rfl trivial rfl) (OkOps.q (triQG (x:=.c (.d (.sl (List.map Attr.cs x1.1.Attrs)))) rfl rfl ⟨fun h=>h,trivial⟩ rfl) ?_))
 obtain ⟨x6,hx6,hr⟩:=bind_some hr
 refine OkOps.q (triCallG (x:=aB x6) (fun hg=>vw_Flag_c _ _ (gO_t hx6 hg)) rfl rfl ⟨.inl rfl,.inl rfl,trivial⟩ ⟨fun h=>h,trivial⟩ entry62 rfl rfl rfl) ?_
 refine OkOps.q (triOr rfl rfl (fun h=>by rw [h];rfl) rfl) ?_
 refine OkOps.y (aB (((x5 || (x1.1.Kind == 4)) || (x1.1.Kind == 13)) || x6)) (OkOps.nil (Ok.ret ?_))
 obtain rfl:=Option.some.inj hr
 exact ⟨_,rfl,.inl rfl,trivial⟩
theorem fo_Candidates_c (t : Tree) (st : (List Styled)) {r : (List Int)} (hr : fo_Candidates t st = some r) : Con Tryd.prog 31 [.agg [cI t.Root,cI t.Next,.d (.sl (List.map Node.cs t.Nodes))],.c (.d (.sl (List.map Styled.cs st)))] [] (.s (.c (.own 2000))) [(2000,.vec 1 (List.map (eInt .i64) r))]:=by
 unfold fo_Candidates at hr
 refine Con.of_ok 34 0 [.tmp 4] [(0,.s (.agg [cI t.Root,cI t.Next,.d (.sl (List.map Node.cs t.Nodes))])),(1,.s (.c (.d (.sl (List.map Styled.cs st)))))] Tryd.func31 rfl rfl rfl rfl rfl rfl rfl rfl fun w g M ρ _=>(Ok.seq (Ok.region (OkOps.m 0 (triBox (j:=0) (cs:=[cI t.Root,cI t.Next,.d (.sl (List.map Node.cs t.Nodes))]) rfl rfl rfl rfl rfl) (OkOps.y (.c (.d (.v (.slice none 0 0)))) (OkOps.nil (Ok.seq (Ok.region (OkOps.y (.agg [cI t.Root,cI t.Next,.d (.sl (List.map Node.cs t.Nodes))]) (OkOps.y (.c (.d (.sl (List.map Styled.cs st)))) ?_)))))))))
 obtain ⟨x1,hx1,hr⟩:=bind_some hr
 refine OkOps.q (triCl (tau []) (.s (.agg [.d (.sl (List.map (eInt .i64) x1.order)),.d (.mp true (encM (kInt .i64) Node.cs x1.nodes)),.d (.mp false (encM (kInt .i64) eBool x1.visible)),.d (.mp false (encM (kInt .i64) eBool x1.disabled))])) [] (fo_look_c _ _ hx1) rfl ⟨.inl rfl,.inl rfl,trivial⟩ trivial entry46 trivial) (OkOps.m 0 (triAlloc (j:=1) (cs:=[.d (.v (.slice none 0 0)),.d (.v (.map none)),.d (.v (.map none)),.d (.v (.map none))]) rfl rfl rfl rfl) (OkOps.w (triStore (cs':=[.d (.sl (List.map (eInt .i64) x1.order)),.d (.mp true (encM (kInt .i64) Node.cs x1.nodes)),.d (.mp false (encM (kInt .i64) eBool x1.visible)),.d (.mp false (encM (kInt .i64) eBool x1.disabled))]) rfl rfl rfl rfl rfl rfl rfl rfl rfl) (OkOps.nil (Ok.seq (Ok.seq (Ok.region (OkOps.y (.c (.loc 1 0)) (OkOps.y (.c (.d (.sl (List.map (eInt .i64) x1.order)))) (OkOps.q (triLen (enc:=(eInt .i64)) x1.order rfl rfl trivial rfl) (OkOps.y (aB ((x1.order.length : Int) == 0)) (OkOps.nil ?_)))))))))))
 refine Ok.cond (b:=(x1.order.length : Int) == 0) rfl (fun h2=>?_) (fun h2=>?_)
 have hr:=selT h2 hr
 refine Ok.seq (Ok.region (OkOps.y (.c (.d (.v (.slice none 0 0)))) (OkOps.nil (Ok.conv (Conv.nilV (enc:=(eInt .i64)) 4 2 1 0 rfl rfl) (Ok.conv (T:=⟨[(4,.s (.c (.own 2000)))],[(2000,.vec 1 (List.map (eInt .i64) ([] : (List Int))))],0⟩) (Conv.mk (tau [(2000,2)]) ⟨⟨_,rfl,.inl rfl⟩,trivial⟩ ⟨rfl,trivial⟩ rfl rfl rfl rfl) (Ok.ret ?_))))))
 obtain rfl:=Option.some.inj hr
 exact ⟨_,rfl,.inl rfl,⟨rfl,trivial⟩⟩
 have hr:=selF h2 hr
 refine Ok.skip (Ok.seq (Ok.region (OkOps.y (.c (.d (.v (.slice none 0 0)))) (OkOps.conv (Conv.nilV (enc:=(eInt .i64)) 6 3 1 0 rfl rfl) (OkOps.nil ?_)))))
 obtain ⟨k4,hk4,hr⟩:=jn_some hr
 refine Ok.join (fun (s3 : (List Int))=>⟨[(6,.s (.c (.own 1006)))],[(1006,.vec 1 (List.map (eInt .i64) s3))],0⟩) k4 r (fun s3 hr=>?_) ?_
 rw [hk4] at hr
 refine Ok.seq (Ok.region (OkOps.y (.c (.own 1006)) (OkOps.y (.c (.own 1006)) (OkOps.nil (Ok.conv (T:=⟨[(4,.s (.c (.own 2000)))],[(2000,.vec 1 (List.map (eInt .i64) s3))],0⟩) (Conv.mk (tau [(2000,1006)]) ⟨⟨_,rfl,.inl rfl⟩,trivial⟩ ⟨rfl,trivial⟩ rfl rfl rfl rfl) (Ok.ret ?_))))))
 obtain rfl:=Option.some.inj hr
 exact ⟨_,rfl,.inl rfl,⟨rfl,trivial⟩⟩
 clear hk4
 refine Ok.seq (Ok.regionD (by kernel_rfl) (OkD.x (.agg [.d (.sl (List.map (eInt .i64) x1.order)),.d (.mp true (encM (kInt .i64) Node.cs x1.nodes)),.d (.mp false (encM (kInt .i64) eBool x1.visible)),.d (.mp false (encM (kInt .i64) eBool x1.disabled))]) rfl trivial rfl (OkD.x (.agg [.d (.sl (List.map (eInt .i64) x1.order)),.d (.mp true (encM (kInt .i64) Node.cs x1.nodes)),.d (.mp false (encM (kInt .i64) eBool x1.visible)),.d (.mp false (encM (kInt .i64) eBool x1.disabled))]) rfl trivial rfl ?_)))
 obtain ⟨x5,hx5,hr⟩:=bind_some hr
 refine OkD.q (triCl (tau []) (.s (aI x5)) [] (fo_sight_scope_c _ hx5) rfl ⟨.inl rfl,trivial⟩ trivial entry47 trivial) ?_
 obtain ⟨x6,hx6,hr⟩:=bind_some hr
 refine OkD.q (triCl (tau []) (.s (.c (.d (.sl (List.map (eInt .i64) x6))))) [] (fo_sight_below_c _ _ _ hx6) rfl ⟨.inl rfl,.inl rfl,trivial⟩ trivial entry63 trivial) (OkD.q (triLen (enc:=(eInt .i64)) x6 rfl rfl trivial rfl) (OkD.x (aI 0) rfl trivial rfl (OkD.nil (by kernel_rfl) (Ok.block (Ok.loopK (fun (s7 : (List Int) × Int)=>⟨[(5,.s (.c (.loc 1 0))),(6,.s (.c (.own 1009))),(19,.s (.c (.d (.sl (List.map (eInt .i64) x6))))),(20,.s (aI (x6.length : Int))),(21,.s (aI s7.2))],[(1,.blk [.d (.sl (List.map (eInt .i64) x1.order)),.d (.mp true (encM (kInt .i64) Node.cs x1.nodes)),.d (.mp false (encM (kInt .i64) eBool x1.visible)),.d (.mp false (encM (kInt .i64) eBool x1.disabled))] 109),(1009,.vec 1 (List.map (eInt .i64) s7.1))],0⟩) hr (Conv.mk (tau [(1009,3)]) ⟨⟨_,rfl,.inl rfl⟩,⟨_,rfl,.inl rfl⟩,⟨_,rfl,.inl rfl⟩,⟨_,rfl,.inl rfl⟩,⟨_,rfl,.inl rfl⟩,trivial⟩ ⟨rfl,rfl,trivial⟩ rfl rfl rfl rfl) ?_)))))
 clear hr
 intro again8 s7 hr
 unfold fo_Candidates_L1 at hr
 refine Ok.seq (Ok.region (OkOps.y (aB (decide (s7.2 < (x6.length : Int)))) (OkOps.nil (Ok.seq ?_))))
 refine Ok.cond (b:=decide (s7.2 < (x6.length : Int))) rfl (fun h9=>?_) (fun h9=>?_)
 have hr:=selT h9 hr
 refine Ok.skip ?_
 obtain ⟨k11,hk11,hr⟩:=jn_some hr
 refine Ok.join (fun (s10 : (List Int))=>⟨[(5,.s (.c (.loc 1 0))),(6,.s (.c (.own 1012))),(19,.s (.c (.d (.sl (List.map (eInt .i64) x6))))),(20,.s (aI (x6.length : Int))),(21,.s (aI s7.2))],[(1,.blk [.d (.sl (List.map (eInt .i64) x1.order)),.d (.mp true (encM (kInt .i64) Node.cs x1.nodes)),.d (.mp false (encM (kInt .i64) eBool x1.visible)),.d (.mp false (encM (kInt .i64) eBool x1.disabled))] 109),(1012,.vec 1 (List.map (eInt .i64) s10))],0⟩) k11 r (fun s10 hr=>?_) ?_
 rw [hk11] at hr
 refine Ok.region (OkOps.y (aI (IntKind.i64.wrap (s7.2 + 1))) (OkOps.y (aI (IntKind.i64.wrap (s7.2 + 1))) (OkOps.nil ?_)))
 exact ⟨(s10,IntKind.i64.wrap (s7.2 + 1)),hr,(Conv.mk (tau [(1009,1012)]) ⟨⟨_,rfl,.inl rfl⟩,⟨_,rfl,.inl rfl⟩,⟨_,rfl,.inl rfl⟩,⟨_,rfl,.inl rfl⟩,⟨_,rfl,.inl rfl⟩,trivial⟩ ⟨rfl,rfl,trivial⟩ rfl rfl rfl rfl)⟩
 clear hk11
 refine Ok.block (Ok.seq (Ok.region ?_))
 obtain ⟨x12,hx12,hr⟩:=bind_some hr
 refine OkOps.q (triIdx (enc:=(eInt .i64)) (L:=x6) (row:=[dI x12]) hx12 rfl rfl rfl rfl (fun _=>rfl) trivial rfl) (OkOps.y (aI x12) (OkOps.y (aI x12) (OkOps.nil (Ok.seq (Ok.region (OkOps.y (.agg [.d (.sl (List.map (eInt .i64) x1.order)),.d (.mp true (encM (kInt .i64) Node.cs x1.nodes)),.d (.mp false (encM (kInt .i64) eBool x1.visible)),.d (.mp false (encM (kInt .i64) eBool x1.disabled))]) (OkOps.y (aI x12) ?_)))))))
 obtain ⟨x13,hx13,hr⟩:=bind_some hr
 refine OkOps.q (triCl (tau []) (.s (aB x13)) [] (fo_sight_focusable_c _ _ hx13) rfl ⟨.inl rfl,.inl rfl,trivial⟩ trivial entry64 trivial) (OkOps.nil ?_)
 refine Ok.cond (b:=x13) rfl (fun h14=>?_) (fun h14=>?_)
 have hr:=selT h14 hr
 refine Ok.region (OkOps.y (.c (.own 1009)) (OkOps.y (aI x12) (OkOps.m 0 (triBST (sz:=1) (enc:=(eInt .i64)) (j:=4) ([x12]) rfl rfl rfl rfl rfl rfl rfl rfl (fun _=>rfl) trivial rfl rfl) ?_)))
 obtain ⟨x15,hx15,hr⟩:=bind_some hr
 refine OkOps.m2 0 (triAppV (enc:=(eInt .i64)) (L:=s7.1) (X:=[x12]) (j:=1009) (j':=5) hx15 rfl rfl rfl rfl rfl rfl (fun _=>rfl) (fun _=>rfl) trivial rfl rfl) (OkOps.y (.c (.own 5)) (OkOps.nil ?_))
 exact ⟨x15,hr,(Conv.mk (tau [(1012,5)]) ⟨⟨_,rfl,.inl rfl⟩,⟨_,rfl,.inl rfl⟩,⟨_,rfl,.inl rfl⟩,⟨_,rfl,.inl rfl⟩,⟨_,rfl,.inl rfl⟩,trivial⟩ ⟨rfl,rfl,trivial⟩ rfl rfl rfl rfl)⟩
 have hr:=selF h14 hr
 refine Ok.skip ?_
 exact ⟨s7.1,hr,(Conv.mk (tau [(1012,1009)]) ⟨⟨_,rfl,.inl rfl⟩,⟨_,rfl,.inl rfl⟩,⟨_,rfl,.inl rfl⟩,⟨_,rfl,.inl rfl⟩,⟨_,rfl,.inl rfl⟩,trivial⟩ ⟨rfl,rfl,trivial⟩ rfl rfl rfl rfl)⟩
 have hr:=selF h9 hr
 refine Ok.exit ?_
 exact ⟨s7.1,hr,(Conv.mk (tau [(1006,1009)]) ⟨⟨_,rfl,.inl rfl⟩,trivial⟩ ⟨rfl,trivial⟩ rfl rfl rfl rfl)⟩
end Go.Proofs.YtfoigppmcelgfaaDoor
end
section
set_option maxRecDepth 100000
namespace Go.Proofs.YtfoigppmcelgfaaDoor
open Go Go.E2
theorem cmp_isNaN_int_c (p_x : Int) {r : Bool} (hr : cmp_isNaN_int p_x = some r) : Con Tryd.prog 68 [aI p_x] [] (.s (aB r)) []:=by
 unfold cmp_isNaN_int at hr
 refine Con.of_ok 6 0 [.tmp 2] [(0,.s (aI p_x))] Tryd.func68 rfl rfl rfl rfl rfl rfl rfl rfl fun w g M ρ _=>(Ok.seq (Ok.region (OkOps.y (aB false) (OkOps.nil (Ok.seq (Ok.region (OkOps.y (aI p_x) (OkOps.y (aI p_x) (OkOps.y (aB (p_x != p_x)) (OkOps.y (aB (p_x != p_x)) (OkOps.nil (Ok.ret ?_))))))))))))
 obtain rfl:=Option.some.inj hr
 exact ⟨_,rfl,.inl rfl,trivial⟩
theorem cmp_Compare_int_c (p_x : Int) (y : Int) {r : Int} (hr : cmp_Compare_int p_x y = some r) : Con Tryd.prog 37 [aI p_x,aI y] [] (.s (aI r)) []:=by
 unfold cmp_Compare_int at hr
 refine Con.of_ok 20 0 [.tmp 4] [(0,.s (aI p_x)),(1,.s (aI y))] Tryd.func37 rfl rfl rfl rfl rfl rfl rfl rfl fun w g M ρ _=>(Ok.seq (Ok.region (OkOps.y (aI 0) (OkOps.nil (Ok.seq (Ok.region (OkOps.y (aI p_x) ?_)))))))
 obtain ⟨x1,hx1,hr⟩:=bind_some hr
 refine OkOps.q (triCl (tau []) (.s (aB x1)) [] (cmp_isNaN_int_c _ hx1) rfl ⟨.inl rfl,trivial⟩ trivial entry68 trivial) (OkOps.y (aB x1) (OkOps.nil (Ok.seq (Ok.region (OkOps.y (aI y) ?_)))))
 obtain ⟨x2,hx2,hr⟩:=bind_some hr
 refine OkOps.q (triCl (tau []) (.s (aB x2)) [] (cmp_isNaN_int_c _ hx2) rfl ⟨.inl rfl,trivial⟩ trivial entry68 trivial) (OkOps.y (aB x2) (OkOps.nil (Ok.seq (Ok.seq (Ok.region (OkOps.y (aB x1) (OkOps.nil ?_)))))))
 refine Ok.cond (b:=x1) rfl (fun h3=>?_) (fun h3=>?_)
 have hr:=selT h3 hr
 refine Ok.seq (Ok.seq (Ok.region (OkOps.y (aB x2) (OkOps.nil ?_))))
 refine Ok.cond (b:=x2) rfl (fun h4=>?_) (fun h4=>?_)
 have hr:=selT h4 hr
 refine Ok.seq (Ok.region (OkOps.y (aI 0) (OkOps.nil (Ok.ret ?_))))
 obtain rfl:=Option.some.inj hr
 exact ⟨_,rfl,.inl rfl,trivial⟩
 have hr:=selF h4 hr
 refine Ok.skip (Ok.seq (Ok.region (OkOps.y (aI (-1)) (OkOps.nil (Ok.ret ?_)))))
 obtain rfl:=Option.some.inj hr
 exact ⟨_,rfl,.inl rfl,trivial⟩
 have hr:=selF h3 hr
 refine Ok.skip (Ok.seq (Ok.seq (Ok.region (OkOps.y (aB x2) (OkOps.nil ?_)))))
 refine Ok.cond (b:=x2) rfl (fun h5=>?_) (fun h5=>?_)
 have hr:=selT h5 hr
 refine Ok.seq (Ok.region (OkOps.y (aI 1) (OkOps.nil (Ok.ret ?_))))
 obtain rfl:=Option.some.inj hr
 exact ⟨_,rfl,.inl rfl,trivial⟩
 have hr:=selF h5 hr
 refine Ok.skip (Ok.seq (Ok.seq (Ok.region (OkOps.y (aI p_x) (OkOps.y (aI y) (OkOps.y (aB (decide (p_x < y))) (OkOps.nil ?_)))))))
 refine Ok.cond (b:=decide (p_x < y)) rfl (fun h6=>?_) (fun h6=>?_)
 have hr:=selT h6 hr
 refine Ok.seq (Ok.region (OkOps.y (aI (-1)) (OkOps.nil (Ok.ret ?_))))
 obtain rfl:=Option.some.inj hr
 exact ⟨_,rfl,.inl rfl,trivial⟩
 have hr:=selF h6 hr
 refine Ok.skip (Ok.seq (Ok.seq (Ok.region (OkOps.y (aI p_x) (OkOps.y (aI y) (OkOps.y (aB (decide (p_x > y))) (OkOps.nil ?_)))))))
 refine Ok.cond (b:=decide (p_x > y)) rfl (fun h7=>?_) (fun h7=>?_)
 have hr:=selT h7 hr
 refine Ok.seq (Ok.region (OkOps.y (aI 1) (OkOps.nil (Ok.ret ?_))))
 obtain rfl:=Option.some.inj hr
 exact ⟨_,rfl,.inl rfl,trivial⟩
 have hr:=selF h7 hr
 refine Ok.skip (Ok.seq (Ok.region (OkOps.y (aI 0) (OkOps.nil (Ok.ret ?_)))))
 obtain rfl:=Option.some.inj hr
 exact ⟨_,rfl,.inl rfl,trivial⟩
theorem fo_Order_1_c (id : Int) (c0 : Tree) {r : Int} (hr : fo_Order_1 id c0 = some r) : Con Tryd.prog 32 [aI id,.c (.loc 0 0)] [(0,.blk [cI c0.Root,cI c0.Next,.d (.sl (List.map Node.cs c0.Nodes))] 46)] (.s (aI r)) [(0,.blk [cI c0.Root,cI c0.Next,.d (.sl (List.map Node.cs c0.Nodes))] 46)]:=by
 unfold fo_Order_1 at hr
 refine Con.of_ok 16 0 [.tmp 3] [(0,.s (aI id)),(1,.s (.c (.loc 0 0)))] Tryd.func32 rfl rfl rfl rfl rfl rfl rfl rfl fun w g M ρ _=>(Ok.seq (Ok.region (OkOps.y (aI 0) (OkOps.nil (Ok.seq (Ok.region (OkOps.y (.agg [cI c0.Root,cI c0.Next,.d (.sl (List.map Node.cs c0.Nodes))]) (OkOps.y (aI id) ?_))))))))
 obtain ⟨x1,hx1,hr⟩:=bind_some hr
 refine OkOps.q (triCl (tau []) (.tup [.agg [cI x1.1.ID,cI x1.1.Parent,cI x1.1.Kind,cS x1.1.Key,.d (.sl (List.map Attr.cs x1.1.Attrs)),.d (.sl (List.map Action.cs x1.1.Actions)),.d (.sl (List.map (eInt .i64) x1.1.Kids))],aB x1.2]) [] (vw_Find_c _ _ hx1) rfl ⟨.inl rfl,.inl rfl,trivial⟩ trivial entry33 trivial) (OkOps.q (triMv (v:=.tup [.agg [cI x1.1.ID,cI x1.1.Parent,cI x1.1.Kind,cS x1.1.Key,.d (.sl (List.map Attr.cs x1.1.Attrs)),.d (.sl (List.map Action.cs x1.1.Actions)),.d (.sl (List.map (eInt .i64) x1.1.Kids))],aB x1.2]) rfl rfl) (OkOps.y (.agg [cI x1.1.ID,cI x1.1.Parent,cI x1.1.Kind,cS x1.1.Key,.d (.sl (List.map Attr.cs x1.1.Attrs)),.d (.sl (List.map Action.cs x1.1.Actions)),.d (.sl (List.map (eInt .i64) x1.1.Kids))]) (OkOps.y (aB x1.2) (OkOps.m 0 (triAlloc (j:=1) (cs:=[cI 0,cI 0,cI 0,cS ByteArray.empty,.d (.v (.slice none 0 0)),.d (.v (.slice none 0 0)),.d (.v (.slice none 0 0))]) rfl rfl rfl rfl) (OkOps.w (triStore (cs':=[cI x1.1.ID,cI x1.1.Parent,cI x1.1.Kind,cS x1.1.Key,.d (.sl (List.map Attr.cs x1.1.Attrs)),.d (.sl (List.map Action.cs x1.1.Actions)),.d (.sl (List.map (eInt .i64) x1.1.Kids))]) rfl rfl rfl rfl rfl rfl rfl rfl rfl) (OkOps.y (aB x1.2) (OkOps.nil (Ok.seq (Ok.region (OkOps.y (.c (.loc 1 4)) (OkOps.y (.c (.d (.sl (List.map Attr.cs x1.1.Attrs)))) ?_)))))))))))
 obtain ⟨x2,hx2,hr⟩:=bind_some hr
 refine OkOps.q (triCl (tau []) (.s (aI x2)) [] (vw_Number_c _ _ _ hx2) rfl ⟨.inl rfl,.inl rfl,.inl rfl,trivial⟩ trivial entry34 trivial) (OkOps.y (aI (mxI x2 0)) (OkOps.y (aI (mxI x2 0)) (OkOps.nil (Ok.ret ?_))))
 obtain rfl:=Option.some.inj hr
 exact ⟨_,rfl,.inl rfl,⟨rfl,trivial⟩⟩
theorem fo_Order_2_c (a : Int) (b : Int) (c1 : Tree) {r : Int} (hr : fo_Order_2 a b c1 = some r) : Con Tryd.prog 36 [aI a,aI b,.c (.loc 0 0)] [(0,.blk [.fn 32 [(1,0)]] 43),(1,.blk [cI c1.Root,cI c1.Next,.d (.sl (List.map Node.cs c1.Nodes))] 46)] (.s (aI r)) [(0,.blk [.fn 32 [(1,0)]] 43),(1,.blk [cI c1.Root,cI c1.Next,.d (.sl (List.map Node.cs c1.Nodes))] 46)]:=by
 unfold fo_Order_2 at hr
 refine Con.of_ok 26 0 [.tmp 5] [(0,.s (aI a)),(1,.s (aI b)),(2,.s (.c (.loc 0 0)))] Tryd.func36 rfl rfl rfl rfl rfl rfl rfl rfl fun w g M ρ _=>(Ok.seq (Ok.region (OkOps.y (aI 0) (OkOps.nil (Ok.seq (Ok.regionD (by kernel_rfl) (OkD.x (.c (.fn 32 [(1,0)])) rfl trivial rfl (OkD.x (aI a) rfl trivial rfl ?_))))))))
 obtain ⟨x1,hx1,hr⟩:=bind_some hr
 refine OkD.q (TriL.keep (triCallF (caps:=[(1,0)]) (tau [(0,1)]) (.s (aI x1)) [(1,.blk [cI c1.Root,cI c1.Next,.d (.sl (List.map Node.cs c1.Nodes))] 46)] rfl (fo_Order_1_c _ _ hx1) rfl ⟨.inl rfl,.inl rfl,trivial⟩ trivial entry32 ⟨rfl,trivial⟩ rfl rfl rfl rfl trivial rfl rfl rfl) ⟨rfl,trivial⟩) (OkD.x (.c (.fn 32 [(1,0)])) rfl trivial rfl (OkD.x (aI b) rfl trivial rfl ?_))
 obtain ⟨x2,hx2,hr⟩:=bind_some hr
 refine OkD.q (TriL.keep (triCallF (caps:=[(1,0)]) (tau [(0,1)]) (.s (aI x2)) [(1,.blk [cI c1.Root,cI c1.Next,.d (.sl (List.map Node.cs c1.Nodes))] 46)] rfl (fo_Order_1_c _ _ hx2) rfl ⟨.inl rfl,.inl rfl,trivial⟩ trivial entry32 ⟨rfl,trivial⟩ rfl rfl rfl rfl trivial rfl rfl rfl) ⟨rfl,trivial⟩) (OkD.x (aI x1) rfl trivial rfl (OkD.x (aI x2) rfl trivial rfl (OkD.nil (by kernel_rfl) (Ok.seq (Ok.seq (Ok.region (OkOps.y (aI x1) (OkOps.y (aB (x1 == 0)) (OkOps.y (aB (x1 == 0)) (OkOps.q (triQG (x:=aI x2) rfl rfl trivial rfl) (OkOps.q (triQG (x:=aB (x2 == 0)) rfl rfl ⟨fun h=>h,trivial⟩ rfl) ?_)))))))))))
 refine OkOps.q (triOr rfl rfl (fun h=>by rw [h];rfl) rfl) ?_
 refine OkOps.nil ?_
 refine Ok.cond (b:=(x1 == 0) || (x2 == 0)) rfl (fun h3=>?_) (fun h3=>?_)
 have hr:=selT h3 hr
 refine Ok.seq (Ok.region (OkOps.y (aI x2) (OkOps.y (aI x1) ?_)))
 obtain ⟨x4,hx4,hr⟩:=bind_some hr
 refine OkOps.q (triCl (tau []) (.s (aI x4)) [] (cmp_Compare_int_c _ _ hx4) rfl ⟨.inl rfl,.inl rfl,trivial⟩ trivial entry37 trivial) (OkOps.y (aI x4) (OkOps.nil (Ok.ret ?_)))
 obtain rfl:=Option.some.inj hr
 exact ⟨_,rfl,.inl rfl,⟨rfl,rfl,trivial⟩⟩
 have hr:=selF h3 hr
 refine Ok.skip (Ok.seq (Ok.region (OkOps.y (aI x1) (OkOps.y (aI x2) ?_))))
 obtain ⟨x5,hx5,hr⟩:=bind_some hr
 refine OkOps.q (triCl (tau []) (.s (aI x5)) [] (cmp_Compare_int_c _ _ hx5) rfl ⟨.inl rfl,.inl rfl,trivial⟩ trivial entry37 trivial) (OkOps.y (aI x5) (OkOps.nil (Ok.ret ?_)))
 obtain rfl:=Option.some.inj hr
 exact ⟨_,rfl,.inl rfl,⟨rfl,rfl,trivial⟩⟩
theorem slices_insertionSortCmpFunc_int_c (data : (List Int)) (a : Int) (b : Int) (cmp_1 : Tree) {r : (List Int)} (hr : slices_insertionSortCmpFunc_int data a b cmp_1 = some r) : Con Tryd.prog 90 [.c (.own 0),aI a,aI b,.c (.fn 36 [(1,0)])] [(0,.vec 1 (List.map (eInt .i64) data)),(1,.blk [.fn 32 [(2,0)]] 43),(2,.blk [cI cmp_1.Root,cI cmp_1.Next,.d (.sl (List.map Node.cs cmp_1.Nodes))] 46)] (.tup []) [(0,.vec 1 (List.map (eInt .i64) r)),(1,.blk [.fn 32 [(2,0)]] 43),(2,.blk [cI cmp_1.Root,cI cmp_1.Next,.d (.sl (List.map Node.cs cmp_1.Nodes))] 46)]:=by
 unfold slices_insertionSortCmpFunc_int at hr
 refine Con.of_ok 53 0 [] [(0,.s (.c (.own 0))),(1,.s (aI a)),(2,.s (aI b)),(3,.s (.c (.fn 36 [(1,0)])))] Tryd.func90 rfl rfl rfl rfl rfl rfl rfl rfl fun w g M ρ _=>(Ok.seq (Ok.region (OkOps.y (aI a) (OkOps.y (aI (IntKind.i64.wrap (a + 1))) (OkOps.y (aI (IntKind.i64.wrap (a + 1))) (OkOps.nil ?_))))))
 obtain ⟨k2,hk2,hr⟩:=jn_some hr
 refine Ok.joinEnd (fun (s1 : (List Int))=>⟨[],[(0,.vec 1 (List.map (eInt .i64) s1)),(1,.blk [.fn 32 [(2,0)]] 43),(2,.blk [cI cmp_1.Root,cI cmp_1.Next,.d (.sl (List.map Node.cs cmp_1.Nodes))] 46)],0⟩) k2 r (fun s1 hr=>?_) ?_
 rw [hk2] at hr
 obtain rfl:=Option.some.inj hr
 exact ⟨_,rfl,.inl rfl,⟨rfl,rfl,rfl,trivial⟩⟩
 clear hk2
 refine Ok.block (Ok.loopK (fun (s3 : Int × (List Int))=>⟨[(0,.s (.c (.own 0))),(1,.s (aI a)),(2,.s (aI b)),(3,.s (.c (.fn 36 [(1,0)]))),(8,.s (aI s3.1))],[(0,.vec 1 (List.map (eInt .i64) s3.2)),(1,.blk [.fn 32 [(2,0)]] 43),(2,.blk [cI cmp_1.Root,cI cmp_1.Next,.d (.sl (List.map Node.cs cmp_1.Nodes))] 46)],0⟩) hr (Conv.mk (tau []) ⟨⟨_,rfl,.inl rfl⟩,⟨_,rfl,.inl rfl⟩,⟨_,rfl,.inl rfl⟩,⟨_,rfl,.inl rfl⟩,⟨_,rfl,.inl rfl⟩,trivial⟩ ⟨rfl,rfl,rfl,trivial⟩ rfl rfl rfl rfl) ?_)
 clear hr
 intro again4 s3 hr
 unfold slices_insertionSortCmpFunc_int_L2 at hr
 refine Ok.seq (Ok.seq (Ok.region (OkOps.y (aI s3.1) (OkOps.y (aI b) (OkOps.y (aB (decide (s3.1 < b))) (OkOps.nil ?_))))))
 refine Ok.cond (b:=decide (s3.1 < b)) rfl (fun h5=>?_) (fun h5=>?_)
 have hr:=selT h5 hr
 refine Ok.skip ?_
 obtain ⟨k7,hk7,hr⟩:=jn_some hr
 refine Ok.join (fun (s6 : (List Int))=>⟨[(0,.s (.c (.own 0))),(1,.s (aI a)),(2,.s (aI b)),(3,.s (.c (.fn 36 [(1,0)]))),(8,.s (aI s3.1))],[(0,.vec 1 (List.map (eInt .i64) s6)),(1,.blk [.fn 32 [(2,0)]] 43),(2,.blk [cI cmp_1.Root,cI cmp_1.Next,.d (.sl (List.map Node.cs cmp_1.Nodes))] 46)],0⟩) k7 r (fun s6 hr=>?_) ?_
 rw [hk7] at hr
 refine Ok.region (OkOps.y (aI s3.1) (OkOps.y (aI (IntKind.i64.wrap (s3.1 + 1))) (OkOps.y (aI (IntKind.i64.wrap (s3.1 + 1))) (OkOps.nil ?_))))
 exact ⟨(IntKind.i64.wrap (s3.1 + 1),s6),hr,(Conv.mk (tau []) ⟨⟨_,rfl,.inl rfl⟩,⟨_,rfl,.inl rfl⟩,⟨_,rfl,.inl rfl⟩,⟨_,rfl,.inl rfl⟩,⟨_,rfl,.inl rfl⟩,trivial⟩ ⟨rfl,rfl,rfl,trivial⟩ rfl rfl rfl rfl)⟩
 clear hk7
 refine Ok.block (Ok.seq (Ok.region (OkOps.y (aI s3.1) (OkOps.y (aI s3.1) (OkOps.nil ?_)))))
 obtain ⟨k9,hk9,hr⟩:=jn_some hr
 refine Ok.joinEnd (fun (s8 : (List Int))=>⟨[(0,.s (.c (.own 0))),(1,.s (aI a)),(2,.s (aI b)),(3,.s (.c (.fn 36 [(1,0)]))),(8,.s (aI s3.1))],[(0,.vec 1 (List.map (eInt .i64) s8)),(1,.blk [.fn 32 [(2,0)]] 43),(2,.blk [cI cmp_1.Root,cI cmp_1.Next,.d (.sl (List.map Node.cs cmp_1.Nodes))] 46)],0⟩) k9 r (fun s8 hr=>?_) ?_
 rw [hk9] at hr
 exact ⟨s8,hr,(Conv.mk (tau []) ⟨⟨_,rfl,.inl rfl⟩,⟨_,rfl,.inl rfl⟩,⟨_,rfl,.inl rfl⟩,⟨_,rfl,.inl rfl⟩,⟨_,rfl,.inl rfl⟩,trivial⟩ ⟨rfl,rfl,rfl,trivial⟩ rfl rfl rfl rfl)⟩
 clear hk9
 refine Ok.block (Ok.loopK (fun (s10 : Int × (List Int))=>⟨[(0,.s (.c (.own 0))),(1,.s (aI a)),(2,.s (aI b)),(3,.s (.c (.fn 36 [(1,0)]))),(8,.s (aI s3.1)),(9,.s (aI s10.1))],[(0,.vec 1 (List.map (eInt .i64) s10.2)),(1,.blk [.fn 32 [(2,0)]] 43),(2,.blk [cI cmp_1.Root,cI cmp_1.Next,.d (.sl (List.map Node.cs cmp_1.Nodes))] 46)],0⟩) hr (Conv.mk (tau []) ⟨⟨_,rfl,.inl rfl⟩,⟨_,rfl,.inl rfl⟩,⟨_,rfl,.inl rfl⟩,⟨_,rfl,.inl rfl⟩,⟨_,rfl,.inl rfl⟩,⟨_,rfl,.inl rfl⟩,trivial⟩ ⟨rfl,rfl,rfl,trivial⟩ rfl rfl rfl rfl) ?_)
 clear hr
 intro again11 s10 hr
 unfold slices_insertionSortCmpFunc_int_L1 at hr
 refine Ok.seq (Ok.seq (Ok.regionD (by kernel_rfl) (OkD.x (aI s10.1) rfl trivial rfl (OkD.x (aI a) rfl trivial rfl (OkD.x (aB (decide (s10.1 > a))) rfl trivial rfl (OkD.x (aB (decide (s10.1 > a))) rfl trivial rfl (OkD.q (triQG (x:=.c (.fn 36 [(1,0)])) rfl rfl trivial rfl) (OkD.q (triQG (x:=.c (.own 0)) rfl rfl trivial rfl) (OkD.q (triQG (x:=aI s10.1) rfl rfl trivial rfl) ?_)))))))))
 obtain ⟨x12,hx12,hr⟩:=bind_some hr
 refine OkD.q (triIdxVG (enc:=(eInt .i64)) (L:=s10.2) (gO_t hx12) rfl rfl rfl rfl rfl ⟨fun h=>h,⟨fun h=>h,trivial⟩⟩ rfl) ?_
 obtain ⟨x13,hx13,hr⟩:=bind_some hr
 refine OkD.q (triLoadVG (enc:=(eInt .i64)) (L:=s10.2) (row:=[dI x13]) (r:=aI x13) (gO_t hx13) rfl rfl rfl rfl (fun _=>rfl) rfl ⟨fun h=>h,trivial⟩ rfl) (OkD.q (triQG (x:=.c (.own 0)) rfl rfl trivial rfl) (OkD.q (triQG (x:=aI s10.1) rfl rfl trivial rfl) (OkD.q (triQG (x:=aI (IntKind.i64.wrap (s10.1 - 1))) rfl rfl ⟨fun h=>h,trivial⟩ rfl) ?_)))
 obtain ⟨x14,hx14,hr⟩:=bind_some hr
 refine OkD.q (triIdxVG (enc:=(eInt .i64)) (L:=s10.2) (gO_t hx14) rfl rfl rfl rfl rfl ⟨fun h=>h,⟨fun h=>h,trivial⟩⟩ rfl) ?_
 obtain ⟨x15,hx15,hr⟩:=bind_some hr
 refine OkD.q (triLoadVG (enc:=(eInt .i64)) (L:=s10.2) (row:=[dI x15]) (r:=aI x15) (gO_t hx15) rfl rfl rfl rfl (fun _=>rfl) rfl ⟨fun h=>h,trivial⟩ rfl) ?_
 obtain ⟨x16,hx16,hr⟩:=bind_some hr
 refine OkD.q (TriL.guard (x:=aI x16) rfl rfl (fun hg=>TriL.keep (triCallF (caps:=[(1,0)]) (tau [(0,1),(1,2)]) (.s (aI x16)) [(1,.blk [.fn 32 [(2,0)]] 43),(2,.blk [cI cmp_1.Root,cI cmp_1.Next,.d (.sl (List.map Node.cs cmp_1.Nodes))] 46)] rfl (fo_Order_2_c _ _ _ (gO_t hx16 hg)) rfl ⟨.inl rfl,.inl rfl,.inl rfl,trivial⟩ ⟨fun _=>hg,⟨fun _=>hg,⟨fun _=>hg,trivial⟩⟩⟩ entry36 ⟨rfl,rfl,trivial⟩ rfl rfl rfl rfl trivial rfl rfl rfl) ⟨rfl,rfl,trivial⟩)) (OkD.q (triQG (x:=aB (decide (x16 < 0))) rfl rfl ⟨fun h=>h,trivial⟩ rfl) (OkD.q (triAnd rfl rfl (fun h=>h) rfl) (OkD.nil (by kernel_rfl) ?_)))
 refine Ok.cond (b:=(decide (s10.1 > a)) && (decide (x16 < 0))) rfl (fun h17=>?_) (fun h17=>?_)
 have hr:=selT h17 hr
 refine Ok.skip (Ok.seq (Ok.block (Ok.regionD (by kernel_rfl) (OkD.x (.c (.own 0)) rfl trivial rfl (OkD.x (aI s10.1) rfl trivial rfl (OkD.x (.c (.own 0)) rfl trivial rfl (OkD.x (aI s10.1) rfl trivial rfl (OkD.x (aI (IntKind.i64.wrap (s10.1 - 1))) rfl trivial rfl (OkD.x (.c (.own 0)) rfl trivial rfl (OkD.x (aI s10.1) rfl trivial rfl (OkD.x (aI (IntKind.i64.wrap (s10.1 - 1))) rfl trivial rfl ?_)))))))))))
 obtain ⟨x18,hx18,hr⟩:=bind_some hr
 refine OkD.q (triIdxV (enc:=(eInt .i64)) (L:=s10.2) hx18 rfl rfl rfl rfl trivial rfl) ?_
 obtain ⟨x19,hx19,hr⟩:=bind_some hr
 refine OkD.q (triLoadV (enc:=(eInt .i64)) (L:=s10.2) (row:=[dI x19]) (r:=aI x19) hx19 rfl rfl rfl (fun _=>rfl) rfl  rfl) (OkD.x (.c (.own 0)) rfl trivial rfl (OkD.x (aI s10.1) rfl trivial rfl ?_))
 obtain ⟨x20,hx20,hr⟩:=bind_some hr
 refine OkD.q (triIdxV (enc:=(eInt .i64)) (L:=s10.2) hx20 rfl rfl rfl rfl trivial rfl) ?_
 obtain ⟨x21,hx21,hr⟩:=bind_some hr
 refine OkD.q (triLoadV (enc:=(eInt .i64)) (L:=s10.2) (row:=[dI x21]) (r:=aI x21) hx21 rfl rfl rfl (fun _=>rfl) rfl  rfl) ?_
 obtain ⟨x22,hx22,hr⟩:=bind_some hr
 refine OkD.q (triIdxV (enc:=(eInt .i64)) (L:=s10.2) hx22 rfl rfl rfl rfl trivial rfl) (OkD.w (triStoreV (enc:=(eInt .i64)) (L:=s10.2) x19 (.inr (ixO_spec hx22).2) rfl rfl rfl rfl rfl rfl (fun _=>rfl) rfl) ?_)
 obtain ⟨x23,hx23,hr⟩:=bind_some hr
 refine OkD.q (triIdxV (enc:=(eInt .i64)) (L:=List.set s10.2 x22 x19) hx23 rfl rfl rfl rfl trivial rfl) (OkD.w (triStoreV (enc:=(eInt .i64)) (L:=List.set s10.2 x22 x19) x21 (.inr (ixO_spec hx23).2) rfl rfl rfl rfl rfl rfl (fun _=>rfl) rfl) (OkD.nil (by kernel_rfl) (Ok.region (OkOps.y (aI s10.1) (OkOps.y (aI (IntKind.i64.wrap (s10.1 - 1))) (OkOps.y (aI (IntKind.i64.wrap (s10.1 - 1))) (OkOps.nil ?_)))))))
 exact ⟨(IntKind.i64.wrap (s10.1 - 1),List.set (List.set s10.2 x22 x19) x23 x21),hr,(Conv.mk (tau []) ⟨⟨_,rfl,.inl rfl⟩,⟨_,rfl,.inl rfl⟩,⟨_,rfl,.inl rfl⟩,⟨_,rfl,.inl rfl⟩,⟨_,rfl,.inl rfl⟩,⟨_,rfl,.inl rfl⟩,trivial⟩ ⟨rfl,rfl,rfl,trivial⟩ rfl rfl rfl rfl)⟩
 have hr:=selF h17 hr
 refine Ok.exit ?_
 exact ⟨s10.2,hr,(Conv.mk (tau []) ⟨⟨_,rfl,.inl rfl⟩,⟨_,rfl,.inl rfl⟩,⟨_,rfl,.inl rfl⟩,⟨_,rfl,.inl rfl⟩,⟨_,rfl,.inl rfl⟩,trivial⟩ ⟨rfl,rfl,rfl,trivial⟩ rfl rfl rfl rfl)⟩
 have hr:=selF h5 hr
 refine Ok.exit ?_
 exact ⟨s3.2,hr,(Conv.mk (tau []) trivial ⟨rfl,rfl,rfl,trivial⟩ rfl rfl rfl rfl)⟩
theorem slices_stableCmpFunc_int_c (data : (List Int)) (p_n : Int) (cmp_1 : Tree) {r : (List Int)} (hr : slices_stableCmpFunc_int data p_n cmp_1 = some r) : Con Tryd.prog 67 [.c (.own 0),aI p_n,.c (.fn 36 [(1,0)])] [(0,.vec 1 (List.map (eInt .i64) data)),(1,.blk [.fn 32 [(2,0)]] 43),(2,.blk [cI cmp_1.Root,cI cmp_1.Next,.d (.sl (List.map Node.cs cmp_1.Nodes))] 46)] (.tup []) [(0,.vec 1 (List.map (eInt .i64) r)),(1,.blk [.fn 32 [(2,0)]] 43),(2,.blk [cI cmp_1.Root,cI cmp_1.Next,.d (.sl (List.map Node.cs cmp_1.Nodes))] 46)]:=by
 unfold slices_stableCmpFunc_int at hr
 refine Con.of_ok 63 0 [] [(0,.s (.c (.own 0))),(1,.s (aI p_n)),(2,.s (.c (.fn 36 [(1,0)])))] Tryd.func67 rfl rfl rfl rfl rfl rfl rfl rfl fun w g M ρ _=>(Ok.seq (Ok.region (OkOps.y (aI 20) (OkOps.nil (Ok.seq (Ok.region (OkOps.y (aI 20) (OkOps.y (aI 0) (OkOps.y (aI 20) (OkOps.nil ?_))))))))))
 obtain ⟨k2,hk2,hr⟩:=jn_some hr
 refine Ok.join (fun (s1 : Int × (List Int))=>⟨[(0,.s (.c (.own 0))),(1,.s (aI p_n)),(2,.s (.c (.fn 36 [(1,0)]))),(6,.s (aI 20)),(7,.s (aI s1.1))],[(0,.vec 1 (List.map (eInt .i64) s1.2)),(1,.blk [.fn 32 [(2,0)]] 43),(2,.blk [cI cmp_1.Root,cI cmp_1.Next,.d (.sl (List.map Node.cs cmp_1.Nodes))] 46)],0⟩) k2 r (fun s1 hr=>?_) ?_
 rw [hk2] at hr
 refine Ok.seq (Ok.region (OkOps.y (.c (.own 0)) (OkOps.y (aI s1.1) (OkOps.y (aI p_n) (OkOps.y (.c (.fn 36 [(1,0)])) ?_)))))
 obtain ⟨x3,hx3,hr⟩:=bind_some hr
 refine OkOps.m3 0 (triCl (tau [(0,0),(1,1),(2,2)]) (.tup []) [(0,.vec 1 (List.map (eInt .i64) x3)),(1,.blk [.fn 32 [(2,0)]] 43),(2,.blk [cI cmp_1.Root,cI cmp_1.Next,.d (.sl (List.map Node.cs cmp_1.Nodes))] 46)] (slices_insertionSortCmpFunc_int_c _ _ _ _ hx3) rfl ⟨.inl rfl,.inl rfl,.inl rfl,.inl rfl,trivial⟩ trivial entry90 ⟨rfl,rfl,rfl,trivial⟩) (OkOps.nil ?_)
 obtain ⟨k5,hk5,hr⟩:=jn_some hr
 refine Ok.joinEnd (fun (s4 : Unit)=>⟨[],[(0,.vec 1 (List.map (eInt .i64) x3)),(1,.blk [.fn 32 [(2,0)]] 43),(2,.blk [cI cmp_1.Root,cI cmp_1.Next,.d (.sl (List.map Node.cs cmp_1.Nodes))] 46)],0⟩) k5 r (fun s4 hr=>?_) ?_
 rw [hk5] at hr
 obtain rfl:=Option.some.inj hr
 exact ⟨_,rfl,.inl rfl,⟨rfl,rfl,rfl,trivial⟩⟩
 clear hk5
 refine Ok.block (Ok.loopK (fun (s6 : Int)=>⟨[(0,.s (.c (.own 0))),(1,.s (aI p_n)),(2,.s (.c (.fn 36 [(1,0)]))),(6,.s (aI s6))],[(0,.vec 1 (List.map (eInt .i64) x3)),(1,.blk [.fn 32 [(2,0)]] 43),(2,.blk [cI cmp_1.Root,cI cmp_1.Next,.d (.sl (List.map Node.cs cmp_1.Nodes))] 46)],0⟩) hr (Conv.mk (tau []) ⟨⟨_,rfl,.inl rfl⟩,⟨_,rfl,.inl rfl⟩,⟨_,rfl,.inl rfl⟩,⟨_,rfl,.inl rfl⟩,trivial⟩ ⟨rfl,rfl,rfl,trivial⟩ rfl rfl rfl rfl) ?_)
 clear hr
 intro again7 s6 hr
 unfold slices_stableCmpFunc_int_L2 at hr
 refine Ok.seq (Ok.seq (Ok.region (OkOps.y (aI s6) (OkOps.y (aI p_n) (OkOps.y (aB (decide (s6 < p_n))) (OkOps.nil ?_))))))
 refine Ok.cond (b:=decide (s6 < p_n)) rfl (fun h8=>?_) (fun h8=>?_)
 have hr:=selT h8 hr
 refine Ok.skip ?_
 obtain ⟨k10,hk10,hr⟩:=jn_some hr
 refine Ok.joinEnd (fun (s9 : Unit)=>⟨[(0,.s (.c (.own 0))),(1,.s (aI p_n)),(2,.s (.c (.fn 36 [(1,0)]))),(6,.s (aI (IntKind.i64.wrap (s6 * 2))))],[(0,.vec 1 (List.map (eInt .i64) x3)),(1,.blk [.fn 32 [(2,0)]] 43),(2,.blk [cI cmp_1.Root,cI cmp_1.Next,.d (.sl (List.map Node.cs cmp_1.Nodes))] 46)],0⟩) k10 r (fun s9 hr=>?_) ?_
 rw [hk10] at hr
 exact ⟨IntKind.i64.wrap (s6 * 2),hr,(Conv.mk (tau []) ⟨⟨_,rfl,.inl rfl⟩,⟨_,rfl,.inl rfl⟩,⟨_,rfl,.inl rfl⟩,⟨_,rfl,.inl rfl⟩,trivial⟩ ⟨rfl,rfl,rfl,trivial⟩ rfl rfl rfl rfl)⟩
 clear hk10
 refine Ok.block (Ok.seq (Ok.region (OkOps.y (aI s6) (OkOps.y (aI (IntKind.i64.wrap (2 * s6))) (OkOps.y (aI 0) (OkOps.y (aI (IntKind.i64.wrap (2 * s6))) (OkOps.nil ?_)))))))
 obtain ⟨k12,hk12,hr⟩:=jn_some hr
 refine Ok.join (fun (s11 : Unit)=>⟨[(0,.s (.c (.own 0))),(1,.s (aI p_n)),(2,.s (.c (.fn 36 [(1,0)]))),(6,.s (aI s6)),(7,.s (aI 0))],[(0,.vec 1 (List.map (eInt .i64) x3)),(1,.blk [.fn 32 [(2,0)]] 43),(2,.blk [cI cmp_1.Root,cI cmp_1.Next,.d (.sl (List.map Node.cs cmp_1.Nodes))] 46)],0⟩) k12 r (fun s11 hr=>?_) ?_
 rw [hk12] at hr
 obtain ⟨k14,hk14,hr⟩:=jn_some hr
 refine Ok.join (fun (s13 : Unit)=>⟨[(0,.s (.c (.own 0))),(1,.s (aI p_n)),(2,.s (.c (.fn 36 [(1,0)]))),(6,.s (aI s6))],[(0,.vec 1 (List.map (eInt .i64) x3)),(1,.blk [.fn 32 [(2,0)]] 43),(2,.blk [cI cmp_1.Root,cI cmp_1.Next,.d (.sl (List.map Node.cs cmp_1.Nodes))] 46)],0⟩) k14 r (fun s13 hr=>?_) ?_
 rw [hk14] at hr
 refine Ok.region (OkOps.y (aI s6) (OkOps.y (aI (IntKind.i64.wrap (s6 * 2))) (OkOps.y (aI (IntKind.i64.wrap (s6 * 2))) (OkOps.nil ?_))))
 exact ⟨(),hr,(Conv.mk (tau []) ⟨⟨_,rfl,.inl rfl⟩,⟨_,rfl,.inl rfl⟩,⟨_,rfl,.inl rfl⟩,⟨_,rfl,.inl rfl⟩,trivial⟩ ⟨rfl,rfl,rfl,trivial⟩ rfl rfl rfl rfl)⟩
 clear hk14
 refine Ok.seq (Ok.region (OkOps.y (aI 0) (OkOps.y (aI s6) (OkOps.y (aI (IntKind.i64.wrap (0 + s6))) (OkOps.y (aI (IntKind.i64.wrap (0 + s6))) (OkOps.nil (Ok.seq (Ok.region (OkOps.y (aI (IntKind.i64.wrap (0 + s6))) (OkOps.y (aI p_n) (OkOps.y (aB (decide ((IntKind.i64.wrap (0 + s6)) < p_n))) (OkOps.nil ?_))))))))))))
 refine Ok.cond (b:=decide ((IntKind.i64.wrap (0 + s6)) < p_n)) rfl (fun h15=>?_) (fun h15=>?_)
 have hr:=selT h15 hr
 refine Ok.region (OkOps.y (.c (.own 0)) (OkOps.y (aI 0) (OkOps.y (aI (IntKind.i64.wrap (0 + s6))) (OkOps.y (aI p_n) (OkOps.y (.c (.fn 36 [(1,0)])) ?_)))))
 cases hr
 have hr:=selF h15 hr
 refine Ok.skip ?_
 exact ⟨(),hr,(Conv.mk (tau []) ⟨⟨_,rfl,.inl rfl⟩,⟨_,rfl,.inl rfl⟩,⟨_,rfl,.inl rfl⟩,⟨_,rfl,.inl rfl⟩,trivial⟩ ⟨rfl,rfl,rfl,trivial⟩ rfl rfl rfl rfl)⟩
 clear hk12
 refine Ok.block (Ok.loopK (fun (s16 : Unit)=>⟨[(0,.s (.c (.own 0))),(1,.s (aI p_n)),(2,.s (.c (.fn 36 [(1,0)]))),(6,.s (aI s6)),(7,.s (aI 0)),(8,.s (aI (IntKind.i64.wrap (2 * s6))))],[(0,.vec 1 (List.map (eInt .i64) x3)),(1,.blk [.fn 32 [(2,0)]] 43),(2,.blk [cI cmp_1.Root,cI cmp_1.Next,.d (.sl (List.map Node.cs cmp_1.Nodes))] 46)],0⟩) hr (Conv.mk (tau []) ⟨⟨_,rfl,.inl rfl⟩,⟨_,rfl,.inl rfl⟩,⟨_,rfl,.inl rfl⟩,⟨_,rfl,.inl rfl⟩,⟨_,rfl,.inl rfl⟩,⟨_,rfl,.inl rfl⟩,trivial⟩ ⟨rfl,rfl,rfl,trivial⟩ rfl rfl rfl rfl) ?_)
 clear hr
 intro again17 s16 hr
 unfold slices_stableCmpFunc_int_L1 at hr
 refine Ok.seq (Ok.seq (Ok.region (OkOps.y (aI (IntKind.i64.wrap (2 * s6))) (OkOps.y (aI p_n) (OkOps.y (aB (decide ((IntKind.i64.wrap (2 * s6)) ≤ p_n))) (OkOps.nil ?_))))))
 refine Ok.cond (b:=decide ((IntKind.i64.wrap (2 * s6)) ≤ p_n)) rfl (fun h18=>?_) (fun h18=>?_)
 have hr:=selT h18 hr
 refine Ok.skip (Ok.block (Ok.seq (Ok.region (OkOps.y (.c (.own 0)) (OkOps.y (aI 0) (OkOps.y (aI 0) (OkOps.y (aI s6) (OkOps.y (aI (IntKind.i64.wrap (0 + s6))) (OkOps.y (aI (IntKind.i64.wrap (2 * s6))) (OkOps.y (.c (.fn 36 [(1,0)])) ?_))))))))))
 cases hr
 have hr:=selF h18 hr
 refine Ok.exit ?_
 exact ⟨(),hr,(Conv.mk (tau []) ⟨⟨_,rfl,.inl rfl⟩,⟨_,rfl,.inl rfl⟩,⟨_,rfl,.inl rfl⟩,⟨_,rfl,.inl rfl⟩,⟨_,rfl,.inl rfl⟩,trivial⟩ ⟨rfl,rfl,rfl,trivial⟩ rfl rfl rfl rfl)⟩
 have hr:=selF h8 hr
 refine Ok.exit ?_
 exact ⟨(),hr,(Conv.mk (tau []) trivial ⟨rfl,rfl,rfl,trivial⟩ rfl rfl rfl rfl)⟩
 clear hk2
 refine Ok.block (Ok.loopK (fun (s19 : Int × Int × (List Int))=>⟨[(0,.s (.c (.own 0))),(1,.s (aI p_n)),(2,.s (.c (.fn 36 [(1,0)]))),(6,.s (aI 20)),(7,.s (aI s19.1)),(8,.s (aI s19.2.1))],[(0,.vec 1 (List.map (eInt .i64) s19.2.2)),(1,.blk [.fn 32 [(2,0)]] 43),(2,.blk [cI cmp_1.Root,cI cmp_1.Next,.d (.sl (List.map Node.cs cmp_1.Nodes))] 46)],0⟩) hr (Conv.mk (tau []) ⟨⟨_,rfl,.inl rfl⟩,⟨_,rfl,.inl rfl⟩,⟨_,rfl,.inl rfl⟩,⟨_,rfl,.inl rfl⟩,⟨_,rfl,.inl rfl⟩,⟨_,rfl,.inl rfl⟩,trivial⟩ ⟨rfl,rfl,rfl,trivial⟩ rfl rfl rfl rfl) ?_)
 clear hr
 intro again20 s19 hr
 unfold slices_stableCmpFunc_int_L3 at hr
 refine Ok.seq (Ok.seq (Ok.region (OkOps.y (aI s19.2.1) (OkOps.y (aI p_n) (OkOps.y (aB (decide (s19.2.1 ≤ p_n))) (OkOps.nil ?_))))))
 refine Ok.cond (b:=decide (s19.2.1 ≤ p_n)) rfl (fun h21=>?_) (fun h21=>?_)
 have hr:=selT h21 hr
 refine Ok.skip (Ok.block (Ok.seq (Ok.region (OkOps.y (.c (.own 0)) (OkOps.y (aI s19.1) (OkOps.y (aI s19.2.1) (OkOps.y (.c (.fn 36 [(1,0)])) ?_)))))))
 obtain ⟨x22,hx22,hr⟩:=bind_some hr
 refine OkOps.m3 0 (triCl (tau [(0,0),(1,1),(2,2)]) (.tup []) [(0,.vec 1 (List.map (eInt .i64) x22)),(1,.blk [.fn 32 [(2,0)]] 43),(2,.blk [cI cmp_1.Root,cI cmp_1.Next,.d (.sl (List.map Node.cs cmp_1.Nodes))] 46)] (slices_insertionSortCmpFunc_int_c _ _ _ _ hx22) rfl ⟨.inl rfl,.inl rfl,.inl rfl,.inl rfl,trivial⟩ trivial entry90 ⟨rfl,rfl,rfl,trivial⟩) (OkOps.nil (Ok.seq (Ok.region (OkOps.y (aI s19.2.1) (OkOps.y (aI s19.2.1) (OkOps.nil (Ok.region (OkOps.y (aI s19.2.1) (OkOps.y (aI 20) (OkOps.y (aI (IntKind.i64.wrap (s19.2.1 + 20))) (OkOps.y (aI (IntKind.i64.wrap (s19.2.1 + 20))) (OkOps.nil ?_))))))))))))
 exact ⟨(s19.2.1,IntKind.i64.wrap (s19.2.1 + 20),x22),hr,(Conv.mk (tau []) ⟨⟨_,rfl,.inl rfl⟩,⟨_,rfl,.inl rfl⟩,⟨_,rfl,.inl rfl⟩,⟨_,rfl,.inl rfl⟩,⟨_,rfl,.inl rfl⟩,⟨_,rfl,.inl rfl⟩,trivial⟩ ⟨rfl,rfl,rfl,trivial⟩ rfl rfl rfl rfl)⟩
 have hr:=selF h21 hr
 refine Ok.exit ?_
 exact ⟨(s19.1,s19.2.2),hr,(Conv.mk (tau []) ⟨⟨_,rfl,.inl rfl⟩,⟨_,rfl,.inl rfl⟩,⟨_,rfl,.inl rfl⟩,⟨_,rfl,.inl rfl⟩,⟨_,rfl,.inl rfl⟩,trivial⟩ ⟨rfl,rfl,rfl,trivial⟩ rfl rfl rfl rfl)⟩
theorem slices_SortStableFunc_Sl_int_int_c (p_x : (List Int)) (cmp_1 : Tree) {r : (List Int)} (hr : slices_SortStableFunc_Sl_int_int p_x cmp_1 = some r) : Con Tryd.prog 35 [.c (.own 0),.c (.fn 36 [(1,0)])] [(0,.vec 1 (List.map (eInt .i64) p_x)),(1,.blk [.fn 32 [(2,0)]] 43),(2,.blk [cI cmp_1.Root,cI cmp_1.Next,.d (.sl (List.map Node.cs cmp_1.Nodes))] 46)] (.tup []) [(0,.vec 1 (List.map (eInt .i64) r)),(1,.blk [.fn 32 [(2,0)]] 43),(2,.blk [cI cmp_1.Root,cI cmp_1.Next,.d (.sl (List.map Node.cs cmp_1.Nodes))] 46)]:=by
 unfold slices_SortStableFunc_Sl_int_int at hr
 refine Con.of_ok 9 0 [] [(0,.s (.c (.own 0))),(1,.s (.c (.fn 36 [(1,0)])))] Tryd.func35 rfl rfl rfl rfl rfl rfl rfl rfl fun w g M ρ _=>(Ok.region (OkOps.y (.c (.own 0)) (OkOps.y (.c (.own 0)) (OkOps.q (triLenV (enc:=(eInt .i64)) p_x rfl rfl rfl rfl) (OkOps.y (.c (.fn 36 [(1,0)])) ?_)))))
 obtain ⟨x1,hx1,hr⟩:=bind_some hr
 refine OkOps.m3 0 (triCl (tau [(0,0),(1,1),(2,2)]) (.tup []) [(0,.vec 1 (List.map (eInt .i64) x1)),(1,.blk [.fn 32 [(2,0)]] 43),(2,.blk [cI cmp_1.Root,cI cmp_1.Next,.d (.sl (List.map Node.cs cmp_1.Nodes))] 46)] (slices_stableCmpFunc_int_c _ _ _ hx1) rfl ⟨.inl rfl,.inl rfl,.inl rfl,trivial⟩ trivial entry67 ⟨rfl,rfl,rfl,trivial⟩) (OkOps.nil ?_)
 obtain rfl:=Option.some.inj hr
 exact ⟨_,rfl,.inl rfl,⟨rfl,rfl,rfl,trivial⟩⟩
theorem fo_Order_c (t : Tree) (st : (List Styled)) {r : (List Int)} (hr : fo_Order t st = some r) : Con Tryd.prog 16 [.agg [cI t.Root,cI t.Next,.d (.sl (List.map Node.cs t.Nodes))],.c (.d (.sl (List.map Styled.cs st)))] [] (.s (.c (.d (.sl (List.map (eInt .i64) r))))) []:=by
 unfold fo_Order at hr
 refine Con.of_ok 15 0 [.tmp 4] [(0,.s (.agg [cI t.Root,cI t.Next,.d (.sl (List.map Node.cs t.Nodes))])),(1,.s (.c (.d (.sl (List.map Styled.cs st)))))] Tryd.func16 rfl rfl rfl rfl rfl rfl rfl rfl fun w g M ρ _=>(Ok.seq (Ok.region (OkOps.m 0 (triBox (j:=0) (cs:=[cI t.Root,cI t.Next,.d (.sl (List.map Node.cs t.Nodes))]) rfl rfl rfl rfl rfl) (OkOps.y (.c (.d (.v (.slice none 0 0)))) (OkOps.nil (Ok.seq (Ok.region (OkOps.y (.agg [cI t.Root,cI t.Next,.d (.sl (List.map Node.cs t.Nodes))]) (OkOps.y (.c (.d (.sl (List.map Styled.cs st)))) ?_)))))))))
 obtain ⟨x1,hx1,hr⟩:=bind_some hr
 refine OkOps.m 0 (triCall (tau [(2000,1)]) (.s (.c (.own 1))) [(1,.vec 1 (List.map (eInt .i64) x1))] (fo_Candidates_c _ _ hx1) rfl ⟨.inl rfl,.inl rfl,trivial⟩ trivial entry31 trivial rfl rfl rfl rfl ⟨rfl,trivial⟩ rfl rfl rfl) (OkOps.y (.c (.own 1)) (OkOps.nil (Ok.seq (Ok.region (OkOps.q (triMkF [(0,0)] rfl trivial rfl) (OkOps.m 0 (triAlloc (j:=2) (cs:=[.d (.v .nilFunc)]) rfl rfl rfl rfl) (OkOps.w (triStore (cs':=[.fn 32 [(0,0)]]) rfl rfl rfl rfl rfl rfl rfl rfl rfl) (OkOps.nil (Ok.seq (Ok.region (OkOps.y (.c (.own 1)) (OkOps.q (triMkF [(2,0)] rfl trivial rfl) ?_))))))))))))
 obtain ⟨x2,hx2,hr⟩:=bind_some hr
 refine OkOps.m3 0 (triCl (tau [(0,1),(1,2),(2,0)]) (.tup []) [(1,.vec 1 (List.map (eInt .i64) x2)),(2,.blk [.fn 32 [(0,0)]] 43),(0,.blk [cI t.Root,cI t.Next,.d (.sl (List.map Node.cs t.Nodes))] 46)] (slices_SortStableFunc_Sl_int_int_c _ _ hx2) rfl ⟨.inl rfl,.inl rfl,trivial⟩ trivial entry35 ⟨rfl,rfl,rfl,trivial⟩) (OkOps.nil (Ok.seq (Ok.region (OkOps.y (.c (.own 1)) (OkOps.y (.c (.own 1)) (OkOps.nil (Ok.conv (Conv.freeze (enc:=(eInt .i64)) (L:=x2) [4,5,9,11,14] 1 3 1 0 ⟨rfl,rfl,rfl,rfl,rfl,trivial⟩ rfl (fun _=>rfl) rfl) (Ok.ret ?_))))))))
 obtain rfl:=Option.some.inj hr
 exact ⟨_,rfl,.inr rfl,trivial⟩
end Go.Proofs.YtfoigppmcelgfaaDoor
end
section
set_option maxRecDepth 100000
namespace Go.Proofs.YtfoigppmcelgfaaDoor
open Go Go.E2
theorem fo_without_1_c (p_x : Int) (c0 : Int) {r : Bool} (hr : fo_without_1 p_x c0 = some r) : Con Tryd.prog 69 [aI p_x,.c (.loc 0 0)] [(0,.blk [cI c0] 3)] (.s (aB r)) [(0,.blk [cI c0] 3)]:=by
 unfold fo_without_1 at hr
 refine Con.of_ok 7 0 [.tmp 3] [(0,.s (aI p_x)),(1,.s (.c (.loc 0 0)))] Tryd.func69 rfl rfl rfl rfl rfl rfl rfl rfl fun w g M ρ _=>(Ok.seq (Ok.region (OkOps.y (aB false) (OkOps.nil (Ok.seq (Ok.region (OkOps.y (aI p_x) (OkOps.y (aI c0) (OkOps.y (aB (p_x == c0)) (OkOps.y (aB (p_x == c0)) (OkOps.nil (Ok.ret ?_))))))))))))
 obtain rfl:=Option.some.inj hr
 exact ⟨_,rfl,.inl rfl,⟨rfl,trivial⟩⟩
theorem sl_IndexFunc_wo_c (p_s : (List Int)) (f_0 : Int) {r : Int × (List Int)} (hr : sl_IndexFunc_wo p_s f_0 = some r) : Con Tryd.prog 70 [.c (.own 0),.c (.fn 69 [(1,0)])] [(0,.vec 1 (List.map (eInt .i64) p_s)),(1,.blk [cI f_0] 3)] (.s (aI r.1)) [(0,.vec 1 (List.map (eInt .i64) r.2)),(1,.blk [cI f_0] 3)]:=by
 unfold sl_IndexFunc_wo at hr
 refine Con.of_ok 19 0 [.tmp 4] [(0,.s (.c (.own 0))),(1,.s (.c (.fn 69 [(1,0)])))] Tryd.func70 rfl rfl rfl rfl rfl rfl rfl rfl fun w g M ρ _=>(Ok.seq (Ok.region (OkOps.y (aI 0) (OkOps.nil ?_))))
 obtain ⟨k2,hk2,hr⟩:=jn_some hr
 refine Ok.join (fun (s1 : Unit)=>⟨[],[(0,.vec 1 (List.map (eInt .i64) p_s)),(1,.blk [cI f_0] 3)],0⟩) k2 r (fun s1 hr=>?_) ?_
 rw [hk2] at hr
 refine Ok.seq (Ok.region (OkOps.y (aI (-1)) (OkOps.nil (Ok.ret ?_))))
 obtain rfl:=Option.some.inj hr
 exact ⟨_,rfl,.inl rfl,⟨rfl,rfl,trivial⟩⟩
 clear hk2
 refine Ok.seq (Ok.region (OkOps.y (.c (.own 0)) (OkOps.q (triLenV (enc:=(eInt .i64)) p_s rfl rfl rfl rfl) (OkOps.y (aI 0) (OkOps.nil (Ok.block (Ok.loopK (fun (s3 : Int)=>⟨[(0,.s (.c (.own 0))),(1,.s (.c (.fn 69 [(1,0)]))),(7,.s (aI (p_s.length : Int))),(8,.s (aI s3))],[(0,.vec 1 (List.map (eInt .i64) p_s)),(1,.blk [cI f_0] 3)],0⟩) hr (Conv.mk (tau []) ⟨⟨_,rfl,.inl rfl⟩,⟨_,rfl,.inl rfl⟩,⟨_,rfl,.inl rfl⟩,⟨_,rfl,.inl rfl⟩,trivial⟩ ⟨rfl,rfl,trivial⟩ rfl rfl rfl rfl) ?_)))))))
 clear hr
 intro again4 s3 hr
 unfold sl_IndexFunc_wo_L1 at hr
 refine Ok.seq (Ok.region (OkOps.y (aB (decide (s3 < (p_s.length : Int)))) (OkOps.nil (Ok.seq ?_))))
 refine Ok.cond (b:=decide (s3 < (p_s.length : Int))) rfl (fun h5=>?_) (fun h5=>?_)
 have hr:=selT h5 hr
 refine Ok.skip (Ok.seq (Ok.block (Ok.seq (Ok.region (OkOps.y (aI s3) (OkOps.y (aI s3) (OkOps.nil (Ok.seq (Ok.region (OkOps.y (.c (.fn 69 [(1,0)])) (OkOps.y (.c (.own 0)) (OkOps.y (aI s3) ?_))))))))))))
 obtain ⟨x6,hx6,hr⟩:=bind_some hr
 refine OkOps.q (triIdxV (enc:=(eInt .i64)) (L:=p_s) hx6 rfl rfl rfl rfl trivial rfl) ?_
 obtain ⟨x7,hx7,hr⟩:=bind_some hr
 refine OkOps.q (triLoadV (enc:=(eInt .i64)) (L:=p_s) (row:=[dI x7]) (r:=aI x7) hx7 rfl rfl rfl (fun _=>rfl) rfl  rfl) ?_
 obtain ⟨x8,hx8,hr⟩:=bind_some hr
 refine OkOps.q (TriL.keep (triCallF (caps:=[(1,0)]) (tau [(0,1)]) (.s (aB x8)) [(1,.blk [cI f_0] 3)] rfl (fo_without_1_c _ _ hx8) rfl ⟨.inl rfl,.inl rfl,trivial⟩ trivial entry69 ⟨rfl,trivial⟩ rfl rfl rfl rfl trivial rfl rfl rfl) ⟨rfl,trivial⟩) (OkOps.nil ?_)
 refine Ok.cond (b:=x8) rfl (fun h9=>?_) (fun h9=>?_)
 have hr:=selT h9 hr
 refine Ok.seq (Ok.region (OkOps.y (aI s3) (OkOps.y (aI s3) (OkOps.nil (Ok.ret ?_)))))
 obtain rfl:=Option.some.inj hr
 exact ⟨_,rfl,.inl rfl,⟨rfl,rfl,trivial⟩⟩
 have hr:=selF h9 hr
 refine Ok.skip (Ok.region (OkOps.y (aI (IntKind.i64.wrap (s3 + 1))) (OkOps.y (aI (IntKind.i64.wrap (s3 + 1))) (OkOps.nil ?_))))
 exact ⟨IntKind.i64.wrap (s3 + 1),hr,(Conv.mk (tau []) ⟨⟨_,rfl,.inl rfl⟩,⟨_,rfl,.inl rfl⟩,⟨_,rfl,.inl rfl⟩,⟨_,rfl,.inl rfl⟩,trivial⟩ ⟨rfl,rfl,trivial⟩ rfl rfl rfl rfl)⟩
 have hr:=selF h5 hr
 refine Ok.exit ?_
 exact ⟨(),hr,(Conv.mk (tau []) trivial ⟨rfl,rfl,trivial⟩ rfl rfl rfl rfl)⟩
theorem sl_DeleteFunc_wo_c (p_s : (List Int)) (del_0 : Int) {r : (List Int)} (hr : sl_DeleteFunc_wo p_s del_0 = some r) : Con Tryd.prog 42 [.c (.own 0),.c (.fn 69 [(1,0)])] [(0,.vec 1 (List.map (eInt .i64) p_s)),(1,.blk [cI del_0] 3)] (.s (.c (.tl 2000 (List.map (eInt .i64) r)))) [(1,.blk [cI del_0] 3),(0,.dead),(2000,.tail 1)]:=by
 unfold sl_DeleteFunc_wo at hr
 refine Con.of_ok 42 0 [.tmp 4] [(0,.s (.c (.own 0))),(1,.s (.c (.fn 69 [(1,0)])))] Tryd.func42 rfl rfl rfl rfl rfl rfl rfl rfl fun w g M ρ _=>(Ok.seq (Ok.region (OkOps.y (.c (.d (.v (.slice none 0 0)))) (OkOps.nil (Ok.seq (Ok.region (OkOps.y (.c (.own 0)) (OkOps.y (.c (.fn 69 [(1,0)])) ?_))))))))
 obtain ⟨x1,hx1,hr⟩:=bind_some hr
 refine OkOps.m2 0 (triCl (tau [(0,0),(1,1)]) (.s (aI x1.1)) [(0,.vec 1 (List.map (eInt .i64) x1.2)),(1,.blk [cI del_0] 3)] (sl_IndexFunc_wo_c _ _ hx1) rfl ⟨.inl rfl,.inl rfl,trivial⟩ trivial entry70 ⟨rfl,rfl,trivial⟩) (OkOps.y (aI x1.1) (OkOps.nil (Ok.seq (Ok.seq (Ok.region (OkOps.y (aI x1.1) (OkOps.y (aB (x1.1 == (-1))) (OkOps.nil ?_))))))))
 refine Ok.cond (b:=x1.1 == (-1)) rfl (fun h2=>?_) (fun h2=>?_)
 have hr:=selT h2 hr
 refine Ok.seq (Ok.region (OkOps.y (.c (.own 0)) (OkOps.y (.c (.own 0)) (OkOps.nil (Ok.conv (Conv.freeze (enc:=(eInt .i64)) (L:=x1.2) [0,4,8,13] 0 2 1 0 ⟨rfl,rfl,rfl,rfl,trivial⟩ rfl (fun _=>rfl) rfl) (Ok.conv (T:=⟨[(4,.s (.c (.tl 2000 (List.map (eInt .i64) x1.2))))],[(0,.dead),(1,.blk [cI del_0] 3),(2000,.tail 1)],0⟩) (Conv.mk (tau [(2000,2)]) ⟨⟨_,rfl,.inl rfl⟩,trivial⟩ ⟨rfl,rfl,trivial⟩ rfl rfl rfl rfl) (Ok.ret ?_)))))))
 obtain rfl:=Option.some.inj hr
 exact ⟨_,rfl,.inl rfl,⟨rfl,(fun h=>by cases h),rfl,trivial⟩⟩
 have hr:=selF h2 hr
 refine Ok.skip ?_
 obtain ⟨k4,hk4,hr⟩:=jn_some hr
 refine Ok.join (fun (s3 : Int × (List Int))=>⟨[(0,.s (.c (.own 0))),(5,.s (aI s3.1))],[(0,.vec 1 (List.map (eInt .i64) s3.2)),(1,.blk [cI del_0] 3)],0⟩) k4 r (fun s3 hr=>?_) ?_
 rw [hk4] at hr
 refine Ok.seq (Ok.region (OkOps.y (.c (.own 0)) (OkOps.y (aI s3.1) ?_)))
 obtain ⟨x5,hx5,hr⟩:=bind_some hr
 refine OkOps.clrV (enc:=(eInt .i64)) (L:=s3.2) 0 hx5 rfl rfl rfl rfl rfl rfl rfl (fun _=>rfl) trivial rfl rfl (OkOps.nil (Ok.seq (Ok.region (OkOps.y (.c (.own 0)) (OkOps.y (aI s3.1) ?_)))))
 obtain ⟨x6,hx6,hr⟩:=bind_some hr
 refine OkOps.m2 0 (triSlcV (enc:=(eInt .i64)) (L:=List.take x5 s3.2 ++ List.replicate (s3.2.length - x5) 0) (j:=0) (j':=3) hx6 rfl rfl rfl rfl (fun _=>rfl) trivial rfl rfl) (OkOps.y (.c (.tl 3 (List.map (eInt .i64) (List.take x6 (List.take x5 s3.2 ++ List.replicate (s3.2.length - x5) 0))))) (OkOps.nil (Ok.conv (T:=⟨[(4,.s (.c (.tl 2000 (List.map (eInt .i64) (List.take x6 (List.take x5 s3.2 ++ List.replicate (s3.2.length - x5) 0))))))],[(0,.dead),(1,.blk [cI del_0] 3),(2000,.tail 1)],0⟩) (Conv.mk (tau [(2000,3)]) ⟨⟨_,rfl,.inl rfl⟩,trivial⟩ ⟨rfl,rfl,trivial⟩ rfl rfl rfl rfl) (Ok.ret ?_))))
 obtain rfl:=Option.some.inj hr
 exact ⟨_,rfl,.inl rfl,⟨rfl,(fun h=>by cases h),rfl,trivial⟩⟩
 clear hk4
 refine Ok.seq (Ok.region (OkOps.y (aI x1.1) (OkOps.y (aI (IntKind.i64.wrap (x1.1 + 1))) (OkOps.y (aI (IntKind.i64.wrap (x1.1 + 1))) (OkOps.nil (Ok.block (Ok.loopK (fun (s7 : Int × Int × (List Int))=>⟨[(0,.s (.c (.own 0))),(1,.s (.c (.fn 69 [(1,0)]))),(5,.s (aI s7.1)),(6,.s (aI s7.2.1))],[(0,.vec 1 (List.map (eInt .i64) s7.2.2)),(1,.blk [cI del_0] 3)],0⟩) hr (Conv.mk (tau []) ⟨⟨_,rfl,.inl rfl⟩,⟨_,rfl,.inl rfl⟩,⟨_,rfl,.inl rfl⟩,⟨_,rfl,.inl rfl⟩,trivial⟩ ⟨rfl,rfl,trivial⟩ rfl rfl rfl rfl) ?_)))))))
 clear hr
 intro again8 s7 hr
 unfold sl_DeleteFunc_wo_L1 at hr
 refine Ok.seq (Ok.seq (Ok.region (OkOps.y (aI s7.2.1) (OkOps.y (.c (.own 0)) (OkOps.q (triLenV (enc:=(eInt .i64)) s7.2.2 rfl rfl rfl rfl) (OkOps.y (aB (decide (s7.2.1 < (s7.2.2.length : Int)))) (OkOps.nil ?_)))))))
 refine Ok.cond (b:=decide (s7.2.1 < (s7.2.2.length : Int))) rfl (fun h9=>?_) (fun h9=>?_)
 have hr:=selT h9 hr
 refine Ok.skip ?_
 obtain ⟨k11,hk11,hr⟩:=jn_some hr
 refine Ok.join (fun (s10 : Int × (List Int))=>⟨[(0,.s (.c (.own 0))),(1,.s (.c (.fn 69 [(1,0)]))),(5,.s (aI s10.1)),(6,.s (aI s7.2.1))],[(0,.vec 1 (List.map (eInt .i64) s10.2)),(1,.blk [cI del_0] 3)],0⟩) k11 r (fun s10 hr=>?_) ?_
 rw [hk11] at hr
 refine Ok.region (OkOps.y (aI s7.2.1) (OkOps.y (aI (IntKind.i64.wrap (s7.2.1 + 1))) (OkOps.y (aI (IntKind.i64.wrap (s7.2.1 + 1))) (OkOps.nil ?_))))
 exact ⟨(s10.1,IntKind.i64.wrap (s7.2.1 + 1),s10.2),hr,(Conv.mk (tau []) ⟨⟨_,rfl,.inl rfl⟩,⟨_,rfl,.inl rfl⟩,⟨_,rfl,.inl rfl⟩,⟨_,rfl,.inl rfl⟩,trivial⟩ ⟨rfl,rfl,trivial⟩ rfl rfl rfl rfl)⟩
 clear hk11
 refine Ok.block (Ok.seq (Ok.region (OkOps.y (.c (.own 0)) (OkOps.y (aI s7.2.1) ?_))))
 obtain ⟨x12,hx12,hr⟩:=bind_some hr
 refine OkOps.q (triIdxV (enc:=(eInt .i64)) (L:=s7.2.2) hx12 rfl rfl rfl rfl trivial rfl) ?_
 obtain ⟨x13,hx13,hr⟩:=bind_some hr
 refine OkOps.q (triLoadV (enc:=(eInt .i64)) (L:=s7.2.2) (row:=[dI x13]) (r:=aI x13) hx13 rfl rfl rfl (fun _=>rfl) rfl  rfl) (OkOps.y (aI x13) (OkOps.nil (Ok.seq (Ok.region (OkOps.y (.c (.fn 69 [(1,0)])) (OkOps.y (aI x13) ?_))))))
 obtain ⟨x14,hx14,hr⟩:=bind_some hr
 refine OkOps.q (TriL.keep (triCallF (caps:=[(1,0)]) (tau [(0,1)]) (.s (aB x14)) [(1,.blk [cI del_0] 3)] rfl (fo_without_1_c _ _ hx14) rfl ⟨.inl rfl,.inl rfl,trivial⟩ trivial entry69 ⟨rfl,trivial⟩ rfl rfl rfl rfl trivial rfl rfl rfl) ⟨rfl,trivial⟩) (OkOps.y (aB (!x14)) (OkOps.nil ?_))
 refine Ok.cond (b:=!x14) rfl (fun h15=>?_) (fun h15=>?_)
 have hr:=selT h15 hr
 refine Ok.seq (Ok.region (OkOps.y (.c (.own 0)) (OkOps.y (aI s7.1) (OkOps.y (aI x13) ?_))))
 obtain ⟨x16,hx16,hr⟩:=bind_some hr
 refine OkOps.q (triIdxV (enc:=(eInt .i64)) (L:=s7.2.2) hx16 rfl rfl rfl rfl trivial rfl) (OkOps.w (triStoreV (enc:=(eInt .i64)) (L:=s7.2.2) x13 (.inr (ixO_spec hx16).2) rfl rfl rfl rfl rfl rfl (fun _=>rfl) rfl) (OkOps.nil (Ok.region (OkOps.y (aI s7.1) (OkOps.y (aI (IntKind.i64.wrap (s7.1 + 1))) (OkOps.y (aI (IntKind.i64.wrap (s7.1 + 1))) (OkOps.nil ?_)))))))
 exact ⟨(IntKind.i64.wrap (s7.1 + 1),List.set s7.2.2 x16 x13),hr,(Conv.mk (tau []) ⟨⟨_,rfl,.inl rfl⟩,⟨_,rfl,.inl rfl⟩,⟨_,rfl,.inl rfl⟩,⟨_,rfl,.inl rfl⟩,trivial⟩ ⟨rfl,rfl,trivial⟩ rfl rfl rfl rfl)⟩
 have hr:=selF h15 hr
 refine Ok.skip ?_
 exact ⟨(s7.1,s7.2.2),hr,(Conv.mk (tau []) ⟨⟨_,rfl,.inl rfl⟩,⟨_,rfl,.inl rfl⟩,⟨_,rfl,.inl rfl⟩,⟨_,rfl,.inl rfl⟩,trivial⟩ ⟨rfl,rfl,trivial⟩ rfl rfl rfl rfl)⟩
 have hr:=selF h9 hr
 refine Ok.exit ?_
 exact ⟨(s7.1,s7.2.2),hr,(Conv.mk (tau []) ⟨⟨_,rfl,.inl rfl⟩,⟨_,rfl,.inl rfl⟩,trivial⟩ ⟨rfl,rfl,trivial⟩ rfl rfl rfl rfl)⟩
theorem slices_Clone_Sl_int_intV_c (s : (List Int)) {r : (List Int)} (hr : slices_Clone_Sl_int_intV s = some r) : Con Tryd.prog 38 [.c (.d (.sl (List.map (eInt .i64) s)))] [] (.s (.c (.own 2000))) [(2000,.vec 1 (List.map (eInt .i64) r))]:=by
 unfold slices_Clone_Sl_int_intV at hr
 refine Con.of_ok 8 0 [.tmp 2] [(0,.s (.c (.d (.sl (List.map (eInt .i64) s)))))] Tryd.func38 rfl rfl rfl rfl rfl rfl rfl rfl fun w g M ρ _=>(Ok.seq (Ok.region (OkOps.q (triQ (x:=.c (.d (.v (.slice none 0 0)))) rfl trivial rfl) (OkOps.nil (Ok.seq (Ok.seq (Ok.region (OkOps.q (triQ (x:=.c (.d (.sl (List.map (eInt .i64) s)))) rfl trivial rfl) ?_))))))))
 refine OkOps.eqNil (e:=3) rfl (by kernel_rfl) trivial rfl (fun b hb=>?_)
 refine OkOps.nil ?_
 refine Ok.cond (b:=b) rfl (fun h=>?_) (fun h=>?_)
 obtain rfl : s = []:=by simpa using hb h
 obtain rfl : r = []:=((appO_spec hr).2 : _)
 refine Ok.seq (Ok.region (OkOps.q (triQ (x:=.c (.d (.v (.slice none 0 0)))) rfl trivial rfl) (OkOps.nil (Ok.conv (Conv.nilV (enc:=(eInt .i64)) 2 2000 1 0 rfl rfl) (Ok.ret ?_)))))
 exact ⟨_,rfl,.inl rfl,⟨rfl,trivial⟩⟩
 refine Ok.skip (Ok.seq (Ok.region (OkOps.m 0 (triBSV (sz:=1) (enc:=(eInt .i64)) (j:=0) [] rfl rfl rfl rfl rfl rfl rfl rfl (fun _=>rfl) trivial rfl rfl) (OkOps.q (triQ (x:=.c (.d (.sl (List.map (eInt .i64) s)))) rfl trivial rfl) (OkOps.m2 0 (triAppV (enc:=(eInt .i64)) (L:=[]) (X:=s) (j:=0) (j':=2000) hr rfl rfl rfl rfl rfl rfl (fun _=>rfl) (fun _=>rfl) trivial rfl rfl) (OkOps.q (triQ (x:=.c (.own 2000)) rfl trivial rfl) (OkOps.nil (Ok.ret ?_))))))))
 exact ⟨_,rfl,.inl rfl,⟨rfl,trivial⟩⟩
theorem fo_without_c (l : (List Int)) (id : Int) {r : (List Int)} (hr : fo_without l id = some r) : Con Tryd.prog 39 [.c (.d (.sl (List.map (eInt .i64) l))),aI id] [] (.s (.c (.tl 2000 (List.map (eInt .i64) r)))) [(2000,.tail 1)]:=by
 unfold fo_without at hr
 refine Con.of_ok 9 0 [.tmp 4] [(0,.s (.c (.d (.sl (List.map (eInt .i64) l))))),(1,.s (aI id))] Tryd.func39 rfl rfl rfl rfl rfl rfl rfl rfl fun w g M ρ _=>(Ok.seq (Ok.region (OkOps.m 0 (triBox (j:=0) (cs:=[cI id]) rfl rfl rfl rfl rfl) (OkOps.y (.c (.d (.v (.slice none 0 0)))) (OkOps.nil (Ok.seq (Ok.region (OkOps.y (.c (.d (.sl (List.map (eInt .i64) l)))) ?_))))))))
 obtain ⟨x1,hx1,hr⟩:=bind_some hr
 refine OkOps.m 0 (triCall (tau [(2000,1)]) (.s (.c (.own 1))) [(1,.vec 1 (List.map (eInt .i64) x1))] (slices_Clone_Sl_int_intV_c _ hx1) rfl ⟨.inl rfl,trivial⟩ trivial entry38 trivial rfl rfl rfl rfl ⟨rfl,trivial⟩ rfl rfl rfl) (OkOps.q (triMkF [(0,0)] rfl trivial rfl) ?_)
 obtain ⟨x2,hx2,hr⟩:=bind_some hr
 refine OkOps.m3 0 (triCall (tau [(0,1),(1,0),(2000,2)]) (.s (.c (.tl 2 (List.map (eInt .i64) x2)))) [(0,.blk [cI id] 3),(1,.dead),(2,.tail 1)] (sl_DeleteFunc_wo_c _ _ hx2) rfl ⟨.inl rfl,.inl rfl,trivial⟩ trivial entry42 ⟨rfl,rfl,trivial⟩ rfl rfl rfl rfl ⟨rfl,trivial⟩ rfl rfl rfl) (OkOps.y (.c (.tl 2 (List.map (eInt .i64) x2))) (OkOps.nil (Ok.conv (T:=⟨[(4,.s (.c (.tl 2000 (List.map (eInt .i64) x2))))],[(2000,.tail 1)],0⟩) (Conv.mk (tau [(2000,2)]) ⟨⟨_,rfl,.inl rfl⟩,trivial⟩ ⟨rfl,trivial⟩ rfl rfl rfl rfl) (Ok.ret ?_))))
 obtain rfl:=Option.some.inj hr
 exact ⟨_,rfl,.inl rfl,⟨rfl,trivial⟩⟩
theorem fo_remember_c (past : (List Int)) (id : Int) {r : (List Int)} (hr : fo_remember past id = some r) : Con Tryd.prog 40 [.c (.d (.sl (List.map (eInt .i64) past))),aI id] [] (.s (.c (.d (.sl (List.map (eInt .i64) r))))) []:=by
 unfold fo_remember at hr
 refine Con.of_ok 17 0 [.tmp 4] [(0,.s (.c (.d (.sl (List.map (eInt .i64) past))))),(1,.s (aI id))] Tryd.func40 rfl rfl rfl rfl rfl rfl rfl rfl fun w g M ρ _=>(Ok.seq (Ok.region (OkOps.y (.c (.d (.v (.slice none 0 0)))) (OkOps.nil (Ok.seq (Ok.region (OkOps.y (.c (.d (.sl (List.map (eInt .i64) past)))) (OkOps.y (aI id) ?_))))))))
 obtain ⟨x1,hx1,hr⟩:=bind_some hr
 refine OkOps.m 0 (triCall (tau [(2000,0)]) (.s (.c (.tl 0 (List.map (eInt .i64) x1)))) [(0,.tail 1)] (fo_without_c _ _ hx1) rfl ⟨.inl rfl,.inl rfl,trivial⟩ trivial entry39 trivial rfl rfl rfl rfl ⟨rfl,trivial⟩ rfl rfl rfl) (OkOps.y (aI id) (OkOps.m 0 (triBST (sz:=1) (enc:=(eInt .i64)) (j:=1) ([id]) rfl rfl rfl rfl rfl rfl rfl rfl (fun _=>rfl) trivial rfl rfl) ?_))
 obtain ⟨x2,hx2,hr⟩:=bind_some hr
 refine OkOps.m2 0 (triApp (enc:=(eInt .i64)) (L:=x1) (X:=[id]) (j:=0) (j':=2) hx2 rfl rfl rfl rfl rfl rfl (fun _=>rfl) (fun _=>rfl) (by decide) trivial rfl rfl) (OkOps.y (.c (.tl 2 (List.map (eInt .i64) x2))) (OkOps.nil (Ok.seq (Ok.region (OkOps.y (.c (.tl 2 (List.map (eInt .i64) x2))) (OkOps.y (.c (.tl 2 (List.map (eInt .i64) x2))) (OkOps.q (triLen (enc:=(eInt .i64)) x2 rfl rfl trivial rfl) (OkOps.y (aI (IntKind.i64.wrap ((x2.length : Int) - 16))) (OkOps.y (aI (mxI 0 (IntKind.i64.wrap ((x2.length : Int) - 16)))) ?_)))))))))
 obtain ⟨x3,hx3,hr⟩:=bind_some hr
 refine OkOps.q (triSlc (enc:=(eInt .i64)) (L:=x2) hx3 rfl rfl rfl (.inr ⟨_,rfl⟩) (.inl ⟨rfl,rfl⟩) rfl (fun _=>rfl) trivial rfl) (OkOps.y (.c (.d (.sl (List.map (eInt .i64) x3)))) (OkOps.nil (Ok.ret ?_)))
 obtain rfl:=Option.some.inj hr
 exact ⟨_,rfl,.inl rfl,trivial⟩
theorem fo_Repair_1_c (id : Int) (c0 : Tree) {r : Bool} (hr : fo_Repair_1 id c0 = some r) : Con Tryd.prog 41 [aI id,.c (.loc 0 0)] [(0,.blk [cI c0.Root,cI c0.Next,.d (.sl (List.map Node.cs c0.Nodes))] 46)] (.s (aB r)) [(0,.blk [cI c0.Root,cI c0.Next,.d (.sl (List.map Node.cs c0.Nodes))] 46)]:=by
 unfold fo_Repair_1 at hr
 refine Con.of_ok 13 0 [.tmp 3] [(0,.s (aI id)),(1,.s (.c (.loc 0 0)))] Tryd.func41 rfl rfl rfl rfl rfl rfl rfl rfl fun w g M ρ _=>(Ok.seq (Ok.region (OkOps.y (aB false) (OkOps.nil (Ok.seq (Ok.region (OkOps.y (.agg [cI c0.Root,cI c0.Next,.d (.sl (List.map Node.cs c0.Nodes))]) (OkOps.y (aI id) ?_))))))))
 obtain ⟨x1,hx1,hr⟩:=bind_some hr
 refine OkOps.q (triCl (tau []) (.tup [.agg [cI x1.1.ID,cI x1.1.Parent,cI x1.1.Kind,cS x1.1.Key,.d (.sl (List.map Attr.cs x1.1.Attrs)),.d (.sl (List.map Action.cs x1.1.Actions)),.d (.sl (List.map (eInt .i64) x1.1.Kids))],aB x1.2]) [] (vw_Find_c _ _ hx1) rfl ⟨.inl rfl,.inl rfl,trivial⟩ trivial entry33 trivial) (OkOps.q (triMv (v:=.tup [.agg [cI x1.1.ID,cI x1.1.Parent,cI x1.1.Kind,cS x1.1.Key,.d (.sl (List.map Attr.cs x1.1.Attrs)),.d (.sl (List.map Action.cs x1.1.Actions)),.d (.sl (List.map (eInt .i64) x1.1.Kids))],aB x1.2]) rfl rfl) (OkOps.y (.agg [cI x1.1.ID,cI x1.1.Parent,cI x1.1.Kind,cS x1.1.Key,.d (.sl (List.map Attr.cs x1.1.Attrs)),.d (.sl (List.map Action.cs x1.1.Actions)),.d (.sl (List.map (eInt .i64) x1.1.Kids))]) (OkOps.y (aB x1.2) (OkOps.m 0 (triAlloc (j:=1) (cs:=[cI 0,cI 0,cI 0,cS ByteArray.empty,.d (.v (.slice none 0 0)),.d (.v (.slice none 0 0)),.d (.v (.slice none 0 0))]) rfl rfl rfl rfl) (OkOps.w (triStore (cs':=[cI x1.1.ID,cI x1.1.Parent,cI x1.1.Kind,cS x1.1.Key,.d (.sl (List.map Attr.cs x1.1.Attrs)),.d (.sl (List.map Action.cs x1.1.Actions)),.d (.sl (List.map (eInt .i64) x1.1.Kids))]) rfl rfl rfl rfl rfl rfl rfl rfl rfl) (OkOps.y (aB x1.2) (OkOps.nil (Ok.seq (Ok.region (OkOps.y (aB x1.2) (OkOps.y (aB x1.2) (OkOps.nil (Ok.ret ?_)))))))))))))
 obtain rfl:=Option.some.inj hr
 exact ⟨_,rfl,.inl rfl,⟨rfl,trivial⟩⟩
theorem fo_Repair_2_c (id : Int) (c1 : Tree) {r : Bool} (hr : fo_Repair_2 id c1 = some r) : Con Tryd.prog 43 [aI id,.c (.loc 0 0)] [(0,.blk [.fn 41 [(1,0)]] 103),(1,.blk [cI c1.Root,cI c1.Next,.d (.sl (List.map Node.cs c1.Nodes))] 46)] (.s (aB r)) [(0,.blk [.fn 41 [(1,0)]] 103),(1,.blk [cI c1.Root,cI c1.Next,.d (.sl (List.map Node.cs c1.Nodes))] 46)]:=by
 unfold fo_Repair_2 at hr
 refine Con.of_ok 8 0 [.tmp 3] [(0,.s (aI id)),(1,.s (.c (.loc 0 0)))] Tryd.func43 rfl rfl rfl rfl rfl rfl rfl rfl fun w g M ρ _=>(Ok.seq (Ok.region (OkOps.y (aB false) (OkOps.nil (Ok.seq (Ok.region (OkOps.y (.c (.fn 41 [(1,0)])) (OkOps.y (aI id) ?_))))))))
 obtain ⟨x1,hx1,hr⟩:=bind_some hr
 refine OkOps.q (TriL.keep (triCallF (caps:=[(1,0)]) (tau [(0,1)]) (.s (aB x1)) [(1,.blk [cI c1.Root,cI c1.Next,.d (.sl (List.map Node.cs c1.Nodes))] 46)] rfl (fo_Repair_1_c _ _ hx1) rfl ⟨.inl rfl,.inl rfl,trivial⟩ trivial entry41 ⟨rfl,trivial⟩ rfl rfl rfl rfl trivial rfl rfl rfl) ⟨rfl,trivial⟩) (OkOps.y (aB (!x1)) (OkOps.y (aB (!x1)) (OkOps.nil (Ok.ret ?_))))
 obtain rfl:=Option.some.inj hr
 exact ⟨_,rfl,.inl rfl,⟨rfl,rfl,trivial⟩⟩
theorem sl_IndexFunc_rep_c (p_s : (List Int)) (f_1 : Tree) {r : Int × (List Int)} (hr : sl_IndexFunc_rep p_s f_1 = some r) : Con Tryd.prog 70 [.c (.own 0),.c (.fn 43 [(1,0)])] [(0,.vec 1 (List.map (eInt .i64) p_s)),(1,.blk [.fn 41 [(2,0)]] 103),(2,.blk [cI f_1.Root,cI f_1.Next,.d (.sl (List.map Node.cs f_1.Nodes))] 46)] (.s (aI r.1)) [(0,.vec 1 (List.map (eInt .i64) r.2)),(1,.blk [.fn 41 [(2,0)]] 103),(2,.blk [cI f_1.Root,cI f_1.Next,.d (.sl (List.map Node.cs f_1.Nodes))] 46)]:=by
 unfold sl_IndexFunc_rep at hr
 refine Con.of_ok 19 0 [.tmp 4] [(0,.s (.c (.own 0))),(1,.s (.c (.fn 43 [(1,0)])))] Tryd.func70 rfl rfl rfl rfl rfl rfl rfl rfl fun w g M ρ _=>(Ok.seq (Ok.region (OkOps.y (aI 0) (OkOps.nil ?_))))
 obtain ⟨k2,hk2,hr⟩:=jn_some hr
 refine Ok.join (fun (s1 : Unit)=>⟨[],[(0,.vec 1 (List.map (eInt .i64) p_s)),(1,.blk [.fn 41 [(2,0)]] 103),(2,.blk [cI f_1.Root,cI f_1.Next,.d (.sl (List.map Node.cs f_1.Nodes))] 46)],0⟩) k2 r (fun s1 hr=>?_) ?_
 rw [hk2] at hr
 refine Ok.seq (Ok.region (OkOps.y (aI (-1)) (OkOps.nil (Ok.ret ?_))))
 obtain rfl:=Option.some.inj hr
 exact ⟨_,rfl,.inl rfl,⟨rfl,rfl,rfl,trivial⟩⟩
 clear hk2
 refine Ok.seq (Ok.region (OkOps.y (.c (.own 0)) (OkOps.q (triLenV (enc:=(eInt .i64)) p_s rfl rfl rfl rfl) (OkOps.y (aI 0) (OkOps.nil (Ok.block (Ok.loopK (fun (s3 : Int)=>⟨[(0,.s (.c (.own 0))),(1,.s (.c (.fn 43 [(1,0)]))),(7,.s (aI (p_s.length : Int))),(8,.s (aI s3))],[(0,.vec 1 (List.map (eInt .i64) p_s)),(1,.blk [.fn 41 [(2,0)]] 103),(2,.blk [cI f_1.Root,cI f_1.Next,.d (.sl (List.map Node.cs f_1.Nodes))] 46)],0⟩) hr (Conv.mk (tau []) ⟨⟨_,rfl,.inl rfl⟩,⟨_,rfl,.inl rfl⟩,⟨_,rfl,.inl rfl⟩,⟨_,rfl,.inl rfl⟩,trivial⟩ ⟨rfl,rfl,rfl,trivial⟩ rfl rfl rfl rfl) ?_)))))))
 clear hr
 intro again4 s3 hr
 unfold sl_IndexFunc_rep_L1 at hr
 refine Ok.seq (Ok.region (OkOps.y (aB (decide (s3 < (p_s.length : Int)))) (OkOps.nil (Ok.seq ?_))))
 refine Ok.cond (b:=decide (s3 < (p_s.length : Int))) rfl (fun h5=>?_) (fun h5=>?_)
 have hr:=selT h5 hr
 refine Ok.skip (Ok.seq (Ok.block (Ok.seq (Ok.region (OkOps.y (aI s3) (OkOps.y (aI s3) (OkOps.nil (Ok.seq (Ok.region (OkOps.y (.c (.fn 43 [(1,0)])) (OkOps.y (.c (.own 0)) (OkOps.y (aI s3) ?_))))))))))))
 obtain ⟨x6,hx6,hr⟩:=bind_some hr
 refine OkOps.q (triIdxV (enc:=(eInt .i64)) (L:=p_s) hx6 rfl rfl rfl rfl trivial rfl) ?_
 obtain ⟨x7,hx7,hr⟩:=bind_some hr
 refine OkOps.q (triLoadV (enc:=(eInt .i64)) (L:=p_s) (row:=[dI x7]) (r:=aI x7) hx7 rfl rfl rfl (fun _=>rfl) rfl  rfl) ?_
 obtain ⟨x8,hx8,hr⟩:=bind_some hr
 refine OkOps.q (TriL.keep (triCallF (caps:=[(1,0)]) (tau [(0,1),(1,2)]) (.s (aB x8)) [(1,.blk [.fn 41 [(2,0)]] 103),(2,.blk [cI f_1.Root,cI f_1.Next,.d (.sl (List.map Node.cs f_1.Nodes))] 46)] rfl (fo_Repair_2_c _ _ hx8) rfl ⟨.inl rfl,.inl rfl,trivial⟩ trivial entry43 ⟨rfl,rfl,trivial⟩ rfl rfl rfl rfl trivial rfl rfl rfl) ⟨rfl,rfl,trivial⟩) (OkOps.nil ?_)
 refine Ok.cond (b:=x8) rfl (fun h9=>?_) (fun h9=>?_)
 have hr:=selT h9 hr
 refine Ok.seq (Ok.region (OkOps.y (aI s3) (OkOps.y (aI s3) (OkOps.nil (Ok.ret ?_)))))
 obtain rfl:=Option.some.inj hr
 exact ⟨_,rfl,.inl rfl,⟨rfl,rfl,rfl,trivial⟩⟩
 have hr:=selF h9 hr
 refine Ok.skip (Ok.region (OkOps.y (aI (IntKind.i64.wrap (s3 + 1))) (OkOps.y (aI (IntKind.i64.wrap (s3 + 1))) (OkOps.nil ?_))))
 exact ⟨IntKind.i64.wrap (s3 + 1),hr,(Conv.mk (tau []) ⟨⟨_,rfl,.inl rfl⟩,⟨_,rfl,.inl rfl⟩,⟨_,rfl,.inl rfl⟩,⟨_,rfl,.inl rfl⟩,trivial⟩ ⟨rfl,rfl,rfl,trivial⟩ rfl rfl rfl rfl)⟩
 have hr:=selF h5 hr
 refine Ok.exit ?_
 exact ⟨(),hr,(Conv.mk (tau []) trivial ⟨rfl,rfl,rfl,trivial⟩ rfl rfl rfl rfl)⟩
theorem sl_DeleteFunc_rep_c (p_s : (List Int)) (del_1 : Tree) {r : (List Int)} (hr : sl_DeleteFunc_rep p_s del_1 = some r) : Con Tryd.prog 42 [.c (.own 0),.c (.fn 43 [(1,0)])] [(0,.vec 1 (List.map (eInt .i64) p_s)),(1,.blk [.fn 41 [(2,0)]] 103),(2,.blk [cI del_1.Root,cI del_1.Next,.d (.sl (List.map Node.cs del_1.Nodes))] 46)] (.s (.c (.tl 2000 (List.map (eInt .i64) r)))) [(1,.blk [.fn 41 [(2,0)]] 103),(2,.blk [cI del_1.Root,cI del_1.Next,.d (.sl (List.map Node.cs del_1.Nodes))] 46),(0,.dead),(2000,.tail 1)]:=by
 unfold sl_DeleteFunc_rep at hr
 refine Con.of_ok 42 0 [.tmp 4] [(0,.s (.c (.own 0))),(1,.s (.c (.fn 43 [(1,0)])))] Tryd.func42 rfl rfl rfl rfl rfl rfl rfl rfl fun w g M ρ _=>(Ok.seq (Ok.region (OkOps.y (.c (.d (.v (.slice none 0 0)))) (OkOps.nil (Ok.seq (Ok.region (OkOps.y (.c (.own 0)) (OkOps.y (.c (.fn 43 [(1,0)])) ?_))))))))
 obtain ⟨x1,hx1,hr⟩:=bind_some hr
 refine OkOps.m3 0 (triCl (tau [(0,0),(1,1),(2,2)]) (.s (aI x1.1)) [(0,.vec 1 (List.map (eInt .i64) x1.2)),(1,.blk [.fn 41 [(2,0)]] 103),(2,.blk [cI del_1.Root,cI del_1.Next,.d (.sl (List.map Node.cs del_1.Nodes))] 46)] (sl_IndexFunc_rep_c _ _ hx1) rfl ⟨.inl rfl,.inl rfl,trivial⟩ trivial entry70 ⟨rfl,rfl,rfl,trivial⟩) (OkOps.y (aI x1.1) (OkOps.nil (Ok.seq (Ok.seq (Ok.region (OkOps.y (aI x1.1) (OkOps.y (aB (x1.1 == (-1))) (OkOps.nil ?_))))))))
 refine Ok.cond (b:=x1.1 == (-1)) rfl (fun h2=>?_) (fun h2=>?_)
 have hr:=selT h2 hr
 refine Ok.seq (Ok.region (OkOps.y (.c (.own 0)) (OkOps.y (.c (.own 0)) (OkOps.nil (Ok.conv (Conv.freeze (enc:=(eInt .i64)) (L:=x1.2) [0,4,8,13] 0 3 1 0 ⟨rfl,rfl,rfl,rfl,trivial⟩ rfl (fun _=>rfl) rfl) (Ok.conv (T:=⟨[(4,.s (.c (.tl 2000 (List.map (eInt .i64) x1.2))))],[(0,.dead),(1,.blk [.fn 41 [(2,0)]] 103),(2,.blk [cI del_1.Root,cI del_1.Next,.d (.sl (List.map Node.cs del_1.Nodes))] 46),(2000,.tail 1)],0⟩) (Conv.mk (tau [(2000,3)]) ⟨⟨_,rfl,.inl rfl⟩,trivial⟩ ⟨rfl,rfl,rfl,trivial⟩ rfl rfl rfl rfl) (Ok.ret ?_)))))))
 obtain rfl:=Option.some.inj hr
 exact ⟨_,rfl,.inl rfl,⟨rfl,rfl,(fun h=>by cases h),rfl,trivial⟩⟩
 have hr:=selF h2 hr
 refine Ok.skip ?_
 obtain ⟨k4,hk4,hr⟩:=jn_some hr
 refine Ok.join (fun (s3 : Int × (List Int))=>⟨[(0,.s (.c (.own 0))),(5,.s (aI s3.1))],[(0,.vec 1 (List.map (eInt .i64) s3.2)),(1,.blk [.fn 41 [(2,0)]] 103),(2,.blk [cI del_1.Root,cI del_1.Next,.d (.sl (List.map Node.cs del_1.Nodes))] 46)],0⟩) k4 r (fun s3 hr=>?_) ?_
 rw [hk4] at hr
 refine Ok.seq (Ok.region (OkOps.y (.c (.own 0)) (OkOps.y (aI s3.1) ?_)))
 obtain ⟨x5,hx5,hr⟩:=bind_some hr
 refine OkOps.clrV (enc:=(eInt .i64)) (L:=s3.2) 0 hx5 rfl rfl rfl rfl rfl rfl rfl (fun _=>rfl) trivial rfl rfl (OkOps.nil (Ok.seq (Ok.region (OkOps.y (.c (.own 0)) (OkOps.y (aI s3.1) ?_)))))
 obtain ⟨x6,hx6,hr⟩:=bind_some hr
 refine OkOps.m2 0 (triSlcV (enc:=(eInt .i64)) (L:=List.take x5 s3.2 ++ List.replicate (s3.2.length - x5) 0) (j:=0) (j':=4) hx6 rfl rfl rfl rfl (fun _=>rfl) trivial rfl rfl) (OkOps.y (.c (.tl 4 (List.map (eInt .i64) (List.take x6 (List.take x5 s3.2 ++ List.replicate (s3.2.length - x5) 0))))) (OkOps.nil (Ok.conv (T:=⟨[(4,.s (.c (.tl 2000 (List.map (eInt .i64) (List.take x6 (List.take x5 s3.2 ++ List.replicate (s3.2.length - x5) 0))))))],[(0,.dead),(1,.blk [.fn 41 [(2,0)]] 103),(2,.blk [cI del_1.Root,cI del_1.Next,.d (.sl (List.map Node.cs del_1.Nodes))] 46),(2000,.tail 1)],0⟩) (Conv.mk (tau [(2000,4)]) ⟨⟨_,rfl,.inl rfl⟩,trivial⟩ ⟨rfl,rfl,rfl,trivial⟩ rfl rfl rfl rfl) (Ok.ret ?_))))
 obtain rfl:=Option.some.inj hr
 exact ⟨_,rfl,.inl rfl,⟨rfl,rfl,(fun h=>by cases h),rfl,trivial⟩⟩
 clear hk4
 refine Ok.seq (Ok.region (OkOps.y (aI x1.1) (OkOps.y (aI (IntKind.i64.wrap (x1.1 + 1))) (OkOps.y (aI (IntKind.i64.wrap (x1.1 + 1))) (OkOps.nil (Ok.block (Ok.loopK (fun (s7 : Int × Int × (List Int))=>⟨[(0,.s (.c (.own 0))),(1,.s (.c (.fn 43 [(1,0)]))),(5,.s (aI s7.1)),(6,.s (aI s7.2.1))],[(0,.vec 1 (List.map (eInt .i64) s7.2.2)),(1,.blk [.fn 41 [(2,0)]] 103),(2,.blk [cI del_1.Root,cI del_1.Next,.d (.sl (List.map Node.cs del_1.Nodes))] 46)],0⟩) hr (Conv.mk (tau []) ⟨⟨_,rfl,.inl rfl⟩,⟨_,rfl,.inl rfl⟩,⟨_,rfl,.inl rfl⟩,⟨_,rfl,.inl rfl⟩,trivial⟩ ⟨rfl,rfl,rfl,trivial⟩ rfl rfl rfl rfl) ?_)))))))
 clear hr
 intro again8 s7 hr
 unfold sl_DeleteFunc_rep_L1 at hr
 refine Ok.seq (Ok.seq (Ok.region (OkOps.y (aI s7.2.1) (OkOps.y (.c (.own 0)) (OkOps.q (triLenV (enc:=(eInt .i64)) s7.2.2 rfl rfl rfl rfl) (OkOps.y (aB (decide (s7.2.1 < (s7.2.2.length : Int)))) (OkOps.nil ?_)))))))
 refine Ok.cond (b:=decide (s7.2.1 < (s7.2.2.length : Int))) rfl (fun h9=>?_) (fun h9=>?_)
 have hr:=selT h9 hr
 refine Ok.skip ?_
 obtain ⟨k11,hk11,hr⟩:=jn_some hr
 refine Ok.join (fun (s10 : Int × (List Int))=>⟨[(0,.s (.c (.own 0))),(1,.s (.c (.fn 43 [(1,0)]))),(5,.s (aI s10.1)),(6,.s (aI s7.2.1))],[(0,.vec 1 (List.map (eInt .i64) s10.2)),(1,.blk [.fn 41 [(2,0)]] 103),(2,.blk [cI del_1.Root,cI del_1.Next,.d (.sl (List.map Node.cs del_1.Nodes))] 46)],0⟩) k11 r (fun s10 hr=>?_) ?_
 rw [hk11] at hr
 refine Ok.region (OkOps.y (aI s7.2.1) (OkOps.y (aI (IntKind.i64.wrap (s7.2.1 + 1))) (OkOps.y (aI (IntKind.i64.wrap (s7.2.1 + 1))) (OkOps.nil ?_))))
 exact ⟨(s10.1,IntKind.i64.wrap (s7.2.1 + 1),s10.2),hr,(Conv.mk (tau []) ⟨⟨_,rfl,.inl rfl⟩,⟨_,rfl,.inl rfl⟩,⟨_,rfl,.inl rfl⟩,⟨_,rfl,.inl rfl⟩,trivial⟩ ⟨rfl,rfl,rfl,trivial⟩ rfl rfl rfl rfl)⟩
 clear hk11
 refine Ok.block (Ok.seq (Ok.region (OkOps.y (.c (.own 0)) (OkOps.y (aI s7.2.1) ?_))))
 obtain ⟨x12,hx12,hr⟩:=bind_some hr
 refine OkOps.q (triIdxV (enc:=(eInt .i64)) (L:=s7.2.2) hx12 rfl rfl rfl rfl trivial rfl) ?_
 obtain ⟨x13,hx13,hr⟩:=bind_some hr
 refine OkOps.q (triLoadV (enc:=(eInt .i64)) (L:=s7.2.2) (row:=[dI x13]) (r:=aI x13) hx13 rfl rfl rfl (fun _=>rfl) rfl  rfl) (OkOps.y (aI x13) (OkOps.nil (Ok.seq (Ok.region (OkOps.y (.c (.fn 43 [(1,0)])) (OkOps.y (aI x13) ?_))))))
 obtain ⟨x14,hx14,hr⟩:=bind_some hr
 refine OkOps.q (TriL.keep (triCallF (caps:=[(1,0)]) (tau [(0,1),(1,2)]) (.s (aB x14)) [(1,.blk [.fn 41 [(2,0)]] 103),(2,.blk [cI del_1.Root,cI del_1.Next,.d (.sl (List.map Node.cs del_1.Nodes))] 46)] rfl (fo_Repair_2_c _ _ hx14) rfl ⟨.inl rfl,.inl rfl,trivial⟩ trivial entry43 ⟨rfl,rfl,trivial⟩ rfl rfl rfl rfl trivial rfl rfl rfl) ⟨rfl,rfl,trivial⟩) (OkOps.y (aB (!x14)) (OkOps.nil ?_))
 refine Ok.cond (b:=!x14) rfl (fun h15=>?_) (fun h15=>?_)
 have hr:=selT h15 hr
 refine Ok.seq (Ok.region (OkOps.y (.c (.own 0)) (OkOps.y (aI s7.1) (OkOps.y (aI x13) ?_))))
 obtain ⟨x16,hx16,hr⟩:=bind_some hr
 refine OkOps.q (triIdxV (enc:=(eInt .i64)) (L:=s7.2.2) hx16 rfl rfl rfl rfl trivial rfl) (OkOps.w (triStoreV (enc:=(eInt .i64)) (L:=s7.2.2) x13 (.inr (ixO_spec hx16).2) rfl rfl rfl rfl rfl rfl (fun _=>rfl) rfl) (OkOps.nil (Ok.region (OkOps.y (aI s7.1) (OkOps.y (aI (IntKind.i64.wrap (s7.1 + 1))) (OkOps.y (aI (IntKind.i64.wrap (s7.1 + 1))) (OkOps.nil ?_)))))))
 exact ⟨(IntKind.i64.wrap (s7.1 + 1),List.set s7.2.2 x16 x13),hr,(Conv.mk (tau []) ⟨⟨_,rfl,.inl rfl⟩,⟨_,rfl,.inl rfl⟩,⟨_,rfl,.inl rfl⟩,⟨_,rfl,.inl rfl⟩,trivial⟩ ⟨rfl,rfl,rfl,trivial⟩ rfl rfl rfl rfl)⟩
 have hr:=selF h15 hr
 refine Ok.skip ?_
 exact ⟨(s7.1,s7.2.2),hr,(Conv.mk (tau []) ⟨⟨_,rfl,.inl rfl⟩,⟨_,rfl,.inl rfl⟩,⟨_,rfl,.inl rfl⟩,⟨_,rfl,.inl rfl⟩,trivial⟩ ⟨rfl,rfl,rfl,trivial⟩ rfl rfl rfl rfl)⟩
 have hr:=selF h9 hr
 refine Ok.exit ?_
 exact ⟨(s7.1,s7.2.2),hr,(Conv.mk (tau []) ⟨⟨_,rfl,.inl rfl⟩,⟨_,rfl,.inl rfl⟩,trivial⟩ ⟨rfl,rfl,rfl,trivial⟩ rfl rfl rfl rfl)⟩
theorem slices_Index_Sl_int_int_c (p_s : (List Int)) (v : Int) {r : Int} (hr : slices_Index_Sl_int_int p_s v = some r) : Con Tryd.prog 48 [.c (.d (.sl (List.map (eInt .i64) p_s))),aI v] [] (.s (aI r)) []:=by
 unfold slices_Index_Sl_int_int at hr
 refine Con.of_ok 19 0 [.tmp 4] [(0,.s (.c (.d (.sl (List.map (eInt .i64) p_s))))),(1,.s (aI v))] Tryd.func48 rfl rfl rfl rfl rfl rfl rfl rfl fun w g M ρ _=>(Ok.seq (Ok.region (OkOps.y (aI 0) (OkOps.nil ?_))))
 obtain ⟨k2,hk2,hr⟩:=jn_some hr
 refine Ok.join (fun (s1 : Unit)=>⟨[],[],0⟩) k2 r (fun s1 hr=>?_) ?_
 rw [hk2] at hr
 refine Ok.seq (Ok.region (OkOps.y (aI (-1)) (OkOps.nil (Ok.ret ?_))))
 obtain rfl:=Option.some.inj hr
 exact ⟨_,rfl,.inl rfl,trivial⟩
 clear hk2
 refine Ok.seq (Ok.region (OkOps.y (.c (.d (.sl (List.map (eInt .i64) p_s)))) (OkOps.q (triLen (enc:=(eInt .i64)) p_s rfl rfl trivial rfl) (OkOps.y (aI 0) (OkOps.nil (Ok.block (Ok.loopK (fun (s3 : Int)=>⟨[(0,.s (.c (.d (.sl (List.map (eInt .i64) p_s))))),(1,.s (aI v)),(7,.s (aI (p_s.length : Int))),(8,.s (aI s3))],[],0⟩) hr (Conv.mk (tau []) ⟨⟨_,rfl,.inl rfl⟩,⟨_,rfl,.inl rfl⟩,⟨_,rfl,.inl rfl⟩,⟨_,rfl,.inl rfl⟩,trivial⟩ trivial rfl rfl rfl rfl) ?_)))))))
 clear hr
 intro again4 s3 hr
 unfold slices_Index_Sl_int_int_L1 at hr
 refine Ok.seq (Ok.region (OkOps.y (aB (decide (s3 < (p_s.length : Int)))) (OkOps.nil (Ok.seq ?_))))
 refine Ok.cond (b:=decide (s3 < (p_s.length : Int))) rfl (fun h5=>?_) (fun h5=>?_)
 have hr:=selT h5 hr
 refine Ok.skip (Ok.seq (Ok.block (Ok.seq (Ok.region (OkOps.y (aI s3) (OkOps.y (aI s3) (OkOps.nil (Ok.seq (Ok.region (OkOps.y (aI v) (OkOps.y (.c (.d (.sl (List.map (eInt .i64) p_s)))) (OkOps.y (aI s3) ?_))))))))))))
 obtain ⟨x6,hx6,hr⟩:=bind_some hr
 refine OkOps.q (triIdx (enc:=(eInt .i64)) (L:=p_s) (row:=[dI x6]) hx6 rfl rfl rfl rfl (fun _=>rfl) trivial rfl) (OkOps.y (aI x6) (OkOps.y (aB (v == x6)) (OkOps.nil ?_)))
 refine Ok.cond (b:=v == x6) rfl (fun h7=>?_) (fun h7=>?_)
 have hr:=selT h7 hr
 refine Ok.seq (Ok.region (OkOps.y (aI s3) (OkOps.y (aI s3) (OkOps.nil (Ok.ret ?_)))))
 obtain rfl:=Option.some.inj hr
 exact ⟨_,rfl,.inl rfl,trivial⟩
 have hr:=selF h7 hr
 refine Ok.skip (Ok.region (OkOps.y (aI (IntKind.i64.wrap (s3 + 1))) (OkOps.y (aI (IntKind.i64.wrap (s3 + 1))) (OkOps.nil ?_))))
 exact ⟨IntKind.i64.wrap (s3 + 1),hr,(Conv.mk (tau []) ⟨⟨_,rfl,.inl rfl⟩,⟨_,rfl,.inl rfl⟩,⟨_,rfl,.inl rfl⟩,⟨_,rfl,.inl rfl⟩,trivial⟩ trivial rfl rfl rfl rfl)⟩
 have hr:=selF h5 hr
 refine Ok.exit ?_
 exact ⟨(),hr,(Conv.mk (tau []) trivial trivial rfl rfl rfl rfl)⟩
theorem slices_Contains_Sl_int_int_c (p_s : (List Int)) (v : Int) {r : Bool} (hr : slices_Contains_Sl_int_int p_s v = some r) : Con Tryd.prog 44 [.c (.d (.sl (List.map (eInt .i64) p_s))),aI v] [] (.s (aB r)) []:=by
 unfold slices_Contains_Sl_int_int at hr
 refine Con.of_ok 9 0 [.tmp 4] [(0,.s (.c (.d (.sl (List.map (eInt .i64) p_s))))),(1,.s (aI v))] Tryd.func44 rfl rfl rfl rfl rfl rfl rfl rfl fun w g M ρ _=>(Ok.seq (Ok.region (OkOps.y (aB false) (OkOps.nil (Ok.seq (Ok.region (OkOps.y (.c (.d (.sl (List.map (eInt .i64) p_s)))) (OkOps.y (aI v) ?_))))))))
 obtain ⟨x1,hx1,hr⟩:=bind_some hr
 refine OkOps.q (triCl (tau []) (.s (aI x1)) [] (slices_Index_Sl_int_int_c _ _ hx1) rfl ⟨.inl rfl,.inl rfl,trivial⟩ trivial entry48 trivial) (OkOps.y (aB (decide (x1 ≥ 0))) (OkOps.y (aB (decide (x1 ≥ 0))) (OkOps.nil (Ok.ret ?_))))
 obtain rfl:=Option.some.inj hr
 exact ⟨_,rfl,.inl rfl,trivial⟩
theorem fo_heir_1_c (id : Int) (c0 : (List Int)) {r : Bool} (hr : fo_heir_1 id c0 = some r) : Con Tryd.prog 71 [aI id,.c (.loc 0 0)] [(0,.blk [.d (.sl (List.map (eInt .i64) c0))] 22)] (.s (aB r)) [(0,.blk [.d (.sl (List.map (eInt .i64) c0))] 22)]:=by
 unfold fo_heir_1 at hr
 refine Con.of_ok 7 0 [.tmp 3] [(0,.s (aI id)),(1,.s (.c (.loc 0 0)))] Tryd.func71 rfl rfl rfl rfl rfl rfl rfl rfl fun w g M ρ _=>(Ok.seq (Ok.region (OkOps.y (aB false) (OkOps.nil (Ok.seq (Ok.region (OkOps.y (.c (.d (.sl (List.map (eInt .i64) c0)))) (OkOps.y (aI id) ?_))))))))
 obtain ⟨x1,hx1,hr⟩:=bind_some hr
 refine OkOps.q (triCl (tau []) (.s (aB x1)) [] (slices_Contains_Sl_int_int_c _ _ hx1) rfl ⟨.inl rfl,.inl rfl,trivial⟩ trivial entry44 trivial) (OkOps.y (aB x1) (OkOps.nil (Ok.ret ?_)))
 obtain rfl:=Option.some.inj hr
 exact ⟨_,rfl,.inl rfl,⟨rfl,trivial⟩⟩
theorem fo_heir_c (order : (List Int)) (past : (List Int)) (candidates : (List Int)) (now : (List Int)) (lost : Int) {r : Int} (hr : fo_heir order past candidates now lost = some r) : Con Tryd.prog 45 [.c (.d (.sl (List.map (eInt .i64) order))),.c (.d (.sl (List.map (eInt .i64) past))),.c (.d (.sl (List.map (eInt .i64) candidates))),.c (.d (.sl (List.map (eInt .i64) now))),aI lost] [] (.s (aI r)) []:=by
 unfold fo_heir at hr
 refine Con.of_ok 63 0 [.cell 10 3] [(0,.s (.c (.d (.sl (List.map (eInt .i64) order))))),(1,.s (.c (.d (.sl (List.map (eInt .i64) past))))),(2,.s (.c (.d (.sl (List.map (eInt .i64) candidates))))),(3,.s (.c (.d (.sl (List.map (eInt .i64) now))))),(4,.s (aI lost))] Tryd.func45 rfl rfl rfl rfl rfl rfl rfl rfl fun w g M ρ _=>(Ok.seq (Ok.region (OkOps.m 0 (triBox (j:=0) (cs:=[.d (.sl (List.map (eInt .i64) candidates))]) rfl rfl rfl rfl rfl) (OkOps.m 0 (triAlloc (j:=1) (cs:=[cI 0]) rfl rfl rfl rfl) (OkOps.nil (Ok.seq (Ok.region (OkOps.q (triMkF [(0,0)] rfl trivial rfl) (OkOps.m 0 (triAlloc (j:=2) (cs:=[.d (.v .nilFunc)]) rfl rfl rfl rfl) (OkOps.w (triStore (cs':=[.fn 71 [(0,0)]]) rfl rfl rfl rfl rfl rfl rfl rfl rfl) (OkOps.nil ?_)))))))))))
 obtain ⟨k2,hk2,hr⟩:=jn_some hr
 refine Ok.join (fun (s1 : Unit)=>⟨[(0,.s (.c (.d (.sl (List.map (eInt .i64) order))))),(3,.s (.c (.d (.sl (List.map (eInt .i64) now))))),(4,.s (aI lost)),(10,.s (.c (.loc 1 0))),(11,.s (.c (.loc 2 0)))],[(0,.blk [.d (.sl (List.map (eInt .i64) candidates))] 22),(1,.blk [cI 0] 3),(2,.blk [.fn 71 [(0,0)]] 103)],0⟩) k2 r (fun s1 hr=>?_) ?_
 rw [hk2] at hr
 obtain ⟨k4,hk4,hr⟩:=jn_some hr
 refine Ok.join (fun (s3 : Unit)=>⟨[(3,.s (.c (.d (.sl (List.map (eInt .i64) now))))),(10,.s (.c (.loc 1 0)))],[(1,.blk [cI 0] 3)],0⟩) k4 r (fun s3 hr=>?_) ?_
 rw [hk4] at hr
 refine Ok.seq (Ok.seq (Ok.region (OkOps.y (.c (.d (.sl (List.map (eInt .i64) now)))) (OkOps.q (triLen (enc:=(eInt .i64)) now rfl rfl trivial rfl) (OkOps.y (aB (decide ((now.length : Int) > 0))) (OkOps.nil ?_))))))
 refine Ok.cond (b:=decide ((now.length : Int) > 0)) rfl (fun h5=>?_) (fun h5=>?_)
 have hr:=selT h5 hr
 refine Ok.seq (Ok.region (OkOps.y (.c (.d (.sl (List.map (eInt .i64) now)))) ?_))
 obtain ⟨x6,hx6,hr⟩:=bind_some hr
 refine OkOps.q (triIdx (enc:=(eInt .i64)) (L:=now) (row:=[dI x6]) hx6 rfl rfl rfl rfl (fun _=>rfl) trivial rfl) (OkOps.y (aI x6) (OkOps.w (triStore (cs':=[cI x6]) rfl rfl rfl rfl rfl rfl rfl rfl rfl) (OkOps.nil (Ok.ret ?_))))
 obtain rfl:=Option.some.inj hr
 exact ⟨_,rfl,.inl rfl,trivial⟩
 have hr:=selF h5 hr
 refine Ok.skip (Ok.seq (Ok.region (OkOps.w (triStore (cs':=[cI 0]) rfl rfl rfl rfl rfl rfl rfl rfl rfl) (OkOps.nil (Ok.ret ?_)))))
 obtain rfl:=Option.some.inj hr
 exact ⟨_,rfl,.inl rfl,trivial⟩
 clear hk4
 refine Ok.seq (Ok.region (OkOps.y (.c (.d (.sl (List.map (eInt .i64) order)))) (OkOps.y (aI lost) ?_)))
 obtain ⟨x7,hx7,hr⟩:=bind_some hr
 refine OkOps.q (triCl (tau []) (.s (aI x7)) [] (slices_Index_Sl_int_int_c _ _ hx7) rfl ⟨.inl rfl,.inl rfl,trivial⟩ trivial entry48 trivial) (OkOps.y (aI x7) (OkOps.nil (Ok.seq (Ok.region (OkOps.y (aI x7) (OkOps.y (aB (decide (x7 ≥ 0))) (OkOps.nil ?_)))))))
 refine Ok.cond (b:=decide (x7 ≥ 0)) rfl (fun h8=>?_) (fun h8=>?_)
 have hr:=selT h8 hr
 obtain ⟨k10,hk10,hr⟩:=jn_some hr
 refine Ok.join (fun (s9 : Unit)=>⟨[(0,.s (.c (.d (.sl (List.map (eInt .i64) order))))),(3,.s (.c (.d (.sl (List.map (eInt .i64) now))))),(10,.s (.c (.loc 1 0))),(11,.s (.c (.loc 2 0))),(14,.s (aI x7))],[(0,.blk [.d (.sl (List.map (eInt .i64) candidates))] 22),(1,.blk [cI 0] 3),(2,.blk [.fn 71 [(0,0)]] 103)],0⟩) k10 r (fun s9 hr=>?_) ?_
 rw [hk10] at hr
 refine Ok.seq (Ok.region (OkOps.y (.c (.d (.sl (List.map (eInt .i64) order)))) (OkOps.y (aI x7) ?_)))
 obtain ⟨x11,hx11,hr⟩:=bind_some hr
 refine OkOps.q (triSlc (enc:=(eInt .i64)) (L:=order) hx11 rfl rfl rfl (.inl ⟨rfl,rfl⟩) (.inr ⟨_,rfl⟩) rfl (fun _=>rfl) trivial rfl) (OkOps.m 0 (triCall (tau [(0,3)]) (.s (.c (.fn 92 [(3,0)]))) [(3,.blk [.d (.sl (List.map (eInt .i64) x11))] 22)] (slices_Backward_Sl_int_int_c x11) rfl ⟨.inl rfl,trivial⟩ trivial entry72 trivial rfl rfl rfl rfl ⟨rfl,trivial⟩ rfl rfl rfl) (OkOps.nil (Ok.block ?_)))
 refine Ok.rangeB (jl:=4) (nx:=0) (nx1:=0) (caps:=[(3,0)]) rfl rfl trivial Tryd.func92 rfl rfl rfl rfl rfl rfl (fun l ρ1 M1 ob hT1 E=>?_)
 refine Ok.seq (Ok.region (OkOps.y (.c (.d (.sl (List.map (eInt .i64) x11)))) (OkOps.q (triLen (enc:=(eInt .i64)) x11 rfl rfl trivial rfl) (OkOps.y (aI (IntKind.i64.wrap ((x11.length : Int) - 1))) (OkOps.y (aI (IntKind.i64.wrap ((x11.length : Int) - 1))) (OkOps.nil ?_))))))
 obtain ⟨k13,hk13,hr⟩:=jn_some hr
 refine Ok.joinEnd (fun (s12 : Unit)=>⟨[],[(0,.blk [.d (.sl (List.map (eInt .i64) candidates))] 22),(1,.blk [cI 0] 3),(2,.blk [.fn 71 [(0,0)]] 103),(3,.blk [.d (.sl (List.map (eInt .i64) x11))] 22),(4,.obj (ob .ready none))],0⟩) k13 r (fun s12 hr=>?_) ?_
 rw [hk13] at hr
 refine ⟨.inr rfl,.inl ⟨rfl,?_⟩⟩
 exact ⟨(),hr,(Conv.mk (tau []) ⟨⟨_,rfl,.inl rfl⟩,⟨_,rfl,.inl rfl⟩,trivial⟩ ⟨rfl,trivial⟩ rfl rfl rfl rfl)⟩
 clear hk13
 refine Ok.block (Ok.loopK (fun (s14 : Int)=>⟨[(0,.s (.c (.d (.v (yl l))))),(1,.s (.c (.loc 3 0))),(3,.s (aI s14))],[(0,.blk [.d (.sl (List.map (eInt .i64) candidates))] 22),(1,.blk [cI 0] 3),(2,.blk [.fn 71 [(0,0)]] 103),(3,.blk [.d (.sl (List.map (eInt .i64) x11))] 22),(4,.obj (ob .ready none))],0⟩) hr (Conv.mk (tau []) ⟨⟨_,rfl,.inl rfl⟩,⟨_,rfl,.inl rfl⟩,⟨_,rfl,.inl rfl⟩,trivial⟩ ⟨rfl,rfl,rfl,rfl,rfl,trivial⟩ rfl rfl rfl rfl) ?_)
 clear hr
 intro again15 s14 hr
 unfold fo_heir_L1 at hr
 refine Ok.seq (Ok.seq (Ok.region (OkOps.y (aI s14) (OkOps.y (aB (decide (s14 ≥ 0))) (OkOps.nil ?_)))))
 refine Ok.cond (b:=decide (s14 ≥ 0)) rfl (fun h16=>?_) (fun h16=>?_)
 have hr:=selT h16 hr
 refine Ok.skip (Ok.seq (Ok.block (Ok.seq (Ok.region (OkOps.y (.c (.d (.v (yl l)))) (OkOps.y (aI s14) (OkOps.y (.c (.d (.sl (List.map (eInt .i64) x11)))) (OkOps.y (aI s14) ?_))))))))
 obtain ⟨x17,hx17,hr⟩:=bind_some hr
 refine OkOps.q (triIdx (enc:=(eInt .i64)) (L:=x11) (row:=[dI x17]) hx17 rfl rfl rfl rfl (fun _=>rfl) trivial rfl) (OkOps.y (aI x17) ?_)
 refine OkOps.yield (jl:=4) (v1:=aI s14) (v2:=aI x17) (nx:=0) E (by decide) rfl rfl rfl rfl trivial rfl rfl dom_cons dom_self (fun ρc Mc hT2=>?_)
 refine Ok.region (OkOps.y (aI x17) (OkOps.nil ?_))
 refine ⟨rfl,rfl,?_⟩
 refine Ok.block (Ok.seq (Ok.region (OkOps.y (.c (.fn 71 [(0,0)])) (OkOps.y (aI x17) ?_))))
 obtain ⟨x18,hx18,hr⟩:=bind_some hr
 refine OkOps.q (TriL.keep (triCallF (caps:=[(0,0)]) (tau [(0,0)]) (.s (aB x18)) [(0,.blk [.d (.sl (List.map (eInt .i64) candidates))] 22)] rfl (fo_heir_1_c _ _ hx18) rfl ⟨.inl rfl,.inl rfl,trivial⟩ trivial entry71 ⟨rfl,trivial⟩ rfl rfl rfl rfl trivial rfl rfl rfl) ⟨rfl,trivial⟩) (OkOps.nil ?_)
 refine Ok.cond (b:=x18) rfl (fun h19=>?_) (fun h19=>?_)
 have hr:=selT h19 hr
 refine Ok.seq (Ok.region (OkOps.y (aI x17) (OkOps.w (triStore (cs':=[cI x17]) rfl rfl rfl rfl rfl rfl rfl rfl rfl) (OkOps.nil (Ok.ret ?_)))))
 refine ⟨rfl,?_⟩
 refine OkOps.y (aB (!false)) (OkOps.nil ?_)
 refine Ok.cond (b:=!false) rfl (fun _=>?_) (fun h=>by cases h)
 refine Ok.ret ?_
 refine ⟨.inl rfl,.inr ⟨.ret,_,rfl,rfl,?_⟩⟩
 obtain rfl:=Option.some.inj hr
 exact ⟨_,rfl,.inl rfl,trivial⟩
 have hr:=selF h19 hr
 refine Ok.skip ?_
 refine ⟨rfl,?_⟩
 refine OkOps.y (aB (!true)) (OkOps.nil ?_)
 refine Ok.cond (b:=!true) rfl (fun h=>by cases h) (fun _=>?_)
 refine Ok.skip (Ok.region (OkOps.y (aI s14) (OkOps.y (aI (IntKind.i64.wrap (s14 - 1))) (OkOps.y (aI (IntKind.i64.wrap (s14 - 1))) (OkOps.nil ?_)))))
 exact ⟨IntKind.i64.wrap (s14 - 1),hr,(Conv.mk (tau []) ⟨⟨_,rfl,.inl rfl⟩,⟨_,rfl,.inl rfl⟩,⟨_,rfl,.inl rfl⟩,trivial⟩ ⟨rfl,rfl,rfl,rfl,rfl,trivial⟩ rfl rfl rfl rfl)⟩
 have hr:=selF h16 hr
 refine Ok.exit ?_
 exact ⟨(),hr,(Conv.mk (tau []) trivial ⟨rfl,rfl,rfl,rfl,rfl,trivial⟩ rfl rfl rfl rfl)⟩
 clear hk10
 refine Ok.seq (Ok.region (OkOps.y (.c (.d (.sl (List.map (eInt .i64) order)))) (OkOps.y (aI x7) (OkOps.y (aI (IntKind.i64.wrap (x7 + 1))) ?_))))
 obtain ⟨x22,hx22,hr⟩:=bind_some hr
 refine OkOps.q (triSlc (enc:=(eInt .i64)) (L:=order) hx22 rfl rfl rfl (.inr ⟨_,rfl⟩) (.inl ⟨rfl,rfl⟩) rfl (fun _=>rfl) trivial rfl) (OkOps.q (triLen (enc:=(eInt .i64)) x22 rfl rfl trivial rfl) (OkOps.y (aI 0) (OkOps.nil (Ok.block (Ok.loopK (fun (s23 : Int)=>⟨[(0,.s (.c (.d (.sl (List.map (eInt .i64) order))))),(3,.s (.c (.d (.sl (List.map (eInt .i64) now))))),(10,.s (.c (.loc 1 0))),(11,.s (.c (.loc 2 0))),(14,.s (aI x7)),(36,.s (.c (.d (.sl (List.map (eInt .i64) x22))))),(37,.s (aI (x22.length : Int))),(38,.s (aI s23))],[(0,.blk [.d (.sl (List.map (eInt .i64) candidates))] 22),(1,.blk [cI 0] 3),(2,.blk [.fn 71 [(0,0)]] 103)],0⟩) hr (Conv.mk (tau []) ⟨⟨_,rfl,.inl rfl⟩,⟨_,rfl,.inl rfl⟩,⟨_,rfl,.inl rfl⟩,⟨_,rfl,.inl rfl⟩,⟨_,rfl,.inl rfl⟩,⟨_,rfl,.inl rfl⟩,⟨_,rfl,.inl rfl⟩,⟨_,rfl,.inl rfl⟩,trivial⟩ ⟨rfl,rfl,rfl,trivial⟩ rfl rfl rfl rfl) ?_)))))
 clear hr
 intro again24 s23 hr
 unfold fo_heir_L2 at hr
 refine Ok.seq (Ok.region (OkOps.y (aB (decide (s23 < (x22.length : Int)))) (OkOps.nil (Ok.seq ?_))))
 refine Ok.cond (b:=decide (s23 < (x22.length : Int))) rfl (fun h25=>?_) (fun h25=>?_)
 have hr:=selT h25 hr
 refine Ok.skip (Ok.seq (Ok.block (Ok.seq (Ok.region ?_))))
 obtain ⟨x26,hx26,hr⟩:=bind_some hr
 refine OkOps.q (triIdx (enc:=(eInt .i64)) (L:=x22) (row:=[dI x26]) hx26 rfl rfl rfl rfl (fun _=>rfl) trivial rfl) (OkOps.y (aI x26) (OkOps.y (aI x26) (OkOps.nil (Ok.seq (Ok.region (OkOps.y (.c (.fn 71 [(0,0)])) (OkOps.y (aI x26) ?_)))))))
 obtain ⟨x27,hx27,hr⟩:=bind_some hr
 refine OkOps.q (TriL.keep (triCallF (caps:=[(0,0)]) (tau [(0,0)]) (.s (aB x27)) [(0,.blk [.d (.sl (List.map (eInt .i64) candidates))] 22)] rfl (fo_heir_1_c _ _ hx27) rfl ⟨.inl rfl,.inl rfl,trivial⟩ trivial entry71 ⟨rfl,trivial⟩ rfl rfl rfl rfl trivial rfl rfl rfl) ⟨rfl,trivial⟩) (OkOps.nil ?_)
 refine Ok.cond (b:=x27) rfl (fun h28=>?_) (fun h28=>?_)
 have hr:=selT h28 hr
 refine Ok.seq (Ok.region (OkOps.y (aI x26) (OkOps.w (triStore (cs':=[cI x26]) rfl rfl rfl rfl rfl rfl rfl rfl rfl) (OkOps.nil (Ok.ret ?_)))))
 obtain rfl:=Option.some.inj hr
 exact ⟨_,rfl,.inl rfl,trivial⟩
 have hr:=selF h28 hr
 refine Ok.skip (Ok.region (OkOps.y (aI (IntKind.i64.wrap (s23 + 1))) (OkOps.y (aI (IntKind.i64.wrap (s23 + 1))) (OkOps.nil ?_))))
 exact ⟨IntKind.i64.wrap (s23 + 1),hr,(Conv.mk (tau []) ⟨⟨_,rfl,.inl rfl⟩,⟨_,rfl,.inl rfl⟩,⟨_,rfl,.inl rfl⟩,⟨_,rfl,.inl rfl⟩,⟨_,rfl,.inl rfl⟩,⟨_,rfl,.inl rfl⟩,⟨_,rfl,.inl rfl⟩,⟨_,rfl,.inl rfl⟩,trivial⟩ ⟨rfl,rfl,rfl,trivial⟩ rfl rfl rfl rfl)⟩
 have hr:=selF h25 hr
 refine Ok.exit ?_
 exact ⟨(),hr,(Conv.mk (tau []) ⟨⟨_,rfl,.inl rfl⟩,⟨_,rfl,.inl rfl⟩,⟨_,rfl,.inl rfl⟩,⟨_,rfl,.inl rfl⟩,⟨_,rfl,.inl rfl⟩,trivial⟩ ⟨rfl,rfl,rfl,trivial⟩ rfl rfl rfl rfl)⟩
 have hr:=selF h8 hr
 refine Ok.skip ?_
 exact ⟨(),hr,(Conv.mk (tau []) ⟨⟨_,rfl,.inl rfl⟩,⟨_,rfl,.inl rfl⟩,trivial⟩ ⟨rfl,trivial⟩ rfl rfl rfl rfl)⟩
 clear hk2
 refine Ok.seq (Ok.region (OkOps.y (.c (.d (.sl (List.map (eInt .i64) past)))) (OkOps.m 0 (triCall (tau [(0,5)]) (.s (.c (.fn 92 [(5,0)]))) [(5,.blk [.d (.sl (List.map (eInt .i64) past))] 22)] (slices_Backward_Sl_int_int_c past) rfl ⟨.inl rfl,trivial⟩ trivial entry72 trivial rfl rfl rfl rfl ⟨rfl,trivial⟩ rfl rfl rfl) (OkOps.nil (Ok.block ?_)))))
 refine Ok.rangeB (jl:=6) (nx:=0) (nx1:=0) (caps:=[(5,0)]) rfl rfl trivial Tryd.func92 rfl rfl rfl rfl rfl rfl (fun l ρ1 M1 ob hT1 E=>?_)
 refine Ok.seq (Ok.region (OkOps.y (.c (.d (.sl (List.map (eInt .i64) past)))) (OkOps.q (triLen (enc:=(eInt .i64)) past rfl rfl trivial rfl) (OkOps.y (aI (IntKind.i64.wrap ((past.length : Int) - 1))) (OkOps.y (aI (IntKind.i64.wrap ((past.length : Int) - 1))) (OkOps.nil ?_))))))
 obtain ⟨k30,hk30,hr⟩:=jn_some hr
 refine Ok.joinEnd (fun (s29 : Unit)=>⟨[],[(0,.blk [.d (.sl (List.map (eInt .i64) candidates))] 22),(1,.blk [cI 0] 3),(2,.blk [.fn 71 [(0,0)]] 103),(5,.blk [.d (.sl (List.map (eInt .i64) past))] 22),(6,.obj (ob .ready none))],0⟩) k30 r (fun s29 hr=>?_) ?_
 rw [hk30] at hr
 refine ⟨.inr rfl,.inl ⟨rfl,?_⟩⟩
 exact ⟨(),hr,(Conv.mk (tau []) ⟨⟨_,rfl,.inl rfl⟩,⟨_,rfl,.inl rfl⟩,⟨_,rfl,.inl rfl⟩,⟨_,rfl,.inl rfl⟩,⟨_,rfl,.inl rfl⟩,trivial⟩ ⟨rfl,rfl,rfl,trivial⟩ rfl rfl rfl rfl)⟩
 clear hk30
 refine Ok.block (Ok.loopK (fun (s31 : Int)=>⟨[(0,.s (.c (.d (.v (yl l))))),(1,.s (.c (.loc 5 0))),(3,.s (aI s31))],[(0,.blk [.d (.sl (List.map (eInt .i64) candidates))] 22),(1,.blk [cI 0] 3),(2,.blk [.fn 71 [(0,0)]] 103),(5,.blk [.d (.sl (List.map (eInt .i64) past))] 22),(6,.obj (ob .ready none))],0⟩) hr (Conv.mk (tau []) ⟨⟨_,rfl,.inl rfl⟩,⟨_,rfl,.inl rfl⟩,⟨_,rfl,.inl rfl⟩,trivial⟩ ⟨rfl,rfl,rfl,rfl,rfl,trivial⟩ rfl rfl rfl rfl) ?_)
 clear hr
 intro again32 s31 hr
 unfold fo_heir_L3 at hr
 refine Ok.seq (Ok.seq (Ok.region (OkOps.y (aI s31) (OkOps.y (aB (decide (s31 ≥ 0))) (OkOps.nil ?_)))))
 refine Ok.cond (b:=decide (s31 ≥ 0)) rfl (fun h33=>?_) (fun h33=>?_)
 have hr:=selT h33 hr
 refine Ok.skip (Ok.seq (Ok.block (Ok.seq (Ok.region (OkOps.y (.c (.d (.v (yl l)))) (OkOps.y (aI s31) (OkOps.y (.c (.d (.sl (List.map (eInt .i64) past)))) (OkOps.y (aI s31) ?_))))))))
 obtain ⟨x34,hx34,hr⟩:=bind_some hr
 refine OkOps.q (triIdx (enc:=(eInt .i64)) (L:=past) (row:=[dI x34]) hx34 rfl rfl rfl rfl (fun _=>rfl) trivial rfl) (OkOps.y (aI x34) ?_)
 refine OkOps.yield (jl:=6) (v1:=aI s31) (v2:=aI x34) (nx:=0) E (by decide) rfl rfl rfl rfl trivial rfl rfl dom_cons dom_self (fun ρc Mc hT2=>?_)
 refine Ok.region (OkOps.y (aI x34) (OkOps.nil ?_))
 refine ⟨rfl,rfl,?_⟩
 refine Ok.block (Ok.seq (Ok.region (OkOps.y (.c (.fn 71 [(0,0)])) (OkOps.y (aI x34) ?_))))
 obtain ⟨x35,hx35,hr⟩:=bind_some hr
 refine OkOps.q (TriL.keep (triCallF (caps:=[(0,0)]) (tau [(0,0)]) (.s (aB x35)) [(0,.blk [.d (.sl (List.map (eInt .i64) candidates))] 22)] rfl (fo_heir_1_c _ _ hx35) rfl ⟨.inl rfl,.inl rfl,trivial⟩ trivial entry71 ⟨rfl,trivial⟩ rfl rfl rfl rfl trivial rfl rfl rfl) ⟨rfl,trivial⟩) (OkOps.nil ?_)
 refine Ok.cond (b:=x35) rfl (fun h36=>?_) (fun h36=>?_)
 have hr:=selT h36 hr
 refine Ok.seq (Ok.region (OkOps.y (aI x34) (OkOps.w (triStore (cs':=[cI x34]) rfl rfl rfl rfl rfl rfl rfl rfl rfl) (OkOps.nil (Ok.ret ?_)))))
 refine ⟨rfl,?_⟩
 refine OkOps.y (aB (!false)) (OkOps.nil ?_)
 refine Ok.cond (b:=!false) rfl (fun _=>?_) (fun h=>by cases h)
 refine Ok.ret ?_
 refine ⟨.inl rfl,.inr ⟨.ret,_,rfl,rfl,?_⟩⟩
 obtain rfl:=Option.some.inj hr
 exact ⟨_,rfl,.inl rfl,trivial⟩
 have hr:=selF h36 hr
 refine Ok.skip ?_
 refine ⟨rfl,?_⟩
 refine OkOps.y (aB (!true)) (OkOps.nil ?_)
 refine Ok.cond (b:=!true) rfl (fun h=>by cases h) (fun _=>?_)
 refine Ok.skip (Ok.region (OkOps.y (aI s31) (OkOps.y (aI (IntKind.i64.wrap (s31 - 1))) (OkOps.y (aI (IntKind.i64.wrap (s31 - 1))) (OkOps.nil ?_)))))
 exact ⟨IntKind.i64.wrap (s31 - 1),hr,(Conv.mk (tau []) ⟨⟨_,rfl,.inl rfl⟩,⟨_,rfl,.inl rfl⟩,⟨_,rfl,.inl rfl⟩,trivial⟩ ⟨rfl,rfl,rfl,rfl,rfl,trivial⟩ rfl rfl rfl rfl)⟩
 have hr:=selF h33 hr
 refine Ok.exit ?_
 exact ⟨(),hr,(Conv.mk (tau []) trivial ⟨rfl,rfl,rfl,rfl,rfl,trivial⟩ rfl rfl rfl rfl)⟩
theorem fo_Repair_c (old : Tree) (t : Tree) (oldStyles : (List Styled)) (st : (List Styled)) (f : FocusState) {r : FocusState} (hr : fo_Repair old t oldStyles st f = some r) : Con Tryd.prog 22 [.agg [cI old.Root,cI old.Next,.d (.sl (List.map Node.cs old.Nodes))],.agg [cI t.Root,cI t.Next,.d (.sl (List.map Node.cs t.Nodes))],.c (.d (.sl (List.map Styled.cs oldStyles))),.c (.d (.sl (List.map Styled.cs st))),.agg [cI f.Focused,cB_ f.Visible,.d (.sl (List.map (eInt .i64) f.Past))]] [] (.s (.agg [cI r.Focused,cB_ r.Visible,.d (.sl (List.map (eInt .i64) r.Past))])) []:=by
 unfold fo_Repair at hr
 refine Con.of_ok 72 0 [.cell 10 69] [(0,.s (.agg [cI old.Root,cI old.Next,.d (.sl (List.map Node.cs old.Nodes))])),(1,.s (.agg [cI t.Root,cI t.Next,.d (.sl (List.map Node.cs t.Nodes))])),(2,.s (.c (.d (.sl (List.map Styled.cs oldStyles))))),(3,.s (.c (.d (.sl (List.map Styled.cs st))))),(4,.s (.agg [cI f.Focused,cB_ f.Visible,.d (.sl (List.map (eInt .i64) f.Past))]))] Tryd.func22 rfl rfl rfl rfl rfl rfl rfl rfl fun w g M ρ _=>(Ok.seq (Ok.region (OkOps.m 0 (triBox (j:=0) (cs:=[cI old.Root,cI old.Next,.d (.sl (List.map Node.cs old.Nodes))]) rfl rfl rfl rfl rfl) (OkOps.m 0 (triBox (j:=1) (cs:=[cI t.Root,cI t.Next,.d (.sl (List.map Node.cs t.Nodes))]) rfl rfl rfl rfl rfl) (OkOps.m 0 (triBox (j:=2) (cs:=[cI f.Focused,cB_ f.Visible,.d (.sl (List.map (eInt .i64) f.Past))]) rfl rfl rfl rfl rfl) (OkOps.m 0 (triAlloc (j:=3) (cs:=[cI 0,cB_ false,.d (.v (.slice none 0 0))]) rfl rfl rfl rfl) (OkOps.nil (Ok.seq (Ok.region (OkOps.q (triMkF [(1,0)] rfl trivial rfl) (OkOps.m 0 (triAlloc (j:=4) (cs:=[.d (.v .nilFunc)]) rfl rfl rfl rfl) (OkOps.w (triStore (cs':=[.fn 41 [(1,0)]]) rfl rfl rfl rfl rfl rfl rfl rfl rfl) (OkOps.nil (Ok.seq (Ok.region ?_)))))))))))))))
 refine OkOps.y (.c (.loc 2 2)) (OkOps.y (.c (.d (.sl (List.map (eInt .i64) f.Past)))) ?_)
 obtain ⟨x1,hx1,hr⟩:=bind_some hr
 refine OkOps.m 0 (triCall (tau [(2000,5)]) (.s (.c (.own 5))) [(5,.vec 1 (List.map (eInt .i64) x1))] (slices_Clone_Sl_int_intV_c _ hx1) rfl ⟨.inl rfl,trivial⟩ trivial entry38 trivial rfl rfl rfl rfl ⟨rfl,trivial⟩ rfl rfl rfl) (OkOps.q (triMkF [(4,0)] rfl trivial rfl) ?_)
 obtain ⟨x2,hx2,hr⟩:=bind_some hr
 refine OkOps.wq [(4,.blk [.fn 41 [(1,0)]] 103),(1,.blk [cI t.Root,cI t.Next,.d (.sl (List.map Node.cs t.Nodes))] 46),(5,.dead),(6,.tail 1)] (triCall (tau [(0,5),(1,4),(2,1),(2000,6)]) (.s (.c (.tl 6 (List.map (eInt .i64) x2)))) [(4,.blk [.fn 41 [(1,0)]] 103),(1,.blk [cI t.Root,cI t.Next,.d (.sl (List.map Node.cs t.Nodes))] 46),(5,.dead),(6,.tail 1)] (sl_DeleteFunc_rep_c _ _ hx2) rfl ⟨.inl rfl,.inl rfl,trivial⟩ trivial entry42 ⟨rfl,rfl,rfl,trivial⟩ rfl rfl rfl rfl ⟨rfl,trivial⟩ rfl rfl rfl) (OkOps.y (.c (.loc 2 2)) (OkOps.w (triStore (cs':=[cI f.Focused,cB_ f.Visible,.tl 6 (List.map (eInt .i64) x2)]) rfl rfl rfl rfl rfl rfl rfl rfl rfl) (OkOps.nil (Ok.seq (Ok.region (OkOps.y (.agg [cI t.Root,cI t.Next,.d (.sl (List.map Node.cs t.Nodes))]) (OkOps.y (.c (.d (.sl (List.map Styled.cs st)))) ?_)))))))
 obtain ⟨x3,hx3,hr⟩:=bind_some hr
 refine OkOps.m 0 (triCall (tau [(2000,7)]) (.s (.c (.own 7))) [(7,.vec 1 (List.map (eInt .i64) x3))] (fo_Candidates_c _ _ hx3) rfl ⟨.inl rfl,.inl rfl,trivial⟩ trivial entry31 trivial rfl rfl rfl rfl ⟨rfl,trivial⟩ rfl rfl rfl) (OkOps.y (.c (.own 7)) (OkOps.nil (Ok.seq (Ok.seq (Ok.region (OkOps.y (.c (.loc 2 0)) (OkOps.y (aI f.Focused) (OkOps.y (aB (f.Focused == 0)) (OkOps.y (aB (f.Focused == 0)) (OkOps.q (triQG (x:=.c (.own 7)) rfl rfl trivial rfl) (OkOps.q (triQG (x:=.c (.loc 2 0)) rfl rfl trivial rfl) (OkOps.q (triQG (x:=aI f.Focused) rfl rfl ⟨fun h=>h,trivial⟩ rfl) ?_))))))))))))
 obtain ⟨x4,hx4,hr⟩:=bind_some hr
 refine OkOps.q (triLoanG (x:=aB x4) (fun hg=>slices_Contains_Sl_int_int_c _ _ (gO_t hx4 hg)) rfl rfl ⟨.inr ⟨_,_,_,rfl,rfl,rfl⟩,.inl (.inl rfl),trivial⟩ ⟨fun h=>h,⟨fun h=>h,trivial⟩⟩ entry44 rfl rfl rfl) ?_
 refine OkOps.q (triOr rfl rfl (fun h=>by rw [h];rfl) rfl) ?_
 refine OkOps.nil ?_
 refine Ok.cond (b:=(f.Focused == 0) || x4) rfl (fun h5=>?_) (fun h5=>?_)
 have hr:=selT h5 hr
 refine Ok.seq (Ok.region (OkOps.y (.agg [cI f.Focused,cB_ f.Visible,.tl 6 (List.map (eInt .i64) x2)]) (OkOps.w (triStore (cs':=[cI f.Focused,cB_ f.Visible,.tl 6 (List.map (eInt .i64) x2)]) rfl rfl rfl rfl rfl rfl rfl rfl rfl) (OkOps.nil (Ok.ret ?_)))))
 obtain rfl:=Option.some.inj hr
 exact ⟨_,rfl,.inr rfl,trivial⟩
 have hr:=selF h5 hr
 refine Ok.skip (Ok.seq (Ok.region (OkOps.y (.c (.loc 2 0)) (OkOps.y (aI f.Focused) (OkOps.y (aI f.Focused) (OkOps.nil (Ok.seq (Ok.regionD (by kernel_rfl) (OkD.x (.agg [cI old.Root,cI old.Next,.d (.sl (List.map Node.cs old.Nodes))]) rfl trivial rfl (OkD.x (.c (.d (.sl (List.map Styled.cs oldStyles)))) rfl trivial rfl ?_))))))))))
 obtain ⟨x6,hx6,hr⟩:=bind_some hr
 refine OkD.q (triCl (tau []) (.s (.c (.d (.sl (List.map (eInt .i64) x6))))) [] (fo_Order_c _ _ hx6) rfl ⟨.inl rfl,.inl rfl,trivial⟩ trivial entry16 trivial) (OkD.x (.c (.loc 2 2)) rfl trivial rfl (OkD.x (.c (.tl 6 (List.map (eInt .i64) x2))) rfl trivial rfl (OkD.x (.c (.own 7)) rfl trivial rfl (OkD.x (.agg [cI t.Root,cI t.Next,.d (.sl (List.map Node.cs t.Nodes))]) rfl trivial rfl (OkD.x (.c (.d (.sl (List.map Styled.cs st)))) rfl trivial rfl ?_)))))
 obtain ⟨x7,hx7,hr⟩:=bind_some hr
 refine OkD.q (triCl (tau []) (.s (.c (.d (.sl (List.map (eInt .i64) x7))))) [] (fo_Order_c _ _ hx7) rfl ⟨.inl rfl,.inl rfl,trivial⟩ trivial entry16 trivial) (OkD.x (aI f.Focused) rfl trivial rfl ?_)
 obtain ⟨x8,hx8,hr⟩:=bind_some hr
 refine OkD.q (triLoan (fo_heir_c _ _ _ _ _ hx8) rfl ⟨.inl (.inl rfl),.inl (.inr rfl),.inr ⟨_,_,_,rfl,rfl,rfl⟩,.inl (.inl rfl),.inl (.inl rfl),trivial⟩ trivial entry45 rfl rfl rfl) (OkD.x (.c (.loc 2 0)) rfl trivial rfl (OkD.w (triStore (cs':=[cI x8,cB_ f.Visible,.tl 6 (List.map (eInt .i64) x2)]) rfl rfl rfl rfl rfl rfl rfl rfl rfl) (OkD.nil (by kernel_rfl) (Ok.seq (Ok.region (OkOps.y (.c (.loc 2 2)) (OkOps.y (.c (.tl 6 (List.map (eInt .i64) x2))) (OkOps.y (.c (.loc 2 0)) (OkOps.y (aI x8) ?_)))))))))
 obtain ⟨x9,hx9,hr⟩:=bind_some hr
 refine OkOps.m 0 (triCall (tau [(2000,8)]) (.s (.c (.tl 8 (List.map (eInt .i64) x9)))) [(8,.tail 1)] (fo_without_c _ _ hx9) rfl ⟨.inr rfl,.inl rfl,trivial⟩ trivial entry39 trivial rfl rfl rfl rfl ⟨rfl,trivial⟩ rfl rfl rfl) (OkOps.y (.c (.loc 2 2)) (OkOps.w (triStore (cs':=[cI x8,cB_ f.Visible,.tl 8 (List.map (eInt .i64) x9)]) rfl rfl rfl rfl rfl rfl rfl rfl rfl) (OkOps.nil ?_)))
 obtain ⟨k11,hk11,hr⟩:=jn_some hr
 refine Ok.join (fun (s10 : (List Int))=>⟨[(9,.s (.c (.loc 2 0))),(10,.s (.c (.loc 3 0)))],[(2,.blk [cI x8,cB_ f.Visible,.d (.sl (List.map (eInt .i64) s10))] 69),(3,.blk [cI 0,cB_ false,.d (.v (.slice none 0 0))] 69)],0⟩) k11 r (fun s10 hr=>?_) ?_
 rw [hk11] at hr
 refine Ok.seq (Ok.region (OkOps.y (.c (.loc 2 2)) (OkOps.y (.c (.d (.sl (List.map (eInt .i64) s10)))) (OkOps.y (.c (.loc 2 2)) (OkOps.y (.c (.d (.sl (List.map (eInt .i64) s10)))) (OkOps.q (triLen (enc:=(eInt .i64)) s10 rfl rfl trivial rfl) (OkOps.y (aI (IntKind.i64.wrap ((s10.length : Int) - 16))) (OkOps.y (aI (mxI 0 (IntKind.i64.wrap ((s10.length : Int) - 16)))) ?_))))))))
 obtain ⟨x12,hx12,hr⟩:=bind_some hr
 refine OkOps.q (triSlc (enc:=(eInt .i64)) (L:=s10) hx12 rfl rfl rfl (.inr ⟨_,rfl⟩) (.inl ⟨rfl,rfl⟩) rfl (fun _=>rfl) trivial rfl) (OkOps.y (.c (.loc 2 2)) (OkOps.w (triStore (cs':=[cI x8,cB_ f.Visible,.d (.sl (List.map (eInt .i64) x12))]) rfl rfl rfl rfl rfl rfl rfl rfl rfl) (OkOps.nil (Ok.seq (Ok.region (OkOps.y (.agg [cI x8,cB_ f.Visible,.d (.sl (List.map (eInt .i64) x12))]) (OkOps.w (triStore (cs':=[cI x8,cB_ f.Visible,.d (.sl (List.map (eInt .i64) x12))]) rfl rfl rfl rfl rfl rfl rfl rfl rfl) (OkOps.nil (Ok.ret ?_)))))))))
 obtain rfl:=Option.some.inj hr
 exact ⟨_,rfl,.inl rfl,trivial⟩
 clear hk11
 refine Ok.seq (Ok.region (OkOps.y (.c (.fn 41 [(1,0)])) (OkOps.y (aI f.Focused) ?_)))
 obtain ⟨x13,hx13,hr⟩:=bind_some hr
 refine OkOps.q (TriL.keep (triCallF (caps:=[(1,0)]) (tau [(0,1)]) (.s (aB x13)) [(1,.blk [cI t.Root,cI t.Next,.d (.sl (List.map Node.cs t.Nodes))] 46)] rfl (fo_Repair_1_c _ _ hx13) rfl ⟨.inl rfl,.inl rfl,trivial⟩ trivial entry41 ⟨rfl,trivial⟩ rfl rfl rfl rfl trivial rfl rfl rfl) ⟨rfl,trivial⟩) (OkOps.nil ?_)
 refine Ok.cond (b:=x13) rfl (fun h14=>?_) (fun h14=>?_)
 have hr:=selT h14 hr
 refine Ok.region (OkOps.y (.c (.loc 2 2)) (OkOps.y (.c (.tl 8 (List.map (eInt .i64) x9))) (OkOps.y (aI f.Focused) ?_)))
 obtain ⟨x15,hx15,hr⟩:=bind_some hr
 refine OkOps.q (triCl (tau []) (.s (.c (.d (.sl (List.map (eInt .i64) x15))))) [] (fo_remember_c _ _ hx15) rfl ⟨.inr rfl,.inl rfl,trivial⟩ trivial entry40 trivial) (OkOps.y (.c (.loc 2 2)) (OkOps.w (triStore (cs':=[cI x8,cB_ f.Visible,.d (.sl (List.map (eInt .i64) x15))]) rfl rfl rfl rfl rfl rfl rfl rfl rfl) (OkOps.nil ?_)))
 exact ⟨x15,hr,(Conv.mk (tau []) ⟨⟨_,rfl,.inl rfl⟩,⟨_,rfl,.inl rfl⟩,trivial⟩ ⟨rfl,rfl,trivial⟩ rfl rfl rfl rfl)⟩
 have hr:=selF h14 hr
 refine Ok.skip ?_
 exact ⟨x9,hr,(Conv.trans (Conv.norm 2 [cI x8,cB_ f.Visible,.tl 8 (List.map (eInt .i64) x9)] [cI x8,cB_ f.Visible,.d (.sl (List.map (eInt .i64) x9))] 69 0 rfl rfl) (Conv.mk (tau []) ⟨⟨_,rfl,.inl rfl⟩,⟨_,rfl,.inl rfl⟩,trivial⟩ ⟨rfl,rfl,trivial⟩ rfl rfl rfl rfl))⟩
end Go.Proofs.YtfoigppmcelgfaaDoor
end
section
set_option maxRecDepth 100000
namespace Go.Proofs.YtfoigppmcelgfaaDoor
open Go Go.E2
theorem r11_join_B_c (self0 : AType → AType → Option (AType × Bool)) (hself0 : ∀ (a : AType) (b : AType) {r : AType × Bool},self0 a b = some r → Con Tryd.prog 121 [.agg [cI a.Kind,.d (.sl (List.map AType.cs a.Of))],.agg [cI b.Kind,.d (.sl (List.map AType.cs b.Of))]] [] (.tup [.agg [cI r.1.Kind,.d (.sl (List.map AType.cs r.1.Of))],aB r.2]) []) (a : AType) (b : AType) {r : AType × Bool} (hr : r11_join_B self0 a b = some r) : Con Tryd.prog 121 [.agg [cI a.Kind,.d (.sl (List.map AType.cs a.Of))],.agg [cI b.Kind,.d (.sl (List.map AType.cs b.Of))]] [] (.tup [.agg [cI r.1.Kind,.d (.sl (List.map AType.cs r.1.Of))],aB r.2]) []:=by
 unfold r11_join_B at hr
 refine Con.of_ok 44 0 [.cell 4 182,.tmp 5] [(0,.s (.agg [cI a.Kind,.d (.sl (List.map AType.cs a.Of))])),(1,.s (.agg [cI b.Kind,.d (.sl (List.map AType.cs b.Of))]))] Tryd.func121 rfl rfl rfl rfl rfl rfl rfl rfl fun w g M ρ _=>(Ok.seq (Ok.region (OkOps.m 0 (triBox (j:=0) (cs:=[cI a.Kind,.d (.sl (List.map AType.cs a.Of))]) rfl rfl rfl rfl rfl) (OkOps.m 0 (triBox (j:=1) (cs:=[cI b.Kind,.d (.sl (List.map AType.cs b.Of))]) rfl rfl rfl rfl rfl) (OkOps.m 0 (triAlloc (j:=2) (cs:=[cI 0,.d (.v (.slice none 0 0))]) rfl rfl rfl rfl) (OkOps.y (aB false) (OkOps.nil (Ok.seq (Ok.seq (Ok.region (OkOps.y (.c (.loc 0 0)) (OkOps.y (aI a.Kind) (OkOps.y (.c (.loc 1 0)) (OkOps.y (aI b.Kind) (OkOps.y (aB (a.Kind != b.Kind)) ?_)))))))))))))))
 refine OkOps.nil ?_
 refine Ok.cond (b:=a.Kind != b.Kind) rfl (fun h1=>?_) (fun h1=>?_)
 have hr:=selT h1 hr
 refine Ok.seq (Ok.region (OkOps.y (.agg [cI 0,.d (.v (.slice none 0 0))]) (OkOps.w (triStore (cs':=[cI 0,.d (.v (.slice none 0 0))]) rfl rfl rfl rfl rfl rfl rfl rfl rfl) (OkOps.y (aB false) (OkOps.nil (Ok.ret ?_))))))
 obtain rfl:=Option.some.inj hr
 exact ⟨_,rfl,.inr rfl,trivial⟩
 have hr:=selF h1 hr
 refine Ok.skip (Ok.seq (Ok.seq (Ok.region (OkOps.y (.c (.loc 0 1)) (OkOps.y (.c (.d (.sl (List.map AType.cs a.Of)))) (OkOps.q (triLen (enc:=AType.cs) a.Of rfl rfl trivial rfl) (OkOps.y (aB ((a.Of.length : Int) == 0)) (OkOps.nil ?_))))))))
 refine Ok.cond (b:=(a.Of.length : Int) == 0) rfl (fun h2=>?_) (fun h2=>?_)
 have hr:=selT h2 hr
 refine Ok.seq (Ok.region (OkOps.y (.agg [cI b.Kind,.d (.sl (List.map AType.cs b.Of))]) (OkOps.w (triStore (cs':=[cI b.Kind,.d (.sl (List.map AType.cs b.Of))]) rfl rfl rfl rfl rfl rfl rfl rfl rfl) (OkOps.y (aB true) (OkOps.nil (Ok.ret ?_))))))
 obtain rfl:=Option.some.inj hr
 exact ⟨_,rfl,.inl rfl,trivial⟩
 have hr:=selF h2 hr
 refine Ok.skip (Ok.seq (Ok.seq (Ok.region (OkOps.y (.c (.loc 1 1)) (OkOps.y (.c (.d (.sl (List.map AType.cs b.Of)))) (OkOps.q (triLen (enc:=AType.cs) b.Of rfl rfl trivial rfl) (OkOps.y (aB ((b.Of.length : Int) == 0)) (OkOps.nil ?_))))))))
 refine Ok.cond (b:=(b.Of.length : Int) == 0) rfl (fun h3=>?_) (fun h3=>?_)
 have hr:=selT h3 hr
 refine Ok.seq (Ok.region (OkOps.y (.agg [cI a.Kind,.d (.sl (List.map AType.cs a.Of))]) (OkOps.w (triStore (cs':=[cI a.Kind,.d (.sl (List.map AType.cs a.Of))]) rfl rfl rfl rfl rfl rfl rfl rfl rfl) (OkOps.y (aB true) (OkOps.nil (Ok.ret ?_))))))
 obtain rfl:=Option.some.inj hr
 exact ⟨_,rfl,.inl rfl,trivial⟩
 have hr:=selF h3 hr
 refine Ok.skip (Ok.seq (Ok.regionD (by kernel_rfl) (OkD.x (.c (.loc 0 1)) rfl trivial rfl (OkD.x (.c (.d (.sl (List.map AType.cs a.Of)))) rfl trivial rfl ?_))))
 obtain ⟨x4,hx4,hr⟩:=bind_some hr
 refine OkD.q (triIdx (enc:=AType.cs) (L:=a.Of) (row:=[dI x4.Kind,.sl (List.map AType.cs x4.Of)]) hx4 (AType.cs_eq _) rfl rfl rfl (fun x=>by rw [AType.cs_eq];rfl) trivial rfl) ?_
 refine OkD.x (.agg [cI x4.Kind,.d (.sl (List.map AType.cs x4.Of))]) rfl trivial rfl (OkD.x (.c (.loc 1 1)) rfl trivial rfl (OkD.x (.c (.d (.sl (List.map AType.cs b.Of)))) rfl trivial rfl ?_))
 obtain ⟨x5,hx5,hr⟩:=bind_some hr
 refine OkD.q (triIdx (enc:=AType.cs) (L:=b.Of) (row:=[dI x5.Kind,.sl (List.map AType.cs x5.Of)]) hx5 (AType.cs_eq _) rfl rfl rfl (fun x=>by rw [AType.cs_eq];rfl) trivial rfl) ?_
 refine OkD.x (.agg [cI x5.Kind,.d (.sl (List.map AType.cs x5.Of))]) rfl trivial rfl ?_
 obtain ⟨x6,hx6,hr⟩:=bind_some hr
 refine OkD.q (triCl (tau []) (.tup [.agg [cI x6.1.Kind,.d (.sl (List.map AType.cs x6.1.Of))],aB x6.2]) [] (hself0 _ _ hx6) rfl ⟨.inl rfl,.inl rfl,trivial⟩ trivial entry121 trivial) (OkD.q (triMv (v:=.tup [.agg [cI x6.1.Kind,.d (.sl (List.map AType.cs x6.1.Of))],aB x6.2]) rfl rfl) (OkD.x (.agg [cI x6.1.Kind,.d (.sl (List.map AType.cs x6.1.Of))]) rfl trivial rfl (OkD.x (aB x6.2) rfl trivial rfl (OkD.m 0 (triAlloc (j:=3) (cs:=[cI 0,.d (.v (.slice none 0 0))]) rfl rfl rfl rfl) (OkD.w (triStore (cs':=[cI x6.1.Kind,.d (.sl (List.map AType.cs x6.1.Of))]) rfl rfl rfl rfl rfl rfl rfl rfl rfl) (OkD.x (aB x6.2) rfl trivial rfl (OkD.nil (by kernel_rfl) (Ok.seq (Ok.seq (Ok.region (OkOps.y (aB x6.2) (OkOps.y (aB (!x6.2)) (OkOps.nil ?_)))))))))))))
 refine Ok.cond (b:=!x6.2) rfl (fun h7=>?_) (fun h7=>?_)
 have hr:=selT h7 hr
 refine Ok.seq (Ok.region (OkOps.y (.agg [cI 0,.d (.v (.slice none 0 0))]) (OkOps.w (triStore (cs':=[cI 0,.d (.v (.slice none 0 0))]) rfl rfl rfl rfl rfl rfl rfl rfl rfl) (OkOps.y (aB false) (OkOps.nil (Ok.ret ?_))))))
 obtain rfl:=Option.some.inj hr
 exact ⟨_,rfl,.inr rfl,trivial⟩
 have hr:=selF h7 hr
 refine Ok.skip (Ok.seq (Ok.region (OkOps.y (.c (.loc 0 0)) (OkOps.y (aI a.Kind) (OkOps.y (.agg [cI x6.1.Kind,.d (.sl (List.map AType.cs x6.1.Of))]) ?_)))))
 refine OkOps.m 0 (triBST (sz:=2) (enc:=AType.cs) (j:=4) ([x6.1]) rfl rfl rfl rfl rfl (rows:=[[dI x6.1.Kind,.sl (List.map AType.cs x6.1.Of)]]) (by simp only [List.map,AType.cs_eq]) rfl rfl (fun x=>by rw [AType.cs_eq];rfl) trivial rfl rfl) ?_
 refine OkOps.y (.agg [cI a.Kind,.tl 4 (List.map AType.cs ([x6.1]))]) (OkOps.w (triStore (cs':=[cI a.Kind,.tl 4 (List.map AType.cs ([x6.1]))]) rfl rfl rfl rfl rfl rfl rfl rfl rfl) (OkOps.y (aB true) (OkOps.nil (Ok.ret ?_))))
 obtain rfl:=Option.some.inj hr
 exact ⟨_,rfl,.inr rfl,trivial⟩
theorem r11_join_all : ∀ n : Nat,(∀ (a : AType) (b : AType) {r : AType × Bool},r11_join n a b = some r → Con Tryd.prog 121 [.agg [cI a.Kind,.d (.sl (List.map AType.cs a.Of))],.agg [cI b.Kind,.d (.sl (List.map AType.cs b.Of))]] [] (.tup [.agg [cI r.1.Kind,.d (.sl (List.map AType.cs r.1.Of))],aB r.2]) []) ∧ True:=by
 intro n
 induction n with
 | zero=>exact ⟨(by intros;rename_i hr;cases hr),trivial⟩
 | succ n ih=>exact ⟨(by intros;rename_i hr;exact r11_join_B_c _ ih.1 _ _ hr),trivial⟩
theorem r11_join_c (n : Nat) (a : AType) (b : AType) {r : AType × Bool} (hr : r11_join n a b = some r) : Con Tryd.prog 121 [.agg [cI a.Kind,.d (.sl (List.map AType.cs a.Of))],.agg [cI b.Kind,.d (.sl (List.map AType.cs b.Of))]] [] (.tup [.agg [cI r.1.Kind,.d (.sl (List.map AType.cs r.1.Of))],aB r.2]) []:=(r11_join_all n).1 a b hr
theorem r11_check_B_c (self0 : AValue → Int → Int → Option (AType × Int × Int)) (hself0 : ∀ (v : AValue) (depth : Int) (met : Int) {r : AType × Int × Int},self0 v depth met = some r → Con Tryd.prog 112 [.agg [cI v.Kind,cI v.N,cS v.S,.d (.sl (List.map AValue.cs v.L))],aI depth,aI met] [] (.tup [.agg [cI r.1.Kind,.d (.sl (List.map AType.cs r.1.Of))],aI r.2.1,aI r.2.2]) []) (v : AValue) (depth : Int) (met : Int) {r : AType × Int × Int} (hr : r11_check_B self0 v depth met = some r) : Con Tryd.prog 112 [.agg [cI v.Kind,cI v.N,cS v.S,.d (.sl (List.map AValue.cs v.L))],aI depth,aI met] [] (.tup [.agg [cI r.1.Kind,.d (.sl (List.map AType.cs r.1.Of))],aI r.2.1,aI r.2.2]) []:=by
 unfold r11_check_B at hr
 refine Con.of_ok 184 0 [.cell 6 182,.tmp 7,.tmp 8] [(0,.s (.agg [cI v.Kind,cI v.N,cS v.S,.d (.sl (List.map AValue.cs v.L))])),(1,.s (aI depth)),(2,.s (aI met))] Tryd.func112 rfl rfl rfl rfl rfl rfl rfl rfl fun w g M ρ _=>(Ok.seq (Ok.region (OkOps.m 0 (triBox (j:=0) (cs:=[cI v.Kind,cI v.N,cS v.S,.d (.sl (List.map AValue.cs v.L))]) rfl rfl rfl rfl rfl) (OkOps.m 0 (triAlloc (j:=1) (cs:=[cI 0,.d (.v (.slice none 0 0))]) rfl rfl rfl rfl) (OkOps.y (aI 0) (OkOps.y (aI 0) (OkOps.nil (Ok.seq (Ok.region (OkOps.y (aI met) (OkOps.y (aI (IntKind.i64.wrap (met + 1))) (OkOps.y (aI (IntKind.i64.wrap (met + 1))) (OkOps.nil (Ok.seq (Ok.region ?_)))))))))))))))
 refine OkOps.y (.c (.loc 0 0)) (OkOps.y (aI v.Kind) (OkOps.y (aB (v.Kind == 4)) (OkOps.y (aB (v.Kind == 4)) (OkOps.nil (Ok.seq (Ok.seq (Ok.region (OkOps.y (aB (v.Kind == 4)) (OkOps.y (aB (v.Kind == 4)) (OkOps.q (triQG (x:=aI depth) rfl rfl trivial rfl) (OkOps.q (triQG (x:=aB (decide (depth > 16))) rfl rfl ⟨fun h=>h,trivial⟩ rfl) (OkOps.q (triAnd rfl rfl (fun h=>h) rfl) (OkOps.nil ?_)))))))))))))
 refine Ok.cond (b:=(v.Kind == 4) && (decide (depth > 16))) rfl (fun h1=>?_) (fun h1=>?_)
 have hr:=selT h1 hr
 refine Ok.seq (Ok.region (OkOps.y (.agg [cI 0,.d (.v (.slice none 0 0))]) (OkOps.y (aI (IntKind.i64.wrap (met + 1))) (OkOps.w (triStore (cs':=[cI 0,.d (.v (.slice none 0 0))]) rfl rfl rfl rfl rfl rfl rfl rfl rfl) (OkOps.y (aI (IntKind.i64.wrap (met + 1))) (OkOps.y (aI 8) (OkOps.nil (Ok.ret ?_))))))))
 obtain rfl:=Option.some.inj hr
 exact ⟨_,rfl,.inr rfl,trivial⟩
 have hr:=selF h1 hr
 refine Ok.skip (Ok.seq (Ok.seq (Ok.region (OkOps.y (.c (.loc 0 0)) (OkOps.y (aI v.Kind) (OkOps.y (aB (decide (v.Kind < 1))) (OkOps.y (aB (decide (v.Kind < 1))) (OkOps.q (triQG (x:=.c (.loc 0 0)) rfl rfl trivial rfl) (OkOps.q (triQG (x:=aI v.Kind) rfl rfl ⟨fun h=>h,trivial⟩ rfl) (OkOps.q (triQG (x:=aB (decide (v.Kind > 4))) rfl rfl ⟨fun h=>h,trivial⟩ rfl) ?_))))))))))
 refine OkOps.q (triOr rfl rfl (fun h=>by rw [h];rfl) rfl) ?_
 refine OkOps.y (aB ((decide (v.Kind < 1)) || (decide (v.Kind > 4)))) (OkOps.q (triQG (x:=.c (.loc 0 1)) rfl rfl trivial rfl) (OkOps.q (triQG (x:=aI v.N) rfl rfl ⟨fun h=>h,trivial⟩ rfl) (OkOps.q (triQG (x:=aB (v.N != 0)) rfl rfl ⟨fun h=>h,trivial⟩ rfl) (OkOps.q (triQG (x:=aB (v.N != 0)) rfl rfl ⟨fun h=>h,trivial⟩ rfl) (OkOps.q (triQG (x:=.c (.loc 0 0)) rfl rfl trivial rfl) (OkOps.q (triQG (x:=aI v.Kind) rfl rfl ⟨fun h=>h,trivial⟩ rfl) (OkOps.q (triQG (x:=aB (v.Kind != 1)) rfl rfl ⟨fun h=>h,trivial⟩ rfl) ?_)))))))
 refine OkOps.q (triAndG rfl rfl rfl (fun h=>h) (fun h h2=>by rw [h,h2];rfl) rfl) ?_
 refine OkOps.q (triQG (x:=aB ((v.N != 0) && (v.Kind != 1))) rfl rfl ⟨fun h=>h,trivial⟩ rfl) (OkOps.q (triQG (x:=.c (.loc 0 0)) rfl rfl trivial rfl) (OkOps.q (triQG (x:=aI v.Kind) rfl rfl ⟨fun h=>h,trivial⟩ rfl) (OkOps.q (triQG (x:=aB (v.Kind != 2)) rfl rfl ⟨fun h=>h,trivial⟩ rfl) ?_)))
 refine OkOps.q (triAndG rfl rfl rfl (fun h=>h) (fun h h2=>by rw [h,h2];rfl) rfl) ?_
 refine OkOps.q (triOr rfl rfl (fun h=>by rw [h];rfl) rfl) ?_
 refine OkOps.y (aB (((decide (v.Kind < 1)) || (decide (v.Kind > 4))) || (((v.N != 0) && (v.Kind != 1)) && (v.Kind != 2)))) (OkOps.q (triQG (x:=.c (.loc 0 2)) rfl rfl trivial rfl) (OkOps.q (triQG (x:=aS v.S) rfl rfl ⟨fun h=>h,trivial⟩ rfl) (OkOps.q (triQG (x:=aB (!(v.S.toList == (ByteArray.mk #[]).toList))) rfl rfl ⟨fun h=>h,trivial⟩ rfl) (OkOps.q (triQG (x:=aB (!(v.S.toList == (ByteArray.mk #[]).toList))) rfl rfl ⟨fun h=>h,trivial⟩ rfl) (OkOps.q (triQG (x:=.c (.loc 0 0)) rfl rfl trivial rfl) (OkOps.q (triQG (x:=aI v.Kind) rfl rfl ⟨fun h=>h,trivial⟩ rfl) (OkOps.q (triQG (x:=aB (v.Kind != 3)) rfl rfl ⟨fun h=>h,trivial⟩ rfl) ?_)))))))
 refine OkOps.q (triAndG rfl rfl rfl (fun h=>h) (fun h h2=>by rw [h,h2];rfl) rfl) ?_
 refine OkOps.q (triOr rfl rfl (fun h=>by rw [h];rfl) rfl) ?_
 refine OkOps.y (aB ((((decide (v.Kind < 1)) || (decide (v.Kind > 4))) || (((v.N != 0) && (v.Kind != 1)) && (v.Kind != 2))) || ((!(v.S.toList == (ByteArray.mk #[]).toList)) && (v.Kind != 3)))) (OkOps.q (triQG (x:=.c (.loc 0 3)) rfl rfl trivial rfl) (OkOps.q (triQG (x:=.c (.d (.sl (List.map AValue.cs v.L)))) rfl rfl ⟨fun h=>h,trivial⟩ rfl) (OkOps.q (triLenG (enc:=AValue.cs) v.L rfl rfl rfl ⟨fun h=>h,trivial⟩ rfl) (OkOps.q (triQG (x:=aB (decide ((v.L.length : Int) > 0))) rfl rfl ⟨fun h=>h,trivial⟩ rfl) (OkOps.q (triQG (x:=aB (decide ((v.L.length : Int) > 0))) rfl rfl ⟨fun h=>h,trivial⟩ rfl) (OkOps.q (triQG (x:=aB (v.Kind == 4)) rfl rfl trivial rfl) (OkOps.q (triQG (x:=aB (!(v.Kind == 4))) rfl rfl ⟨fun h=>h,trivial⟩ rfl) ?_)))))))
 refine OkOps.q (triAndG rfl rfl rfl (fun h=>h) (fun h h2=>by rw [h,h2];rfl) rfl) ?_
 refine OkOps.q (triOr rfl rfl (fun h=>by rw [h];rfl) rfl) ?_
 refine OkOps.nil ?_
 refine Ok.cond (b:=((((decide (v.Kind < 1)) || (decide (v.Kind > 4))) || (((v.N != 0) && (v.Kind != 1)) && (v.Kind != 2))) || ((!(v.S.toList == (ByteArray.mk #[]).toList)) && (v.Kind != 3))) || ((decide ((v.L.length : Int) > 0)) && (!(v.Kind == 4)))) rfl (fun h2=>?_) (fun h2=>?_)
 have hr:=selT h2 hr
 refine Ok.seq (Ok.region (OkOps.y (.agg [cI 0,.d (.v (.slice none 0 0))]) (OkOps.y (aI (IntKind.i64.wrap (met + 1))) (OkOps.w (triStore (cs':=[cI 0,.d (.v (.slice none 0 0))]) rfl rfl rfl rfl rfl rfl rfl rfl rfl) (OkOps.y (aI (IntKind.i64.wrap (met + 1))) (OkOps.y (aI 9) (OkOps.nil (Ok.ret ?_))))))))
 obtain rfl:=Option.some.inj hr
 exact ⟨_,rfl,.inr rfl,trivial⟩
 have hr:=selF h2 hr
 refine Ok.skip (Ok.seq (Ok.seq (Ok.region (OkOps.y (.c (.loc 0 0)) (OkOps.y (aI v.Kind) (OkOps.y (aB (v.Kind == 1)) (OkOps.y (aB (v.Kind == 1)) (OkOps.q (triQG (x:=.c (.loc 0 1)) rfl rfl trivial rfl) (OkOps.q (triQG (x:=aI v.N) rfl rfl ⟨fun h=>h,trivial⟩ rfl) (OkOps.q (triQG (x:=aB (decide (v.N < (-1099511627776)))) rfl rfl ⟨fun h=>h,trivial⟩ rfl) (OkOps.q (triQG (x:=aB (decide (v.N < (-1099511627776)))) rfl rfl ⟨fun h=>h,trivial⟩ rfl) (OkOps.q (triQG (x:=.c (.loc 0 1)) rfl rfl trivial rfl) (OkOps.q (triQG (x:=aI v.N) rfl rfl ⟨fun h=>h,trivial⟩ rfl) (OkOps.q (triQG (x:=aB (decide (v.N > 1099511627776))) rfl rfl ⟨fun h=>h,trivial⟩ rfl) ?_))))))))))))))
 refine OkOps.q (triOrG rfl rfl rfl (fun h=>h) (fun h h2=>by rw [h,h2];rfl) rfl) ?_
 refine OkOps.q (triAnd rfl rfl (fun h=>h) rfl) (OkOps.y (aB ((v.Kind == 1) && ((decide (v.N < (-1099511627776))) || (decide (v.N > 1099511627776))))) (OkOps.q (triQG (x:=.c (.loc 0 0)) rfl rfl trivial rfl) (OkOps.q (triQG (x:=aI v.Kind) rfl rfl ⟨fun h=>h,trivial⟩ rfl) (OkOps.q (triQG (x:=aB (v.Kind == 2)) rfl rfl ⟨fun h=>h,trivial⟩ rfl) (OkOps.q (triQG (x:=aB (v.Kind == 2)) rfl rfl ⟨fun h=>h,trivial⟩ rfl) (OkOps.q (triQG (x:=.c (.loc 0 1)) rfl rfl trivial rfl) (OkOps.q (triQG (x:=aI v.N) rfl rfl ⟨fun h=>h,trivial⟩ rfl) (OkOps.q (triQG (x:=aB (v.N != 0)) rfl rfl ⟨fun h=>h,trivial⟩ rfl) ?_))))))))
 refine OkOps.q (triAndG rfl rfl rfl (fun h=>h) (fun h h2=>by rw [h,h2];rfl) rfl) ?_
 refine OkOps.q (triQG (x:=aB ((v.Kind == 2) && (v.N != 0))) rfl rfl ⟨fun h=>h,trivial⟩ rfl) (OkOps.q (triQG (x:=.c (.loc 0 1)) rfl rfl trivial rfl) (OkOps.q (triQG (x:=aI v.N) rfl rfl ⟨fun h=>h,trivial⟩ rfl) (OkOps.q (triQG (x:=aB (v.N != 1)) rfl rfl ⟨fun h=>h,trivial⟩ rfl) ?_)))
 refine OkOps.q (triAndG rfl rfl rfl (fun h=>h) (fun h h2=>by rw [h,h2];rfl) rfl) ?_
 refine OkOps.q (triOr rfl rfl (fun h=>by rw [h];rfl) rfl) ?_
 refine OkOps.nil ?_
 refine Ok.cond (b:=((v.Kind == 1) && ((decide (v.N < (-1099511627776))) || (decide (v.N > 1099511627776)))) || (((v.Kind == 2) && (v.N != 0)) && (v.N != 1))) rfl (fun h3=>?_) (fun h3=>?_)
 have hr:=selT h3 hr
 refine Ok.seq (Ok.region (OkOps.y (.agg [cI 0,.d (.v (.slice none 0 0))]) (OkOps.y (aI (IntKind.i64.wrap (met + 1))) (OkOps.w (triStore (cs':=[cI 0,.d (.v (.slice none 0 0))]) rfl rfl rfl rfl rfl rfl rfl rfl rfl) (OkOps.y (aI (IntKind.i64.wrap (met + 1))) (OkOps.y (aI 1) (OkOps.nil (Ok.ret ?_))))))))
 obtain rfl:=Option.some.inj hr
 exact ⟨_,rfl,.inr rfl,trivial⟩
 have hr:=selF h3 hr
 refine Ok.skip (Ok.seq (Ok.seq (Ok.region (OkOps.y (.c (.loc 0 2)) (OkOps.y (aS v.S) (OkOps.y (aI (v.S.size : Int)) (OkOps.y (aB (decide ((v.S.size : Int) > 2000))) (OkOps.y (aB (decide ((v.S.size : Int) > 2000))) (OkOps.q (triQG (x:=.c (.loc 0 3)) rfl rfl trivial rfl) (OkOps.q (triQG (x:=.c (.d (.sl (List.map AValue.cs v.L)))) rfl rfl ⟨fun h=>h,trivial⟩ rfl) (OkOps.q (triLenG (enc:=AValue.cs) v.L rfl rfl rfl ⟨fun h=>h,trivial⟩ rfl) (OkOps.q (triQG (x:=aB (decide ((v.L.length : Int) > 100))) rfl rfl ⟨fun h=>h,trivial⟩ rfl) ?_))))))))))))
 refine OkOps.q (triOr rfl rfl (fun h=>by rw [h];rfl) rfl) ?_
 refine OkOps.y (aB ((decide ((v.S.size : Int) > 2000)) || (decide ((v.L.length : Int) > 100)))) (OkOps.q (triQG (x:=aI (IntKind.i64.wrap (met + 1))) rfl rfl trivial rfl) (OkOps.q (triQG (x:=aB (decide ((IntKind.i64.wrap (met + 1)) > 1000))) rfl rfl ⟨fun h=>h,trivial⟩ rfl) ?_))
 refine OkOps.q (triOr rfl rfl (fun h=>by rw [h];rfl) rfl) ?_
 refine OkOps.nil ?_
 refine Ok.cond (b:=((decide ((v.S.size : Int) > 2000)) || (decide ((v.L.length : Int) > 100))) || (decide ((IntKind.i64.wrap (met + 1)) > 1000))) rfl (fun h4=>?_) (fun h4=>?_)
 have hr:=selT h4 hr
 refine Ok.seq (Ok.region (OkOps.y (.agg [cI 0,.d (.v (.slice none 0 0))]) (OkOps.y (aI (IntKind.i64.wrap (met + 1))) (OkOps.w (triStore (cs':=[cI 0,.d (.v (.slice none 0 0))]) rfl rfl rfl rfl rfl rfl rfl rfl rfl) (OkOps.y (aI (IntKind.i64.wrap (met + 1))) (OkOps.y (aI 2) (OkOps.nil (Ok.ret ?_))))))))
 obtain rfl:=Option.some.inj hr
 exact ⟨_,rfl,.inr rfl,trivial⟩
 have hr:=selF h4 hr
 refine Ok.skip (Ok.seq (Ok.seq (Ok.region (OkOps.y (.c (.loc 0 2)) (OkOps.y (aS v.S) ?_)))))
 obtain ⟨x5,hx5,hr⟩:=bind_some hr
 refine OkOps.q (triCl (tau []) (.s (aB x5)) [] (r11_UTF8_c _ hx5) rfl ⟨.inl rfl,trivial⟩ trivial entry120 trivial) (OkOps.y (aB (!x5)) (OkOps.nil ?_))
 refine Ok.cond (b:=!x5) rfl (fun h6=>?_) (fun h6=>?_)
 have hr:=selT h6 hr
 refine Ok.seq (Ok.region (OkOps.y (.agg [cI 0,.d (.v (.slice none 0 0))]) (OkOps.y (aI (IntKind.i64.wrap (met + 1))) (OkOps.w (triStore (cs':=[cI 0,.d (.v (.slice none 0 0))]) rfl rfl rfl rfl rfl rfl rfl rfl rfl) (OkOps.y (aI (IntKind.i64.wrap (met + 1))) (OkOps.y (aI 3) (OkOps.nil (Ok.ret ?_))))))))
 obtain rfl:=Option.some.inj hr
 exact ⟨_,rfl,.inr rfl,trivial⟩
 have hr:=selF h6 hr
 refine Ok.skip (Ok.seq (Ok.region (OkOps.y (.c (.loc 0 0)) (OkOps.y (aI v.Kind) (OkOps.y (.agg [cI v.Kind,.d (.v (.slice none 0 0))]) (OkOps.m 0 (triAlloc (j:=2) (cs:=[cI 0,.d (.v (.slice none 0 0))]) rfl rfl rfl rfl) (OkOps.w (triStore (cs':=[cI v.Kind,.d (.v (.slice none 0 0))]) rfl rfl rfl rfl rfl rfl rfl rfl rfl) (OkOps.nil (Ok.seq (Ok.region (OkOps.y (aB true) (OkOps.nil ?_))))))))))))
 obtain ⟨k8,hk8,hr⟩:=jn_some hr
 refine Ok.join (fun (s7 : Int × Bool × (List AType))=>⟨[(2,.s (aI s7.1)),(6,.s (.c (.loc 1 0))),(10,.s (.c (.loc 2 0))),(11,.s (aB s7.2.1))],[(1,.blk [cI 0,.d (.v (.slice none 0 0))] 182),(2,.blk [cI v.Kind,.tl 1007 (List.map AType.cs s7.2.2)] 182),(1007,.tail 2)],0⟩) k8 r (fun s7 hr=>?_) ?_
 rw [hk8] at hr
 refine Ok.seq (Ok.seq (Ok.region (OkOps.y (aB s7.2.1) (OkOps.y (aB (!s7.2.1)) (OkOps.nil ?_)))))
 refine Ok.cond (b:=!s7.2.1) rfl (fun h9=>?_) (fun h9=>?_)
 have hr:=selT h9 hr
 refine Ok.seq (Ok.region (OkOps.y (.agg [cI 0,.d (.v (.slice none 0 0))]) (OkOps.y (aI s7.1) (OkOps.w (triStore (cs':=[cI 0,.d (.v (.slice none 0 0))]) rfl rfl rfl rfl rfl rfl rfl rfl rfl) (OkOps.y (aI s7.1) (OkOps.y (aI 5) (OkOps.nil (Ok.ret ?_))))))))
 obtain rfl:=Option.some.inj hr
 exact ⟨_,rfl,.inr rfl,trivial⟩
 have hr:=selF h9 hr
 refine Ok.skip (Ok.seq (Ok.region (OkOps.y (.agg [cI v.Kind,.tl 1007 (List.map AType.cs s7.2.2)]) (OkOps.y (aI s7.1) (OkOps.w (triStore (cs':=[cI v.Kind,.tl 1007 (List.map AType.cs s7.2.2)]) rfl rfl rfl rfl rfl rfl rfl rfl rfl) (OkOps.y (aI s7.1) (OkOps.y (aI 0) (OkOps.nil (Ok.ret ?_)))))))))
 obtain rfl:=Option.some.inj hr
 exact ⟨_,rfl,.inr rfl,trivial⟩
 clear hk8
 refine Ok.seq (Ok.region (OkOps.y (aI 0) (OkOps.nil (Ok.block (Ok.loopK (fun (s10 : Int × Bool × Int × (List AType))=>⟨[(1,.s (aI depth)),(2,.s (aI s10.1)),(3,.s (.c (.loc 0 0))),(6,.s (.c (.loc 1 0))),(10,.s (.c (.loc 2 0))),(11,.s (aB s10.2.1)),(12,.s (aI s10.2.2.1))],[(0,.blk [cI v.Kind,cI v.N,cS v.S,.d (.sl (List.map AValue.cs v.L))] 62),(1,.blk [cI 0,.d (.v (.slice none 0 0))] 182),(2,.blk [cI v.Kind,.tl 1011 (List.map AType.cs s10.2.2.2)] 182),(1011,.tail 2)],0⟩) hr (Conv.trans (Conv.nilO 2 1 1014 2 [cI v.Kind,.d (.v (.slice none 0 0))] [cI v.Kind,.tl 1014 (List.map AType.cs ([] : (List AType)))] 182 0 rfl rfl rfl rfl) (Conv.mk (tau [(1011,1014)]) ⟨⟨_,rfl,.inl rfl⟩,⟨_,rfl,.inl rfl⟩,⟨_,rfl,.inl rfl⟩,⟨_,rfl,.inl rfl⟩,⟨_,rfl,.inl rfl⟩,⟨_,rfl,.inl rfl⟩,⟨_,rfl,.inl rfl⟩,trivial⟩ ⟨rfl,rfl,rfl,rfl,trivial⟩ rfl rfl rfl rfl)) ?_)))))
 clear hr
 intro again11 s10 hr
 unfold r11_check_L1 at hr
 refine Ok.seq (Ok.seq (Ok.region (OkOps.y (aI s10.2.2.1) (OkOps.y (.c (.loc 0 3)) (OkOps.y (.c (.d (.sl (List.map AValue.cs v.L)))) (OkOps.q (triLen (enc:=AValue.cs) v.L rfl rfl trivial rfl) (OkOps.y (aB (decide (s10.2.2.1 < (v.L.length : Int)))) (OkOps.nil ?_))))))))
 refine Ok.cond (b:=decide (s10.2.2.1 < (v.L.length : Int))) rfl (fun h12=>?_) (fun h12=>?_)
 have hr:=selT h12 hr
 refine Ok.skip ?_
 obtain ⟨k14,hk14,hr⟩:=jn_some hr
 refine Ok.join (fun (s13 : Int × Bool × (List AType))=>⟨[(1,.s (aI depth)),(2,.s (aI s13.1)),(3,.s (.c (.loc 0 0))),(6,.s (.c (.loc 1 0))),(10,.s (.c (.loc 2 0))),(11,.s (aB s13.2.1)),(12,.s (aI s10.2.2.1))],[(0,.blk [cI v.Kind,cI v.N,cS v.S,.d (.sl (List.map AValue.cs v.L))] 62),(1,.blk [cI 0,.d (.v (.slice none 0 0))] 182),(2,.blk [cI v.Kind,.tl 1015 (List.map AType.cs s13.2.2)] 182),(1015,.tail 2)],0⟩) k14 r (fun s13 hr=>?_) ?_
 rw [hk14] at hr
 refine Ok.region (OkOps.y (aI s10.2.2.1) (OkOps.y (aI (IntKind.i64.wrap (s10.2.2.1 + 1))) (OkOps.y (aI (IntKind.i64.wrap (s10.2.2.1 + 1))) (OkOps.nil ?_))))
 exact ⟨(s13.1,s13.2.1,IntKind.i64.wrap (s10.2.2.1 + 1),s13.2.2),hr,(Conv.mk (tau [(1011,1015)]) ⟨⟨_,rfl,.inl rfl⟩,⟨_,rfl,.inl rfl⟩,⟨_,rfl,.inl rfl⟩,⟨_,rfl,.inl rfl⟩,⟨_,rfl,.inl rfl⟩,⟨_,rfl,.inl rfl⟩,⟨_,rfl,.inl rfl⟩,trivial⟩ ⟨rfl,rfl,rfl,rfl,trivial⟩ rfl rfl rfl rfl)⟩
 clear hk14
 refine Ok.block (Ok.seq (Ok.region (OkOps.y (.c (.loc 0 3)) (OkOps.y (.c (.d (.sl (List.map AValue.cs v.L)))) (OkOps.y (aI s10.2.2.1) ?_)))))
 obtain ⟨x15,hx15,hr⟩:=bind_some hr
 refine OkOps.q (triIdx (enc:=AValue.cs) (L:=v.L) (row:=[dI x15.Kind,dI x15.N,dS x15.S,.sl (List.map AValue.cs x15.L)]) hx15 (AValue.cs_eq _) rfl rfl rfl (fun x=>by rw [AValue.cs_eq];rfl) trivial rfl) ?_
 refine OkOps.y (.agg [cI x15.Kind,cI x15.N,cS x15.S,.d (.sl (List.map AValue.cs x15.L))]) (OkOps.y (aI depth) (OkOps.y (aI (IntKind.i64.wrap (depth + 1))) (OkOps.y (aI s10.1) ?_)))
 obtain ⟨x16,hx16,hr⟩:=bind_some hr
 refine OkOps.q (triCl (tau []) (.tup [.agg [cI x16.1.Kind,.d (.sl (List.map AType.cs x16.1.Of))],aI x16.2.1,aI x16.2.2]) [] (hself0 _ _ _ hx16) rfl ⟨.inl rfl,.inl rfl,.inl rfl,trivial⟩ trivial entry112 trivial) (OkOps.q (triMv (v:=.tup [.agg [cI x16.1.Kind,.d (.sl (List.map AType.cs x16.1.Of))],aI x16.2.1,aI x16.2.2]) rfl rfl) (OkOps.y (.agg [cI x16.1.Kind,.d (.sl (List.map AType.cs x16.1.Of))]) (OkOps.y (aI x16.2.1) (OkOps.y (aI x16.2.2) (OkOps.m 0 (triAlloc (j:=3) (cs:=[cI 0,.d (.v (.slice none 0 0))]) rfl rfl rfl rfl) (OkOps.w (triStore (cs':=[cI x16.1.Kind,.d (.sl (List.map AType.cs x16.1.Of))]) rfl rfl rfl rfl rfl rfl rfl rfl rfl) (OkOps.y (aI x16.2.1) (OkOps.y (aI x16.2.2) (OkOps.nil (Ok.seq (Ok.region (OkOps.y (aI x16.2.1) (OkOps.y (aI x16.2.1) (OkOps.nil (Ok.seq ?_)))))))))))))))
 refine Ok.seq (Ok.region (OkOps.y (aI x16.2.2) (OkOps.y (aB (x16.2.2 != 0)) (OkOps.nil ?_))))
 refine Ok.cond (b:=x16.2.2 != 0) rfl (fun h17=>?_) (fun h17=>?_)
 have hr:=selT h17 hr
 refine Ok.seq (Ok.region (OkOps.y (.agg [cI 0,.d (.v (.slice none 0 0))]) (OkOps.y (aI x16.2.1) (OkOps.y (aI x16.2.2) (OkOps.w (triStore (cs':=[cI 0,.d (.v (.slice none 0 0))]) rfl rfl rfl rfl rfl rfl rfl rfl rfl) (OkOps.y (aI x16.2.1) (OkOps.y (aI x16.2.2) (OkOps.nil (Ok.ret ?_)))))))))
 obtain rfl:=Option.some.inj hr
 exact ⟨_,rfl,.inr rfl,trivial⟩
 have hr:=selF h17 hr
 refine Ok.skip (Ok.seq (Ok.seq (Ok.region (OkOps.y (aB s10.2.1) (OkOps.y (aB (!s10.2.1)) (OkOps.nil ?_))))))
 refine Ok.cond (b:=!s10.2.1) rfl (fun h18=>?_) (fun h18=>?_)
 have hr:=selT h18 hr
 refine Ok.exit ?_
 exact ⟨(x16.2.1,s10.2.1,s10.2.2.2),hr,(Conv.mk (tau [(1015,1011)]) ⟨⟨_,rfl,.inl rfl⟩,⟨_,rfl,.inl rfl⟩,⟨_,rfl,.inl rfl⟩,⟨_,rfl,.inl rfl⟩,⟨_,rfl,.inl rfl⟩,⟨_,rfl,.inl rfl⟩,⟨_,rfl,.inl rfl⟩,trivial⟩ ⟨rfl,rfl,rfl,rfl,trivial⟩ rfl rfl rfl rfl)⟩
 have hr:=selF h18 hr
 refine Ok.skip (Ok.seq (Ok.seq (Ok.region (OkOps.y (.c (.loc 2 1)) (OkOps.y (.c (.tl 1011 (List.map AType.cs s10.2.2.2))) (OkOps.q (triLen (enc:=AType.cs) s10.2.2.2 rfl rfl trivial rfl) (OkOps.y (aB ((s10.2.2.2.length : Int) == 0)) (OkOps.nil ?_))))))))
 refine Ok.cond (b:=(s10.2.2.2.length : Int) == 0) rfl (fun h19=>?_) (fun h19=>?_)
 have hr:=selT h19 hr
 refine Ok.seq (Ok.region (OkOps.y (.agg [cI x16.1.Kind,.d (.sl (List.map AType.cs x16.1.Of))]) ?_))
 refine OkOps.m 0 (triBST (sz:=2) (enc:=AType.cs) (j:=4) ([x16.1]) rfl rfl rfl rfl rfl (rows:=[[dI x16.1.Kind,.sl (List.map AType.cs x16.1.Of)]]) (by simp only [List.map,AType.cs_eq]) rfl rfl (fun x=>by rw [AType.cs_eq];rfl) trivial rfl rfl) ?_
 refine OkOps.y (.c (.loc 2 1)) (OkOps.w (triStore (cs':=[cI v.Kind,.tl 4 (List.map AType.cs ([x16.1]))]) rfl rfl rfl rfl rfl rfl rfl rfl rfl) (OkOps.nil (Ok.exit ?_)))
 exact ⟨(x16.2.1,s10.2.1,[x16.1]),hr,(Conv.mk (tau [(1015,4)]) ⟨⟨_,rfl,.inl rfl⟩,⟨_,rfl,.inl rfl⟩,⟨_,rfl,.inl rfl⟩,⟨_,rfl,.inl rfl⟩,⟨_,rfl,.inl rfl⟩,⟨_,rfl,.inl rfl⟩,⟨_,rfl,.inl rfl⟩,trivial⟩ ⟨rfl,rfl,rfl,rfl,trivial⟩ rfl rfl rfl rfl)⟩
 have hr:=selF h19 hr
 refine Ok.skip (Ok.seq (Ok.regionD (by kernel_rfl) (OkD.x (.c (.loc 2 1)) rfl trivial rfl (OkD.x (.c (.tl 1011 (List.map AType.cs s10.2.2.2))) rfl trivial rfl ?_))))
 obtain ⟨x20,hx20,hr⟩:=bind_some hr
 refine OkD.q (triIdx (enc:=AType.cs) (L:=s10.2.2.2) (row:=[dI x20.Kind,.sl (List.map AType.cs x20.Of)]) hx20 (AType.cs_eq _) rfl rfl rfl (fun x=>by rw [AType.cs_eq];rfl) trivial rfl) ?_
 refine OkD.x (.agg [cI x20.Kind,.d (.sl (List.map AType.cs x20.Of))]) rfl trivial rfl (OkD.x (.agg [cI x16.1.Kind,.d (.sl (List.map AType.cs x16.1.Of))]) rfl trivial rfl ?_)
 obtain ⟨x21,hx21,hr⟩:=bind_some hr
 refine OkD.q (triCl (tau []) (.tup [.agg [cI x21.1.Kind,.d (.sl (List.map AType.cs x21.1.Of))],aB x21.2]) [] (r11_join_c _ _ _ hx21) rfl ⟨.inl rfl,.inl rfl,trivial⟩ trivial entry121 trivial) (OkD.q (triMv (v:=.tup [.agg [cI x21.1.Kind,.d (.sl (List.map AType.cs x21.1.Of))],aB x21.2]) rfl rfl) (OkD.x (.agg [cI x21.1.Kind,.d (.sl (List.map AType.cs x21.1.Of))]) rfl trivial rfl (OkD.x (aB x21.2) rfl trivial rfl (OkD.m 0 (triAlloc (j:=5) (cs:=[cI 0,.d (.v (.slice none 0 0))]) rfl rfl rfl rfl) (OkD.w (triStore (cs':=[cI x21.1.Kind,.d (.sl (List.map AType.cs x21.1.Of))]) rfl rfl rfl rfl rfl rfl rfl rfl rfl) (OkD.x (aB x21.2) rfl trivial rfl (OkD.nil (by kernel_rfl) (Ok.seq (Ok.region (OkOps.y (aB x21.2) (OkOps.y (aB x21.2) (OkOps.nil (Ok.region (OkOps.y (.agg [cI x21.1.Kind,.d (.sl (List.map AType.cs x21.1.Of))]) ?_))))))))))))))
 refine OkOps.m 0 (triBST (sz:=2) (enc:=AType.cs) (j:=6) ([x21.1]) rfl rfl rfl rfl rfl (rows:=[[dI x21.1.Kind,.sl (List.map AType.cs x21.1.Of)]]) (by simp only [List.map,AType.cs_eq]) rfl rfl (fun x=>by rw [AType.cs_eq];rfl) trivial rfl rfl) ?_
 refine OkOps.y (.c (.loc 2 1)) (OkOps.w (triStore (cs':=[cI v.Kind,.tl 6 (List.map AType.cs ([x21.1]))]) rfl rfl rfl rfl rfl rfl rfl rfl rfl) (OkOps.nil ?_))
 exact ⟨(x16.2.1,x21.2,[x21.1]),hr,(Conv.mk (tau [(1015,6)]) ⟨⟨_,rfl,.inl rfl⟩,⟨_,rfl,.inl rfl⟩,⟨_,rfl,.inl rfl⟩,⟨_,rfl,.inl rfl⟩,⟨_,rfl,.inl rfl⟩,⟨_,rfl,.inl rfl⟩,⟨_,rfl,.inl rfl⟩,trivial⟩ ⟨rfl,rfl,rfl,rfl,trivial⟩ rfl rfl rfl rfl)⟩
 have hr:=selF h12 hr
 refine Ok.exit ?_
 exact ⟨(s10.1,s10.2.1,s10.2.2.2),hr,(Conv.mk (tau [(1007,1011)]) ⟨⟨_,rfl,.inl rfl⟩,⟨_,rfl,.inl rfl⟩,⟨_,rfl,.inl rfl⟩,⟨_,rfl,.inl rfl⟩,trivial⟩ ⟨rfl,rfl,rfl,trivial⟩ rfl rfl rfl rfl)⟩
theorem r11_check_all : ∀ n : Nat,(∀ (v : AValue) (depth : Int) (met : Int) {r : AType × Int × Int},r11_check n v depth met = some r → Con Tryd.prog 112 [.agg [cI v.Kind,cI v.N,cS v.S,.d (.sl (List.map AValue.cs v.L))],aI depth,aI met] [] (.tup [.agg [cI r.1.Kind,.d (.sl (List.map AType.cs r.1.Of))],aI r.2.1,aI r.2.2]) []) ∧ True:=by
 intro n
 induction n with
 | zero=>exact ⟨(by intros;rename_i hr;cases hr),trivial⟩
 | succ n ih=>exact ⟨(by intros;rename_i hr;exact r11_check_B_c _ ih.1 _ _ _ hr),trivial⟩
theorem r11_check_c (n : Nat) (v : AValue) (depth : Int) (met : Int) {r : AType × Int × Int} (hr : r11_check n v depth met = some r) : Con Tryd.prog 112 [.agg [cI v.Kind,cI v.N,cS v.S,.d (.sl (List.map AValue.cs v.L))],aI depth,aI met] [] (.tup [.agg [cI r.1.Kind,.d (.sl (List.map AType.cs r.1.Of))],aI r.2.1,aI r.2.2]) []:=(r11_check_all n).1 v depth met hr
theorem r11_TypeOf_c (v : AValue) {r : AType × Int} (hr : r11_TypeOf v = some r) : Con Tryd.prog 100 [.agg [cI v.Kind,cI v.N,cS v.S,.d (.sl (List.map AValue.cs v.L))]] [] (.tup [.agg [cI r.1.Kind,.d (.sl (List.map AType.cs r.1.Of))],aI r.2]) []:=by
 unfold r11_TypeOf at hr
 refine Con.of_ok 15 0 [.cell 2 182,.tmp 3] [(0,.s (.agg [cI v.Kind,cI v.N,cS v.S,.d (.sl (List.map AValue.cs v.L))]))] Tryd.func100 rfl rfl rfl rfl rfl rfl rfl rfl fun w g M ρ _=>(Ok.seq (Ok.region (OkOps.m 0 (triBox (j:=0) (cs:=[cI v.Kind,cI v.N,cS v.S,.d (.sl (List.map AValue.cs v.L))]) rfl rfl rfl rfl rfl) (OkOps.m 0 (triAlloc (j:=1) (cs:=[cI 0,.d (.v (.slice none 0 0))]) rfl rfl rfl rfl) (OkOps.y (aI 0) (OkOps.nil (Ok.seq (Ok.region (OkOps.y (.agg [cI v.Kind,cI v.N,cS v.S,.d (.sl (List.map AValue.cs v.L))]) ?_)))))))))
 obtain ⟨x1,hx1,hr⟩:=bind_some hr
 refine OkOps.q (triCl (tau []) (.tup [.agg [cI x1.1.Kind,.d (.sl (List.map AType.cs x1.1.Of))],aI x1.2.1,aI x1.2.2]) [] (r11_check_c _ _ _ _ hx1) rfl ⟨.inl rfl,.inl rfl,.inl rfl,trivial⟩ trivial entry112 trivial) (OkOps.q (triMv (v:=.tup [.agg [cI x1.1.Kind,.d (.sl (List.map AType.cs x1.1.Of))],aI x1.2.1,aI x1.2.2]) rfl rfl) (OkOps.y (.agg [cI x1.1.Kind,.d (.sl (List.map AType.cs x1.1.Of))]) (OkOps.y (aI x1.2.1) (OkOps.y (aI x1.2.2) (OkOps.m 0 (triAlloc (j:=2) (cs:=[cI 0,.d (.v (.slice none 0 0))]) rfl rfl rfl rfl) (OkOps.w (triStore (cs':=[cI x1.1.Kind,.d (.sl (List.map AType.cs x1.1.Of))]) rfl rfl rfl rfl rfl rfl rfl rfl rfl) (OkOps.y (aI x1.2.1) (OkOps.y (aI x1.2.2) (OkOps.nil (Ok.seq (Ok.region (OkOps.y (.agg [cI x1.1.Kind,.d (.sl (List.map AType.cs x1.1.Of))]) (OkOps.y (aI x1.2.2) (OkOps.w (triStore (cs':=[cI x1.1.Kind,.d (.sl (List.map AType.cs x1.1.Of))]) rfl rfl rfl rfl rfl rfl rfl rfl rfl) (OkOps.y (aI x1.2.2) ?_)))))))))))))))
 refine OkOps.nil (Ok.ret ?_)
 obtain rfl:=Option.some.inj hr
 exact ⟨_,rfl,.inl rfl,trivial⟩
theorem r11_Check_c (v : AValue) {r : Int} (hr : r11_Check v = some r) : Con Tryd.prog 77 [.agg [cI v.Kind,cI v.N,cS v.S,.d (.sl (List.map AValue.cs v.L))]] [] (.s (aI r)) []:=by
 unfold r11_Check at hr
 refine Con.of_ok 11 0 [.tmp 2] [(0,.s (.agg [cI v.Kind,cI v.N,cS v.S,.d (.sl (List.map AValue.cs v.L))]))] Tryd.func77 rfl rfl rfl rfl rfl rfl rfl rfl fun w g M ρ _=>(Ok.seq (Ok.region (OkOps.m 0 (triBox (j:=0) (cs:=[cI v.Kind,cI v.N,cS v.S,.d (.sl (List.map AValue.cs v.L))]) rfl rfl rfl rfl rfl) (OkOps.y (aI 0) (OkOps.nil (Ok.seq (Ok.region (OkOps.y (.agg [cI v.Kind,cI v.N,cS v.S,.d (.sl (List.map AValue.cs v.L))]) ?_))))))))
 obtain ⟨x1,hx1,hr⟩:=bind_some hr
 refine OkOps.q (triCl (tau []) (.tup [.agg [cI x1.1.Kind,.d (.sl (List.map AType.cs x1.1.Of))],aI x1.2]) [] (r11_TypeOf_c _ hx1) rfl ⟨.inl rfl,trivial⟩ trivial entry100 trivial) (OkOps.q (triMv (v:=.tup [.agg [cI x1.1.Kind,.d (.sl (List.map AType.cs x1.1.Of))],aI x1.2]) rfl rfl) (OkOps.y (.agg [cI x1.1.Kind,.d (.sl (List.map AType.cs x1.1.Of))]) (OkOps.y (aI x1.2) (OkOps.m 0 (triAlloc (j:=1) (cs:=[cI 0,.d (.v (.slice none 0 0))]) rfl rfl rfl rfl) (OkOps.w (triStore (cs':=[cI x1.1.Kind,.d (.sl (List.map AType.cs x1.1.Of))]) rfl rfl rfl rfl rfl rfl rfl rfl rfl) (OkOps.y (aI x1.2) (OkOps.nil (Ok.seq (Ok.region (OkOps.y (aI x1.2) (OkOps.y (aI x1.2) (OkOps.nil (Ok.ret ?_)))))))))))))
 obtain rfl:=Option.some.inj hr
 exact ⟨_,rfl,.inl rfl,trivial⟩
end Go.Proofs.YtfoigppmcelgfaaDoor
end

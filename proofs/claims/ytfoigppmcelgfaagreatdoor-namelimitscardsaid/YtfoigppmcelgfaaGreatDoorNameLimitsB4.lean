/-
  Part 4 of the texts under the law NameLimits: the calculus, the plain functions, their walks, plain facts.
-/
import Derived.Test.YtfoigppmcelgfaaGreatDoorNameLimitsB3
import Derived.Test.YtfoigppmcelgfaaGreatDoorProg
import Derived.KernelRfl
section
set_option maxRecDepth 100000
namespace Go.Proofs.YtfoigppmcelgfaaGreatDoor
open Go Go.E2
theorem widgetry_layout_isText_c (kind : Int) {r : Bool} (hr : widgetry_layout_isText kind = some r) : Con Tryz.prog 182 [aI kind] [] (.s (aB r)) []:=by
 unfold widgetry_layout_isText at hr
 refine Con.of_ok 17 0 [.tmp 2] [(0,.s (aI kind))] Tryz.func182 rfl rfl rfl rfl rfl rfl rfl rfl fun w g M ρ _=>(Ok.seq (Ok.region (OkOps.y (aB false) (OkOps.nil (Ok.seq (Ok.region (OkOps.y (aI kind) (OkOps.y (aB (kind == 2)) (OkOps.y (aB (kind == 2)) (OkOps.q (triQG (x:=aI kind) rfl rfl trivial rfl) (OkOps.q (triQG (x:=aB (kind == 4)) rfl rfl ⟨fun h=>h,trivial⟩ rfl) ?_)))))))))))
 refine OkOps.q (triOr rfl rfl (fun h=>by rw [h];rfl) rfl) ?_
 refine OkOps.y (aB ((kind == 2) || (kind == 4))) (OkOps.q (triQG (x:=aI kind) rfl rfl trivial rfl) (OkOps.q (triQG (x:=aB (kind == 7)) rfl rfl ⟨fun h=>h,trivial⟩ rfl) ?_))
 refine OkOps.q (triOr rfl rfl (fun h=>by rw [h];rfl) rfl) ?_
 refine OkOps.y (aB (((kind == 2) || (kind == 4)) || (kind == 7))) (OkOps.q (triQG (x:=aI kind) rfl rfl trivial rfl) (OkOps.q (triQG (x:=aB (kind == 9)) rfl rfl ⟨fun h=>h,trivial⟩ rfl) ?_))
 refine OkOps.q (triOr rfl rfl (fun h=>by rw [h];rfl) rfl) ?_
 refine OkOps.y (aB ((((kind == 2) || (kind == 4)) || (kind == 7)) || (kind == 9))) (OkOps.nil (Ok.ret ?_))
 obtain rfl:=Option.some.inj hr
 exact ⟨_,rfl,.inl rfl,trivial⟩
theorem widgetry_layout_isFigure_c (kind : Int) {r : Bool} (hr : widgetry_layout_isFigure kind = some r) : Con Tryz.prog 183 [aI kind] [] (.s (aB r)) []:=by
 unfold widgetry_layout_isFigure at hr
 refine Con.of_ok 9 0 [.tmp 2] [(0,.s (aI kind))] Tryz.func183 rfl rfl rfl rfl rfl rfl rfl rfl fun w g M ρ _=>(Ok.seq (Ok.region (OkOps.y (aB false) (OkOps.nil (Ok.seq (Ok.region (OkOps.y (aI kind) (OkOps.y (aB (kind == 5)) (OkOps.y (aB (kind == 5)) (OkOps.q (triQG (x:=aI kind) rfl rfl trivial rfl) (OkOps.q (triQG (x:=aB (kind == 13)) rfl rfl ⟨fun h=>h,trivial⟩ rfl) ?_)))))))))))
 refine OkOps.q (triOr rfl rfl (fun h=>by rw [h];rfl) rfl) ?_
 refine OkOps.y (aB ((kind == 5) || (kind == 13))) (OkOps.nil (Ok.ret ?_))
 obtain rfl:=Option.some.inj hr
 exact ⟨_,rfl,.inl rfl,trivial⟩
theorem widgetry_layout_complete_1_c (p_n : Node) (p_s : Styled) {r : Bool} (hr : widgetry_layout_complete_1 p_n p_s = some r) : Con Tryz.prog 155 [.agg [cI p_n.ID,cI p_n.Parent,cI p_n.Kind,cS p_n.Key,.d (.sl (List.map Attr.cs p_n.Attrs)),.d (.sl (List.map Action.cs p_n.Actions)),.d (.sl (List.map (eInt .i64) p_n.Kids))],.agg [cI p_s.ID,cI (p_s.Style 0),cI (p_s.Style 1),cI (p_s.Style 2),cI (p_s.Style 3),cI (p_s.Style 4),cI (p_s.Style 5),cI (p_s.Style 6),cI (p_s.Style 7),cI (p_s.Style 8),cI (p_s.Style 9),cI (p_s.Style 10),cI (p_s.Style 11),cI (p_s.Style 12),cI (p_s.Style 13),cI (p_s.Style 14),cI (p_s.Style 15),cI (p_s.Style 16),cI (p_s.Style 17),cI (p_s.Style 18),cI (p_s.Style 19),cI (p_s.Style 20),cI (p_s.Style 21)]] [] (.s (aB r)) []:=by
 unfold widgetry_layout_complete_1 at hr
 refine Con.of_ok 10 0 [.tmp 4] [(0,.s (.agg [cI p_n.ID,cI p_n.Parent,cI p_n.Kind,cS p_n.Key,.d (.sl (List.map Attr.cs p_n.Attrs)),.d (.sl (List.map Action.cs p_n.Actions)),.d (.sl (List.map (eInt .i64) p_n.Kids))])),(1,.s (.agg [cI p_s.ID,cI (p_s.Style 0),cI (p_s.Style 1),cI (p_s.Style 2),cI (p_s.Style 3),cI (p_s.Style 4),cI (p_s.Style 5),cI (p_s.Style 6),cI (p_s.Style 7),cI (p_s.Style 8),cI (p_s.Style 9),cI (p_s.Style 10),cI (p_s.Style 11),cI (p_s.Style 12),cI (p_s.Style 13),cI (p_s.Style 14),cI (p_s.Style 15),cI (p_s.Style 16),cI (p_s.Style 17),cI (p_s.Style 18),cI (p_s.Style 19),cI (p_s.Style 20),cI (p_s.Style 21)]))] Tryz.func155 rfl rfl rfl rfl rfl rfl rfl rfl fun w g M ρ _=>(Ok.seq (Ok.region (OkOps.m 0 (triBox (j:=0) (cs:=[cI p_n.ID,cI p_n.Parent,cI p_n.Kind,cS p_n.Key,.d (.sl (List.map Attr.cs p_n.Attrs)),.d (.sl (List.map Action.cs p_n.Actions)),.d (.sl (List.map (eInt .i64) p_n.Kids))]) rfl rfl rfl rfl rfl) (OkOps.m 0 (triBox (j:=1) (cs:=[cI p_s.ID,cI (p_s.Style 0),cI (p_s.Style 1),cI (p_s.Style 2),cI (p_s.Style 3),cI (p_s.Style 4),cI (p_s.Style 5),cI (p_s.Style 6),cI (p_s.Style 7),cI (p_s.Style 8),cI (p_s.Style 9),cI (p_s.Style 10),cI (p_s.Style 11),cI (p_s.Style 12),cI (p_s.Style 13),cI (p_s.Style 14),cI (p_s.Style 15),cI (p_s.Style 16),cI (p_s.Style 17),cI (p_s.Style 18),cI (p_s.Style 19),cI (p_s.Style 20),cI (p_s.Style 21)]) rfl rfl rfl rfl rfl) (OkOps.y (aB false) (OkOps.nil (Ok.seq (Ok.region (OkOps.y (.c (.loc 0 0)) (OkOps.y (aI p_n.ID) (OkOps.y (.c (.loc 1 0)) (OkOps.y (aI p_s.ID) (OkOps.y (aB (p_n.ID == p_s.ID)) (OkOps.y (aB (p_n.ID == p_s.ID)) (OkOps.nil ?_)))))))))))))))
 refine Ok.ret ?_
 obtain rfl:=Option.some.inj hr
 exact ⟨_,rfl,.inl rfl,trivial⟩
theorem slices_EqualFunc_Sl_Node_Sl_Styled_Node_Styled_c (p_s1 : (List Node)) (p_s2 : (List Styled)) {r : Bool} (hr : slices_EqualFunc_Sl_Node_Sl_Styled_Node_Styled p_s1 p_s2 = some r) : Con Tryz.prog 154 [.c (.d (.sl (List.map Node.cs p_s1))),.c (.d (.sl (List.map Styled.cs p_s2))),.c (.fn 155 [])] [] (.s (aB r)) []:=by
 unfold slices_EqualFunc_Sl_Node_Sl_Styled_Node_Styled at hr
 refine Con.of_ok 32 0 [.tmp 6] [(0,.s (.c (.d (.sl (List.map Node.cs p_s1))))),(1,.s (.c (.d (.sl (List.map Styled.cs p_s2))))),(2,.s (.c (.fn 155 [])))] Tryz.func154 rfl rfl rfl rfl rfl rfl rfl rfl fun w g M ρ _=>(Ok.seq (Ok.region (OkOps.y (aB false) (OkOps.nil (Ok.seq (Ok.seq (Ok.region (OkOps.y (.c (.d (.sl (List.map Node.cs p_s1)))) (OkOps.q (triLen (enc:=Node.cs) p_s1 rfl rfl trivial rfl) (OkOps.y (.c (.d (.sl (List.map Styled.cs p_s2)))) (OkOps.q (triLen (enc:=Styled.cs) p_s2 rfl rfl trivial rfl) (OkOps.y (aB ((p_s1.length : Int) != (p_s2.length : Int))) (OkOps.nil ?_)))))))))))))
 refine Ok.cond (b:=(p_s1.length : Int) != (p_s2.length : Int)) rfl (fun h1=>?_) (fun h1=>?_)
 have hr:=selT h1 hr
 refine Ok.seq (Ok.region (OkOps.y (aB false) (OkOps.nil (Ok.ret ?_))))
 obtain rfl:=Option.some.inj hr
 exact ⟨_,rfl,.inl rfl,trivial⟩
 have hr:=selF h1 hr
 refine Ok.skip ?_
 obtain ⟨k3,hk3,hr⟩:=jn_some hr
 refine Ok.join (fun (s2 : Unit)=>⟨[],[],0⟩) k3 r (fun s2 hr=>?_) ?_
 rw [hk3] at hr
 refine Ok.seq (Ok.region (OkOps.y (aB true) (OkOps.nil (Ok.ret ?_))))
 obtain rfl:=Option.some.inj hr
 exact ⟨_,rfl,.inl rfl,trivial⟩
 clear hk3
 refine Ok.seq (Ok.region (OkOps.y (.c (.d (.sl (List.map Node.cs p_s1)))) (OkOps.q (triLen (enc:=Node.cs) p_s1 rfl rfl trivial rfl) (OkOps.y (aI 0) (OkOps.nil (Ok.block (Ok.loopK (fun (s4 : Int)=>⟨[(1,.s (.c (.d (.sl (List.map Styled.cs p_s2))))),(2,.s (.c (.fn 155 []))),(15,.s (.c (.d (.sl (List.map Node.cs p_s1))))),(16,.s (aI (p_s1.length : Int))),(17,.s (aI s4))],[],0⟩) hr (Conv.mk (tau []) ⟨⟨_,rfl,.inl rfl⟩,⟨_,rfl,.inl rfl⟩,⟨_,rfl,.inl rfl⟩,⟨_,rfl,.inl rfl⟩,⟨_,rfl,.inl rfl⟩,trivial⟩ trivial rfl rfl rfl rfl) ?_)))))))
 clear hr
 intro again5 s4 hr
 unfold slices_EqualFunc_Sl_Node_Sl_Styled_Node_Styled_L1 at hr
 refine Ok.seq (Ok.region (OkOps.y (aB (decide (s4 < (p_s1.length : Int)))) (OkOps.nil (Ok.seq ?_))))
 refine Ok.cond (b:=decide (s4 < (p_s1.length : Int))) rfl (fun h6=>?_) (fun h6=>?_)
 have hr:=selT h6 hr
 refine Ok.skip (Ok.seq (Ok.block (Ok.seq (Ok.region (OkOps.y (aI s4) ?_)))))
 obtain ⟨x7,hx7,hr⟩:=bind_some hr
 refine OkOps.q (triIdx (enc:=Node.cs) (L:=p_s1) (row:=[dI x7.ID,dI x7.Parent,dI x7.Kind,dS x7.Key,.sl (List.map Attr.cs x7.Attrs),.sl (List.map Action.cs x7.Actions),.sl (List.map (eInt .i64) x7.Kids)]) hx7 rfl rfl rfl rfl (fun _=>rfl) trivial rfl) (OkOps.y (.agg [cI x7.ID,cI x7.Parent,cI x7.Kind,cS x7.Key,.d (.sl (List.map Attr.cs x7.Attrs)),.d (.sl (List.map Action.cs x7.Actions)),.d (.sl (List.map (eInt .i64) x7.Kids))]) (OkOps.m 0 (triAlloc (j:=0) (cs:=[cI 0,cI 0,cI 0,cS ByteArray.empty,.d (.v (.slice none 0 0)),.d (.v (.slice none 0 0)),.d (.v (.slice none 0 0))]) rfl rfl rfl rfl) (OkOps.y (aI s4) (OkOps.w (triStore (cs':=[cI x7.ID,cI x7.Parent,cI x7.Kind,cS x7.Key,.d (.sl (List.map Attr.cs x7.Attrs)),.d (.sl (List.map Action.cs x7.Actions)),.d (.sl (List.map (eInt .i64) x7.Kids))]) rfl rfl rfl rfl rfl rfl rfl rfl rfl) (OkOps.nil (Ok.seq (Ok.region (OkOps.y (.c (.d (.sl (List.map Styled.cs p_s2)))) (OkOps.y (aI s4) ?_)))))))))
 obtain ⟨x8,hx8,hr⟩:=bind_some hr
 refine OkOps.q (triIdx (enc:=Styled.cs) (L:=p_s2) (row:=[dI x8.ID,dI (x8.Style 0),dI (x8.Style 1),dI (x8.Style 2),dI (x8.Style 3),dI (x8.Style 4),dI (x8.Style 5),dI (x8.Style 6),dI (x8.Style 7),dI (x8.Style 8),dI (x8.Style 9),dI (x8.Style 10),dI (x8.Style 11),dI (x8.Style 12),dI (x8.Style 13),dI (x8.Style 14),dI (x8.Style 15),dI (x8.Style 16),dI (x8.Style 17),dI (x8.Style 18),dI (x8.Style 19),dI (x8.Style 20),dI (x8.Style 21)]) hx8 rfl rfl rfl rfl (fun _=>rfl) trivial rfl) (OkOps.y (.agg [cI x8.ID,cI (x8.Style 0),cI (x8.Style 1),cI (x8.Style 2),cI (x8.Style 3),cI (x8.Style 4),cI (x8.Style 5),cI (x8.Style 6),cI (x8.Style 7),cI (x8.Style 8),cI (x8.Style 9),cI (x8.Style 10),cI (x8.Style 11),cI (x8.Style 12),cI (x8.Style 13),cI (x8.Style 14),cI (x8.Style 15),cI (x8.Style 16),cI (x8.Style 17),cI (x8.Style 18),cI (x8.Style 19),cI (x8.Style 20),cI (x8.Style 21)]) (OkOps.m 0 (triAlloc (j:=1) (cs:=[cI 0,cI 0,cI 0,cI 0,cI 0,cI 0,cI 0,cI 0,cI 0,cI 0,cI 0,cI 0,cI 0,cI 0,cI 0,cI 0,cI 0,cI 0,cI 0,cI 0,cI 0,cI 0,cI 0]) rfl rfl rfl rfl) (OkOps.w (triStore (cs':=[cI x8.ID,cI (x8.Style 0),cI (x8.Style 1),cI (x8.Style 2),cI (x8.Style 3),cI (x8.Style 4),cI (x8.Style 5),cI (x8.Style 6),cI (x8.Style 7),cI (x8.Style 8),cI (x8.Style 9),cI (x8.Style 10),cI (x8.Style 11),cI (x8.Style 12),cI (x8.Style 13),cI (x8.Style 14),cI (x8.Style 15),cI (x8.Style 16),cI (x8.Style 17),cI (x8.Style 18),cI (x8.Style 19),cI (x8.Style 20),cI (x8.Style 21)]) rfl rfl rfl rfl rfl rfl rfl rfl (by kernel_rfl)) (OkOps.nil (Ok.seq (Ok.region (OkOps.y (.c (.fn 155 [])) (OkOps.y (.agg [cI x7.ID,cI x7.Parent,cI x7.Kind,cS x7.Key,.d (.sl (List.map Attr.cs x7.Attrs)),.d (.sl (List.map Action.cs x7.Actions)),.d (.sl (List.map (eInt .i64) x7.Kids))]) (OkOps.y (.agg [cI x8.ID,cI (x8.Style 0),cI (x8.Style 1),cI (x8.Style 2),cI (x8.Style 3),cI (x8.Style 4),cI (x8.Style 5),cI (x8.Style 6),cI (x8.Style 7),cI (x8.Style 8),cI (x8.Style 9),cI (x8.Style 10),cI (x8.Style 11),cI (x8.Style 12),cI (x8.Style 13),cI (x8.Style 14),cI (x8.Style 15),cI (x8.Style 16),cI (x8.Style 17),cI (x8.Style 18),cI (x8.Style 19),cI (x8.Style 20),cI (x8.Style 21)]) ?_)))))))))
 obtain ⟨x9,hx9,hr⟩:=bind_some hr
 refine OkOps.q (triCallF (caps:=[]) (tau []) (.s (aB x9)) [] rfl (widgetry_layout_complete_1_c _ _ hx9) rfl ⟨.inl rfl,.inl rfl,trivial⟩ trivial entry155 trivial rfl rfl rfl rfl trivial rfl rfl rfl) (OkOps.y (aB (!x9)) (OkOps.nil ?_))
 refine Ok.cond (b:=!x9) rfl (fun h10=>?_) (fun h10=>?_)
 have hr:=selT h10 hr
 refine Ok.seq (Ok.region (OkOps.y (aB false) (OkOps.nil (Ok.ret ?_))))
 obtain rfl:=Option.some.inj hr
 exact ⟨_,rfl,.inl rfl,trivial⟩
 have hr:=selF h10 hr
 refine Ok.skip (Ok.region (OkOps.y (aI (IntKind.i64.wrap (s4 + 1))) (OkOps.y (aI (IntKind.i64.wrap (s4 + 1))) (OkOps.nil ?_))))
 exact ⟨IntKind.i64.wrap (s4 + 1),hr,(Conv.mk (tau []) ⟨⟨_,rfl,.inl rfl⟩,⟨_,rfl,.inl rfl⟩,⟨_,rfl,.inl rfl⟩,⟨_,rfl,.inl rfl⟩,⟨_,rfl,.inl rfl⟩,trivial⟩ trivial rfl rfl rfl rfl)⟩
 have hr:=selF h6 hr
 refine Ok.exit ?_
 exact ⟨(),hr,(Conv.mk (tau []) trivial trivial rfl rfl rfl rfl)⟩
theorem widgetry_layout_complete_c (t : Tree) (st : (List Styled)) {r : Bool} (hr : widgetry_layout_complete t st = some r) : Con Tryz.prog 116 [.agg [cI t.Root,cI t.Next,.d (.sl (List.map Node.cs t.Nodes))],.c (.d (.sl (List.map Styled.cs st)))] [] (.s (aB r)) []:=by
 unfold widgetry_layout_complete at hr
 refine Con.of_ok 9 0 [.tmp 4] [(0,.s (.agg [cI t.Root,cI t.Next,.d (.sl (List.map Node.cs t.Nodes))])),(1,.s (.c (.d (.sl (List.map Styled.cs st)))))] Tryz.func116 rfl rfl rfl rfl rfl rfl rfl rfl fun w g M ρ _=>(Ok.seq (Ok.region (OkOps.m 0 (triBox (j:=0) (cs:=[cI t.Root,cI t.Next,.d (.sl (List.map Node.cs t.Nodes))]) rfl rfl rfl rfl rfl) (OkOps.y (aB false) (OkOps.nil (Ok.seq (Ok.region (OkOps.y (.c (.loc 0 2)) (OkOps.y (.c (.d (.sl (List.map Node.cs t.Nodes)))) (OkOps.y (.c (.d (.sl (List.map Styled.cs st)))) ?_))))))))))
 obtain ⟨x1,hx1,hr⟩:=bind_some hr
 refine OkOps.q (triCl (tau []) (.s (aB x1)) [] (slices_EqualFunc_Sl_Node_Sl_Styled_Node_Styled_c _ _ hx1) rfl ⟨.inl rfl,.inl rfl,.inl rfl,trivial⟩ trivial entry154 trivial) (OkOps.y (aB x1) (OkOps.nil (Ok.ret ?_)))
 obtain rfl:=Option.some.inj hr
 exact ⟨_,rfl,.inl rfl,trivial⟩
theorem widgetry_layout_styled_c (st : (List Styled)) {r : Bool} (hr : widgetry_layout_styled st = some r) : Con Tryz.prog 117 [.c (.d (.sl (List.map Styled.cs st)))] [] (.s (aB r)) []:=by
 unfold widgetry_layout_styled at hr
 refine Con.of_ok 25 0 [.tmp 2] [(0,.s (.c (.d (.sl (List.map Styled.cs st)))))] Tryz.func117 rfl rfl rfl rfl rfl rfl rfl rfl fun w g M ρ _=>(Ok.seq (Ok.region (OkOps.y (aB false) (OkOps.nil ?_))))
 obtain ⟨k2,hk2,hr⟩:=jn_some hr
 refine Ok.join (fun (s1 : Unit)=>⟨[],[],0⟩) k2 r (fun s1 hr=>?_) ?_
 rw [hk2] at hr
 refine Ok.seq (Ok.region (OkOps.y (aB true) (OkOps.nil (Ok.ret ?_))))
 obtain rfl:=Option.some.inj hr
 exact ⟨_,rfl,.inl rfl,trivial⟩
 clear hk2
 refine Ok.seq (Ok.region (OkOps.y (.c (.d (.sl (List.map Styled.cs st)))) (OkOps.q (triLen (enc:=Styled.cs) st rfl rfl trivial rfl) (OkOps.y (aI 0) (OkOps.nil (Ok.block (Ok.loopK (fun (s3 : Int)=>⟨[(7,.s (.c (.d (.sl (List.map Styled.cs st))))),(8,.s (aI (st.length : Int))),(9,.s (aI s3))],[],0⟩) hr (Conv.mk (tau []) ⟨⟨_,rfl,.inl rfl⟩,⟨_,rfl,.inl rfl⟩,⟨_,rfl,.inl rfl⟩,trivial⟩ trivial rfl rfl rfl rfl) ?_)))))))
 clear hr
 intro again4 s3 hr
 unfold widgetry_layout_styled_L2 at hr
 refine Ok.seq (Ok.region (OkOps.y (aB (decide (s3 < (st.length : Int)))) (OkOps.nil (Ok.seq ?_))))
 refine Ok.cond (b:=decide (s3 < (st.length : Int))) rfl (fun h5=>?_) (fun h5=>?_)
 have hr:=selT h5 hr
 refine Ok.skip ?_
 obtain ⟨k7,hk7,hr⟩:=jn_some hr
 refine Ok.join (fun (s6 : Unit)=>⟨[(7,.s (.c (.d (.sl (List.map Styled.cs st))))),(8,.s (aI (st.length : Int))),(9,.s (aI s3))],[],0⟩) k7 r (fun s6 hr=>?_) ?_
 rw [hk7] at hr
 refine Ok.region (OkOps.y (aI (IntKind.i64.wrap (s3 + 1))) (OkOps.y (aI (IntKind.i64.wrap (s3 + 1))) (OkOps.nil ?_)))
 exact ⟨IntKind.i64.wrap (s3 + 1),hr,(Conv.mk (tau []) ⟨⟨_,rfl,.inl rfl⟩,⟨_,rfl,.inl rfl⟩,⟨_,rfl,.inl rfl⟩,trivial⟩ trivial rfl rfl rfl rfl)⟩
 clear hk7
 refine Ok.block (Ok.seq (Ok.region ?_))
 obtain ⟨x8,hx8,hr⟩:=bind_some hr
 refine OkOps.q (triIdx (enc:=Styled.cs) (L:=st) (row:=[dI x8.ID,dI (x8.Style 0),dI (x8.Style 1),dI (x8.Style 2),dI (x8.Style 3),dI (x8.Style 4),dI (x8.Style 5),dI (x8.Style 6),dI (x8.Style 7),dI (x8.Style 8),dI (x8.Style 9),dI (x8.Style 10),dI (x8.Style 11),dI (x8.Style 12),dI (x8.Style 13),dI (x8.Style 14),dI (x8.Style 15),dI (x8.Style 16),dI (x8.Style 17),dI (x8.Style 18),dI (x8.Style 19),dI (x8.Style 20),dI (x8.Style 21)]) hx8 rfl rfl rfl rfl (fun _=>rfl) trivial rfl) (OkOps.y (.agg [cI x8.ID,cI (x8.Style 0),cI (x8.Style 1),cI (x8.Style 2),cI (x8.Style 3),cI (x8.Style 4),cI (x8.Style 5),cI (x8.Style 6),cI (x8.Style 7),cI (x8.Style 8),cI (x8.Style 9),cI (x8.Style 10),cI (x8.Style 11),cI (x8.Style 12),cI (x8.Style 13),cI (x8.Style 14),cI (x8.Style 15),cI (x8.Style 16),cI (x8.Style 17),cI (x8.Style 18),cI (x8.Style 19),cI (x8.Style 20),cI (x8.Style 21)]) (OkOps.m 0 (triAlloc (j:=0) (cs:=[cI 0,cI 0,cI 0,cI 0,cI 0,cI 0,cI 0,cI 0,cI 0,cI 0,cI 0,cI 0,cI 0,cI 0,cI 0,cI 0,cI 0,cI 0,cI 0,cI 0,cI 0,cI 0,cI 0]) rfl rfl rfl rfl) (OkOps.w (triStore (cs':=[cI x8.ID,cI (x8.Style 0),cI (x8.Style 1),cI (x8.Style 2),cI (x8.Style 3),cI (x8.Style 4),cI (x8.Style 5),cI (x8.Style 6),cI (x8.Style 7),cI (x8.Style 8),cI (x8.Style 9),cI (x8.Style 10),cI (x8.Style 11),cI (x8.Style 12),cI (x8.Style 13),cI (x8.Style 14),cI (x8.Style 15),cI (x8.Style 16),cI (x8.Style 17),cI (x8.Style 18),cI (x8.Style 19),cI (x8.Style 20),cI (x8.Style 21)]) rfl rfl rfl rfl rfl rfl rfl rfl (by kernel_rfl)) (OkOps.nil (Ok.seq (Ok.region (OkOps.y (.c (.loc 0 1)) (OkOps.y (.agg [cI (x8.Style 0),cI (x8.Style 1),cI (x8.Style 2),cI (x8.Style 3),cI (x8.Style 4),cI (x8.Style 5),cI (x8.Style 6),cI (x8.Style 7),cI (x8.Style 8),cI (x8.Style 9),cI (x8.Style 10),cI (x8.Style 11),cI (x8.Style 12),cI (x8.Style 13),cI (x8.Style 14),cI (x8.Style 15),cI (x8.Style 16),cI (x8.Style 17),cI (x8.Style 18),cI (x8.Style 19),cI (x8.Style 20),cI (x8.Style 21)]) (OkOps.y (aI 0) (OkOps.nil ?_))))))))))
 obtain ⟨k10,hk10,hr⟩:=jn_some hr
 refine Ok.joinEnd (fun (s9 : Unit)=>⟨[(7,.s (.c (.d (.sl (List.map Styled.cs st))))),(8,.s (aI (st.length : Int))),(9,.s (aI s3))],[],0⟩) k10 r (fun s9 hr=>?_) ?_
 rw [hk10] at hr
 exact ⟨(),hr,(Conv.mk (tau []) ⟨⟨_,rfl,.inl rfl⟩,⟨_,rfl,.inl rfl⟩,⟨_,rfl,.inl rfl⟩,trivial⟩ trivial rfl rfl rfl rfl)⟩
 clear hk10
 refine Ok.block (Ok.loopK (fun (s11 : Int)=>⟨[(7,.s (.c (.d (.sl (List.map Styled.cs st))))),(8,.s (aI (st.length : Int))),(9,.s (aI s3)),(14,.s (.agg [cI (x8.Style 0),cI (x8.Style 1),cI (x8.Style 2),cI (x8.Style 3),cI (x8.Style 4),cI (x8.Style 5),cI (x8.Style 6),cI (x8.Style 7),cI (x8.Style 8),cI (x8.Style 9),cI (x8.Style 10),cI (x8.Style 11),cI (x8.Style 12),cI (x8.Style 13),cI (x8.Style 14),cI (x8.Style 15),cI (x8.Style 16),cI (x8.Style 17),cI (x8.Style 18),cI (x8.Style 19),cI (x8.Style 20),cI (x8.Style 21)])),(15,.s (aI s11))],[],0⟩) hr (Conv.mk (tau []) ⟨⟨_,rfl,.inl rfl⟩,⟨_,rfl,.inl rfl⟩,⟨_,rfl,.inl rfl⟩,⟨_,rfl,.inl rfl⟩,⟨_,rfl,.inl rfl⟩,trivial⟩ trivial rfl rfl rfl rfl) ?_)
 clear hr
 intro again12 s11 hr
 unfold widgetry_layout_styled_L1 at hr
 refine Ok.seq (Ok.region (OkOps.y (aB (decide (s11 < 22))) (OkOps.nil (Ok.seq ?_))))
 refine Ok.cond (b:=decide (s11 < 22)) rfl (fun h13=>?_) (fun h13=>?_)
 have hr:=selT h13 hr
 refine Ok.skip (Ok.seq (Ok.block (Ok.seq (Ok.region (OkOps.y (aI s11) ?_)))))
 obtain ⟨x14,hx14,hr⟩:=bind_some hr
 refine OkOps.q (triIxA (c:=cI (x8.Style x14)) hx14 rfl rfl rfl rfl (arr1_get (e1:=dInt .i64) (a:=x8.Style) (ixO_spec hx14).2) trivial rfl) (OkOps.y (aI s11) (OkOps.y (aI (x8.Style x14)) (OkOps.nil (Ok.seq (Ok.region (OkOps.y (aI s11) (OkOps.y (aI (x8.Style x14)) ?_)))))))
 obtain ⟨x15,hx15,hr⟩:=bind_some hr
 refine OkOps.q (triCl (tau []) (.s (aB x15)) [] (widgetry_style_InRange_c _ _ hx15) rfl ⟨.inl rfl,.inl rfl,trivial⟩ trivial entry156 trivial) (OkOps.y (aB (!x15)) (OkOps.nil ?_))
 refine Ok.cond (b:=!x15) rfl (fun h16=>?_) (fun h16=>?_)
 have hr:=selT h16 hr
 refine Ok.seq (Ok.region (OkOps.y (aB false) (OkOps.nil (Ok.ret ?_))))
 obtain rfl:=Option.some.inj hr
 exact ⟨_,rfl,.inl rfl,trivial⟩
 have hr:=selF h16 hr
 refine Ok.skip (Ok.region (OkOps.y (aI (IntKind.i64.wrap (s11 + 1))) (OkOps.y (aI (IntKind.i64.wrap (s11 + 1))) (OkOps.nil ?_))))
 exact ⟨IntKind.i64.wrap (s11 + 1),hr,(Conv.mk (tau []) ⟨⟨_,rfl,.inl rfl⟩,⟨_,rfl,.inl rfl⟩,⟨_,rfl,.inl rfl⟩,⟨_,rfl,.inl rfl⟩,⟨_,rfl,.inl rfl⟩,trivial⟩ trivial rfl rfl rfl rfl)⟩
 have hr:=selF h13 hr
 refine Ok.exit ?_
 exact ⟨(),hr,(Conv.mk (tau []) ⟨⟨_,rfl,.inl rfl⟩,⟨_,rfl,.inl rfl⟩,⟨_,rfl,.inl rfl⟩,trivial⟩ trivial rfl rfl rfl rfl)⟩
 have hr:=selF h5 hr
 refine Ok.exit ?_
 exact ⟨(),hr,(Conv.mk (tau []) trivial trivial rfl rfl rfl rfl)⟩
theorem widgetry_layout_scene_hidden_c (p_x : layout_scene) (id : Int) {r : Bool × layout_scene} (hr : widgetry_layout_scene_hidden p_x id = some r) : Con Tryz.prog 157 [.c (.loc 0 0),aI id] [(0,.blk [cI p_x.t.Root,cI p_x.t.Next,.d (.sl (List.map Node.cs p_x.t.Nodes)),.d (.sl (List.map Font.cs p_x.fonts)),.d (.mp true (encM (kInt .i64) Node.cs p_x.nodes)),.d (.mp true (encM (kInt .i64) (eArr 22 (dInt .i64)) p_x.style)),.own 1,.tl 2 (List.map (eInt .i64) p_x.shown),.d (.mp false (encM (kInt .i64) (eInt .i64) p_x.least)),.d (.mp false (encM (kInt .i64) (eInt .i64) p_x.most)),.d (.mp false (encM (kPair .i64) (eInt .i64) p_x.tall)),.d (.mp false (encM (kPair .i64) (eInt .i64) p_x.first))] 166),(1,.mp false (encM (kInt .i64) (eJ 1) p_x.kids)),(2,.tail 1)] (.s (aB r.1)) [(0,.blk [cI r.2.t.Root,cI r.2.t.Next,.d (.sl (List.map Node.cs r.2.t.Nodes)),.d (.sl (List.map Font.cs r.2.fonts)),.d (.mp true (encM (kInt .i64) Node.cs r.2.nodes)),.d (.mp true (encM (kInt .i64) (eArr 22 (dInt .i64)) r.2.style)),.own 3000,.tl 3001 (List.map (eInt .i64) r.2.shown),.d (.mp false (encM (kInt .i64) (eInt .i64) r.2.least)),.d (.mp false (encM (kInt .i64) (eInt .i64) r.2.most)),.d (.mp false (encM (kPair .i64) (eInt .i64) r.2.tall)),.d (.mp false (encM (kPair .i64) (eInt .i64) r.2.first))] 166),(1,.dead),(2,.dead),(3000,.mp false (encM (kInt .i64) (eJ 1) r.2.kids)),(3001,.tail 1)]:=by
 unfold widgetry_layout_scene_hidden at hr
 refine Con.of_ok 23 0 [.tmp 4] [(0,.s (.c (.loc 0 0))),(1,.s (aI id))] Tryz.func157 rfl rfl rfl rfl rfl rfl rfl rfl fun w g M ρ _=>(Ok.seq (Ok.region (OkOps.y (aB false) (OkOps.nil (Ok.seq (Ok.region (OkOps.y (.c (.loc 0 0)) (OkOps.y (.c (.loc 0 0)) (OkOps.y (.c (.loc 0 5)) (OkOps.y (.c (.d (.mp true (encM (kInt .i64) (eArr 22 (dInt .i64)) p_x.style)))) (OkOps.y (aI id) ?_)))))))))))
 obtain ⟨x1,hx1,hr⟩:=bind_some hr
 refine OkOps.q (triLook (agg:=true) (ek:=(kInt .i64)) (ev:=(eArr 22 (dInt .i64))) (L:=p_x.style) (r:=.agg [cI (x1.1 0),cI (x1.1 1),cI (x1.1 2),cI (x1.1 3),cI (x1.1 4),cI (x1.1 5),cI (x1.1 6),cI (x1.1 7),cI (x1.1 8),cI (x1.1 9),cI (x1.1 10),cI (x1.1 11),cI (x1.1 12),cI (x1.1 13),cI (x1.1 14),cI (x1.1 15),cI (x1.1 16),cI (x1.1 17),cI (x1.1 18),cI (x1.1 19),cI (x1.1 20),cI (x1.1 21)]) hx1 rfl rfl rfl (keyInt Tryz.underlying3) rfl rfl (fun h=>by cases h) rfl trivial rfl) ?_
 refine OkOps.q (triIxA (k:=5) (c:=cI (x1.1 5)) rfl rfl rfl rfl rfl rfl trivial rfl) (OkOps.y (aB ((x1.1 5) == 0)) (OkOps.y (aB ((x1.1 5) == 0)) (OkOps.q (triQG (x:=.c (.loc 0 0)) rfl rfl trivial rfl) (OkOps.q (triQG (x:=.c (.loc 0 0)) rfl rfl ⟨fun h=>h,trivial⟩ rfl) (OkOps.q (triQG (x:=.c (.loc 0 4)) rfl rfl ⟨fun h=>h,trivial⟩ rfl) (OkOps.q (triQG (x:=.c (.d (.mp true (encM (kInt .i64) Node.cs p_x.nodes)))) rfl rfl ⟨fun h=>h,trivial⟩ rfl) (OkOps.q (triQG (x:=aI id) rfl rfl trivial rfl) ?_)))))))
 obtain ⟨x2,hx2,hr⟩:=bind_some hr
 refine OkOps.q (triLookG (agg:=true) (ek:=(kInt .i64)) (ev:=Node.cs) (L:=p_x.nodes) (r:=.agg [cI x2.1.ID,cI x2.1.Parent,cI x2.1.Kind,cS x2.1.Key,.d (.sl (List.map Attr.cs x2.1.Attrs)),.d (.sl (List.map Action.cs x2.1.Actions)),.d (.sl (List.map (eInt .i64) x2.1.Kids))]) (gO_t hx2) rfl rfl rfl rfl (keyInt Tryz.underlying3) rfl rfl (fun h=>by cases h) rfl ⟨fun h=>h,⟨fun h=>h,trivial⟩⟩ rfl) ?_
 refine OkOps.q (triQG (x:=.c (.d (.sl (List.map Attr.cs x2.1.Attrs)))) rfl rfl ⟨fun h=>h,trivial⟩ rfl) ?_
 obtain ⟨x3,hx3,hr⟩:=bind_some hr
 refine OkOps.q (triCallG (x:=aB x3) (fun hg=>vw_Flag_c _ _ (gO_t hx3 hg)) rfl rfl ⟨.inl rfl,.inl rfl,trivial⟩ ⟨fun h=>h,trivial⟩ entry45 rfl rfl rfl) ?_
 refine OkOps.q (triOr rfl rfl (fun h=>by rw [h];rfl) rfl) ?_
 refine OkOps.y (aB (((x1.1 5) == 0) || x3)) (OkOps.nil (Ok.conv (T:=⟨[(4,.s (aB (((x1.1 5) == 0) || x3)))],[(0,.blk [cI p_x.t.Root,cI p_x.t.Next,.d (.sl (List.map Node.cs p_x.t.Nodes)),.d (.sl (List.map Font.cs p_x.fonts)),.d (.mp true (encM (kInt .i64) Node.cs p_x.nodes)),.d (.mp true (encM (kInt .i64) (eArr 22 (dInt .i64)) p_x.style)),.own 3000,.tl 3001 (List.map (eInt .i64) p_x.shown),.d (.mp false (encM (kInt .i64) (eInt .i64) p_x.least)),.d (.mp false (encM (kInt .i64) (eInt .i64) p_x.most)),.d (.mp false (encM (kPair .i64) (eInt .i64) p_x.tall)),.d (.mp false (encM (kPair .i64) (eInt .i64) p_x.first))] 166),(1,.dead),(2,.dead),(3000,.mp false (encM (kInt .i64) (eJ 1) p_x.kids)),(3001,.tail 1)],0⟩) (Conv.mk (tau [(3000,1),(3001,2)]) ⟨⟨_,rfl,.inl rfl⟩,trivial⟩ ⟨rfl,rfl,rfl,trivial⟩ rfl rfl rfl rfl) (Ok.ret ?_)))
 obtain rfl:=Option.some.inj hr
 exact ⟨_,rfl,.inl rfl,⟨rfl,(fun h=>by cases h),(fun h=>by cases h),rfl,rfl,trivial⟩⟩
theorem widgetry_layout_scene_show_B_c (self0 : layout_scene → Int → Option layout_scene) (hself0 : ∀ (p_x : layout_scene) (id : Int) {r : layout_scene},self0 p_x id = some r → Con Tryz.prog 158 [.c (.loc 0 0),aI id] [(0,.blk [cI p_x.t.Root,cI p_x.t.Next,.d (.sl (List.map Node.cs p_x.t.Nodes)),.d (.sl (List.map Font.cs p_x.fonts)),.d (.mp true (encM (kInt .i64) Node.cs p_x.nodes)),.d (.mp true (encM (kInt .i64) (eArr 22 (dInt .i64)) p_x.style)),.own 1,.tl 2 (List.map (eInt .i64) p_x.shown),.d (.mp false (encM (kInt .i64) (eInt .i64) p_x.least)),.d (.mp false (encM (kInt .i64) (eInt .i64) p_x.most)),.d (.mp false (encM (kPair .i64) (eInt .i64) p_x.tall)),.d (.mp false (encM (kPair .i64) (eInt .i64) p_x.first))] 166),(1,.mp false (encM (kInt .i64) (eJ 1) p_x.kids)),(2,.tail 1)] (.tup []) [(0,.blk [cI r.t.Root,cI r.t.Next,.d (.sl (List.map Node.cs r.t.Nodes)),.d (.sl (List.map Font.cs r.fonts)),.d (.mp true (encM (kInt .i64) Node.cs r.nodes)),.d (.mp true (encM (kInt .i64) (eArr 22 (dInt .i64)) r.style)),.own 3000,.tl 3001 (List.map (eInt .i64) r.shown),.d (.mp false (encM (kInt .i64) (eInt .i64) r.least)),.d (.mp false (encM (kInt .i64) (eInt .i64) r.most)),.d (.mp false (encM (kPair .i64) (eInt .i64) r.tall)),.d (.mp false (encM (kPair .i64) (eInt .i64) r.first))] 166),(1,.dead),(2,.dead),(3000,.mp false (encM (kInt .i64) (eJ 1) r.kids)),(3001,.tail 1)]) (p_x : layout_scene) (id : Int) {r : layout_scene} (hr : widgetry_layout_scene_show_B self0 p_x id = some r) : Con Tryz.prog 158 [.c (.loc 0 0),aI id] [(0,.blk [cI p_x.t.Root,cI p_x.t.Next,.d (.sl (List.map Node.cs p_x.t.Nodes)),.d (.sl (List.map Font.cs p_x.fonts)),.d (.mp true (encM (kInt .i64) Node.cs p_x.nodes)),.d (.mp true (encM (kInt .i64) (eArr 22 (dInt .i64)) p_x.style)),.own 1,.tl 2 (List.map (eInt .i64) p_x.shown),.d (.mp false (encM (kInt .i64) (eInt .i64) p_x.least)),.d (.mp false (encM (kInt .i64) (eInt .i64) p_x.most)),.d (.mp false (encM (kPair .i64) (eInt .i64) p_x.tall)),.d (.mp false (encM (kPair .i64) (eInt .i64) p_x.first))] 166),(1,.mp false (encM (kInt .i64) (eJ 1) p_x.kids)),(2,.tail 1)] (.tup []) [(0,.blk [cI r.t.Root,cI r.t.Next,.d (.sl (List.map Node.cs r.t.Nodes)),.d (.sl (List.map Font.cs r.fonts)),.d (.mp true (encM (kInt .i64) Node.cs r.nodes)),.d (.mp true (encM (kInt .i64) (eArr 22 (dInt .i64)) r.style)),.own 3000,.tl 3001 (List.map (eInt .i64) r.shown),.d (.mp false (encM (kInt .i64) (eInt .i64) r.least)),.d (.mp false (encM (kInt .i64) (eInt .i64) r.most)),.d (.mp false (encM (kPair .i64) (eInt .i64) r.tall)),.d (.mp false (encM (kPair .i64) (eInt .i64) r.first))] 166),(1,.dead),(2,.dead),(3000,.mp false (encM (kInt .i64) (eJ 1) r.kids)),(3001,.tail 1)]:=by
 unfold widgetry_layout_scene_show_B at hr
 refine Con.of_ok 60 0 [] [(0,.s (.c (.loc 0 0))),(1,.s (aI id))] Tryz.func158 rfl rfl rfl rfl rfl rfl rfl rfl fun w g M ρ _=>(Ok.seq (Ok.region (OkOps.y (.c (.loc 0 0)) (OkOps.y (.c (.loc 0 0)) (OkOps.y (.c (.loc 0 0)) (OkOps.y (.c (.loc 0 7)) (OkOps.y (.c (.tl 2 (List.map (eInt .i64) p_x.shown))) (OkOps.y (aI id) (OkOps.m 0 (triBST (sz:=1) (enc:=(eInt .i64)) (j:=3) ([id]) rfl rfl rfl rfl rfl rfl rfl rfl (fun _=>rfl) trivial rfl rfl) ?_)))))))))
 obtain ⟨x1,hx1,hr⟩:=bind_some hr
 refine OkOps.m2 0 (triApp (enc:=(eInt .i64)) (L:=p_x.shown) (X:=[id]) (j:=2) (j':=4) hx1 rfl rfl rfl rfl rfl rfl (fun _=>rfl) (fun _=>rfl) (by decide) trivial rfl rfl) (OkOps.y (.c (.loc 0 0)) (OkOps.y (.c (.loc 0 7)) (OkOps.w (triStore (cs':=[cI p_x.t.Root,cI p_x.t.Next,.d (.sl (List.map Node.cs p_x.t.Nodes)),.d (.sl (List.map Font.cs p_x.fonts)),.d (.mp true (encM (kInt .i64) Node.cs p_x.nodes)),.d (.mp true (encM (kInt .i64) (eArr 22 (dInt .i64)) p_x.style)),.own 1,.tl 4 (List.map (eInt .i64) x1),.d (.mp false (encM (kInt .i64) (eInt .i64) p_x.least)),.d (.mp false (encM (kInt .i64) (eInt .i64) p_x.most)),.d (.mp false (encM (kPair .i64) (eInt .i64) p_x.tall)),.d (.mp false (encM (kPair .i64) (eInt .i64) p_x.first))]) rfl rfl rfl rfl rfl rfl rfl rfl rfl) (OkOps.nil (Ok.seq (Ok.region (OkOps.y (.c (.loc 0 0)) (OkOps.y (.c (.loc 0 0)) (OkOps.y (.c (.loc 0 4)) (OkOps.y (.c (.d (.mp true (encM (kInt .i64) Node.cs p_x.nodes)))) (OkOps.y (aI id) ?_)))))))))))
 obtain ⟨x2,hx2,hr⟩:=bind_some hr
 refine OkOps.q (triLook (agg:=true) (ek:=(kInt .i64)) (ev:=Node.cs) (L:=p_x.nodes) (r:=.agg [cI x2.1.ID,cI x2.1.Parent,cI x2.1.Kind,cS x2.1.Key,.d (.sl (List.map Attr.cs x2.1.Attrs)),.d (.sl (List.map Action.cs x2.1.Actions)),.d (.sl (List.map (eInt .i64) x2.1.Kids))]) hx2 rfl rfl rfl (keyInt Tryz.underlying3) rfl rfl (fun h=>by cases h) rfl trivial rfl) ?_
 refine OkOps.m 0 (triAlloc (j:=5) (cs:=[cI 0,cI 0,cI 0,cS ByteArray.empty,.d (.v (.slice none 0 0)),.d (.v (.slice none 0 0)),.d (.v (.slice none 0 0))]) rfl rfl rfl rfl) (OkOps.w (triStore (cs':=[cI x2.1.ID,cI x2.1.Parent,cI x2.1.Kind,cS x2.1.Key,.d (.sl (List.map Attr.cs x2.1.Attrs)),.d (.sl (List.map Action.cs x2.1.Actions)),.d (.sl (List.map (eInt .i64) x2.1.Kids))]) rfl rfl rfl rfl rfl rfl rfl rfl rfl) (OkOps.nil (Ok.seq (Ok.seq (Ok.region (OkOps.y (.c (.loc 5 2)) (OkOps.y (aI x2.1.Kind) ?_)))))))
 obtain ⟨x3,hx3,hr⟩:=bind_some hr
 refine OkOps.q (triCl (tau []) (.s (aB x3)) [] (widgetry_layout_isText_c _ hx3) rfl ⟨.inl rfl,trivial⟩ trivial entry182 trivial) (OkOps.y (aB x3) (OkOps.q (triQG (x:=.c (.loc 5 2)) rfl rfl trivial rfl) (OkOps.q (triQG (x:=aI x2.1.Kind) rfl rfl ⟨fun h=>h,trivial⟩ rfl) ?_)))
 obtain ⟨x4,hx4,hr⟩:=bind_some hr
 refine OkOps.q (triCallG (x:=aB x4) (fun hg=>widgetry_layout_isFigure_c _ (gO_t hx4 hg)) rfl rfl ⟨.inl rfl,trivial⟩ ⟨fun h=>h,trivial⟩ entry183 rfl rfl rfl) ?_
 refine OkOps.q (triOr rfl rfl (fun h=>by rw [h];rfl) rfl) ?_
 refine OkOps.nil ?_
 refine Ok.cond (b:=x3 || x4) rfl (fun h5=>?_) (fun h5=>?_)
 have hr:=selT h5 hr
 refine Ok.conv (T:=⟨[],[(0,.blk [cI p_x.t.Root,cI p_x.t.Next,.d (.sl (List.map Node.cs p_x.t.Nodes)),.d (.sl (List.map Font.cs p_x.fonts)),.d (.mp true (encM (kInt .i64) Node.cs p_x.nodes)),.d (.mp true (encM (kInt .i64) (eArr 22 (dInt .i64)) p_x.style)),.own 3000,.tl 3001 (List.map (eInt .i64) x1),.d (.mp false (encM (kInt .i64) (eInt .i64) p_x.least)),.d (.mp false (encM (kInt .i64) (eInt .i64) p_x.most)),.d (.mp false (encM (kPair .i64) (eInt .i64) p_x.tall)),.d (.mp false (encM (kPair .i64) (eInt .i64) p_x.first))] 166),(1,.dead),(2,.dead),(3000,.mp false (encM (kInt .i64) (eJ 1) p_x.kids)),(3001,.tail 1)],0⟩) (Conv.mk (tau [(3000,1),(3001,4)]) trivial ⟨rfl,rfl,rfl,trivial⟩ rfl rfl rfl rfl) (Ok.ret ?_)
 obtain rfl:=Option.some.inj hr
 exact ⟨_,rfl,.inl rfl,⟨rfl,(fun h=>by cases h),(fun h=>by cases h),rfl,rfl,trivial⟩⟩
 have hr:=selF h5 hr
 refine Ok.skip (Ok.seq (Ok.region (OkOps.y (.c (.loc 5 6)) (OkOps.y (.c (.d (.sl (List.map (eInt .i64) x2.1.Kids)))) (OkOps.q (triLen (enc:=(eInt .i64)) x2.1.Kids rfl rfl trivial rfl) (OkOps.y (aI 0) (OkOps.nil (Ok.block (Ok.loopK (fun (s6 : Int × Int × Int × (List Node) × (List Font) × (List (Int × Node)) × (List (Int × (Nat → Int))) × (List (Int × Nat)) × (List Int) × (List (Int × Int)) × (List (Int × Int)) × (List ((Int × Int) × Int)) × (List ((Int × Int) × Int)))=>⟨[(0,.s (.c (.loc 0 0))),(1,.s (aI id)),(32,.s (.c (.d (.sl (List.map (eInt .i64) x2.1.Kids))))),(33,.s (aI (x2.1.Kids.length : Int))),(34,.s (aI s6.1))],[(0,.blk [cI s6.2.1,cI s6.2.2.1,.d (.sl (List.map Node.cs s6.2.2.2.1)),.d (.sl (List.map Font.cs s6.2.2.2.2.1)),.d (.mp true (encM (kInt .i64) Node.cs s6.2.2.2.2.2.1)),.d (.mp true (encM (kInt .i64) (eArr 22 (dInt .i64)) s6.2.2.2.2.2.2.1)),.own 1004,.tl 1005 (List.map (eInt .i64) s6.2.2.2.2.2.2.2.2.1),.d (.mp false (encM (kInt .i64) (eInt .i64) s6.2.2.2.2.2.2.2.2.2.1)),.d (.mp false (encM (kInt .i64) (eInt .i64) s6.2.2.2.2.2.2.2.2.2.2.1)),.d (.mp false (encM (kPair .i64) (eInt .i64) s6.2.2.2.2.2.2.2.2.2.2.2.1)),.d (.mp false (encM (kPair .i64) (eInt .i64) s6.2.2.2.2.2.2.2.2.2.2.2.2))] 166),(1,.dead),(2,.dead),(1004,.mp false (encM (kInt .i64) (eJ 1) s6.2.2.2.2.2.2.2.1)),(1005,.tail 1)],0⟩) hr (Conv.mk (tau [(1004,1),(1005,4)]) ⟨⟨_,rfl,.inl rfl⟩,⟨_,rfl,.inl rfl⟩,⟨_,rfl,.inl rfl⟩,⟨_,rfl,.inl rfl⟩,⟨_,rfl,.inl rfl⟩,trivial⟩ ⟨rfl,rfl,rfl,trivial⟩ rfl rfl rfl rfl) ?_)))))))))
 clear hr
 intro again7 s6 hr
 unfold widgetry_layout_scene_show_L1 at hr
 refine Ok.seq (Ok.region (OkOps.y (aB (decide (s6.1 < (x2.1.Kids.length : Int)))) (OkOps.nil (Ok.seq ?_))))
 refine Ok.cond (b:=decide (s6.1 < (x2.1.Kids.length : Int))) rfl (fun h8=>?_) (fun h8=>?_)
 have hr:=selT h8 hr
 refine Ok.skip ?_
 obtain ⟨k10,hk10,hr⟩:=jn_some hr
 refine Ok.join (fun (s9 : Int × Int × (List Node) × (List Font) × (List (Int × Node)) × (List (Int × (Nat → Int))) × (List (Int × Nat)) × (List Int) × (List (Int × Int)) × (List (Int × Int)) × (List ((Int × Int) × Int)) × (List ((Int × Int) × Int)))=>⟨[(0,.s (.c (.loc 0 0))),(1,.s (aI id)),(32,.s (.c (.d (.sl (List.map (eInt .i64) x2.1.Kids))))),(33,.s (aI (x2.1.Kids.length : Int))),(34,.s (aI s6.1))],[(0,.blk [cI s9.1,cI s9.2.1,.d (.sl (List.map Node.cs s9.2.2.1)),.d (.sl (List.map Font.cs s9.2.2.2.1)),.d (.mp true (encM (kInt .i64) Node.cs s9.2.2.2.2.1)),.d (.mp true (encM (kInt .i64) (eArr 22 (dInt .i64)) s9.2.2.2.2.2.1)),.own 1010,.tl 1011 (List.map (eInt .i64) s9.2.2.2.2.2.2.2.1),.d (.mp false (encM (kInt .i64) (eInt .i64) s9.2.2.2.2.2.2.2.2.1)),.d (.mp false (encM (kInt .i64) (eInt .i64) s9.2.2.2.2.2.2.2.2.2.1)),.d (.mp false (encM (kPair .i64) (eInt .i64) s9.2.2.2.2.2.2.2.2.2.2.1)),.d (.mp false (encM (kPair .i64) (eInt .i64) s9.2.2.2.2.2.2.2.2.2.2.2))] 166),(1,.dead),(2,.dead),(1010,.mp false (encM (kInt .i64) (eJ 1) s9.2.2.2.2.2.2.1)),(1011,.tail 1)],0⟩) k10 r (fun s9 hr=>?_) ?_
 rw [hk10] at hr
 refine Ok.region (OkOps.y (aI (IntKind.i64.wrap (s6.1 + 1))) (OkOps.y (aI (IntKind.i64.wrap (s6.1 + 1))) (OkOps.nil ?_)))
 exact ⟨(IntKind.i64.wrap (s6.1 + 1),s9.1,s9.2.1,s9.2.2.1,s9.2.2.2.1,s9.2.2.2.2.1,s9.2.2.2.2.2.1,s9.2.2.2.2.2.2.1,s9.2.2.2.2.2.2.2.1,s9.2.2.2.2.2.2.2.2.1,s9.2.2.2.2.2.2.2.2.2.1,s9.2.2.2.2.2.2.2.2.2.2.1,s9.2.2.2.2.2.2.2.2.2.2.2),hr,(Conv.mk (tau [(1004,1010),(1005,1011)]) ⟨⟨_,rfl,.inl rfl⟩,⟨_,rfl,.inl rfl⟩,⟨_,rfl,.inl rfl⟩,⟨_,rfl,.inl rfl⟩,⟨_,rfl,.inl rfl⟩,trivial⟩ ⟨rfl,rfl,rfl,trivial⟩ rfl rfl rfl rfl)⟩
 clear hk10
 refine Ok.block (Ok.seq (Ok.region ?_))
 obtain ⟨x11,hx11,hr⟩:=bind_some hr
 refine OkOps.q (triIdx (enc:=(eInt .i64)) (L:=x2.1.Kids) (row:=[dI x11]) hx11 rfl rfl rfl rfl (fun _=>rfl) trivial rfl) (OkOps.y (aI x11) (OkOps.y (aI x11) (OkOps.nil (Ok.seq (Ok.region (OkOps.y (.c (.loc 0 0)) (OkOps.y (aI x11) ?_)))))))
 obtain ⟨x12,hx12,hr⟩:=bind_some hr
 refine OkOps.wq [(0,.blk [cI x12.2.t.Root,cI x12.2.t.Next,.d (.sl (List.map Node.cs x12.2.t.Nodes)),.d (.sl (List.map Font.cs x12.2.fonts)),.d (.mp true (encM (kInt .i64) Node.cs x12.2.nodes)),.d (.mp true (encM (kInt .i64) (eArr 22 (dInt .i64)) x12.2.style)),.own 6,.tl 7 (List.map (eInt .i64) x12.2.shown),.d (.mp false (encM (kInt .i64) (eInt .i64) x12.2.least)),.d (.mp false (encM (kInt .i64) (eInt .i64) x12.2.most)),.d (.mp false (encM (kPair .i64) (eInt .i64) x12.2.tall)),.d (.mp false (encM (kPair .i64) (eInt .i64) x12.2.first))] 166),(1004,.dead),(1005,.dead),(6,.mp false (encM (kInt .i64) (eJ 1) x12.2.kids)),(7,.tail 1)] (triCall (tau [(0,0),(1,1004),(2,1005),(3000,6),(3001,7)]) (.s (aB x12.1)) [(0,.blk [cI x12.2.t.Root,cI x12.2.t.Next,.d (.sl (List.map Node.cs x12.2.t.Nodes)),.d (.sl (List.map Font.cs x12.2.fonts)),.d (.mp true (encM (kInt .i64) Node.cs x12.2.nodes)),.d (.mp true (encM (kInt .i64) (eArr 22 (dInt .i64)) x12.2.style)),.own 6,.tl 7 (List.map (eInt .i64) x12.2.shown),.d (.mp false (encM (kInt .i64) (eInt .i64) x12.2.least)),.d (.mp false (encM (kInt .i64) (eInt .i64) x12.2.most)),.d (.mp false (encM (kPair .i64) (eInt .i64) x12.2.tall)),.d (.mp false (encM (kPair .i64) (eInt .i64) x12.2.first))] 166),(1004,.dead),(1005,.dead),(6,.mp false (encM (kInt .i64) (eJ 1) x12.2.kids)),(7,.tail 1)] (widgetry_layout_scene_hidden_c _ _ hx12) rfl ⟨.inl rfl,.inl rfl,trivial⟩ trivial entry157 ⟨rfl,rfl,rfl,trivial⟩ rfl rfl rfl rfl ⟨rfl,rfl,trivial⟩ rfl rfl rfl) (OkOps.y (aB (!x12.1)) (OkOps.nil ?_))
 refine Ok.cond (b:=!x12.1) rfl (fun h13=>?_) (fun h13=>?_)
 have hr:=selT h13 hr
 refine Ok.seq (Ok.regionD (by kernel_rfl) (OkD.x (.c (.loc 0 0)) rfl trivial rfl (OkD.x (.c (.loc 0 0)) rfl trivial rfl (OkD.x (.c (.loc 0 6)) rfl trivial rfl (OkD.x (.c (.own 6)) rfl trivial rfl (OkD.x (aI id) rfl trivial rfl (OkD.x (.c (.loc 0 0)) rfl trivial rfl (OkD.x (.c (.loc 0 0)) rfl trivial rfl (OkD.x (.c (.loc 0 6)) rfl trivial rfl (OkD.x (.c (.own 6)) rfl trivial rfl (OkD.x (aI id) rfl trivial rfl ?_)))))))))))
 obtain ⟨x14,hx14,hr⟩:=bind_some hr
 refine OkD.q (triLookJ (sz:=1) (L:=x12.2.kids) hx14 rfl rfl rfl (keyInt Tryz.underlying3) rfl trivial rfl) (OkD.x (aI x11) rfl trivial rfl (OkD.m 0 (triBST (sz:=1) (enc:=(eInt .i64)) (j:=8) ([x11]) rfl rfl rfl rfl rfl rfl rfl rfl (fun _=>rfl) trivial rfl rfl) ?_))
 obtain ⟨x15,hx15,hr⟩:=bind_some hr
 refine OkD.q (triAppJ (enc:=(eInt .i64)) (X:=[x11]) hx15 rfl rfl rfl rfl rfl (fun _=>rfl) (fun _=>rfl) trivial rfl) (OkD.w (triMapUp (ek:=(kInt .i64)) (ev:=eJ 1) (L:=x12.2.kids) (z:=x15) rfl rfl rfl rfl rfl rfl (keyInt Tryz.underlying3) (fun _ _=>rfl) rfl trivial) (OkD.nil (by kernel_rfl) (Ok.region (OkOps.y (.c (.loc 0 0)) (OkOps.y (aI x11) ?_)))))
 obtain ⟨x16,hx16,hr⟩:=bind_some hr
 refine OkOps.wq [(0,.blk [cI x16.t.Root,cI x16.t.Next,.d (.sl (List.map Node.cs x16.t.Nodes)),.d (.sl (List.map Font.cs x16.fonts)),.d (.mp true (encM (kInt .i64) Node.cs x16.nodes)),.d (.mp true (encM (kInt .i64) (eArr 22 (dInt .i64)) x16.style)),.own 9,.tl 10 (List.map (eInt .i64) x16.shown),.d (.mp false (encM (kInt .i64) (eInt .i64) x16.least)),.d (.mp false (encM (kInt .i64) (eInt .i64) x16.most)),.d (.mp false (encM (kPair .i64) (eInt .i64) x16.tall)),.d (.mp false (encM (kPair .i64) (eInt .i64) x16.first))] 166),(6,.dead),(7,.dead),(9,.mp false (encM (kInt .i64) (eJ 1) x16.kids)),(10,.tail 1)] (triCall (tau [(0,0),(1,6),(2,7),(3000,9),(3001,10)]) (.tup []) [(0,.blk [cI x16.t.Root,cI x16.t.Next,.d (.sl (List.map Node.cs x16.t.Nodes)),.d (.sl (List.map Font.cs x16.fonts)),.d (.mp true (encM (kInt .i64) Node.cs x16.nodes)),.d (.mp true (encM (kInt .i64) (eArr 22 (dInt .i64)) x16.style)),.own 9,.tl 10 (List.map (eInt .i64) x16.shown),.d (.mp false (encM (kInt .i64) (eInt .i64) x16.least)),.d (.mp false (encM (kInt .i64) (eInt .i64) x16.most)),.d (.mp false (encM (kPair .i64) (eInt .i64) x16.tall)),.d (.mp false (encM (kPair .i64) (eInt .i64) x16.first))] 166),(6,.dead),(7,.dead),(9,.mp false (encM (kInt .i64) (eJ 1) x16.kids)),(10,.tail 1)] (hself0 _ _ hx16) rfl ⟨.inl rfl,.inl rfl,trivial⟩ trivial entry158 ⟨rfl,rfl,rfl,trivial⟩ rfl rfl rfl rfl ⟨rfl,rfl,trivial⟩ rfl rfl rfl) (OkOps.nil ?_)
 exact ⟨(x16.t.Root,x16.t.Next,x16.t.Nodes,x16.fonts,x16.nodes,x16.style,x16.kids,x16.shown,x16.least,x16.most,x16.tall,x16.first),hr,(Conv.mk (tau [(1010,9),(1011,10)]) ⟨⟨_,rfl,.inl rfl⟩,⟨_,rfl,.inl rfl⟩,⟨_,rfl,.inl rfl⟩,⟨_,rfl,.inl rfl⟩,⟨_,rfl,.inl rfl⟩,trivial⟩ ⟨rfl,rfl,rfl,trivial⟩ rfl rfl rfl rfl)⟩
 have hr:=selF h13 hr
 refine Ok.skip ?_
 exact ⟨(x12.2.t.Root,x12.2.t.Next,x12.2.t.Nodes,x12.2.fonts,x12.2.nodes,x12.2.style,x12.2.kids,x12.2.shown,x12.2.least,x12.2.most,x12.2.tall,x12.2.first),hr,(Conv.mk (tau [(1010,6),(1011,7)]) ⟨⟨_,rfl,.inl rfl⟩,⟨_,rfl,.inl rfl⟩,⟨_,rfl,.inl rfl⟩,⟨_,rfl,.inl rfl⟩,⟨_,rfl,.inl rfl⟩,trivial⟩ ⟨rfl,rfl,rfl,trivial⟩ rfl rfl rfl rfl)⟩
 have hr:=selF h8 hr
 refine Ok.conv (T:=⟨[],[(0,.blk [cI s6.2.1,cI s6.2.2.1,.d (.sl (List.map Node.cs s6.2.2.2.1)),.d (.sl (List.map Font.cs s6.2.2.2.2.1)),.d (.mp true (encM (kInt .i64) Node.cs s6.2.2.2.2.2.1)),.d (.mp true (encM (kInt .i64) (eArr 22 (dInt .i64)) s6.2.2.2.2.2.2.1)),.own 3000,.tl 3001 (List.map (eInt .i64) s6.2.2.2.2.2.2.2.2.1),.d (.mp false (encM (kInt .i64) (eInt .i64) s6.2.2.2.2.2.2.2.2.2.1)),.d (.mp false (encM (kInt .i64) (eInt .i64) s6.2.2.2.2.2.2.2.2.2.2.1)),.d (.mp false (encM (kPair .i64) (eInt .i64) s6.2.2.2.2.2.2.2.2.2.2.2.1)),.d (.mp false (encM (kPair .i64) (eInt .i64) s6.2.2.2.2.2.2.2.2.2.2.2.2))] 166),(1,.dead),(2,.dead),(3000,.mp false (encM (kInt .i64) (eJ 1) s6.2.2.2.2.2.2.2.1)),(3001,.tail 1)],0⟩) (Conv.mk (tau [(3000,1004),(3001,1005)]) trivial ⟨rfl,rfl,rfl,trivial⟩ rfl rfl rfl rfl) (Ok.exit ?_)
 obtain rfl:=Option.some.inj hr
 exact ⟨_,rfl,.inl rfl,⟨rfl,(fun h=>by cases h),(fun h=>by cases h),rfl,rfl,trivial⟩⟩
theorem widgetry_layout_scene_show_all : ∀ n : Nat,(∀ (p_x : layout_scene) (id : Int) {r : layout_scene},widgetry_layout_scene_show n p_x id = some r → Con Tryz.prog 158 [.c (.loc 0 0),aI id] [(0,.blk [cI p_x.t.Root,cI p_x.t.Next,.d (.sl (List.map Node.cs p_x.t.Nodes)),.d (.sl (List.map Font.cs p_x.fonts)),.d (.mp true (encM (kInt .i64) Node.cs p_x.nodes)),.d (.mp true (encM (kInt .i64) (eArr 22 (dInt .i64)) p_x.style)),.own 1,.tl 2 (List.map (eInt .i64) p_x.shown),.d (.mp false (encM (kInt .i64) (eInt .i64) p_x.least)),.d (.mp false (encM (kInt .i64) (eInt .i64) p_x.most)),.d (.mp false (encM (kPair .i64) (eInt .i64) p_x.tall)),.d (.mp false (encM (kPair .i64) (eInt .i64) p_x.first))] 166),(1,.mp false (encM (kInt .i64) (eJ 1) p_x.kids)),(2,.tail 1)] (.tup []) [(0,.blk [cI r.t.Root,cI r.t.Next,.d (.sl (List.map Node.cs r.t.Nodes)),.d (.sl (List.map Font.cs r.fonts)),.d (.mp true (encM (kInt .i64) Node.cs r.nodes)),.d (.mp true (encM (kInt .i64) (eArr 22 (dInt .i64)) r.style)),.own 3000,.tl 3001 (List.map (eInt .i64) r.shown),.d (.mp false (encM (kInt .i64) (eInt .i64) r.least)),.d (.mp false (encM (kInt .i64) (eInt .i64) r.most)),.d (.mp false (encM (kPair .i64) (eInt .i64) r.tall)),.d (.mp false (encM (kPair .i64) (eInt .i64) r.first))] 166),(1,.dead),(2,.dead),(3000,.mp false (encM (kInt .i64) (eJ 1) r.kids)),(3001,.tail 1)]) ∧ True:=by
 intro n
 induction n with
 | zero=>exact ⟨(by intros;rename_i hr;cases hr),trivial⟩
 | succ n ih=>exact ⟨(by intros;rename_i hr;exact widgetry_layout_scene_show_B_c _ ih.1 _ _ hr),trivial⟩
theorem widgetry_layout_scene_show_c (n : Nat) (p_x : layout_scene) (id : Int) {r : layout_scene} (hr : widgetry_layout_scene_show n p_x id = some r) : Con Tryz.prog 158 [.c (.loc 0 0),aI id] [(0,.blk [cI p_x.t.Root,cI p_x.t.Next,.d (.sl (List.map Node.cs p_x.t.Nodes)),.d (.sl (List.map Font.cs p_x.fonts)),.d (.mp true (encM (kInt .i64) Node.cs p_x.nodes)),.d (.mp true (encM (kInt .i64) (eArr 22 (dInt .i64)) p_x.style)),.own 1,.tl 2 (List.map (eInt .i64) p_x.shown),.d (.mp false (encM (kInt .i64) (eInt .i64) p_x.least)),.d (.mp false (encM (kInt .i64) (eInt .i64) p_x.most)),.d (.mp false (encM (kPair .i64) (eInt .i64) p_x.tall)),.d (.mp false (encM (kPair .i64) (eInt .i64) p_x.first))] 166),(1,.mp false (encM (kInt .i64) (eJ 1) p_x.kids)),(2,.tail 1)] (.tup []) [(0,.blk [cI r.t.Root,cI r.t.Next,.d (.sl (List.map Node.cs r.t.Nodes)),.d (.sl (List.map Font.cs r.fonts)),.d (.mp true (encM (kInt .i64) Node.cs r.nodes)),.d (.mp true (encM (kInt .i64) (eArr 22 (dInt .i64)) r.style)),.own 3000,.tl 3001 (List.map (eInt .i64) r.shown),.d (.mp false (encM (kInt .i64) (eInt .i64) r.least)),.d (.mp false (encM (kInt .i64) (eInt .i64) r.most)),.d (.mp false (encM (kPair .i64) (eInt .i64) r.tall)),.d (.mp false (encM (kPair .i64) (eInt .i64) r.first))] 166),(1,.dead),(2,.dead),(3000,.mp false (encM (kInt .i64) (eJ 1) r.kids)),(3001,.tail 1)]:=(widgetry_layout_scene_show_all n).1 p_x id hr
theorem widgetry_layout_open_c (t : Tree) (st : (List Styled)) (fonts : (List Font)) {r : layout_scene} (hr : widgetry_layout_open t st fonts = some r) : Con Tryz.prog 118 [.agg [cI t.Root,cI t.Next,.d (.sl (List.map Node.cs t.Nodes))],.c (.d (.sl (List.map Styled.cs st))),.c (.d (.sl (List.map Font.cs fonts)))] [] (.s (.c (.loc 8 0))) [(8,.blk [cI r.t.Root,cI r.t.Next,.d (.sl (List.map Node.cs r.t.Nodes)),.d (.sl (List.map Font.cs r.fonts)),.d (.mp true (encM (kInt .i64) Node.cs r.nodes)),.d (.mp true (encM (kInt .i64) (eArr 22 (dInt .i64)) r.style)),.d (.mp false (encM (kInt .i64) (eJ 1) r.kids)),.d (.sl (List.map (eInt .i64) r.shown)),.d (.mp false (encM (kInt .i64) (eInt .i64) r.least)),.d (.mp false (encM (kInt .i64) (eInt .i64) r.most)),.d (.mp false (encM (kPair .i64) (eInt .i64) r.tall)),.d (.mp false (encM (kPair .i64) (eInt .i64) r.first))] 166)]:=by
 unfold widgetry_layout_open at hr
 refine Con.of_ok 62 0 [.tmp 6] [(0,.s (.agg [cI t.Root,cI t.Next,.d (.sl (List.map Node.cs t.Nodes))])),(1,.s (.c (.d (.sl (List.map Styled.cs st))))),(2,.s (.c (.d (.sl (List.map Font.cs fonts)))))] Tryz.func118 rfl rfl rfl rfl rfl rfl rfl rfl fun w g M ρ _=>(Ok.seq (Ok.region (OkOps.m 0 (triBox (j:=0) (cs:=[cI t.Root,cI t.Next,.d (.sl (List.map Node.cs t.Nodes))]) rfl rfl rfl rfl rfl) (OkOps.y (.c (.d (.v (.pointer none)))) (OkOps.nil (Ok.seq (Ok.region (OkOps.y (.agg [cI t.Root,cI t.Next,.d (.sl (List.map Node.cs t.Nodes))]) (OkOps.y (.c (.d (.sl (List.map Font.cs fonts)))) (OkOps.m 0 (triMkM (j:=1) true rfl rfl) (OkOps.m 0 (triMkM (j:=2) true rfl rfl) (OkOps.m 0 (triMkM (j:=3) false rfl rfl) (OkOps.m 0 (triMkM (j:=4) false rfl rfl) (OkOps.m 0 (triMkM (j:=5) false rfl rfl) (OkOps.m 0 (triMkM (j:=6) false rfl rfl) ?_)))))))))))))))
 refine OkOps.m 0 (triMkM (j:=7) false rfl rfl) (OkOps.q (triBuildF (x:=.agg [cI t.Root,cI t.Next,.d (.sl (List.map Node.cs t.Nodes)),.d (.sl (List.map Font.cs fonts)),.own 1,.own 2,.own 3,.d (.v (.slice none 0 0)),.own 4,.own 5,.own 6,.own 7]) rfl rfl trivial rfl) (OkOps.m 0 (triBox (j:=8) (cs:=[cI t.Root,cI t.Next,.d (.sl (List.map Node.cs t.Nodes)),.d (.sl (List.map Font.cs fonts)),.own 1,.own 2,.own 3,.d (.v (.slice none 0 0)),.own 4,.own 5,.own 6,.own 7]) rfl rfl rfl rfl rfl) (OkOps.y (.c (.loc 8 0)) (OkOps.nil ?_))))
 obtain ⟨k2,hk2,hr⟩:=jn_some hr
 refine Ok.join (fun (s1 : (List (Int × Node)) × (List (Int × (Nat → Int))))=>⟨[(3,.s (.c (.loc 0 0))),(7,.s (.c (.loc 8 0)))],[(0,.blk [cI t.Root,cI t.Next,.d (.sl (List.map Node.cs t.Nodes))] 30),(1,.mp true (encM (kInt .i64) Node.cs s1.1)),(2,.mp true (encM (kInt .i64) (eArr 22 (dInt .i64)) s1.2)),(3,.mp false (encM (kInt .i64) (eJ 1) ([] : (List (Int × Nat))))),(4,.mp false (encM (kInt .i64) (eInt .i64) ([] : (List (Int × Int))))),(5,.mp false (encM (kInt .i64) (eInt .i64) ([] : (List (Int × Int))))),(6,.mp false (encM (kPair .i64) (eInt .i64) ([] : (List ((Int × Int) × Int))))),(7,.mp false (encM (kPair .i64) (eInt .i64) ([] : (List ((Int × Int) × Int))))),(8,.blk [cI t.Root,cI t.Next,.d (.sl (List.map Node.cs t.Nodes)),.d (.sl (List.map Font.cs fonts)),.own 1,.own 2,.own 3,.d (.v (.slice none 0 0)),.own 4,.own 5,.own 6,.own 7] 166)],0⟩) k2 r (fun s1 hr=>?_) ?_
 rw [hk2] at hr
 obtain ⟨k4,hk4,hr⟩:=jn_some hr
 refine Ok.join (fun (s3 : Int × Int × (List Node) × (List Font) × (List (Int × Node)) × (List (Int × (Nat → Int))) × (List (Int × Nat)) × (List Int) × (List (Int × Int)) × (List (Int × Int)) × (List ((Int × Int) × Int)) × (List ((Int × Int) × Int)))=>⟨[(7,.s (.c (.loc 8 0)))],[(8,.blk [cI s3.1,cI s3.2.1,.d (.sl (List.map Node.cs s3.2.2.1)),.d (.sl (List.map Font.cs s3.2.2.2.1)),.d (.mp true (encM (kInt .i64) Node.cs s3.2.2.2.2.1)),.d (.mp true (encM (kInt .i64) (eArr 22 (dInt .i64)) s3.2.2.2.2.2.1)),.own 1000,.tl 1001 (List.map (eInt .i64) s3.2.2.2.2.2.2.2.1),.d (.mp false (encM (kInt .i64) (eInt .i64) s3.2.2.2.2.2.2.2.2.1)),.d (.mp false (encM (kInt .i64) (eInt .i64) s3.2.2.2.2.2.2.2.2.2.1)),.d (.mp false (encM (kPair .i64) (eInt .i64) s3.2.2.2.2.2.2.2.2.2.2.1)),.d (.mp false (encM (kPair .i64) (eInt .i64) s3.2.2.2.2.2.2.2.2.2.2.2))] 166),(1000,.mp false (encM (kInt .i64) (eJ 1) s3.2.2.2.2.2.2.1)),(1001,.tail 1)],0⟩) k4 r (fun s3 hr=>?_) ?_
 rw [hk4] at hr
 refine Ok.seq (Ok.region (OkOps.y (.c (.loc 8 0)) (OkOps.y (.c (.loc 8 0)) (OkOps.nil (Ok.conv (Conv.freezeM [] [(8,.blk [cI s3.1,cI s3.2.1,.d (.sl (List.map Node.cs s3.2.2.1)),.d (.sl (List.map Font.cs s3.2.2.2.1)),.d (.mp true (encM (kInt .i64) Node.cs s3.2.2.2.2.1)),.d (.mp true (encM (kInt .i64) (eArr 22 (dInt .i64)) s3.2.2.2.2.2.1)),.d (.mp false (encM (kInt .i64) (eJ 1) s3.2.2.2.2.2.2.1)),.tl 1001 (List.map (eInt .i64) s3.2.2.2.2.2.2.2.1),.d (.mp false (encM (kInt .i64) (eInt .i64) s3.2.2.2.2.2.2.2.2.1)),.d (.mp false (encM (kInt .i64) (eInt .i64) s3.2.2.2.2.2.2.2.2.2.1)),.d (.mp false (encM (kPair .i64) (eInt .i64) s3.2.2.2.2.2.2.2.2.2.2.1)),.d (.mp false (encM (kPair .i64) (eInt .i64) s3.2.2.2.2.2.2.2.2.2.2.2))] 166)] 1000 0 rfl trivial ⟨⟨_,_,rfl,rfl⟩,trivial⟩) (Ok.conv (Conv.norm 8 [cI s3.1,cI s3.2.1,.d (.sl (List.map Node.cs s3.2.2.1)),.d (.sl (List.map Font.cs s3.2.2.2.1)),.d (.mp true (encM (kInt .i64) Node.cs s3.2.2.2.2.1)),.d (.mp true (encM (kInt .i64) (eArr 22 (dInt .i64)) s3.2.2.2.2.2.1)),.d (.mp false (encM (kInt .i64) (eJ 1) s3.2.2.2.2.2.2.1)),.tl 1001 (List.map (eInt .i64) s3.2.2.2.2.2.2.2.1),.d (.mp false (encM (kInt .i64) (eInt .i64) s3.2.2.2.2.2.2.2.2.1)),.d (.mp false (encM (kInt .i64) (eInt .i64) s3.2.2.2.2.2.2.2.2.2.1)),.d (.mp false (encM (kPair .i64) (eInt .i64) s3.2.2.2.2.2.2.2.2.2.2.1)),.d (.mp false (encM (kPair .i64) (eInt .i64) s3.2.2.2.2.2.2.2.2.2.2.2))] [cI s3.1,cI s3.2.1,.d (.sl (List.map Node.cs s3.2.2.1)),.d (.sl (List.map Font.cs s3.2.2.2.1)),.d (.mp true (encM (kInt .i64) Node.cs s3.2.2.2.2.1)),.d (.mp true (encM (kInt .i64) (eArr 22 (dInt .i64)) s3.2.2.2.2.2.1)),.d (.mp false (encM (kInt .i64) (eJ 1) s3.2.2.2.2.2.2.1)),.d (.sl (List.map (eInt .i64) s3.2.2.2.2.2.2.2.1)),.d (.mp false (encM (kInt .i64) (eInt .i64) s3.2.2.2.2.2.2.2.2.1)),.d (.mp false (encM (kInt .i64) (eInt .i64) s3.2.2.2.2.2.2.2.2.2.1)),.d (.mp false (encM (kPair .i64) (eInt .i64) s3.2.2.2.2.2.2.2.2.2.2.1)),.d (.mp false (encM (kPair .i64) (eInt .i64) s3.2.2.2.2.2.2.2.2.2.2.2))] 166 0 rfl rfl) (Ok.ret ?_)))))))
 obtain rfl:=Option.some.inj hr
 exact ⟨_,rfl,.inl rfl,⟨rfl,trivial⟩⟩
 clear hk4
 refine Ok.seq (Ok.region (OkOps.y (.c (.loc 8 0)) (OkOps.y (.c (.loc 0 0)) (OkOps.y (aI t.Root) (OkOps.conv (Conv.nilB 8 7 9 (.tail 1) (.tl 9 (List.map (eInt .i64) ([] : (List Int)))) [cI t.Root,cI t.Next,.d (.sl (List.map Node.cs t.Nodes)),.d (.sl (List.map Font.cs fonts)),.own 1,.own 2,.own 3,.d (.v (.slice none 0 0)),.own 4,.own 5,.own 6,.own 7] [cI t.Root,cI t.Next,.d (.sl (List.map Node.cs t.Nodes)),.d (.sl (List.map Font.cs fonts)),.own 1,.own 2,.own 3,.tl 9 (List.map (eInt .i64) ([] : (List Int))),.own 4,.own 5,.own 6,.own 7] 166 0 rfl rfl rfl rfl (nil_tail 1 9) (fun _ _ h=>⟨h.symm,Rep.nil⟩)) (OkOps.conv (Conv.freezeM [] [(8,.blk [cI t.Root,cI t.Next,.d (.sl (List.map Node.cs t.Nodes)),.d (.sl (List.map Font.cs fonts)),.d (.mp true (encM (kInt .i64) Node.cs s1.1)),.own 2,.own 3,.tl 9 (List.map (eInt .i64) ([] : (List Int))),.own 4,.own 5,.own 6,.own 7] 166)] 1 0 rfl trivial ⟨⟨_,_,rfl,rfl⟩,trivial⟩) (OkOps.conv (Conv.freezeM [] [(8,.blk [cI t.Root,cI t.Next,.d (.sl (List.map Node.cs t.Nodes)),.d (.sl (List.map Font.cs fonts)),.d (.mp true (encM (kInt .i64) Node.cs s1.1)),.d (.mp true (encM (kInt .i64) (eArr 22 (dInt .i64)) s1.2)),.own 3,.tl 9 (List.map (eInt .i64) ([] : (List Int))),.own 4,.own 5,.own 6,.own 7] 166)] 2 0 rfl trivial ⟨⟨_,_,rfl,rfl⟩,trivial⟩) (OkOps.conv (Conv.freezeM [] [(8,.blk [cI t.Root,cI t.Next,.d (.sl (List.map Node.cs t.Nodes)),.d (.sl (List.map Font.cs fonts)),.d (.mp true (encM (kInt .i64) Node.cs s1.1)),.d (.mp true (encM (kInt .i64) (eArr 22 (dInt .i64)) s1.2)),.own 3,.tl 9 (List.map (eInt .i64) ([] : (List Int))),.d (.mp false (encM (kInt .i64) (eInt .i64) ([] : (List (Int × Int))))),.own 5,.own 6,.own 7] 166)] 4 0 rfl trivial ⟨⟨_,_,rfl,rfl⟩,trivial⟩) (OkOps.conv (Conv.freezeM [] [(8,.blk [cI t.Root,cI t.Next,.d (.sl (List.map Node.cs t.Nodes)),.d (.sl (List.map Font.cs fonts)),.d (.mp true (encM (kInt .i64) Node.cs s1.1)),.d (.mp true (encM (kInt .i64) (eArr 22 (dInt .i64)) s1.2)),.own 3,.tl 9 (List.map (eInt .i64) ([] : (List Int))),.d (.mp false (encM (kInt .i64) (eInt .i64) ([] : (List (Int × Int))))),.d (.mp false (encM (kInt .i64) (eInt .i64) ([] : (List (Int × Int))))),.own 6,.own 7] 166)] 5 0 rfl trivial ⟨⟨_,_,rfl,rfl⟩,trivial⟩) (OkOps.conv (Conv.freezeM [] [(8,.blk [cI t.Root,cI t.Next,.d (.sl (List.map Node.cs t.Nodes)),.d (.sl (List.map Font.cs fonts)),.d (.mp true (encM (kInt .i64) Node.cs s1.1)),.d (.mp true (encM (kInt .i64) (eArr 22 (dInt .i64)) s1.2)),.own 3,.tl 9 (List.map (eInt .i64) ([] : (List Int))),.d (.mp false (encM (kInt .i64) (eInt .i64) ([] : (List (Int × Int))))),.d (.mp false (encM (kInt .i64) (eInt .i64) ([] : (List (Int × Int))))),.d (.mp false (encM (kPair .i64) (eInt .i64) ([] : (List ((Int × Int) × Int))))),.own 7] 166)] 6 0 rfl trivial ⟨⟨_,_,rfl,rfl⟩,trivial⟩) (OkOps.conv (Conv.freezeM [] [(8,.blk [cI t.Root,cI t.Next,.d (.sl (List.map Node.cs t.Nodes)),.d (.sl (List.map Font.cs fonts)),.d (.mp true (encM (kInt .i64) Node.cs s1.1)),.d (.mp true (encM (kInt .i64) (eArr 22 (dInt .i64)) s1.2)),.own 3,.tl 9 (List.map (eInt .i64) ([] : (List Int))),.d (.mp false (encM (kInt .i64) (eInt .i64) ([] : (List (Int × Int))))),.d (.mp false (encM (kInt .i64) (eInt .i64) ([] : (List (Int × Int))))),.d (.mp false (encM (kPair .i64) (eInt .i64) ([] : (List ((Int × Int) × Int))))),.d (.mp false (encM (kPair .i64) (eInt .i64) ([] : (List ((Int × Int) × Int)))))] 166)] 7 0 rfl trivial ⟨⟨_,_,rfl,rfl⟩,trivial⟩) ?_)))))))))))
 obtain ⟨x5,hx5,hr⟩:=bind_some hr
 refine OkOps.wq [(8,.blk [cI x5.2.t.Root,cI x5.2.t.Next,.d (.sl (List.map Node.cs x5.2.t.Nodes)),.d (.sl (List.map Font.cs x5.2.fonts)),.d (.mp true (encM (kInt .i64) Node.cs x5.2.nodes)),.d (.mp true (encM (kInt .i64) (eArr 22 (dInt .i64)) x5.2.style)),.own 10,.tl 11 (List.map (eInt .i64) x5.2.shown),.d (.mp false (encM (kInt .i64) (eInt .i64) x5.2.least)),.d (.mp false (encM (kInt .i64) (eInt .i64) x5.2.most)),.d (.mp false (encM (kPair .i64) (eInt .i64) x5.2.tall)),.d (.mp false (encM (kPair .i64) (eInt .i64) x5.2.first))] 166),(3,.dead),(9,.dead),(10,.mp false (encM (kInt .i64) (eJ 1) x5.2.kids)),(11,.tail 1)] (triCall (tau [(0,8),(1,3),(2,9),(3000,10),(3001,11)]) (.s (aB x5.1)) [(8,.blk [cI x5.2.t.Root,cI x5.2.t.Next,.d (.sl (List.map Node.cs x5.2.t.Nodes)),.d (.sl (List.map Font.cs x5.2.fonts)),.d (.mp true (encM (kInt .i64) Node.cs x5.2.nodes)),.d (.mp true (encM (kInt .i64) (eArr 22 (dInt .i64)) x5.2.style)),.own 10,.tl 11 (List.map (eInt .i64) x5.2.shown),.d (.mp false (encM (kInt .i64) (eInt .i64) x5.2.least)),.d (.mp false (encM (kInt .i64) (eInt .i64) x5.2.most)),.d (.mp false (encM (kPair .i64) (eInt .i64) x5.2.tall)),.d (.mp false (encM (kPair .i64) (eInt .i64) x5.2.first))] 166),(3,.dead),(9,.dead),(10,.mp false (encM (kInt .i64) (eJ 1) x5.2.kids)),(11,.tail 1)] (widgetry_layout_scene_hidden_c _ _ hx5) rfl ⟨.inl rfl,.inl rfl,trivial⟩ trivial entry157 ⟨rfl,rfl,rfl,trivial⟩ rfl rfl rfl rfl ⟨rfl,rfl,trivial⟩ rfl rfl rfl) (OkOps.y (aB (!x5.1)) (OkOps.nil ?_))
 refine Ok.cond (b:=!x5.1) rfl (fun h6=>?_) (fun h6=>?_)
 have hr:=selT h6 hr
 refine Ok.region (OkOps.y (.c (.loc 8 0)) (OkOps.y (.c (.loc 0 0)) (OkOps.y (aI t.Root) ?_)))
 obtain ⟨x7,hx7,hr⟩:=bind_some hr
 refine OkOps.wq [(8,.blk [cI x7.t.Root,cI x7.t.Next,.d (.sl (List.map Node.cs x7.t.Nodes)),.d (.sl (List.map Font.cs x7.fonts)),.d (.mp true (encM (kInt .i64) Node.cs x7.nodes)),.d (.mp true (encM (kInt .i64) (eArr 22 (dInt .i64)) x7.style)),.own 12,.tl 13 (List.map (eInt .i64) x7.shown),.d (.mp false (encM (kInt .i64) (eInt .i64) x7.least)),.d (.mp false (encM (kInt .i64) (eInt .i64) x7.most)),.d (.mp false (encM (kPair .i64) (eInt .i64) x7.tall)),.d (.mp false (encM (kPair .i64) (eInt .i64) x7.first))] 166),(10,.dead),(11,.dead),(12,.mp false (encM (kInt .i64) (eJ 1) x7.kids)),(13,.tail 1)] (triCall (tau [(0,8),(1,10),(2,11),(3000,12),(3001,13)]) (.tup []) [(8,.blk [cI x7.t.Root,cI x7.t.Next,.d (.sl (List.map Node.cs x7.t.Nodes)),.d (.sl (List.map Font.cs x7.fonts)),.d (.mp true (encM (kInt .i64) Node.cs x7.nodes)),.d (.mp true (encM (kInt .i64) (eArr 22 (dInt .i64)) x7.style)),.own 12,.tl 13 (List.map (eInt .i64) x7.shown),.d (.mp false (encM (kInt .i64) (eInt .i64) x7.least)),.d (.mp false (encM (kInt .i64) (eInt .i64) x7.most)),.d (.mp false (encM (kPair .i64) (eInt .i64) x7.tall)),.d (.mp false (encM (kPair .i64) (eInt .i64) x7.first))] 166),(10,.dead),(11,.dead),(12,.mp false (encM (kInt .i64) (eJ 1) x7.kids)),(13,.tail 1)] (widgetry_layout_scene_show_c _ _ _ hx7) rfl ⟨.inl rfl,.inl rfl,trivial⟩ trivial entry158 ⟨rfl,rfl,rfl,trivial⟩ rfl rfl rfl rfl ⟨rfl,rfl,trivial⟩ rfl rfl rfl) (OkOps.nil ?_)
 exact ⟨(x7.t.Root,x7.t.Next,x7.t.Nodes,x7.fonts,x7.nodes,x7.style,x7.kids,x7.shown,x7.least,x7.most,x7.tall,x7.first),hr,(Conv.mk (tau [(1000,12),(1001,13)]) ⟨⟨_,rfl,.inl rfl⟩,trivial⟩ ⟨rfl,rfl,rfl,trivial⟩ rfl rfl rfl rfl)⟩
 have hr:=selF h6 hr
 refine Ok.skip ?_
 exact ⟨(x5.2.t.Root,x5.2.t.Next,x5.2.t.Nodes,x5.2.fonts,x5.2.nodes,x5.2.style,x5.2.kids,x5.2.shown,x5.2.least,x5.2.most,x5.2.tall,x5.2.first),hr,(Conv.mk (tau [(1000,10),(1001,11)]) ⟨⟨_,rfl,.inl rfl⟩,trivial⟩ ⟨rfl,rfl,rfl,trivial⟩ rfl rfl rfl rfl)⟩
 clear hk2
 refine Ok.seq (Ok.region (OkOps.y (.c (.loc 0 2)) (OkOps.y (.c (.d (.sl (List.map Node.cs t.Nodes)))) (OkOps.q (triLen (enc:=Node.cs) t.Nodes rfl rfl trivial rfl) (OkOps.y (aI 0) (OkOps.nil (Ok.block (Ok.loopK (fun (s8 : Int × (List (Int × Node)) × (List (Int × (Nat → Int))))=>⟨[(1,.s (.c (.d (.sl (List.map Styled.cs st))))),(3,.s (.c (.loc 0 0))),(7,.s (.c (.loc 8 0))),(22,.s (.c (.d (.sl (List.map Node.cs t.Nodes))))),(23,.s (aI (t.Nodes.length : Int))),(24,.s (aI s8.1))],[(0,.blk [cI t.Root,cI t.Next,.d (.sl (List.map Node.cs t.Nodes))] 30),(1,.mp true (encM (kInt .i64) Node.cs s8.2.1)),(2,.mp true (encM (kInt .i64) (eArr 22 (dInt .i64)) s8.2.2)),(3,.mp false (encM (kInt .i64) (eJ 1) ([] : (List (Int × Nat))))),(4,.mp false (encM (kInt .i64) (eInt .i64) ([] : (List (Int × Int))))),(5,.mp false (encM (kInt .i64) (eInt .i64) ([] : (List (Int × Int))))),(6,.mp false (encM (kPair .i64) (eInt .i64) ([] : (List ((Int × Int) × Int))))),(7,.mp false (encM (kPair .i64) (eInt .i64) ([] : (List ((Int × Int) × Int))))),(8,.blk [cI t.Root,cI t.Next,.d (.sl (List.map Node.cs t.Nodes)),.d (.sl (List.map Font.cs fonts)),.own 1,.own 2,.own 3,.d (.v (.slice none 0 0)),.own 4,.own 5,.own 6,.own 7] 166)],0⟩) hr (Conv.mk (tau []) ⟨⟨_,rfl,.inl rfl⟩,⟨_,rfl,.inl rfl⟩,⟨_,rfl,.inl rfl⟩,⟨_,rfl,.inl rfl⟩,⟨_,rfl,.inl rfl⟩,⟨_,rfl,.inl rfl⟩,trivial⟩ ⟨rfl,rfl,rfl,rfl,rfl,rfl,rfl,rfl,rfl,trivial⟩ rfl rfl rfl rfl) ?_))))))))
 clear hr
 intro again9 s8 hr
 unfold widgetry_layout_open_L1 at hr
 refine Ok.seq (Ok.region (OkOps.y (aB (decide (s8.1 < (t.Nodes.length : Int)))) (OkOps.nil (Ok.seq ?_))))
 refine Ok.cond (b:=decide (s8.1 < (t.Nodes.length : Int))) rfl (fun h10=>?_) (fun h10=>?_)
 have hr:=selT h10 hr
 refine Ok.skip (Ok.seq (Ok.block (Ok.seq (Ok.region (OkOps.y (aI s8.1) ?_)))))
 obtain ⟨x11,hx11,hr⟩:=bind_some hr
 refine OkOps.q (triIdx (enc:=Node.cs) (L:=t.Nodes) (row:=[dI x11.ID,dI x11.Parent,dI x11.Kind,dS x11.Key,.sl (List.map Attr.cs x11.Attrs),.sl (List.map Action.cs x11.Actions),.sl (List.map (eInt .i64) x11.Kids)]) hx11 rfl rfl rfl rfl (fun _=>rfl) trivial rfl) (OkOps.y (.agg [cI x11.ID,cI x11.Parent,cI x11.Kind,cS x11.Key,.d (.sl (List.map Attr.cs x11.Attrs)),.d (.sl (List.map Action.cs x11.Actions)),.d (.sl (List.map (eInt .i64) x11.Kids))]) (OkOps.m 0 (triAlloc (j:=14) (cs:=[cI 0,cI 0,cI 0,cS ByteArray.empty,.d (.v (.slice none 0 0)),.d (.v (.slice none 0 0)),.d (.v (.slice none 0 0))]) rfl rfl rfl rfl) (OkOps.y (aI s8.1) (OkOps.w (triStore (cs':=[cI x11.ID,cI x11.Parent,cI x11.Kind,cS x11.Key,.d (.sl (List.map Attr.cs x11.Attrs)),.d (.sl (List.map Action.cs x11.Actions)),.d (.sl (List.map (eInt .i64) x11.Kids))]) rfl rfl rfl rfl rfl rfl rfl rfl rfl) (OkOps.nil (Ok.regionD (by kernel_rfl) (OkD.x (.c (.loc 8 0)) rfl trivial rfl (OkD.x (.c (.loc 8 0)) rfl trivial rfl (OkD.x (.c (.loc 8 4)) rfl trivial rfl (OkD.x (.c (.own 1)) rfl trivial rfl (OkD.x (.c (.loc 14 0)) rfl trivial rfl (OkD.x (aI x11.ID) rfl trivial rfl (OkD.x (.c (.loc 8 0)) rfl trivial rfl (OkD.x (.c (.loc 8 0)) rfl trivial rfl (OkD.x (.c (.loc 8 5)) rfl trivial rfl ?_)))))))))))))))
 refine OkD.x (.c (.own 2)) rfl trivial rfl (OkD.x (.c (.loc 14 0)) rfl trivial rfl (OkD.x (aI x11.ID) rfl trivial rfl (OkD.x (.agg [cI x11.ID,cI x11.Parent,cI x11.Kind,cS x11.Key,.d (.sl (List.map Attr.cs x11.Attrs)),.d (.sl (List.map Action.cs x11.Actions)),.d (.sl (List.map (eInt .i64) x11.Kids))]) rfl trivial rfl (OkD.x (.c (.d (.sl (List.map Styled.cs st)))) rfl trivial rfl (OkD.x (aI s8.1) rfl trivial rfl ?_)))))
 obtain ⟨x12,hx12,hr⟩:=bind_some hr
 refine OkD.q (triIdx (enc:=Styled.cs) (L:=st) (row:=[dI x12.ID,dI (x12.Style 0),dI (x12.Style 1),dI (x12.Style 2),dI (x12.Style 3),dI (x12.Style 4),dI (x12.Style 5),dI (x12.Style 6),dI (x12.Style 7),dI (x12.Style 8),dI (x12.Style 9),dI (x12.Style 10),dI (x12.Style 11),dI (x12.Style 12),dI (x12.Style 13),dI (x12.Style 14),dI (x12.Style 15),dI (x12.Style 16),dI (x12.Style 17),dI (x12.Style 18),dI (x12.Style 19),dI (x12.Style 20),dI (x12.Style 21)]) hx12 rfl rfl rfl rfl (fun _=>rfl) trivial rfl) (OkD.x (.c (.pt [dI (x12.Style 0),dI (x12.Style 1),dI (x12.Style 2),dI (x12.Style 3),dI (x12.Style 4),dI (x12.Style 5),dI (x12.Style 6),dI (x12.Style 7),dI (x12.Style 8),dI (x12.Style 9),dI (x12.Style 10),dI (x12.Style 11),dI (x12.Style 12),dI (x12.Style 13),dI (x12.Style 14),dI (x12.Style 15),dI (x12.Style 16),dI (x12.Style 17),dI (x12.Style 18),dI (x12.Style 19),dI (x12.Style 20),dI (x12.Style 21)])) rfl trivial rfl (OkD.x (.agg [cI (x12.Style 0),cI (x12.Style 1),cI (x12.Style 2),cI (x12.Style 3),cI (x12.Style 4),cI (x12.Style 5),cI (x12.Style 6),cI (x12.Style 7),cI (x12.Style 8),cI (x12.Style 9),cI (x12.Style 10),cI (x12.Style 11),cI (x12.Style 12),cI (x12.Style 13),cI (x12.Style 14),cI (x12.Style 15),cI (x12.Style 16),cI (x12.Style 17),cI (x12.Style 18),cI (x12.Style 19),cI (x12.Style 20),cI (x12.Style 21)]) rfl trivial rfl ?_))
 obtain ⟨x13,hx13,hr⟩:=bind_some hr
 refine OkD.m 0 (triMapEntry (ek:=(kInt .i64)) (ev:=Node.cs) (L:=s8.2.1) (yo:=x13) (r:=.agg [cI x13.1.ID,cI x13.1.Parent,cI x13.1.Kind,cS x13.1.Key,.d (.sl (List.map Attr.cs x13.1.Attrs)),.d (.sl (List.map Action.cs x13.1.Actions)),.d (.sl (List.map (eInt .i64) x13.1.Kids))]) hx13 rfl rfl rfl rfl (keyInt Tryz.underlying3) rfl rfl (fun h=>by cases h) rfl rfl trivial rfl) ?_
 refine OkD.x (aI (((midx (msetL s8.2.1 x11.ID x13.1) x11.ID).getD 0 : Nat) : Int)) rfl trivial rfl ?_
 refine OkD.w (triEntryStore (ek:=(kInt .i64)) (ev:=Node.cs) (L:=msetL s8.2.1 x11.ID x13.1) (k:=x11.ID) (z:=x11) (midx_self s8.2.1 x11.ID x13.1) rfl rfl rfl rfl rfl rfl (keyInt Tryz.underlying3) (fun h=>by cases h) (msetL_twice s8.2.1 x11.ID x13.1 x11) trivial) ?_
 obtain ⟨x14,hx14,hr⟩:=bind_some hr
 refine OkD.m 0 (triMapEntry (ek:=(kInt .i64)) (ev:=(eArr 22 (dInt .i64))) (L:=s8.2.2) (yo:=x14) (r:=.agg [cI (x14.1 0),cI (x14.1 1),cI (x14.1 2),cI (x14.1 3),cI (x14.1 4),cI (x14.1 5),cI (x14.1 6),cI (x14.1 7),cI (x14.1 8),cI (x14.1 9),cI (x14.1 10),cI (x14.1 11),cI (x14.1 12),cI (x14.1 13),cI (x14.1 14),cI (x14.1 15),cI (x14.1 16),cI (x14.1 17),cI (x14.1 18),cI (x14.1 19),cI (x14.1 20),cI (x14.1 21)]) hx14 rfl rfl rfl rfl (keyInt Tryz.underlying3) rfl rfl (fun h=>by cases h) rfl rfl trivial rfl) ?_
 refine OkD.x (aI (((midx (msetL s8.2.2 x11.ID x14.1) x11.ID).getD 0 : Nat) : Int)) rfl trivial rfl ?_
 refine OkD.w (triEntryStore (ek:=(kInt .i64)) (ev:=(eArr 22 (dInt .i64))) (L:=msetL s8.2.2 x11.ID x14.1) (k:=x11.ID) (z:=x12.Style) (midx_self s8.2.2 x11.ID x14.1) rfl rfl rfl rfl rfl rfl (keyInt Tryz.underlying3) (fun h=>by cases h) (msetL_twice s8.2.2 x11.ID x14.1 x12.Style) trivial) ?_
 refine OkD.nil (by kernel_rfl) (Ok.region (OkOps.y (aI (IntKind.i64.wrap (s8.1 + 1))) (OkOps.y (aI (IntKind.i64.wrap (s8.1 + 1))) (OkOps.nil ?_))))
 exact ⟨(IntKind.i64.wrap (s8.1 + 1),msetL s8.2.1 x11.ID x11,msetL s8.2.2 x11.ID x12.Style),hr,(Conv.mk (tau []) ⟨⟨_,rfl,.inl rfl⟩,⟨_,rfl,.inl rfl⟩,⟨_,rfl,.inl rfl⟩,⟨_,rfl,.inl rfl⟩,⟨_,rfl,.inl rfl⟩,⟨_,rfl,.inl rfl⟩,trivial⟩ ⟨rfl,rfl,rfl,rfl,rfl,rfl,rfl,rfl,rfl,trivial⟩ rfl rfl rfl rfl)⟩
 have hr:=selF h10 hr
 refine Ok.exit ?_
 exact ⟨(s8.2.1,s8.2.2),hr,(Conv.mk (tau []) ⟨⟨_,rfl,.inl rfl⟩,⟨_,rfl,.inl rfl⟩,trivial⟩ ⟨rfl,rfl,rfl,rfl,rfl,rfl,rfl,rfl,rfl,trivial⟩ rfl rfl rfl rfl)⟩
theorem widgetry_layout_Shown_c (t : Tree) (st : (List Styled)) {r : (List Int)} (hr : widgetry_layout_Shown t st = some r) : Con Tryz.prog 78 [.agg [cI t.Root,cI t.Next,.d (.sl (List.map Node.cs t.Nodes))],.c (.d (.sl (List.map Styled.cs st)))] [] (.s (.c (.d (.sl (List.map (eInt .i64) r))))) []:=by
 unfold widgetry_layout_Shown at hr
 refine Con.of_ok 25 0 [.tmp 4] [(0,.s (.agg [cI t.Root,cI t.Next,.d (.sl (List.map Node.cs t.Nodes))])),(1,.s (.c (.d (.sl (List.map Styled.cs st)))))] Tryz.func78 rfl rfl rfl rfl rfl rfl rfl rfl fun w g M ρ _=>(Ok.seq (Ok.region (OkOps.m 0 (triBox (j:=0) (cs:=[cI t.Root,cI t.Next,.d (.sl (List.map Node.cs t.Nodes))]) rfl rfl rfl rfl rfl) (OkOps.y (.c (.d (.v (.slice none 0 0)))) (OkOps.nil (Ok.seq (Ok.seq (Ok.region (OkOps.y (.agg [cI t.Root,cI t.Next,.d (.sl (List.map Node.cs t.Nodes))]) ?_)))))))))
 obtain ⟨x1,hx1,hr⟩:=bind_some hr
 refine OkOps.q (triCl (tau []) (.s (aI x1)) [] (vw_Check_c _ hx1) rfl ⟨.inl rfl,trivial⟩ trivial entry115 trivial) (OkOps.y (aB (x1 != 0)) (OkOps.y (aB (x1 != 0)) (OkOps.q (triQG (x:=.agg [cI t.Root,cI t.Next,.d (.sl (List.map Node.cs t.Nodes))]) rfl rfl trivial rfl) (OkOps.q (triQG (x:=.c (.d (.sl (List.map Styled.cs st)))) rfl rfl trivial rfl) ?_))))
 obtain ⟨x2,hx2,hr⟩:=bind_some hr
 refine OkOps.q (triCallG (x:=aB x2) (fun hg=>widgetry_layout_complete_c _ _ (gO_t hx2 hg)) rfl rfl ⟨.inl rfl,.inl rfl,trivial⟩ ⟨fun h=>h,⟨fun h=>h,trivial⟩⟩ entry116 rfl rfl rfl) (OkOps.q (triQG (x:=aB (!x2)) rfl rfl ⟨fun h=>h,trivial⟩ rfl) ?_)
 refine OkOps.q (triOr rfl rfl (fun h=>by rw [h];rfl) rfl) ?_
 refine OkOps.y (aB ((x1 != 0) || (!x2))) (OkOps.q (triQG (x:=.c (.d (.sl (List.map Styled.cs st)))) rfl rfl trivial rfl) ?_)
 obtain ⟨x3,hx3,hr⟩:=bind_some hr
 refine OkOps.q (triCallG (x:=aB x3) (fun hg=>widgetry_layout_styled_c _ (gO_t hx3 hg)) rfl rfl ⟨.inl rfl,trivial⟩ ⟨fun h=>h,trivial⟩ entry117 rfl rfl rfl) (OkOps.q (triQG (x:=aB (!x3)) rfl rfl ⟨fun h=>h,trivial⟩ rfl) ?_)
 refine OkOps.q (triOr rfl rfl (fun h=>by rw [h];rfl) rfl) ?_
 refine OkOps.nil ?_
 refine Ok.cond (b:=((x1 != 0) || (!x2)) || (!x3)) rfl (fun h4=>?_) (fun h4=>?_)
 have hr:=selT h4 hr
 refine Ok.seq (Ok.region (OkOps.y (.c (.d (.v (.slice none 0 0)))) (OkOps.nil (Ok.ret ?_))))
 obtain rfl:=Option.some.inj hr
 exact ⟨_,rfl,.inr rfl,trivial⟩
 have hr:=selF h4 hr
 refine Ok.skip (Ok.seq (Ok.region (OkOps.y (.agg [cI t.Root,cI t.Next,.d (.sl (List.map Node.cs t.Nodes))]) (OkOps.y (.c (.d (.sl (List.map Styled.cs st)))) ?_))))
 obtain ⟨x5,hx5,hr⟩:=bind_some hr
 refine OkOps.m 0 (triCall (tau [(8,1)]) (.s (.c (.loc 1 0))) [(1,.blk [cI x5.t.Root,cI x5.t.Next,.d (.sl (List.map Node.cs x5.t.Nodes)),.d (.sl (List.map Font.cs x5.fonts)),.d (.mp true (encM (kInt .i64) Node.cs x5.nodes)),.d (.mp true (encM (kInt .i64) (eArr 22 (dInt .i64)) x5.style)),.d (.mp false (encM (kInt .i64) (eJ 1) x5.kids)),.d (.sl (List.map (eInt .i64) x5.shown)),.d (.mp false (encM (kInt .i64) (eInt .i64) x5.least)),.d (.mp false (encM (kInt .i64) (eInt .i64) x5.most)),.d (.mp false (encM (kPair .i64) (eInt .i64) x5.tall)),.d (.mp false (encM (kPair .i64) (eInt .i64) x5.first))] 166)] (widgetry_layout_open_c _ _ _ hx5) rfl ⟨.inl rfl,.inl rfl,.inr rfl,trivial⟩ trivial entry118 trivial rfl rfl rfl rfl ⟨rfl,trivial⟩ rfl rfl rfl) (OkOps.y (.c (.loc 1 0)) (OkOps.y (.c (.loc 1 7)) (OkOps.y (.c (.d (.sl (List.map (eInt .i64) x5.shown)))) (OkOps.y (.c (.d (.sl (List.map (eInt .i64) x5.shown)))) (OkOps.nil (Ok.ret ?_))))))
 obtain rfl:=Option.some.inj hr
 exact ⟨_,rfl,.inl rfl,trivial⟩
end Go.Proofs.YtfoigppmcelgfaaGreatDoor
end
section
set_option maxRecDepth 100000
namespace Go.Proofs.YtfoigppmcelgfaaGreatDoor
open Go Go.E2
theorem slices_Clone_Sl_int_int_c (s : (List Int)) {r : (List Int)} (hr : slices_Clone_Sl_int_int s = some r) : Con Tryz.prog 54 [.c (.d (.sl (List.map (eInt .i64) s)))] [] (.s (.c (.tl 2000 (List.map (eInt .i64) r)))) [(2000,.tail 1)]:=by
 unfold slices_Clone_Sl_int_int at hr
 refine Con.of_ok 8 0 [.tmp 2] [(0,.s (.c (.d (.sl (List.map (eInt .i64) s)))))] Tryz.func54 rfl rfl rfl rfl rfl rfl rfl rfl fun w g M ρ _=>(Ok.seq (Ok.region (OkOps.q (triQ (x:=.c (.d (.v (.slice none 0 0)))) rfl trivial rfl) (OkOps.nil (Ok.seq (Ok.seq (Ok.region (OkOps.q (triQ (x:=.c (.d (.sl (List.map (eInt .i64) s)))) rfl trivial rfl) ?_))))))))
 refine OkOps.eqNil (e:=3) rfl (by kernel_rfl) trivial rfl (fun b hb=>?_)
 refine OkOps.nil ?_
 refine Ok.cond (b:=b) rfl (fun h=>?_) (fun h=>?_)
 obtain rfl : s = []:=by simpa using hb h
 obtain rfl : r = []:=((appO_spec hr).2 : _)
 refine Ok.seq (Ok.region (OkOps.q (triQ (x:=.c (.d (.v (.slice none 0 0)))) rfl trivial rfl) (OkOps.nil (Ok.conv (Conv.nil 2 2000 1 0 rfl rfl) (Ok.ret ?_)))))
 exact ⟨_,rfl,.inl rfl,⟨rfl,trivial⟩⟩
 refine Ok.skip (Ok.seq (Ok.region (OkOps.m 0 (triBST (sz:=1) (enc:=(eInt .i64)) (j:=0) [] rfl rfl rfl rfl rfl rfl rfl rfl (fun _=>rfl) trivial rfl rfl) (OkOps.q (triQ (x:=.c (.d (.sl (List.map (eInt .i64) s)))) rfl trivial rfl) (OkOps.m2 0 (triApp (enc:=(eInt .i64)) (L:=[]) (X:=s) (j:=0) (j':=2000) hr rfl rfl rfl rfl rfl rfl (fun _=>rfl) (fun _=>rfl) (by decide) trivial rfl rfl) (OkOps.q (triQ (x:=.c (.tl 2000 (List.map (eInt .i64) r))) rfl trivial rfl) (OkOps.nil (Ok.ret ?_))))))))
 exact ⟨_,rfl,.inl rfl,⟨rfl,trivial⟩⟩
theorem vw_Find_c (t : Tree) (id : Int) {r : Node × Bool} (hr : vw_Find t id = some r) : Con Tryz.prog 36 [.agg [cI t.Root,cI t.Next,.d (.sl (List.map Node.cs t.Nodes))],aI id] [] (.tup [.agg [cI r.1.ID,cI r.1.Parent,cI r.1.Kind,cS r.1.Key,.d (.sl (List.map Attr.cs r.1.Attrs)),.d (.sl (List.map Action.cs r.1.Actions)),.d (.sl (List.map (eInt .i64) r.1.Kids))],aB r.2]) []:=by
 unfold vw_Find at hr
 refine Con.of_ok 36 0 [.cell 4 61,.tmp 5] [(0,.s (.agg [cI t.Root,cI t.Next,.d (.sl (List.map Node.cs t.Nodes))])),(1,.s (aI id))] Tryz.func36 rfl rfl rfl rfl rfl rfl rfl rfl fun w g M ρ _=>(Ok.seq (Ok.region (OkOps.m 0 (triBox (j:=0) (cs:=[cI t.Root,cI t.Next,.d (.sl (List.map Node.cs t.Nodes))]) rfl rfl rfl rfl rfl) (OkOps.m 0 (triAlloc (j:=1) (cs:=[cI 0,cI 0,cI 0,cS ByteArray.empty,.d (.v (.slice none 0 0)),.d (.v (.slice none 0 0)),.d (.v (.slice none 0 0))]) rfl rfl rfl rfl) (OkOps.y (aB false) (OkOps.nil ?_))))))
 obtain ⟨k2,hk2,hr⟩:=jn_some hr
 refine Ok.join (fun (s1 : Unit)=>⟨[(4,.s (.c (.loc 1 0)))],[(1,.blk [cI 0,cI 0,cI 0,cS ByteArray.empty,.d (.v (.slice none 0 0)),.d (.v (.slice none 0 0)),.d (.v (.slice none 0 0))] 61)],0⟩) k2 r (fun s1 hr=>?_) ?_
 rw [hk2] at hr
 refine Ok.seq (Ok.region (OkOps.y (.agg [cI 0,cI 0,cI 0,cS ByteArray.empty,.d (.v (.slice none 0 0)),.d (.v (.slice none 0 0)),.d (.v (.slice none 0 0))]) (OkOps.w (triStore (cs':=[cI 0,cI 0,cI 0,cS ByteArray.empty,.d (.v (.slice none 0 0)),.d (.v (.slice none 0 0)),.d (.v (.slice none 0 0))]) rfl rfl rfl rfl rfl rfl rfl rfl rfl) (OkOps.y (aB false) (OkOps.nil (Ok.ret ?_))))))
 obtain rfl:=Option.some.inj hr
 exact ⟨_,rfl,.inr rfl,trivial⟩
 clear hk2
 refine Ok.seq (Ok.region (OkOps.y (.c (.loc 0 2)) (OkOps.y (.c (.d (.sl (List.map Node.cs t.Nodes)))) (OkOps.q (triLen (enc:=Node.cs) t.Nodes rfl rfl trivial rfl) (OkOps.y (aI 0) (OkOps.nil (Ok.block (Ok.loopK (fun (s3 : Int)=>⟨[(1,.s (aI id)),(4,.s (.c (.loc 1 0))),(9,.s (.c (.d (.sl (List.map Node.cs t.Nodes))))),(10,.s (aI (t.Nodes.length : Int))),(11,.s (aI s3))],[(1,.blk [cI 0,cI 0,cI 0,cS ByteArray.empty,.d (.v (.slice none 0 0)),.d (.v (.slice none 0 0)),.d (.v (.slice none 0 0))] 61)],0⟩) hr (Conv.mk (tau []) ⟨⟨_,rfl,.inl rfl⟩,⟨_,rfl,.inl rfl⟩,⟨_,rfl,.inl rfl⟩,⟨_,rfl,.inl rfl⟩,⟨_,rfl,.inl rfl⟩,trivial⟩ ⟨rfl,trivial⟩ rfl rfl rfl rfl) ?_))))))))
 clear hr
 intro again4 s3 hr
 unfold vw_Find_L1 at hr
 refine Ok.seq (Ok.region (OkOps.y (aB (decide (s3 < (t.Nodes.length : Int)))) (OkOps.nil (Ok.seq ?_))))
 refine Ok.cond (b:=decide (s3 < (t.Nodes.length : Int))) rfl (fun h5=>?_) (fun h5=>?_)
 have hr:=selT h5 hr
 refine Ok.skip (Ok.seq (Ok.block (Ok.seq (Ok.region ?_))))
 obtain ⟨x6,hx6,hr⟩:=bind_some hr
 refine OkOps.q (triIdx (enc:=Node.cs) (L:=t.Nodes) (row:=[dI x6.ID,dI x6.Parent,dI x6.Kind,dS x6.Key,.sl (List.map Attr.cs x6.Attrs),.sl (List.map Action.cs x6.Actions),.sl (List.map (eInt .i64) x6.Kids)]) hx6 rfl rfl rfl rfl (fun _=>rfl) trivial rfl) (OkOps.y (.agg [cI x6.ID,cI x6.Parent,cI x6.Kind,cS x6.Key,.d (.sl (List.map Attr.cs x6.Attrs)),.d (.sl (List.map Action.cs x6.Actions)),.d (.sl (List.map (eInt .i64) x6.Kids))]) (OkOps.m 0 (triAlloc (j:=2) (cs:=[cI 0,cI 0,cI 0,cS ByteArray.empty,.d (.v (.slice none 0 0)),.d (.v (.slice none 0 0)),.d (.v (.slice none 0 0))]) rfl rfl rfl rfl) (OkOps.w (triStore (cs':=[cI x6.ID,cI x6.Parent,cI x6.Kind,cS x6.Key,.d (.sl (List.map Attr.cs x6.Attrs)),.d (.sl (List.map Action.cs x6.Actions)),.d (.sl (List.map (eInt .i64) x6.Kids))]) rfl rfl rfl rfl rfl rfl rfl rfl rfl) (OkOps.nil (Ok.seq (Ok.seq (Ok.region (OkOps.y (.c (.loc 2 0)) (OkOps.y (aI x6.ID) (OkOps.y (aI id) (OkOps.y (aB (x6.ID != id)) (OkOps.nil ?_))))))))))))
 refine Ok.cond (b:=x6.ID != id) rfl (fun h7=>?_) (fun h7=>?_)
 have hr:=selT h7 hr
 refine Ok.exit (Ok.region (OkOps.y (aI (IntKind.i64.wrap (s3 + 1))) (OkOps.y (aI (IntKind.i64.wrap (s3 + 1))) (OkOps.nil ?_))))
 exact ⟨IntKind.i64.wrap (s3 + 1),hr,(Conv.mk (tau []) ⟨⟨_,rfl,.inl rfl⟩,⟨_,rfl,.inl rfl⟩,⟨_,rfl,.inl rfl⟩,⟨_,rfl,.inl rfl⟩,⟨_,rfl,.inl rfl⟩,trivial⟩ ⟨rfl,trivial⟩ rfl rfl rfl rfl)⟩
 have hr:=selF h7 hr
 refine Ok.skip (Ok.seq (Ok.region (OkOps.y (.c (.loc 2 4)) (OkOps.y (.c (.d (.sl (List.map Attr.cs x6.Attrs)))) (OkOps.y (.c (.loc 2 5)) (OkOps.y (.c (.d (.sl (List.map Action.cs x6.Actions)))) ?_))))))
 obtain ⟨x8,hx8,hr⟩:=bind_some hr
 refine OkOps.q (triCl (tau []) (.tup [.c (.d (.sl (List.map Attr.cs x8.1))),.c (.d (.sl (List.map Action.cs x8.2)))]) [] (vw_copied_c _ _ hx8) rfl ⟨.inl rfl,.inl rfl,trivial⟩ trivial entry76 trivial) (OkOps.q (triMv (v:=.tup [.c (.d (.sl (List.map Attr.cs x8.1))),.c (.d (.sl (List.map Action.cs x8.2)))]) rfl rfl) (OkOps.y (.c (.d (.sl (List.map Attr.cs x8.1)))) (OkOps.y (.c (.d (.sl (List.map Action.cs x8.2)))) (OkOps.y (.c (.loc 2 4)) (OkOps.w (triStore (cs':=[cI x6.ID,cI x6.Parent,cI x6.Kind,cS x6.Key,.d (.sl (List.map Attr.cs x8.1)),.d (.sl (List.map Action.cs x6.Actions)),.d (.sl (List.map (eInt .i64) x6.Kids))]) rfl rfl rfl rfl rfl rfl rfl rfl rfl) (OkOps.y (.c (.loc 2 5)) (OkOps.w (triStore (cs':=[cI x6.ID,cI x6.Parent,cI x6.Kind,cS x6.Key,.d (.sl (List.map Attr.cs x8.1)),.d (.sl (List.map Action.cs x8.2)),.d (.sl (List.map (eInt .i64) x6.Kids))]) rfl rfl rfl rfl rfl rfl rfl rfl rfl) (OkOps.nil (Ok.seq (Ok.region (OkOps.y (.c (.loc 2 6)) (OkOps.y (.c (.d (.sl (List.map (eInt .i64) x6.Kids)))) ?_))))))))))))
 obtain ⟨x9,hx9,hr⟩:=bind_some hr
 refine OkOps.m 0 (triCall (tau [(2000,3)]) (.s (.c (.tl 3 (List.map (eInt .i64) x9)))) [(3,.tail 1)] (slices_Clone_Sl_int_int_c _ hx9) rfl ⟨.inl rfl,trivial⟩ trivial entry54 trivial rfl rfl rfl rfl ⟨rfl,trivial⟩ rfl rfl rfl) (OkOps.y (.c (.loc 2 6)) (OkOps.w (triStore (cs':=[cI x6.ID,cI x6.Parent,cI x6.Kind,cS x6.Key,.d (.sl (List.map Attr.cs x8.1)),.d (.sl (List.map Action.cs x8.2)),.tl 3 (List.map (eInt .i64) x9)]) rfl rfl rfl rfl rfl rfl rfl rfl rfl) (OkOps.nil (Ok.seq (Ok.region (OkOps.y (.agg [cI x6.ID,cI x6.Parent,cI x6.Kind,cS x6.Key,.d (.sl (List.map Attr.cs x8.1)),.d (.sl (List.map Action.cs x8.2)),.tl 3 (List.map (eInt .i64) x9)]) (OkOps.w (triStore (cs':=[cI x6.ID,cI x6.Parent,cI x6.Kind,cS x6.Key,.d (.sl (List.map Attr.cs x8.1)),.d (.sl (List.map Action.cs x8.2)),.tl 3 (List.map (eInt .i64) x9)]) rfl rfl rfl rfl rfl rfl rfl rfl rfl) (OkOps.y (aB true) (OkOps.nil (Ok.ret ?_))))))))))
 obtain rfl:=Option.some.inj hr
 exact ⟨_,rfl,.inr rfl,trivial⟩
 have hr:=selF h5 hr
 refine Ok.exit ?_
 exact ⟨(),hr,(Conv.mk (tau []) ⟨⟨_,rfl,.inl rfl⟩,trivial⟩ ⟨rfl,trivial⟩ rfl rfl rfl rfl)⟩
theorem vw_Order_c (t : Tree) {r : (List Int)} (hr : vw_Order t = some r) : Con Tryz.prog 90 [.agg [cI t.Root,cI t.Next,.d (.sl (List.map Node.cs t.Nodes))]] [] (.s (.c (.d (.sl (List.map (eInt .i64) r))))) []:=by
 unfold vw_Order at hr
 refine Con.of_ok 16 0 [.tmp 2] [(0,.s (.agg [cI t.Root,cI t.Next,.d (.sl (List.map Node.cs t.Nodes))]))] Tryz.func90 rfl rfl rfl rfl rfl rfl rfl rfl fun w g M ρ _=>(Ok.seq (Ok.region (OkOps.m 0 (triBox (j:=0) (cs:=[cI t.Root,cI t.Next,.d (.sl (List.map Node.cs t.Nodes))]) rfl rfl rfl rfl rfl) (OkOps.y (.c (.d (.v (.slice none 0 0)))) (OkOps.nil (Ok.seq (Ok.region (OkOps.y (.agg [cI t.Root,cI t.Next,.d (.sl (List.map Node.cs t.Nodes))]) ?_))))))))
 obtain ⟨x1,hx1,hr⟩:=bind_some hr
 refine OkOps.q (triCl (tau []) (.tup [.c (.d (.mp true (encM (kInt .i64) Node.cs x1.1))),aB x1.2]) [] (vw_valid_c _ hx1) rfl ⟨.inl rfl,trivial⟩ trivial entry79 trivial) (OkOps.q (triMv (v:=.tup [.c (.d (.mp true (encM (kInt .i64) Node.cs x1.1))),aB x1.2]) rfl rfl) (OkOps.y (.c (.d (.mp true (encM (kInt .i64) Node.cs x1.1)))) (OkOps.y (aB x1.2) (OkOps.y (.c (.d (.mp true (encM (kInt .i64) Node.cs x1.1)))) (OkOps.y (aB x1.2) (OkOps.nil (Ok.seq (Ok.seq (Ok.region (OkOps.y (aB x1.2) (OkOps.y (aB (!x1.2)) (OkOps.nil ?_))))))))))))
 refine Ok.cond (b:=!x1.2) rfl (fun h2=>?_) (fun h2=>?_)
 have hr:=selT h2 hr
 refine Ok.seq (Ok.region (OkOps.y (.c (.d (.v (.slice none 0 0)))) (OkOps.nil (Ok.ret ?_))))
 obtain rfl:=Option.some.inj hr
 exact ⟨_,rfl,.inr rfl,trivial⟩
 have hr:=selF h2 hr
 refine Ok.skip (Ok.seq (Ok.region (OkOps.y (.c (.d (.mp true (encM (kInt .i64) Node.cs x1.1)))) (OkOps.y (.c (.loc 0 0)) (OkOps.y (aI t.Root) ?_)))))
 obtain ⟨x3,hx3,hr⟩:=bind_some hr
 refine OkOps.q (triCl (tau []) (.s (.c (.d (.sl (List.map (eInt .i64) x3))))) [] (vw_preorder_c _ _ _ hx3) rfl ⟨.inl rfl,.inl rfl,trivial⟩ trivial entry125 trivial) (OkOps.y (.c (.d (.sl (List.map (eInt .i64) x3)))) (OkOps.nil (Ok.ret ?_)))
 obtain rfl:=Option.some.inj hr
 exact ⟨_,rfl,.inl rfl,trivial⟩
end Go.Proofs.YtfoigppmcelgfaaGreatDoor
end
section
set_option maxRecDepth 100000
namespace Go.Proofs.YtfoigppmcelgfaaGreatDoor
open Go Go.E2
theorem fo_pressable_1_c (a : Action) {r : Bool} (hr : fo_pressable_1 a = some r) : Con Tryz.prog 121 [.agg [cS a.Event,cS a.Instance,cS a.Handler,.d (.sl (List.map AValue.cs a.Args))]] [] (.s (aB r)) []:=by
 unfold fo_pressable_1 at hr
 refine Con.of_ok 6 0 [.tmp 2] [(0,.s (.agg [cS a.Event,cS a.Instance,cS a.Handler,.d (.sl (List.map AValue.cs a.Args))]))] Tryz.func121 rfl rfl rfl rfl rfl rfl rfl rfl fun w g M ρ _=>(Ok.seq (Ok.region (OkOps.m 0 (triBox (j:=0) (cs:=[cS a.Event,cS a.Instance,cS a.Handler,.d (.sl (List.map AValue.cs a.Args))]) rfl rfl rfl rfl rfl) (OkOps.y (aB false) (OkOps.nil (Ok.seq (Ok.region (OkOps.y (.c (.loc 0 0)) (OkOps.y (aS a.Event) (OkOps.y (aB (a.Event.toList == (ByteArray.mk #[112,114,101,115,115]).toList)) (OkOps.y (aB (a.Event.toList == (ByteArray.mk #[112,114,101,115,115]).toList)) (OkOps.nil (Ok.ret ?_)))))))))))))
 obtain rfl:=Option.some.inj hr
 exact ⟨_,rfl,.inl rfl,trivial⟩
theorem sl_IndexFunc_press_c (p_s : (List Action)) {r : Int} (hr : sl_IndexFunc_press p_s = some r) : Con Tryz.prog 85 [.c (.d (.sl (List.map Action.cs p_s))),.c (.fn 121 [])] [] (.s (aI r)) []:=by
 unfold sl_IndexFunc_press at hr
 refine Con.of_ok 19 0 [.tmp 4] [(0,.s (.c (.d (.sl (List.map Action.cs p_s))))),(1,.s (.c (.fn 121 [])))] Tryz.func85 rfl rfl rfl rfl rfl rfl rfl rfl fun w g M ρ _=>(Ok.seq (Ok.region (OkOps.y (aI 0) (OkOps.nil ?_))))
 obtain ⟨k2,hk2,hr⟩:=jn_some hr
 refine Ok.join (fun (s1 : Unit)=>⟨[],[],0⟩) k2 r (fun s1 hr=>?_) ?_
 rw [hk2] at hr
 refine Ok.seq (Ok.region (OkOps.y (aI (-1)) (OkOps.nil (Ok.ret ?_))))
 obtain rfl:=Option.some.inj hr
 exact ⟨_,rfl,.inl rfl,trivial⟩
 clear hk2
 refine Ok.seq (Ok.region (OkOps.y (.c (.d (.sl (List.map Action.cs p_s)))) (OkOps.q (triLen (enc:=Action.cs) p_s rfl rfl trivial rfl) (OkOps.y (aI 0) (OkOps.nil (Ok.block (Ok.loopK (fun (s3 : Int)=>⟨[(0,.s (.c (.d (.sl (List.map Action.cs p_s))))),(1,.s (.c (.fn 121 []))),(7,.s (aI (p_s.length : Int))),(8,.s (aI s3))],[],0⟩) hr (Conv.mk (tau []) ⟨⟨_,rfl,.inl rfl⟩,⟨_,rfl,.inl rfl⟩,⟨_,rfl,.inl rfl⟩,⟨_,rfl,.inl rfl⟩,trivial⟩ trivial rfl rfl rfl rfl) ?_)))))))
 clear hr
 intro again4 s3 hr
 unfold sl_IndexFunc_press_L1 at hr
 refine Ok.seq (Ok.region (OkOps.y (aB (decide (s3 < (p_s.length : Int)))) (OkOps.nil (Ok.seq ?_))))
 refine Ok.cond (b:=decide (s3 < (p_s.length : Int))) rfl (fun h5=>?_) (fun h5=>?_)
 have hr:=selT h5 hr
 refine Ok.skip (Ok.seq (Ok.block (Ok.seq (Ok.region (OkOps.y (aI s3) (OkOps.y (aI s3) (OkOps.nil (Ok.seq (Ok.region (OkOps.y (.c (.fn 121 [])) (OkOps.y (.c (.d (.sl (List.map Action.cs p_s)))) (OkOps.y (aI s3) ?_))))))))))))
 obtain ⟨x6,hx6,hr⟩:=bind_some hr
 refine OkOps.q (triIdx (enc:=Action.cs) (L:=p_s) (row:=[dS x6.Event,dS x6.Instance,dS x6.Handler,.sl (List.map AValue.cs x6.Args)]) hx6 rfl rfl rfl rfl (fun _=>rfl) trivial rfl) (OkOps.y (.agg [cS x6.Event,cS x6.Instance,cS x6.Handler,.d (.sl (List.map AValue.cs x6.Args))]) ?_)
 obtain ⟨x7,hx7,hr⟩:=bind_some hr
 refine OkOps.q (triCallF (caps:=[]) (tau []) (.s (aB x7)) [] rfl (fo_pressable_1_c _ hx7) rfl ⟨.inl rfl,trivial⟩ trivial entry121 trivial rfl rfl rfl rfl trivial rfl rfl rfl) (OkOps.nil ?_)
 refine Ok.cond (b:=x7) rfl (fun h8=>?_) (fun h8=>?_)
 have hr:=selT h8 hr
 refine Ok.seq (Ok.region (OkOps.y (aI s3) (OkOps.y (aI s3) (OkOps.nil (Ok.ret ?_)))))
 obtain rfl:=Option.some.inj hr
 exact ⟨_,rfl,.inl rfl,trivial⟩
 have hr:=selF h8 hr
 refine Ok.skip (Ok.region (OkOps.y (aI (IntKind.i64.wrap (s3 + 1))) (OkOps.y (aI (IntKind.i64.wrap (s3 + 1))) (OkOps.nil ?_))))
 exact ⟨IntKind.i64.wrap (s3 + 1),hr,(Conv.mk (tau []) ⟨⟨_,rfl,.inl rfl⟩,⟨_,rfl,.inl rfl⟩,⟨_,rfl,.inl rfl⟩,⟨_,rfl,.inl rfl⟩,trivial⟩ trivial rfl rfl rfl rfl)⟩
 have hr:=selF h5 hr
 refine Ok.exit ?_
 exact ⟨(),hr,(Conv.mk (tau []) trivial trivial rfl rfl rfl rfl)⟩
theorem sl_ContainsFunc_press_c (p_s : (List Action)) {r : Bool} (hr : sl_ContainsFunc_press p_s = some r) : Con Tryz.prog 48 [.c (.d (.sl (List.map Action.cs p_s))),.c (.fn 121 [])] [] (.s (aB r)) []:=by
 unfold sl_ContainsFunc_press at hr
 refine Con.of_ok 9 0 [.tmp 4] [(0,.s (.c (.d (.sl (List.map Action.cs p_s))))),(1,.s (.c (.fn 121 [])))] Tryz.func48 rfl rfl rfl rfl rfl rfl rfl rfl fun w g M ρ _=>(Ok.seq (Ok.region (OkOps.y (aB false) (OkOps.nil (Ok.seq (Ok.region (OkOps.y (.c (.d (.sl (List.map Action.cs p_s)))) (OkOps.y (.c (.fn 121 [])) ?_))))))))
 obtain ⟨x1,hx1,hr⟩:=bind_some hr
 refine OkOps.q (triCl (tau []) (.s (aI x1)) [] (sl_IndexFunc_press_c _ hx1) rfl ⟨.inl rfl,.inl rfl,trivial⟩ trivial entry85 trivial) (OkOps.y (aB (decide (x1 ≥ 0))) (OkOps.y (aB (decide (x1 ≥ 0))) (OkOps.nil (Ok.ret ?_))))
 obtain rfl:=Option.some.inj hr
 exact ⟨_,rfl,.inl rfl,trivial⟩
theorem fo_pressable_c (p_n : Node) {r : Bool} (hr : fo_pressable p_n = some r) : Con Tryz.prog 81 [.agg [cI p_n.ID,cI p_n.Parent,cI p_n.Kind,cS p_n.Key,.d (.sl (List.map Attr.cs p_n.Attrs)),.d (.sl (List.map Action.cs p_n.Actions)),.d (.sl (List.map (eInt .i64) p_n.Kids))]] [] (.s (aB r)) []:=by
 unfold fo_pressable at hr
 refine Con.of_ok 25 0 [.tmp 2] [(0,.s (.agg [cI p_n.ID,cI p_n.Parent,cI p_n.Kind,cS p_n.Key,.d (.sl (List.map Attr.cs p_n.Attrs)),.d (.sl (List.map Action.cs p_n.Actions)),.d (.sl (List.map (eInt .i64) p_n.Kids))]))] Tryz.func81 rfl rfl rfl rfl rfl rfl rfl rfl fun w g M ρ _=>(Ok.seq (Ok.region (OkOps.m 0 (triBox (j:=0) (cs:=[cI p_n.ID,cI p_n.Parent,cI p_n.Kind,cS p_n.Key,.d (.sl (List.map Attr.cs p_n.Attrs)),.d (.sl (List.map Action.cs p_n.Actions)),.d (.sl (List.map (eInt .i64) p_n.Kids))]) rfl rfl rfl rfl rfl) (OkOps.y (aB false) (OkOps.nil (Ok.seq (Ok.seq (Ok.region (OkOps.y (.c (.loc 0 2)) (OkOps.y (aI p_n.Kind) (OkOps.nil (Ok.block ?_))))))))))))
 obtain ⟨k2,hk2,hr⟩:=jn_some hr
 refine Ok.join (fun (s1 : Bool)=>⟨[(1,.s (.c (.loc 0 0))),(6,.s (aB s1))],[(0,.blk [cI p_n.ID,cI p_n.Parent,cI p_n.Kind,cS p_n.Key,.d (.sl (List.map Attr.cs p_n.Attrs)),.d (.sl (List.map Action.cs p_n.Actions)),.d (.sl (List.map (eInt .i64) p_n.Kids))] 61)],0⟩) k2 r (fun s1 hr=>?_) ?_
 rw [hk2] at hr
 refine Ok.cond (b:=s1) rfl (fun h3=>?_) (fun h3=>?_)
 have hr:=selT h3 hr
 refine Ok.seq (Ok.region (OkOps.y (aB true) (OkOps.nil (Ok.ret ?_))))
 obtain rfl:=Option.some.inj hr
 exact ⟨_,rfl,.inl rfl,trivial⟩
 have hr:=selF h3 hr
 refine Ok.skip (Ok.seq (Ok.region (OkOps.y (.c (.loc 0 2)) (OkOps.y (aI p_n.Kind) (OkOps.y (aB (p_n.Kind == 4)) (OkOps.y (aB (p_n.Kind == 4)) (OkOps.q (triQG (x:=.c (.loc 0 2)) rfl rfl trivial rfl) (OkOps.q (triQG (x:=aI p_n.Kind) rfl rfl ⟨fun h=>h,trivial⟩ rfl) (OkOps.q (triQG (x:=aB (p_n.Kind == 13)) rfl rfl ⟨fun h=>h,trivial⟩ rfl) ?_)))))))))
 refine OkOps.q (triOr rfl rfl (fun h=>by rw [h];rfl) rfl) ?_
 refine OkOps.y (aB ((p_n.Kind == 4) || (p_n.Kind == 13))) (OkOps.nil (Ok.seq (Ok.region (OkOps.y (aB ((p_n.Kind == 4) || (p_n.Kind == 13))) (OkOps.y (aB (!((p_n.Kind == 4) || (p_n.Kind == 13)))) (OkOps.y (aB (!((p_n.Kind == 4) || (p_n.Kind == 13)))) (OkOps.q (triQG (x:=.c (.loc 0 5)) rfl rfl trivial rfl) (OkOps.q (triQG (x:=.c (.d (.sl (List.map Action.cs p_n.Actions)))) rfl rfl ⟨fun h=>h,trivial⟩ rfl) ?_))))))))
 obtain ⟨x4,hx4,hr⟩:=bind_some hr
 refine OkOps.q (triCallG (x:=aB x4) (fun hg=>sl_ContainsFunc_press_c _ (gO_t hx4 hg)) rfl rfl ⟨.inl rfl,.inl rfl,trivial⟩ ⟨fun h=>h,trivial⟩ entry48 rfl rfl rfl) (OkOps.q (triAnd rfl rfl (fun h=>h) rfl) (OkOps.y (aB ((!((p_n.Kind == 4) || (p_n.Kind == 13))) && x4)) (OkOps.nil (Ok.ret ?_))))
 obtain rfl:=Option.some.inj hr
 exact ⟨_,rfl,.inl rfl,trivial⟩
 clear hk2
 refine Ok.seq (Ok.region (OkOps.y (aB (p_n.Kind == 3)) (OkOps.y (aB (p_n.Kind == 3)) (OkOps.nil ?_))))
 refine Ok.cond (b:=p_n.Kind == 3) rfl (fun h5=>?_) (fun h5=>?_)
 have hr:=selT h5 hr
 refine Ok.skip ?_
 exact ⟨p_n.Kind == 3,hr,(Conv.mk (tau []) ⟨⟨_,rfl,.inl rfl⟩,⟨_,rfl,.inl rfl⟩,trivial⟩ ⟨rfl,trivial⟩ rfl rfl rfl rfl)⟩
 have hr:=selF h5 hr
 refine Ok.seq (Ok.region (OkOps.y (aB (p_n.Kind == 6)) (OkOps.y (aB (p_n.Kind == 6)) (OkOps.nil ?_))))
 refine Ok.cond (b:=p_n.Kind == 6) rfl (fun h6=>?_) (fun h6=>?_)
 have hr:=selT h6 hr
 refine Ok.skip ?_
 exact ⟨p_n.Kind == 6,hr,(Conv.mk (tau []) ⟨⟨_,rfl,.inl rfl⟩,⟨_,rfl,.inl rfl⟩,trivial⟩ ⟨rfl,trivial⟩ rfl rfl rfl rfl)⟩
 have hr:=selF h6 hr
 refine Ok.region (OkOps.y (aB (p_n.Kind == 7)) (OkOps.y (aB (p_n.Kind == 7)) (OkOps.nil ?_)))
 exact ⟨p_n.Kind == 7,hr,(Conv.mk (tau []) ⟨⟨_,rfl,.inl rfl⟩,⟨_,rfl,.inl rfl⟩,trivial⟩ ⟨rfl,trivial⟩ rfl rfl rfl rfl)⟩
end Go.Proofs.YtfoigppmcelgfaaGreatDoor
end
section
set_option maxRecDepth 100000
namespace Go.Proofs.YtfoigppmcelgfaaGreatDoor
open Go Go.E2
end Go.Proofs.YtfoigppmcelgfaaGreatDoor
end
section
set_option maxRecDepth 100000
namespace Go.Proofs.YtfoigppmcelgfaaGreatDoor
open Go Go.E2
end Go.Proofs.YtfoigppmcelgfaaGreatDoor
end
section
set_option maxRecDepth 100000
namespace Go.Proofs.YtfoigppmcelgfaaGreatDoor
open Go Go.E2
end Go.Proofs.YtfoigppmcelgfaaGreatDoor
end
section
set_option maxRecDepth 100000
namespace Go.Proofs.YtfoigppmcelgfaaGreatDoor
open Go Go.E2
theorem fo_Pressable_c (t : Tree) (id : Int) {r : Bool} (hr : fo_Pressable t id = some r) : Con Tryz.prog 42 [.agg [cI t.Root,cI t.Next,.d (.sl (List.map Node.cs t.Nodes))],aI id] [] (.s (aB r)) []:=by
 unfold fo_Pressable at hr
 refine Con.of_ok 18 0 [.tmp 4] [(0,.s (.agg [cI t.Root,cI t.Next,.d (.sl (List.map Node.cs t.Nodes))])),(1,.s (aI id))] Tryz.func42 rfl rfl rfl rfl rfl rfl rfl rfl fun w g M ρ _=>(Ok.seq (Ok.region (OkOps.m 0 (triBox (j:=0) (cs:=[cI t.Root,cI t.Next,.d (.sl (List.map Node.cs t.Nodes))]) rfl rfl rfl rfl rfl) (OkOps.y (aB false) (OkOps.nil (Ok.seq (Ok.region (OkOps.y (.agg [cI t.Root,cI t.Next,.d (.sl (List.map Node.cs t.Nodes))]) (OkOps.y (aI id) ?_)))))))))
 obtain ⟨x1,hx1,hr⟩:=bind_some hr
 refine OkOps.q (triCl (tau []) (.tup [.agg [cI x1.1.ID,cI x1.1.Parent,cI x1.1.Kind,cS x1.1.Key,.d (.sl (List.map Attr.cs x1.1.Attrs)),.d (.sl (List.map Action.cs x1.1.Actions)),.d (.sl (List.map (eInt .i64) x1.1.Kids))],aB x1.2]) [] (vw_Find_c _ _ hx1) rfl ⟨.inl rfl,.inl rfl,trivial⟩ trivial entry36 trivial) (OkOps.q (triMv (v:=.tup [.agg [cI x1.1.ID,cI x1.1.Parent,cI x1.1.Kind,cS x1.1.Key,.d (.sl (List.map Attr.cs x1.1.Attrs)),.d (.sl (List.map Action.cs x1.1.Actions)),.d (.sl (List.map (eInt .i64) x1.1.Kids))],aB x1.2]) rfl rfl) (OkOps.y (.agg [cI x1.1.ID,cI x1.1.Parent,cI x1.1.Kind,cS x1.1.Key,.d (.sl (List.map Attr.cs x1.1.Attrs)),.d (.sl (List.map Action.cs x1.1.Actions)),.d (.sl (List.map (eInt .i64) x1.1.Kids))]) (OkOps.y (aB x1.2) (OkOps.m 0 (triAlloc (j:=1) (cs:=[cI 0,cI 0,cI 0,cS ByteArray.empty,.d (.v (.slice none 0 0)),.d (.v (.slice none 0 0)),.d (.v (.slice none 0 0))]) rfl rfl rfl rfl) (OkOps.w (triStore (cs':=[cI x1.1.ID,cI x1.1.Parent,cI x1.1.Kind,cS x1.1.Key,.d (.sl (List.map Attr.cs x1.1.Attrs)),.d (.sl (List.map Action.cs x1.1.Actions)),.d (.sl (List.map (eInt .i64) x1.1.Kids))]) rfl rfl rfl rfl rfl rfl rfl rfl rfl) (OkOps.y (aB x1.2) (OkOps.nil (Ok.seq (Ok.region (OkOps.y (aB x1.2) (OkOps.y (aB x1.2) (OkOps.q (triQG (x:=.agg [cI x1.1.ID,cI x1.1.Parent,cI x1.1.Kind,cS x1.1.Key,.d (.sl (List.map Attr.cs x1.1.Attrs)),.d (.sl (List.map Action.cs x1.1.Actions)),.d (.sl (List.map (eInt .i64) x1.1.Kids))]) rfl rfl trivial rfl) ?_))))))))))))
 obtain ⟨x2,hx2,hr⟩:=bind_some hr
 refine OkOps.q (triCallG (x:=aB x2) (fun hg=>fo_pressable_c _ (gO_t hx2 hg)) rfl rfl ⟨.inl rfl,trivial⟩ ⟨fun h=>h,trivial⟩ entry81 rfl rfl rfl) (OkOps.q (triAnd rfl rfl (fun h=>h) rfl) (OkOps.y (aB (x1.2 && x2)) (OkOps.nil (Ok.ret ?_))))
 obtain rfl:=Option.some.inj hr
 exact ⟨_,rfl,.inl rfl,trivial⟩
theorem ac_roles_c  {r : (List Str)} (hr : ac_roles  = some r) : Con Tryz.prog 150 [] [] (.s (.c (.d (.sl (List.map eStr r))))) []:=by
 unfold ac_roles at hr
 refine Con.of_ok 2 0 [.tmp 0] [] Tryz.func150 rfl rfl rfl rfl rfl rfl rfl rfl fun w g M ρ _=>(Ok.seq (Ok.region (OkOps.y (.c (.d (.v (.slice none 0 0)))) (OkOps.nil (Ok.seq (Ok.region (OkOps.m 0 (triBST (sz:=1) (enc:=eStr) (j:=0) ([(ByteArray.mk #[110,111,110,101]),(ByteArray.mk #[119,105,110,100,111,119]),(ByteArray.mk #[103,114,111,117,112]),(ByteArray.mk #[116,101,120,116]),(ByteArray.mk #[98,117,116,116,111,110]),(ByteArray.mk #[116,101,120,116,98,111,120]),(ByteArray.mk #[105,109,97,103,101]),(ByteArray.mk #[99,104,101,99,107,98,111,120]),(ByteArray.mk #[108,105,110,107]),(ByteArray.mk #[115,99,114,111,108,108]),(ByteArray.mk #[104,101,97,100,105,110,103]),(ByteArray.mk #[108,105,115,116]),(ByteArray.mk #[105,116,101,109]),(ByteArray.mk #[100,105,97,108,111,103]),(ByteArray.mk #[115,108,105,100,101,114]),(ByteArray.mk #[115,116,97,116,117,115])]) rfl rfl rfl rfl rfl rfl rfl rfl (fun _=>rfl) trivial rfl rfl) (OkOps.y (.c (.tl 0 (List.map eStr ([(ByteArray.mk #[110,111,110,101]),(ByteArray.mk #[119,105,110,100,111,119]),(ByteArray.mk #[103,114,111,117,112]),(ByteArray.mk #[116,101,120,116]),(ByteArray.mk #[98,117,116,116,111,110]),(ByteArray.mk #[116,101,120,116,98,111,120]),(ByteArray.mk #[105,109,97,103,101]),(ByteArray.mk #[99,104,101,99,107,98,111,120]),(ByteArray.mk #[108,105,110,107]),(ByteArray.mk #[115,99,114,111,108,108]),(ByteArray.mk #[104,101,97,100,105,110,103]),(ByteArray.mk #[108,105,115,116]),(ByteArray.mk #[105,116,101,109]),(ByteArray.mk #[100,105,97,108,111,103]),(ByteArray.mk #[115,108,105,100,101,114]),(ByteArray.mk #[115,116,97,116,117,115])])))) (OkOps.nil (Ok.ret ?_))))))))))
 obtain rfl:=Option.some.inj hr
 exact ⟨_,rfl,.inr rfl,trivial⟩
theorem ac_natural_c (p_n : Node) (pressable : Bool) {r : Int} (hr : ac_natural p_n pressable = some r) : Con Tryz.prog 148 [.agg [cI p_n.ID,cI p_n.Parent,cI p_n.Kind,cS p_n.Key,.d (.sl (List.map Attr.cs p_n.Attrs)),.d (.sl (List.map Action.cs p_n.Actions)),.d (.sl (List.map (eInt .i64) p_n.Kids))],aB pressable] [] (.s (aI r)) []:=by
 unfold ac_natural at hr
 refine Con.of_ok 54 0 [.tmp 4] [(0,.s (.agg [cI p_n.ID,cI p_n.Parent,cI p_n.Kind,cS p_n.Key,.d (.sl (List.map Attr.cs p_n.Attrs)),.d (.sl (List.map Action.cs p_n.Actions)),.d (.sl (List.map (eInt .i64) p_n.Kids))])),(1,.s (aB pressable))] Tryz.func148 rfl rfl rfl rfl rfl rfl rfl rfl fun w g M ρ _=>(Ok.seq (Ok.region (OkOps.m 0 (triBox (j:=0) (cs:=[cI p_n.ID,cI p_n.Parent,cI p_n.Kind,cS p_n.Key,.d (.sl (List.map Attr.cs p_n.Attrs)),.d (.sl (List.map Action.cs p_n.Actions)),.d (.sl (List.map (eInt .i64) p_n.Kids))]) rfl rfl rfl rfl rfl) (OkOps.y (aI 0) (OkOps.nil (Ok.seq (Ok.region (OkOps.y (.c (.loc 0 4)) (OkOps.y (.c (.d (.sl (List.map Attr.cs p_n.Attrs)))) ?_)))))))))
 obtain ⟨x1,hx1,hr⟩:=bind_some hr
 refine OkOps.q (triCl (tau []) (.s (aS x1)) [] (vw_Text_c _ _ hx1) rfl ⟨.inl rfl,.inl rfl,trivial⟩ trivial entry107 trivial) (OkOps.y (aB (!(x1.toList == (ByteArray.mk #[]).toList))) (OkOps.y (aB (!(x1.toList == (ByteArray.mk #[]).toList))) (OkOps.nil ?_)))
 obtain ⟨k3,hk3,hr⟩:=jn_some hr
 refine Ok.join (fun (s2 : Unit)=>⟨[],[],0⟩) k3 r (fun s2 hr=>?_) ?_
 rw [hk3] at hr
 refine Ok.seq (Ok.region (OkOps.y (aI 0) (OkOps.nil (Ok.ret ?_))))
 obtain rfl:=Option.some.inj hr
 exact ⟨_,rfl,.inl rfl,trivial⟩
 clear hk3
 refine Ok.seq (Ok.region (OkOps.y (.c (.loc 0 2)) (OkOps.y (aI p_n.Kind) (OkOps.nil (Ok.block (Ok.seq (Ok.region (OkOps.y (aB (p_n.Kind == 2)) (OkOps.y (aB (p_n.Kind == 2)) (OkOps.nil ?_))))))))))
 refine Ok.cond (b:=p_n.Kind == 2) rfl (fun h4=>?_) (fun h4=>?_)
 have hr:=selT h4 hr
 refine Ok.seq (Ok.region (OkOps.y (aI 3) (OkOps.nil (Ok.ret ?_))))
 obtain rfl:=Option.some.inj hr
 exact ⟨_,rfl,.inl rfl,trivial⟩
 have hr:=selF h4 hr
 refine Ok.seq (Ok.region (OkOps.y (aB (p_n.Kind == 3)) (OkOps.y (aB (p_n.Kind == 3)) (OkOps.nil ?_))))
 refine Ok.cond (b:=p_n.Kind == 3) rfl (fun h5=>?_) (fun h5=>?_)
 have hr:=selT h5 hr
 refine Ok.seq (Ok.region (OkOps.y (aI 4) (OkOps.nil (Ok.ret ?_))))
 obtain rfl:=Option.some.inj hr
 exact ⟨_,rfl,.inl rfl,trivial⟩
 have hr:=selF h5 hr
 refine Ok.seq (Ok.region (OkOps.y (aB (p_n.Kind == 4)) (OkOps.y (aB (p_n.Kind == 4)) (OkOps.nil ?_))))
 refine Ok.cond (b:=p_n.Kind == 4) rfl (fun h6=>?_) (fun h6=>?_)
 have hr:=selT h6 hr
 refine Ok.seq (Ok.region (OkOps.y (aI 5) (OkOps.nil (Ok.ret ?_))))
 obtain rfl:=Option.some.inj hr
 exact ⟨_,rfl,.inl rfl,trivial⟩
 have hr:=selF h6 hr
 refine Ok.seq (Ok.region (OkOps.y (aB (p_n.Kind == 6)) (OkOps.y (aB (p_n.Kind == 6)) (OkOps.nil ?_))))
 refine Ok.cond (b:=p_n.Kind == 6) rfl (fun h7=>?_) (fun h7=>?_)
 have hr:=selT h7 hr
 refine Ok.seq (Ok.region (OkOps.y (aI 7) (OkOps.nil (Ok.ret ?_))))
 obtain rfl:=Option.some.inj hr
 exact ⟨_,rfl,.inl rfl,trivial⟩
 have hr:=selF h7 hr
 refine Ok.seq (Ok.region (OkOps.y (aB (p_n.Kind == 7)) (OkOps.y (aB (p_n.Kind == 7)) (OkOps.nil ?_))))
 refine Ok.cond (b:=p_n.Kind == 7) rfl (fun h8=>?_) (fun h8=>?_)
 have hr:=selT h8 hr
 refine Ok.seq (Ok.region (OkOps.y (aI 8) (OkOps.nil (Ok.ret ?_))))
 obtain rfl:=Option.some.inj hr
 exact ⟨_,rfl,.inl rfl,trivial⟩
 have hr:=selF h8 hr
 refine Ok.seq (Ok.region (OkOps.y (aB (p_n.Kind == 8)) (OkOps.y (aB (p_n.Kind == 8)) (OkOps.nil ?_))))
 refine Ok.cond (b:=p_n.Kind == 8) rfl (fun h9=>?_) (fun h9=>?_)
 have hr:=selT h9 hr
 refine Ok.seq (Ok.region (OkOps.y (aI 9) (OkOps.nil (Ok.ret ?_))))
 obtain rfl:=Option.some.inj hr
 exact ⟨_,rfl,.inl rfl,trivial⟩
 have hr:=selF h9 hr
 refine Ok.seq (Ok.region (OkOps.y (aB (p_n.Kind == 9)) (OkOps.y (aB (p_n.Kind == 9)) (OkOps.nil ?_))))
 refine Ok.cond (b:=p_n.Kind == 9) rfl (fun h10=>?_) (fun h10=>?_)
 have hr:=selT h10 hr
 refine Ok.seq (Ok.region (OkOps.y (aI 10) (OkOps.nil (Ok.ret ?_))))
 obtain rfl:=Option.some.inj hr
 exact ⟨_,rfl,.inl rfl,trivial⟩
 have hr:=selF h10 hr
 refine Ok.seq (Ok.region (OkOps.y (aB (p_n.Kind == 10)) (OkOps.y (aB (p_n.Kind == 10)) (OkOps.nil ?_))))
 refine Ok.cond (b:=p_n.Kind == 10) rfl (fun h11=>?_) (fun h11=>?_)
 have hr:=selT h11 hr
 refine Ok.seq (Ok.region (OkOps.y (aI 11) (OkOps.nil (Ok.ret ?_))))
 obtain rfl:=Option.some.inj hr
 exact ⟨_,rfl,.inl rfl,trivial⟩
 have hr:=selF h11 hr
 refine Ok.seq (Ok.region (OkOps.y (aB (p_n.Kind == 11)) (OkOps.y (aB (p_n.Kind == 11)) (OkOps.nil ?_))))
 refine Ok.cond (b:=p_n.Kind == 11) rfl (fun h12=>?_) (fun h12=>?_)
 have hr:=selT h12 hr
 refine Ok.seq (Ok.region (OkOps.y (aI 12) (OkOps.nil (Ok.ret ?_))))
 obtain rfl:=Option.some.inj hr
 exact ⟨_,rfl,.inl rfl,trivial⟩
 have hr:=selF h12 hr
 refine Ok.seq (Ok.region (OkOps.y (aB (p_n.Kind == 12)) (OkOps.y (aB (p_n.Kind == 12)) (OkOps.nil ?_))))
 refine Ok.cond (b:=p_n.Kind == 12) rfl (fun h13=>?_) (fun h13=>?_)
 have hr:=selT h13 hr
 refine Ok.seq (Ok.region (OkOps.y (aI 13) (OkOps.nil (Ok.ret ?_))))
 obtain rfl:=Option.some.inj hr
 exact ⟨_,rfl,.inl rfl,trivial⟩
 have hr:=selF h13 hr
 refine Ok.seq (Ok.region (OkOps.y (aB (p_n.Kind == 13)) (OkOps.y (aB (p_n.Kind == 13)) (OkOps.nil ?_))))
 refine Ok.cond (b:=p_n.Kind == 13) rfl (fun h14=>?_) (fun h14=>?_)
 have hr:=selT h14 hr
 refine Ok.seq (Ok.region (OkOps.y (aI 14) (OkOps.nil (Ok.ret ?_))))
 obtain rfl:=Option.some.inj hr
 exact ⟨_,rfl,.inl rfl,trivial⟩
 have hr:=selF h14 hr
 refine Ok.seq (Ok.region (OkOps.y (aB (p_n.Kind == 5)) (OkOps.y (aB (p_n.Kind == 5)) (OkOps.nil ?_))))
 refine Ok.cond (b:=p_n.Kind == 5) rfl (fun h15=>?_) (fun h15=>?_)
 have hr:=selT h15 hr
 refine Ok.seq (Ok.region (OkOps.y (aB (!(x1.toList == (ByteArray.mk #[]).toList))) (OkOps.nil ?_)))
 refine Ok.cond (b:=!(x1.toList == (ByteArray.mk #[]).toList)) rfl (fun h16=>?_) (fun h16=>?_)
 have hr:=selT h16 hr
 refine Ok.seq (Ok.region (OkOps.y (aI 6) (OkOps.nil (Ok.ret ?_))))
 obtain rfl:=Option.some.inj hr
 exact ⟨_,rfl,.inl rfl,trivial⟩
 have hr:=selF h16 hr
 refine Ok.skip ?_
 exact ⟨(),hr,(Conv.mk (tau []) trivial trivial rfl rfl rfl rfl)⟩
 have hr:=selF h15 hr
 refine Ok.seq (Ok.region (OkOps.y (aB (p_n.Kind == 1)) (OkOps.y (aB (p_n.Kind == 1)) (OkOps.nil ?_))))
 refine Ok.cond (b:=p_n.Kind == 1) rfl (fun h17=>?_) (fun h17=>?_)
 have hr:=selT h17 hr
 refine Ok.seq (Ok.region (OkOps.y (.c (.loc 0 4)) (OkOps.y (.c (.d (.sl (List.map Attr.cs p_n.Attrs)))) ?_)))
 obtain ⟨x18,hx18,hr⟩:=bind_some hr
 refine OkOps.q (triCl (tau []) (.s (aS x18)) [] (vw_Text_c _ _ hx18) rfl ⟨.inl rfl,.inl rfl,trivial⟩ trivial entry107 trivial) (OkOps.y (aS x18) (OkOps.nil (Ok.block (Ok.seq (Ok.region (OkOps.y (aB pressable) (OkOps.y (aB pressable) (OkOps.nil ?_))))))))
 refine Ok.cond (b:=pressable) rfl (fun h19=>?_) (fun h19=>?_)
 have hr:=selT h19 hr
 refine Ok.seq (Ok.region (OkOps.y (aI 4) (OkOps.nil (Ok.ret ?_))))
 obtain rfl:=Option.some.inj hr
 exact ⟨_,rfl,.inl rfl,trivial⟩
 have hr:=selF h19 hr
 refine Ok.seq (Ok.region (OkOps.y (aS x18) (OkOps.y (aB (x18.toList == (ByteArray.mk #[112,111,108,105,116,101]).toList)) (OkOps.y (aB (x18.toList == (ByteArray.mk #[112,111,108,105,116,101]).toList)) (OkOps.q (triQG (x:=aS x18) rfl rfl trivial rfl) (OkOps.q (triQG (x:=aB (x18.toList == (ByteArray.mk #[97,115,115,101,114,116,105,118,101]).toList)) rfl rfl ⟨fun h=>h,trivial⟩ rfl) ?_))))))
 refine OkOps.q (triOr rfl rfl (fun h=>by rw [h];rfl) rfl) ?_
 refine OkOps.y (aB ((x18.toList == (ByteArray.mk #[112,111,108,105,116,101]).toList) || (x18.toList == (ByteArray.mk #[97,115,115,101,114,116,105,118,101]).toList))) (OkOps.nil ?_)
 refine Ok.cond (b:=(x18.toList == (ByteArray.mk #[112,111,108,105,116,101]).toList) || (x18.toList == (ByteArray.mk #[97,115,115,101,114,116,105,118,101]).toList)) rfl (fun h20=>?_) (fun h20=>?_)
 have hr:=selT h20 hr
 refine Ok.seq (Ok.region (OkOps.y (aI 15) (OkOps.nil (Ok.ret ?_))))
 obtain rfl:=Option.some.inj hr
 exact ⟨_,rfl,.inl rfl,trivial⟩
 have hr:=selF h20 hr
 refine Ok.seq (Ok.region (OkOps.y (aB (!(x1.toList == (ByteArray.mk #[]).toList))) (OkOps.y (aB (!(x1.toList == (ByteArray.mk #[]).toList))) (OkOps.nil ?_))))
 refine Ok.cond (b:=!(x1.toList == (ByteArray.mk #[]).toList)) rfl (fun h21=>?_) (fun h21=>?_)
 have hr:=selT h21 hr
 refine Ok.seq (Ok.region (OkOps.y (aI 2) (OkOps.nil (Ok.ret ?_))))
 obtain rfl:=Option.some.inj hr
 exact ⟨_,rfl,.inl rfl,trivial⟩
 have hr:=selF h21 hr
 refine Ok.skip ?_
 exact ⟨(),hr,(Conv.mk (tau []) trivial trivial rfl rfl rfl rfl)⟩
 have hr:=selF h17 hr
 refine Ok.skip ?_
 exact ⟨(),hr,(Conv.mk (tau []) trivial trivial rfl rfl rfl rfl)⟩
theorem slices_Index_Sl_string_string_c (p_s : (List Str)) (v : Str) {r : Int} (hr : slices_Index_Sl_string_string p_s v = some r) : Con Tryz.prog 149 [.c (.d (.sl (List.map eStr p_s))),aS v] [] (.s (aI r)) []:=by
 unfold slices_Index_Sl_string_string at hr
 refine Con.of_ok 19 0 [.tmp 4] [(0,.s (.c (.d (.sl (List.map eStr p_s))))),(1,.s (aS v))] Tryz.func149 rfl rfl rfl rfl rfl rfl rfl rfl fun w g M ρ _=>(Ok.seq (Ok.region (OkOps.y (aI 0) (OkOps.nil ?_))))
 obtain ⟨k2,hk2,hr⟩:=jn_some hr
 refine Ok.join (fun (s1 : Unit)=>⟨[],[],0⟩) k2 r (fun s1 hr=>?_) ?_
 rw [hk2] at hr
 refine Ok.seq (Ok.region (OkOps.y (aI (-1)) (OkOps.nil (Ok.ret ?_))))
 obtain rfl:=Option.some.inj hr
 exact ⟨_,rfl,.inl rfl,trivial⟩
 clear hk2
 refine Ok.seq (Ok.region (OkOps.y (.c (.d (.sl (List.map eStr p_s)))) (OkOps.q (triLen (enc:=eStr) p_s rfl rfl trivial rfl) (OkOps.y (aI 0) (OkOps.nil (Ok.block (Ok.loopK (fun (s3 : Int)=>⟨[(0,.s (.c (.d (.sl (List.map eStr p_s))))),(1,.s (aS v)),(7,.s (aI (p_s.length : Int))),(8,.s (aI s3))],[],0⟩) hr (Conv.mk (tau []) ⟨⟨_,rfl,.inl rfl⟩,⟨_,rfl,.inl rfl⟩,⟨_,rfl,.inl rfl⟩,⟨_,rfl,.inl rfl⟩,trivial⟩ trivial rfl rfl rfl rfl) ?_)))))))
 clear hr
 intro again4 s3 hr
 unfold slices_Index_Sl_string_string_L1 at hr
 refine Ok.seq (Ok.region (OkOps.y (aB (decide (s3 < (p_s.length : Int)))) (OkOps.nil (Ok.seq ?_))))
 refine Ok.cond (b:=decide (s3 < (p_s.length : Int))) rfl (fun h5=>?_) (fun h5=>?_)
 have hr:=selT h5 hr
 refine Ok.skip (Ok.seq (Ok.block (Ok.seq (Ok.region (OkOps.y (aI s3) (OkOps.y (aI s3) (OkOps.nil (Ok.seq (Ok.region (OkOps.y (aS v) (OkOps.y (.c (.d (.sl (List.map eStr p_s)))) (OkOps.y (aI s3) ?_))))))))))))
 obtain ⟨x6,hx6,hr⟩:=bind_some hr
 refine OkOps.q (triIdx (enc:=eStr) (L:=p_s) (row:=[dS x6]) hx6 rfl rfl rfl rfl (fun _=>rfl) trivial rfl) (OkOps.y (aS x6) (OkOps.y (aB (v.toList == x6.toList)) (OkOps.nil ?_)))
 refine Ok.cond (b:=v.toList == x6.toList) rfl (fun h7=>?_) (fun h7=>?_)
 have hr:=selT h7 hr
 refine Ok.seq (Ok.region (OkOps.y (aI s3) (OkOps.y (aI s3) (OkOps.nil (Ok.ret ?_)))))
 obtain rfl:=Option.some.inj hr
 exact ⟨_,rfl,.inl rfl,trivial⟩
 have hr:=selF h7 hr
 refine Ok.skip (Ok.region (OkOps.y (aI (IntKind.i64.wrap (s3 + 1))) (OkOps.y (aI (IntKind.i64.wrap (s3 + 1))) (OkOps.nil ?_))))
 exact ⟨IntKind.i64.wrap (s3 + 1),hr,(Conv.mk (tau []) ⟨⟨_,rfl,.inl rfl⟩,⟨_,rfl,.inl rfl⟩,⟨_,rfl,.inl rfl⟩,⟨_,rfl,.inl rfl⟩,trivial⟩ trivial rfl rfl rfl rfl)⟩
 have hr:=selF h5 hr
 refine Ok.exit ?_
 exact ⟨(),hr,(Conv.mk (tau []) trivial trivial rfl rfl rfl rfl)⟩
theorem ac_Role_c (t : Tree) (id : Int) {r : Int} (hr : ac_Role t id = some r) : Con Tryz.prog 109 [.agg [cI t.Root,cI t.Next,.d (.sl (List.map Node.cs t.Nodes))],aI id] [] (.s (aI r)) []:=by
 unfold ac_Role at hr
 refine Con.of_ok 58 0 [.tmp 4] [(0,.s (.agg [cI t.Root,cI t.Next,.d (.sl (List.map Node.cs t.Nodes))])),(1,.s (aI id))] Tryz.func109 rfl rfl rfl rfl rfl rfl rfl rfl fun w g M ρ _=>(Ok.seq (Ok.region (OkOps.m 0 (triBox (j:=0) (cs:=[cI t.Root,cI t.Next,.d (.sl (List.map Node.cs t.Nodes))]) rfl rfl rfl rfl rfl) (OkOps.y (aI 0) (OkOps.nil (Ok.seq (Ok.region (OkOps.y (.agg [cI t.Root,cI t.Next,.d (.sl (List.map Node.cs t.Nodes))]) (OkOps.y (aI id) ?_)))))))))
 obtain ⟨x1,hx1,hr⟩:=bind_some hr
 refine OkOps.q (triCl (tau []) (.tup [.agg [cI x1.1.ID,cI x1.1.Parent,cI x1.1.Kind,cS x1.1.Key,.d (.sl (List.map Attr.cs x1.1.Attrs)),.d (.sl (List.map Action.cs x1.1.Actions)),.d (.sl (List.map (eInt .i64) x1.1.Kids))],aB x1.2]) [] (vw_Find_c _ _ hx1) rfl ⟨.inl rfl,.inl rfl,trivial⟩ trivial entry36 trivial) (OkOps.q (triMv (v:=.tup [.agg [cI x1.1.ID,cI x1.1.Parent,cI x1.1.Kind,cS x1.1.Key,.d (.sl (List.map Attr.cs x1.1.Attrs)),.d (.sl (List.map Action.cs x1.1.Actions)),.d (.sl (List.map (eInt .i64) x1.1.Kids))],aB x1.2]) rfl rfl) (OkOps.y (.agg [cI x1.1.ID,cI x1.1.Parent,cI x1.1.Kind,cS x1.1.Key,.d (.sl (List.map Attr.cs x1.1.Attrs)),.d (.sl (List.map Action.cs x1.1.Actions)),.d (.sl (List.map (eInt .i64) x1.1.Kids))]) (OkOps.y (aB x1.2) (OkOps.m 0 (triAlloc (j:=1) (cs:=[cI 0,cI 0,cI 0,cS ByteArray.empty,.d (.v (.slice none 0 0)),.d (.v (.slice none 0 0)),.d (.v (.slice none 0 0))]) rfl rfl rfl rfl) (OkOps.w (triStore (cs':=[cI x1.1.ID,cI x1.1.Parent,cI x1.1.Kind,cS x1.1.Key,.d (.sl (List.map Attr.cs x1.1.Attrs)),.d (.sl (List.map Action.cs x1.1.Actions)),.d (.sl (List.map (eInt .i64) x1.1.Kids))]) rfl rfl rfl rfl rfl rfl rfl rfl rfl) (OkOps.y (aB x1.2) (OkOps.nil (Ok.seq (Ok.seq (Ok.region (OkOps.y (aB x1.2) (OkOps.y (aB (!x1.2)) (OkOps.nil ?_)))))))))))))
 refine Ok.cond (b:=!x1.2) rfl (fun h2=>?_) (fun h2=>?_)
 have hr:=selT h2 hr
 refine Ok.seq (Ok.region (OkOps.y (aI 0) (OkOps.nil (Ok.ret ?_))))
 obtain rfl:=Option.some.inj hr
 exact ⟨_,rfl,.inl rfl,trivial⟩
 have hr:=selF h2 hr
 refine Ok.skip (Ok.seq (Ok.region (OkOps.y (.agg [cI t.Root,cI t.Next,.d (.sl (List.map Node.cs t.Nodes))]) (OkOps.y (aI id) ?_))))
 obtain ⟨x3,hx3,hr⟩:=bind_some hr
 refine OkOps.q (triCl (tau []) (.s (aB x3)) [] (fo_Pressable_c _ _ hx3) rfl ⟨.inl rfl,.inl rfl,trivial⟩ trivial entry42 trivial) (OkOps.y (aB x3) (OkOps.nil (Ok.seq (Ok.region (OkOps.y (.agg [cI x1.1.ID,cI x1.1.Parent,cI x1.1.Kind,cS x1.1.Key,.d (.sl (List.map Attr.cs x1.1.Attrs)),.d (.sl (List.map Action.cs x1.1.Actions)),.d (.sl (List.map (eInt .i64) x1.1.Kids))]) (OkOps.y (aB x3) ?_))))))
 obtain ⟨x4,hx4,hr⟩:=bind_some hr
 refine OkOps.q (triCl (tau []) (.s (aI x4)) [] (ac_natural_c _ _ hx4) rfl ⟨.inl rfl,.inl rfl,trivial⟩ trivial entry148 trivial) (OkOps.y (aI x4) (OkOps.nil ?_))
 obtain ⟨k6,hk6,hr⟩:=jn_some hr
 refine Ok.join (fun (s5 : Int)=>⟨[(1,.s (aI id)),(2,.s (.c (.loc 0 0))),(5,.s (.c (.loc 1 0))),(7,.s (aB x3)),(8,.s (aI s5))],[(0,.blk [cI t.Root,cI t.Next,.d (.sl (List.map Node.cs t.Nodes))] 30),(1,.blk [cI x1.1.ID,cI x1.1.Parent,cI x1.1.Kind,cS x1.1.Key,.d (.sl (List.map Attr.cs x1.1.Attrs)),.d (.sl (List.map Action.cs x1.1.Actions)),.d (.sl (List.map (eInt .i64) x1.1.Kids))] 61)],0⟩) k6 r (fun s5 hr=>?_) ?_
 rw [hk6] at hr
 refine Ok.seq (Ok.block (Ok.seq (Ok.region (OkOps.y (aI s5) (OkOps.y (aB (s5 != 0)) (OkOps.y (aB (s5 != 0)) (OkOps.nil ?_)))))))
 refine Ok.cond (b:=s5 != 0) rfl (fun h7=>?_) (fun h7=>?_)
 have hr:=selT h7 hr
 refine Ok.seq (Ok.region (OkOps.y (aI s5) (OkOps.y (aI s5) (OkOps.nil (Ok.ret ?_)))))
 obtain rfl:=Option.some.inj hr
 exact ⟨_,rfl,.inl rfl,trivial⟩
 have hr:=selF h7 hr
 refine Ok.seq (Ok.region (OkOps.y (aI id) (OkOps.y (.c (.loc 0 0)) (OkOps.y (aI t.Root) (OkOps.y (aB (id == t.Root)) (OkOps.y (aB (id == t.Root)) (OkOps.nil ?_)))))))
 refine Ok.cond (b:=id == t.Root) rfl (fun h8=>?_) (fun h8=>?_)
 have hr:=selT h8 hr
 refine Ok.seq (Ok.region (OkOps.y (aI 1) (OkOps.nil (Ok.ret ?_))))
 obtain rfl:=Option.some.inj hr
 exact ⟨_,rfl,.inl rfl,trivial⟩
 have hr:=selF h8 hr
 refine Ok.seq (Ok.region (OkOps.y (aB x3) (OkOps.y (aB x3) (OkOps.q (triQG (x:=.c (.loc 1 2)) rfl rfl trivial rfl) (OkOps.q (triQG (x:=aI x1.1.Kind) rfl rfl ⟨fun h=>h,trivial⟩ rfl) (OkOps.q (triQG (x:=aB (x1.1.Kind == 4)) rfl rfl ⟨fun h=>h,trivial⟩ rfl) ?_))))))
 refine OkOps.q (triOr rfl rfl (fun h=>by rw [h];rfl) rfl) ?_
 refine OkOps.y (aB (x3 || (x1.1.Kind == 4))) (OkOps.q (triQG (x:=.c (.loc 1 2)) rfl rfl trivial rfl) (OkOps.q (triQG (x:=aI x1.1.Kind) rfl rfl ⟨fun h=>h,trivial⟩ rfl) (OkOps.q (triQG (x:=aB (x1.1.Kind == 13)) rfl rfl ⟨fun h=>h,trivial⟩ rfl) ?_)))
 refine OkOps.q (triOr rfl rfl (fun h=>by rw [h];rfl) rfl) ?_
 refine OkOps.y (aB ((x3 || (x1.1.Kind == 4)) || (x1.1.Kind == 13))) (OkOps.q (triQG (x:=.c (.loc 1 4)) rfl rfl trivial rfl) (OkOps.q (triQG (x:=.c (.d (.sl (List.map Attr.cs x1.1.Attrs)))) rfl rfl ⟨fun h=>h,trivial⟩ rfl) ?_))
 obtain ⟨x9,hx9,hr⟩:=bind_some hr
 refine OkOps.q (triCallG (x:=aB x9) (fun hg=>vw_Flag_c _ _ (gO_t hx9 hg)) rfl rfl ⟨.inl rfl,.inl rfl,trivial⟩ ⟨fun h=>h,trivial⟩ entry45 rfl rfl rfl) ?_
 refine OkOps.q (triOr rfl rfl (fun h=>by rw [h];rfl) rfl) ?_
 refine OkOps.y (aB (((x3 || (x1.1.Kind == 4)) || (x1.1.Kind == 13)) || x9)) (OkOps.nil ?_)
 refine Ok.cond (b:=((x3 || (x1.1.Kind == 4)) || (x1.1.Kind == 13)) || x9) rfl (fun h10=>?_) (fun h10=>?_)
 have hr:=selT h10 hr
 refine Ok.seq (Ok.region (OkOps.y (aI 2) (OkOps.nil (Ok.ret ?_))))
 obtain rfl:=Option.some.inj hr
 exact ⟨_,rfl,.inl rfl,trivial⟩
 have hr:=selF h10 hr
 refine Ok.skip (Ok.seq (Ok.region (OkOps.y (aI 0) (OkOps.nil (Ok.ret ?_)))))
 obtain rfl:=Option.some.inj hr
 exact ⟨_,rfl,.inl rfl,trivial⟩
 clear hk6
 refine Ok.seq (Ok.regionD (by kernel_rfl) ?_)
 obtain ⟨x11,hx11,hr⟩:=bind_some hr
 refine OkD.q (triCl (tau []) (.s (.c (.d (.sl (List.map eStr x11))))) [] (ac_roles_c  hx11) rfl trivial trivial entry150 trivial) (OkD.x (.c (.loc 1 4)) rfl trivial rfl (OkD.x (.c (.d (.sl (List.map Attr.cs x1.1.Attrs)))) rfl trivial rfl ?_))
 obtain ⟨x12,hx12,hr⟩:=bind_some hr
 refine OkD.q (triCl (tau []) (.s (aS x12)) [] (vw_Text_c _ _ hx12) rfl ⟨.inl rfl,.inl rfl,trivial⟩ trivial entry107 trivial) ?_
 obtain ⟨x13,hx13,hr⟩:=bind_some hr
 refine OkD.q (triCl (tau []) (.s (aI x13)) [] (slices_Index_Sl_string_string_c _ _ hx13) rfl ⟨.inl rfl,.inl rfl,trivial⟩ trivial entry149 trivial) (OkD.x (aI x13) rfl trivial rfl (OkD.nil (by kernel_rfl) (Ok.seq (Ok.region (OkOps.y (aI x13) (OkOps.y (aB (decide (x13 ≥ 0))) (OkOps.nil ?_)))))))
 refine Ok.cond (b:=decide (x13 ≥ 0)) rfl (fun h14=>?_) (fun h14=>?_)
 have hr:=selT h14 hr
 refine Ok.region (OkOps.y (aI x13) (OkOps.y (aI x13) (OkOps.nil ?_)))
 exact ⟨x13,hr,(Conv.mk (tau []) ⟨⟨_,rfl,.inl rfl⟩,⟨_,rfl,.inl rfl⟩,⟨_,rfl,.inl rfl⟩,⟨_,rfl,.inl rfl⟩,⟨_,rfl,.inl rfl⟩,trivial⟩ ⟨rfl,rfl,trivial⟩ rfl rfl rfl rfl)⟩
 have hr:=selF h14 hr
 refine Ok.skip ?_
 exact ⟨x4,hr,(Conv.mk (tau []) ⟨⟨_,rfl,.inl rfl⟩,⟨_,rfl,.inl rfl⟩,⟨_,rfl,.inl rfl⟩,⟨_,rfl,.inl rfl⟩,⟨_,rfl,.inl rfl⟩,trivial⟩ ⟨rfl,rfl,trivial⟩ rfl rfl rfl rfl)⟩
theorem ac_Keyed_c (t : Tree) (key : Str) {r : Int} (hr : ac_Keyed t key = some r) : Con Tryz.prog 147 [.agg [cI t.Root,cI t.Next,.d (.sl (List.map Node.cs t.Nodes))],aS key] [] (.s (aI r)) []:=by
 unfold ac_Keyed at hr
 refine Con.of_ok 30 0 [.tmp 4] [(0,.s (.agg [cI t.Root,cI t.Next,.d (.sl (List.map Node.cs t.Nodes))])),(1,.s (aS key))] Tryz.func147 rfl rfl rfl rfl rfl rfl rfl rfl fun w g M ρ _=>(Ok.seq (Ok.region (OkOps.m 0 (triBox (j:=0) (cs:=[cI t.Root,cI t.Next,.d (.sl (List.map Node.cs t.Nodes))]) rfl rfl rfl rfl rfl) (OkOps.y (aI 0) (OkOps.nil (Ok.seq (Ok.seq (Ok.region (OkOps.y (aS key) (OkOps.y (aB (key.toList == (ByteArray.mk #[]).toList)) (OkOps.nil ?_)))))))))))
 refine Ok.cond (b:=key.toList == (ByteArray.mk #[]).toList) rfl (fun h1=>?_) (fun h1=>?_)
 have hr:=selT h1 hr
 refine Ok.seq (Ok.region (OkOps.y (aI 0) (OkOps.nil (Ok.ret ?_))))
 obtain rfl:=Option.some.inj hr
 exact ⟨_,rfl,.inl rfl,trivial⟩
 have hr:=selF h1 hr
 refine Ok.skip ?_
 obtain ⟨k3,hk3,hr⟩:=jn_some hr
 refine Ok.join (fun (s2 : Unit)=>⟨[],[],0⟩) k3 r (fun s2 hr=>?_) ?_
 rw [hk3] at hr
 refine Ok.seq (Ok.region (OkOps.y (aI 0) (OkOps.nil (Ok.ret ?_))))
 obtain rfl:=Option.some.inj hr
 exact ⟨_,rfl,.inl rfl,trivial⟩
 clear hk3
 refine Ok.seq (Ok.region (OkOps.y (.agg [cI t.Root,cI t.Next,.d (.sl (List.map Node.cs t.Nodes))]) ?_))
 obtain ⟨x4,hx4,hr⟩:=bind_some hr
 refine OkOps.q (triCl (tau []) (.s (.c (.d (.sl (List.map (eInt .i64) x4))))) [] (vw_Order_c _ hx4) rfl ⟨.inl rfl,trivial⟩ trivial entry90 trivial) (OkOps.q (triLen (enc:=(eInt .i64)) x4 rfl rfl trivial rfl) (OkOps.y (aI 0) (OkOps.nil (Ok.block (Ok.loopK (fun (s5 : Int)=>⟨[(1,.s (aS key)),(2,.s (.c (.loc 0 0))),(12,.s (.c (.d (.sl (List.map (eInt .i64) x4))))),(13,.s (aI (x4.length : Int))),(14,.s (aI s5))],[(0,.blk [cI t.Root,cI t.Next,.d (.sl (List.map Node.cs t.Nodes))] 30)],0⟩) hr (Conv.mk (tau []) ⟨⟨_,rfl,.inl rfl⟩,⟨_,rfl,.inl rfl⟩,⟨_,rfl,.inl rfl⟩,⟨_,rfl,.inl rfl⟩,⟨_,rfl,.inl rfl⟩,trivial⟩ ⟨rfl,trivial⟩ rfl rfl rfl rfl) ?_)))))
 clear hr
 intro again6 s5 hr
 unfold ac_Keyed_L1 at hr
 refine Ok.seq (Ok.region (OkOps.y (aB (decide (s5 < (x4.length : Int)))) (OkOps.nil (Ok.seq ?_))))
 refine Ok.cond (b:=decide (s5 < (x4.length : Int))) rfl (fun h7=>?_) (fun h7=>?_)
 have hr:=selT h7 hr
 refine Ok.skip (Ok.seq (Ok.block (Ok.seq (Ok.region ?_))))
 obtain ⟨x8,hx8,hr⟩:=bind_some hr
 refine OkOps.q (triIdx (enc:=(eInt .i64)) (L:=x4) (row:=[dI x8]) hx8 rfl rfl rfl rfl (fun _=>rfl) trivial rfl) (OkOps.y (aI x8) (OkOps.y (aI x8) (OkOps.nil (Ok.seq (Ok.region (OkOps.y (.agg [cI t.Root,cI t.Next,.d (.sl (List.map Node.cs t.Nodes))]) (OkOps.y (aI x8) ?_)))))))
 obtain ⟨x9,hx9,hr⟩:=bind_some hr
 refine OkOps.q (triCl (tau []) (.tup [.agg [cI x9.1.ID,cI x9.1.Parent,cI x9.1.Kind,cS x9.1.Key,.d (.sl (List.map Attr.cs x9.1.Attrs)),.d (.sl (List.map Action.cs x9.1.Actions)),.d (.sl (List.map (eInt .i64) x9.1.Kids))],aB x9.2]) [] (vw_Find_c _ _ hx9) rfl ⟨.inl rfl,.inl rfl,trivial⟩ trivial entry36 trivial) (OkOps.q (triMv (v:=.tup [.agg [cI x9.1.ID,cI x9.1.Parent,cI x9.1.Kind,cS x9.1.Key,.d (.sl (List.map Attr.cs x9.1.Attrs)),.d (.sl (List.map Action.cs x9.1.Actions)),.d (.sl (List.map (eInt .i64) x9.1.Kids))],aB x9.2]) rfl rfl) (OkOps.y (.agg [cI x9.1.ID,cI x9.1.Parent,cI x9.1.Kind,cS x9.1.Key,.d (.sl (List.map Attr.cs x9.1.Attrs)),.d (.sl (List.map Action.cs x9.1.Actions)),.d (.sl (List.map (eInt .i64) x9.1.Kids))]) (OkOps.y (aB x9.2) (OkOps.m 0 (triAlloc (j:=1) (cs:=[cI 0,cI 0,cI 0,cS ByteArray.empty,.d (.v (.slice none 0 0)),.d (.v (.slice none 0 0)),.d (.v (.slice none 0 0))]) rfl rfl rfl rfl) (OkOps.w (triStore (cs':=[cI x9.1.ID,cI x9.1.Parent,cI x9.1.Kind,cS x9.1.Key,.d (.sl (List.map Attr.cs x9.1.Attrs)),.d (.sl (List.map Action.cs x9.1.Actions)),.d (.sl (List.map (eInt .i64) x9.1.Kids))]) rfl rfl rfl rfl rfl rfl rfl rfl rfl) (OkOps.y (aB x9.2) (OkOps.nil (Ok.seq (Ok.region (OkOps.y (.c (.loc 1 3)) (OkOps.y (aS x9.1.Key) (OkOps.y (aS key) (OkOps.y (aB (x9.1.Key.toList == key.toList)) (OkOps.nil ?_))))))))))))))
 refine Ok.cond (b:=x9.1.Key.toList == key.toList) rfl (fun h10=>?_) (fun h10=>?_)
 have hr:=selT h10 hr
 refine Ok.seq (Ok.region (OkOps.y (aI x8) (OkOps.y (aI x8) (OkOps.nil (Ok.ret ?_)))))
 obtain rfl:=Option.some.inj hr
 exact ⟨_,rfl,.inl rfl,trivial⟩
 have hr:=selF h10 hr
 refine Ok.skip (Ok.region (OkOps.y (aI (IntKind.i64.wrap (s5 + 1))) (OkOps.y (aI (IntKind.i64.wrap (s5 + 1))) (OkOps.nil ?_))))
 exact ⟨IntKind.i64.wrap (s5 + 1),hr,(Conv.mk (tau []) ⟨⟨_,rfl,.inl rfl⟩,⟨_,rfl,.inl rfl⟩,⟨_,rfl,.inl rfl⟩,⟨_,rfl,.inl rfl⟩,⟨_,rfl,.inl rfl⟩,trivial⟩ ⟨rfl,trivial⟩ rfl rfl rfl rfl)⟩
 have hr:=selF h7 hr
 refine Ok.exit ?_
 exact ⟨(),hr,(Conv.mk (tau []) trivial trivial rfl rfl rfl rfl)⟩
end Go.Proofs.YtfoigppmcelgfaaGreatDoor
end
section
set_option maxRecDepth 100000
namespace Go.Proofs.YtfoigppmcelgfaaGreatDoor
open Go Go.E2
theorem nm_read_c (t : Tree) (st : (List Styled)) {r : name_speaker} (hr : nm_read t st = some r) : Con Tryz.prog 71 [.agg [cI t.Root,cI t.Next,.d (.sl (List.map Node.cs t.Nodes))],.c (.d (.sl (List.map Styled.cs st)))] [] (.s (.agg [cI r.t.Root,cI r.t.Next,.d (.sl (List.map Node.cs r.t.Nodes)),.d (.sl (List.map Styled.cs r.st)),.d (.mp false (encM (kInt .i64) eBool r.shown)),.d (.mp false (encM (kInt .i64) eBool r.visible))])) []:=by
 unfold nm_read at hr
 refine Con.of_ok 50 0 [.cell 4 119] [(0,.s (.agg [cI t.Root,cI t.Next,.d (.sl (List.map Node.cs t.Nodes))])),(1,.s (.c (.d (.sl (List.map Styled.cs st)))))] Tryz.func71 rfl rfl rfl rfl rfl rfl rfl rfl fun w g M ρ _=>(Ok.seq (Ok.region (OkOps.m 0 (triBox (j:=0) (cs:=[cI t.Root,cI t.Next,.d (.sl (List.map Node.cs t.Nodes))]) rfl rfl rfl rfl rfl) (OkOps.m 0 (triAlloc (j:=1) (cs:=[cI 0,cI 0,.d (.v (.slice none 0 0)),.d (.v (.slice none 0 0)),.d (.v (.map none)),.d (.v (.map none))]) rfl rfl rfl rfl) (OkOps.nil (Ok.seq (Ok.region (OkOps.y (.agg [cI t.Root,cI t.Next,.d (.sl (List.map Node.cs t.Nodes))]) (OkOps.y (.c (.d (.sl (List.map Styled.cs st)))) (OkOps.m 0 (triMkM (j:=2) false rfl rfl) (OkOps.m 0 (triMkM (j:=3) false rfl rfl) (OkOps.q (triBuildF (x:=.agg [cI t.Root,cI t.Next,.d (.sl (List.map Node.cs t.Nodes)),.d (.sl (List.map Styled.cs st)),.own 2,.own 3]) rfl rfl trivial rfl) (OkOps.m 0 (triAlloc (j:=4) (cs:=[cI 0,cI 0,.d (.v (.slice none 0 0)),.d (.v (.slice none 0 0)),.d (.v (.map none)),.d (.v (.map none))]) rfl rfl rfl rfl) (OkOps.w (triStoreF (cs':=[cI t.Root,cI t.Next,.d (.sl (List.map Node.cs t.Nodes)),.d (.sl (List.map Styled.cs st)),.own 2,.own 3]) rfl rfl rfl rfl rfl rfl rfl rfl) (OkOps.nil ?_)))))))))))))))
 obtain ⟨k2,hk2,hr⟩:=jn_some hr
 refine Ok.join (fun (s1 : (List (Int × Bool)))=>⟨[(1,.s (.c (.d (.sl (List.map Styled.cs st))))),(4,.s (.c (.loc 1 0))),(5,.s (.c (.loc 4 0)))],[(1,.blk [cI 0,cI 0,.d (.v (.slice none 0 0)),.d (.v (.slice none 0 0)),.d (.v (.map none)),.d (.v (.map none))] 119),(2,.mp false (encM (kInt .i64) eBool s1)),(3,.mp false (encM (kInt .i64) eBool ([] : (List (Int × Bool))))),(4,.blk [cI t.Root,cI t.Next,.d (.sl (List.map Node.cs t.Nodes)),.d (.sl (List.map Styled.cs st)),.own 2,.own 3] 119)],0⟩) k2 r (fun s1 hr=>?_) ?_
 rw [hk2] at hr
 obtain ⟨k4,hk4,hr⟩:=jn_some hr
 refine Ok.join (fun (s3 : (List (Int × Bool)))=>⟨[(4,.s (.c (.loc 1 0))),(5,.s (.c (.loc 4 0)))],[(1,.blk [cI 0,cI 0,.d (.v (.slice none 0 0)),.d (.v (.slice none 0 0)),.d (.v (.map none)),.d (.v (.map none))] 119),(2,.mp false (encM (kInt .i64) eBool s1)),(3,.mp false (encM (kInt .i64) eBool s3)),(4,.blk [cI t.Root,cI t.Next,.d (.sl (List.map Node.cs t.Nodes)),.d (.sl (List.map Styled.cs st)),.own 2,.own 3] 119)],0⟩) k4 r (fun s3 hr=>?_) ?_
 rw [hk4] at hr
 refine Ok.seq (Ok.region (OkOps.y (.agg [cI t.Root,cI t.Next,.d (.sl (List.map Node.cs t.Nodes)),.d (.sl (List.map Styled.cs st)),.own 2,.own 3]) (OkOps.w (triStoreF (cs':=[cI t.Root,cI t.Next,.d (.sl (List.map Node.cs t.Nodes)),.d (.sl (List.map Styled.cs st)),.own 2,.own 3]) rfl rfl rfl rfl rfl rfl rfl rfl) (OkOps.nil (Ok.conv (Conv.freezeM [(49,.s (.agg [cI t.Root,cI t.Next,.d (.sl (List.map Node.cs t.Nodes)),.d (.sl (List.map Styled.cs st)),.d (.mp false (encM (kInt .i64) eBool s1)),.own 3]))] [(1,.blk [cI t.Root,cI t.Next,.d (.sl (List.map Node.cs t.Nodes)),.d (.sl (List.map Styled.cs st)),.d (.mp false (encM (kInt .i64) eBool s1)),.own 3] 119),(4,.blk [cI t.Root,cI t.Next,.d (.sl (List.map Node.cs t.Nodes)),.d (.sl (List.map Styled.cs st)),.d (.mp false (encM (kInt .i64) eBool s1)),.own 3] 119)] 2 0 rfl ⟨⟨_,rfl,rfl⟩,trivial⟩ ⟨⟨_,_,rfl,rfl⟩,⟨_,_,rfl,rfl⟩,trivial⟩) (Ok.conv (Conv.freezeM [(49,.s (.agg [cI t.Root,cI t.Next,.d (.sl (List.map Node.cs t.Nodes)),.d (.sl (List.map Styled.cs st)),.d (.mp false (encM (kInt .i64) eBool s1)),.d (.mp false (encM (kInt .i64) eBool s3))]))] [(1,.blk [cI t.Root,cI t.Next,.d (.sl (List.map Node.cs t.Nodes)),.d (.sl (List.map Styled.cs st)),.d (.mp false (encM (kInt .i64) eBool s1)),.d (.mp false (encM (kInt .i64) eBool s3))] 119),(4,.blk [cI t.Root,cI t.Next,.d (.sl (List.map Node.cs t.Nodes)),.d (.sl (List.map Styled.cs st)),.d (.mp false (encM (kInt .i64) eBool s1)),.d (.mp false (encM (kInt .i64) eBool s3))] 119)] 3 0 rfl ⟨⟨_,rfl,rfl⟩,trivial⟩ ⟨⟨_,_,rfl,rfl⟩,⟨_,_,rfl,rfl⟩,trivial⟩) (Ok.ret ?_)))))))
 obtain rfl:=Option.some.inj hr
 exact ⟨_,rfl,.inl rfl,trivial⟩
 clear hk4
 refine Ok.seq (Ok.region (OkOps.y (.c (.d (.sl (List.map Styled.cs st)))) (OkOps.q (triLen (enc:=Styled.cs) st rfl rfl trivial rfl) (OkOps.y (aI 0) (OkOps.nil (Ok.block (Ok.loopK (fun (s5 : Int × (List (Int × Bool)))=>⟨[(4,.s (.c (.loc 1 0))),(5,.s (.c (.loc 4 0))),(27,.s (.c (.d (.sl (List.map Styled.cs st))))),(28,.s (aI (st.length : Int))),(29,.s (aI s5.1))],[(1,.blk [cI 0,cI 0,.d (.v (.slice none 0 0)),.d (.v (.slice none 0 0)),.d (.v (.map none)),.d (.v (.map none))] 119),(2,.mp false (encM (kInt .i64) eBool s1)),(3,.mp false (encM (kInt .i64) eBool s5.2)),(4,.blk [cI t.Root,cI t.Next,.d (.sl (List.map Node.cs t.Nodes)),.d (.sl (List.map Styled.cs st)),.own 2,.own 3] 119)],0⟩) hr (Conv.mk (tau []) ⟨⟨_,rfl,.inl rfl⟩,⟨_,rfl,.inl rfl⟩,⟨_,rfl,.inl rfl⟩,⟨_,rfl,.inl rfl⟩,⟨_,rfl,.inl rfl⟩,trivial⟩ ⟨rfl,rfl,rfl,rfl,trivial⟩ rfl rfl rfl rfl) ?_)))))))
 clear hr
 intro again6 s5 hr
 unfold nm_read_L1 at hr
 refine Ok.seq (Ok.region (OkOps.y (aB (decide (s5.1 < (st.length : Int)))) (OkOps.nil (Ok.seq ?_))))
 refine Ok.cond (b:=decide (s5.1 < (st.length : Int))) rfl (fun h7=>?_) (fun h7=>?_)
 have hr:=selT h7 hr
 refine Ok.skip (Ok.seq (Ok.block (Ok.seq (Ok.region ?_))))
 obtain ⟨x8,hx8,hr⟩:=bind_some hr
 refine OkOps.q (triIdx (enc:=Styled.cs) (L:=st) (row:=[dI x8.ID,dI (x8.Style 0),dI (x8.Style 1),dI (x8.Style 2),dI (x8.Style 3),dI (x8.Style 4),dI (x8.Style 5),dI (x8.Style 6),dI (x8.Style 7),dI (x8.Style 8),dI (x8.Style 9),dI (x8.Style 10),dI (x8.Style 11),dI (x8.Style 12),dI (x8.Style 13),dI (x8.Style 14),dI (x8.Style 15),dI (x8.Style 16),dI (x8.Style 17),dI (x8.Style 18),dI (x8.Style 19),dI (x8.Style 20),dI (x8.Style 21)]) hx8 rfl rfl rfl rfl (fun _=>rfl) trivial rfl) (OkOps.y (.agg [cI x8.ID,cI (x8.Style 0),cI (x8.Style 1),cI (x8.Style 2),cI (x8.Style 3),cI (x8.Style 4),cI (x8.Style 5),cI (x8.Style 6),cI (x8.Style 7),cI (x8.Style 8),cI (x8.Style 9),cI (x8.Style 10),cI (x8.Style 11),cI (x8.Style 12),cI (x8.Style 13),cI (x8.Style 14),cI (x8.Style 15),cI (x8.Style 16),cI (x8.Style 17),cI (x8.Style 18),cI (x8.Style 19),cI (x8.Style 20),cI (x8.Style 21)]) (OkOps.m 0 (triAlloc (j:=5) (cs:=[cI 0,cI 0,cI 0,cI 0,cI 0,cI 0,cI 0,cI 0,cI 0,cI 0,cI 0,cI 0,cI 0,cI 0,cI 0,cI 0,cI 0,cI 0,cI 0,cI 0,cI 0,cI 0,cI 0]) rfl rfl rfl rfl) (OkOps.w (triStore (cs':=[cI x8.ID,cI (x8.Style 0),cI (x8.Style 1),cI (x8.Style 2),cI (x8.Style 3),cI (x8.Style 4),cI (x8.Style 5),cI (x8.Style 6),cI (x8.Style 7),cI (x8.Style 8),cI (x8.Style 9),cI (x8.Style 10),cI (x8.Style 11),cI (x8.Style 12),cI (x8.Style 13),cI (x8.Style 14),cI (x8.Style 15),cI (x8.Style 16),cI (x8.Style 17),cI (x8.Style 18),cI (x8.Style 19),cI (x8.Style 20),cI (x8.Style 21)]) rfl rfl rfl rfl rfl rfl rfl rfl (by kernel_rfl)) (OkOps.nil (Ok.region (OkOps.y (.c (.loc 4 5)) (OkOps.y (.c (.own 3)) (OkOps.y (.c (.loc 5 0)) (OkOps.y (aI x8.ID) (OkOps.y (.c (.loc 4 4)) (OkOps.y (.c (.own 2)) (OkOps.y (.c (.loc 5 0)) (OkOps.y (aI x8.ID) ?_)))))))))))))
 obtain ⟨x9,hx9,hr⟩:=bind_some hr
 refine OkOps.q (triLook (agg:=false) (ek:=(kInt .i64)) (ev:=eBool) (L:=s1) (r:=aB x9.1) hx9 rfl rfl rfl (keyInt Tryz.underlying3) rfl rfl (fun _ _=>rfl) rfl trivial rfl) (OkOps.y (aB x9.1) (OkOps.q (triQG (x:=.c (.loc 5 1)) rfl rfl trivial rfl) (OkOps.q (triQG (x:=.c (.loc 5 22)) rfl rfl ⟨fun h=>h,trivial⟩ rfl) (OkOps.q (triQG (x:=aI (x8.Style 21)) rfl rfl ⟨fun h=>h,trivial⟩ rfl) (OkOps.q (triQG (x:=aB ((x8.Style 21) == 0)) rfl rfl ⟨fun h=>h,trivial⟩ rfl) (OkOps.q (triAnd rfl rfl (fun h=>h) rfl) (OkOps.w (triMapUp (ek:=(kInt .i64)) (ev:=eBool) (L:=s5.2) (z:=x9.1 && ((x8.Style 21) == 0)) rfl rfl rfl rfl rfl rfl (keyInt Tryz.underlying3) (fun _ _=>rfl) rfl trivial) (OkOps.nil (Ok.region (OkOps.y (aI (IntKind.i64.wrap (s5.1 + 1))) (OkOps.y (aI (IntKind.i64.wrap (s5.1 + 1))) (OkOps.nil ?_))))))))))))
 exact ⟨(IntKind.i64.wrap (s5.1 + 1),msetL s5.2 x8.ID (x9.1 && ((x8.Style 21) == 0))),hr,(Conv.mk (tau []) ⟨⟨_,rfl,.inl rfl⟩,⟨_,rfl,.inl rfl⟩,⟨_,rfl,.inl rfl⟩,⟨_,rfl,.inl rfl⟩,⟨_,rfl,.inl rfl⟩,trivial⟩ ⟨rfl,rfl,rfl,rfl,trivial⟩ rfl rfl rfl rfl)⟩
 have hr:=selF h7 hr
 refine Ok.exit ?_
 exact ⟨s5.2,hr,(Conv.mk (tau []) ⟨⟨_,rfl,.inl rfl⟩,⟨_,rfl,.inl rfl⟩,trivial⟩ ⟨rfl,rfl,rfl,rfl,trivial⟩ rfl rfl rfl rfl)⟩
 clear hk2
 refine Ok.seq (Ok.region (OkOps.y (.agg [cI t.Root,cI t.Next,.d (.sl (List.map Node.cs t.Nodes))]) (OkOps.y (.c (.d (.sl (List.map Styled.cs st)))) ?_)))
 obtain ⟨x10,hx10,hr⟩:=bind_some hr
 refine OkOps.q (triCl (tau []) (.s (.c (.d (.sl (List.map (eInt .i64) x10))))) [] (widgetry_layout_Shown_c _ _ hx10) rfl ⟨.inl rfl,.inl rfl,trivial⟩ trivial entry78 trivial) (OkOps.q (triLen (enc:=(eInt .i64)) x10 rfl rfl trivial rfl) (OkOps.y (aI 0) (OkOps.nil (Ok.block (Ok.loopK (fun (s11 : Int × (List (Int × Bool)))=>⟨[(1,.s (.c (.d (.sl (List.map Styled.cs st))))),(4,.s (.c (.loc 1 0))),(5,.s (.c (.loc 4 0))),(17,.s (.c (.d (.sl (List.map (eInt .i64) x10))))),(18,.s (aI (x10.length : Int))),(19,.s (aI s11.1))],[(1,.blk [cI 0,cI 0,.d (.v (.slice none 0 0)),.d (.v (.slice none 0 0)),.d (.v (.map none)),.d (.v (.map none))] 119),(2,.mp false (encM (kInt .i64) eBool s11.2)),(3,.mp false (encM (kInt .i64) eBool ([] : (List (Int × Bool))))),(4,.blk [cI t.Root,cI t.Next,.d (.sl (List.map Node.cs t.Nodes)),.d (.sl (List.map Styled.cs st)),.own 2,.own 3] 119)],0⟩) hr (Conv.mk (tau []) ⟨⟨_,rfl,.inl rfl⟩,⟨_,rfl,.inl rfl⟩,⟨_,rfl,.inl rfl⟩,⟨_,rfl,.inl rfl⟩,⟨_,rfl,.inl rfl⟩,⟨_,rfl,.inl rfl⟩,trivial⟩ ⟨rfl,rfl,rfl,rfl,trivial⟩ rfl rfl rfl rfl) ?_)))))
 clear hr
 intro again12 s11 hr
 unfold nm_read_L2 at hr
 refine Ok.seq (Ok.region (OkOps.y (aB (decide (s11.1 < (x10.length : Int)))) (OkOps.nil (Ok.seq ?_))))
 refine Ok.cond (b:=decide (s11.1 < (x10.length : Int))) rfl (fun h13=>?_) (fun h13=>?_)
 have hr:=selT h13 hr
 refine Ok.skip (Ok.seq (Ok.block (Ok.seq (Ok.region ?_))))
 obtain ⟨x14,hx14,hr⟩:=bind_some hr
 refine OkOps.q (triIdx (enc:=(eInt .i64)) (L:=x10) (row:=[dI x14]) hx14 rfl rfl rfl rfl (fun _=>rfl) trivial rfl) (OkOps.y (aI x14) (OkOps.y (aI x14) (OkOps.nil (Ok.region (OkOps.y (.c (.loc 4 4)) (OkOps.y (.c (.own 2)) (OkOps.y (aI x14) (OkOps.w (triMapUp (ek:=(kInt .i64)) (ev:=eBool) (L:=s11.2) (z:=true) rfl rfl rfl rfl rfl rfl (keyInt Tryz.underlying3) (fun _ _=>rfl) rfl trivial) (OkOps.nil (Ok.region (OkOps.y (aI (IntKind.i64.wrap (s11.1 + 1))) (OkOps.y (aI (IntKind.i64.wrap (s11.1 + 1))) (OkOps.nil ?_)))))))))))))
 exact ⟨(IntKind.i64.wrap (s11.1 + 1),msetL s11.2 x14 true),hr,(Conv.mk (tau []) ⟨⟨_,rfl,.inl rfl⟩,⟨_,rfl,.inl rfl⟩,⟨_,rfl,.inl rfl⟩,⟨_,rfl,.inl rfl⟩,⟨_,rfl,.inl rfl⟩,⟨_,rfl,.inl rfl⟩,trivial⟩ ⟨rfl,rfl,rfl,rfl,trivial⟩ rfl rfl rfl rfl)⟩
 have hr:=selF h13 hr
 refine Ok.exit ?_
 exact ⟨s11.2,hr,(Conv.mk (tau []) ⟨⟨_,rfl,.inl rfl⟩,⟨_,rfl,.inl rfl⟩,⟨_,rfl,.inl rfl⟩,trivial⟩ ⟨rfl,rfl,rfl,rfl,trivial⟩ rfl rfl rfl rfl)⟩
theorem nm_clean_c (p_s : Str) {r : Str} (hr : nm_clean p_s = some r) : Con Tryz.prog 104 [aS p_s] [] (.s (aS r)) []:=by
 unfold nm_clean at hr
 refine Con.of_ok 16 0 [.tmp 2] [(0,.s (aS p_s))] Tryz.func104 rfl rfl rfl rfl rfl rfl rfl rfl fun w g M ρ _=>(Ok.seq (Ok.region (OkOps.y (aS (ByteArray.mk #[])) (OkOps.nil (Ok.seq (Ok.region (OkOps.y (.c (.fn 142 [])) (OkOps.nil (Ok.seq (Ok.region (OkOps.y (aS p_s) (OkOps.y (.c (.fn 142 [])) ?_))))))))))))
 obtain ⟨x1,hx1,hr⟩:=bind_some hr
 refine OkOps.q (triCl (tau []) (.s (.c (.d (.sl (List.map eStr x1))))) [] (strings_FieldsFunc_c _ hx1) rfl ⟨.inl rfl,.inl rfl,trivial⟩ trivial entry144 trivial) ?_
 obtain ⟨x2,hx2,hr⟩:=bind_some hr
 refine OkOps.q (triCl (tau []) (.s (aS x2)) [] (strings_Join_c _ _ hx2) rfl ⟨.inl rfl,.inl rfl,trivial⟩ trivial entry143 trivial) (OkOps.q (triRunes rfl rfl trivial rfl) (OkOps.y (.c (.d (.sl (List.map (eInt .i32) (runes x2))))) (OkOps.nil (Ok.seq (Ok.region (OkOps.y (.c (.d (.sl (List.map (eInt .i32) (runes x2))))) (OkOps.y (.c (.d (.sl (List.map (eInt .i32) (runes x2))))) (OkOps.q (triLen (enc:=(eInt .i32)) (runes x2) rfl rfl trivial rfl) (OkOps.y (aI (mnI ((runes x2).length : Int) 200)) ?_)))))))))
 obtain ⟨x3,hx3,hr⟩:=bind_some hr
 refine OkOps.q (triSlc (enc:=(eInt .i32)) (L:=runes x2) hx3 rfl rfl rfl (.inl ⟨rfl,rfl⟩) (.inr ⟨_,rfl⟩) rfl (fun _=>rfl) trivial rfl) (OkOps.q (triOfRunes (L:=x3) rfl rfl trivial rfl) (OkOps.y (aS (ofRunes x3)) (OkOps.nil (Ok.ret ?_))))
 obtain rfl:=Option.some.inj hr
 exact ⟨_,rfl,.inl rfl,trivial⟩
theorem nm_leaf_c (kind : Int) {r : Bool} (hr : nm_leaf kind = some r) : Con Tryz.prog 176 [aI kind] [] (.s (aB r)) []:=by
 unfold nm_leaf at hr
 refine Con.of_ok 11 0 [.tmp 2] [(0,.s (aI kind))] Tryz.func176 rfl rfl rfl rfl rfl rfl rfl rfl fun w g M ρ _=>(Ok.seq (Ok.region (OkOps.y (aB false) (OkOps.nil (Ok.seq (Ok.seq (Ok.region (OkOps.y (aI kind) (OkOps.nil (Ok.block ?_))))))))))
 obtain ⟨k2,hk2,hr⟩:=jn_some hr
 refine Ok.join (fun (s1 : Bool)=>⟨[(4,.s (aB s1))],[],0⟩) k2 r (fun s1 hr=>?_) ?_
 rw [hk2] at hr
 refine Ok.cond (b:=s1) rfl (fun h3=>?_) (fun h3=>?_)
 have hr:=selT h3 hr
 refine Ok.seq (Ok.region (OkOps.y (aB true) (OkOps.nil (Ok.ret ?_))))
 obtain rfl:=Option.some.inj hr
 exact ⟨_,rfl,.inl rfl,trivial⟩
 have hr:=selF h3 hr
 refine Ok.skip (Ok.seq (Ok.region (OkOps.y (aB false) (OkOps.nil (Ok.ret ?_)))))
 obtain rfl:=Option.some.inj hr
 exact ⟨_,rfl,.inl rfl,trivial⟩
 clear hk2
 refine Ok.seq (Ok.region (OkOps.y (aB (kind == 2)) (OkOps.y (aB (kind == 2)) (OkOps.nil ?_))))
 refine Ok.cond (b:=kind == 2) rfl (fun h4=>?_) (fun h4=>?_)
 have hr:=selT h4 hr
 refine Ok.skip ?_
 exact ⟨kind == 2,hr,(Conv.mk (tau []) ⟨⟨_,rfl,.inl rfl⟩,trivial⟩ trivial rfl rfl rfl rfl)⟩
 have hr:=selF h4 hr
 refine Ok.seq (Ok.region (OkOps.y (aB (kind == 4)) (OkOps.y (aB (kind == 4)) (OkOps.nil ?_))))
 refine Ok.cond (b:=kind == 4) rfl (fun h5=>?_) (fun h5=>?_)
 have hr:=selT h5 hr
 refine Ok.skip ?_
 exact ⟨kind == 4,hr,(Conv.mk (tau []) ⟨⟨_,rfl,.inl rfl⟩,trivial⟩ trivial rfl rfl rfl rfl)⟩
 have hr:=selF h5 hr
 refine Ok.seq (Ok.region (OkOps.y (aB (kind == 7)) (OkOps.y (aB (kind == 7)) (OkOps.nil ?_))))
 refine Ok.cond (b:=kind == 7) rfl (fun h6=>?_) (fun h6=>?_)
 have hr:=selT h6 hr
 refine Ok.skip ?_
 exact ⟨kind == 7,hr,(Conv.mk (tau []) ⟨⟨_,rfl,.inl rfl⟩,trivial⟩ trivial rfl rfl rfl rfl)⟩
 have hr:=selF h6 hr
 refine Ok.seq (Ok.region (OkOps.y (aB (kind == 9)) (OkOps.y (aB (kind == 9)) (OkOps.nil ?_))))
 refine Ok.cond (b:=kind == 9) rfl (fun h7=>?_) (fun h7=>?_)
 have hr:=selT h7 hr
 refine Ok.skip ?_
 exact ⟨kind == 9,hr,(Conv.mk (tau []) ⟨⟨_,rfl,.inl rfl⟩,trivial⟩ trivial rfl rfl rfl rfl)⟩
 have hr:=selF h7 hr
 refine Ok.seq (Ok.region (OkOps.y (aB (kind == 5)) (OkOps.y (aB (kind == 5)) (OkOps.nil ?_))))
 refine Ok.cond (b:=kind == 5) rfl (fun h8=>?_) (fun h8=>?_)
 have hr:=selT h8 hr
 refine Ok.skip ?_
 exact ⟨kind == 5,hr,(Conv.mk (tau []) ⟨⟨_,rfl,.inl rfl⟩,trivial⟩ trivial rfl rfl rfl rfl)⟩
 have hr:=selF h8 hr
 refine Ok.region (OkOps.y (aB (kind == 13)) (OkOps.y (aB (kind == 13)) (OkOps.nil ?_)))
 exact ⟨kind == 13,hr,(Conv.mk (tau []) ⟨⟨_,rfl,.inl rfl⟩,trivial⟩ trivial rfl rfl rfl rfl)⟩
theorem nm_named_c (role : Int) {r : Bool} (hr : nm_named role = some r) : Con Tryz.prog 108 [aI role] [] (.s (aB r)) []:=by
 unfold nm_named at hr
 refine Con.of_ok 11 0 [.tmp 2] [(0,.s (aI role))] Tryz.func108 rfl rfl rfl rfl rfl rfl rfl rfl fun w g M ρ _=>(Ok.seq (Ok.region (OkOps.y (aB false) (OkOps.nil (Ok.seq (Ok.seq (Ok.region (OkOps.y (aI role) (OkOps.nil (Ok.block ?_))))))))))
 obtain ⟨k2,hk2,hr⟩:=jn_some hr
 refine Ok.join (fun (s1 : Bool)=>⟨[(4,.s (aB s1))],[],0⟩) k2 r (fun s1 hr=>?_) ?_
 rw [hk2] at hr
 refine Ok.cond (b:=s1) rfl (fun h3=>?_) (fun h3=>?_)
 have hr:=selT h3 hr
 refine Ok.seq (Ok.region (OkOps.y (aB true) (OkOps.nil (Ok.ret ?_))))
 obtain rfl:=Option.some.inj hr
 exact ⟨_,rfl,.inl rfl,trivial⟩
 have hr:=selF h3 hr
 refine Ok.skip (Ok.seq (Ok.region (OkOps.y (aB false) (OkOps.nil (Ok.ret ?_)))))
 obtain rfl:=Option.some.inj hr
 exact ⟨_,rfl,.inl rfl,trivial⟩
 clear hk2
 refine Ok.seq (Ok.region (OkOps.y (aB (role == 4)) (OkOps.y (aB (role == 4)) (OkOps.nil ?_))))
 refine Ok.cond (b:=role == 4) rfl (fun h4=>?_) (fun h4=>?_)
 have hr:=selT h4 hr
 refine Ok.skip ?_
 exact ⟨role == 4,hr,(Conv.mk (tau []) ⟨⟨_,rfl,.inl rfl⟩,trivial⟩ trivial rfl rfl rfl rfl)⟩
 have hr:=selF h4 hr
 refine Ok.seq (Ok.region (OkOps.y (aB (role == 7)) (OkOps.y (aB (role == 7)) (OkOps.nil ?_))))
 refine Ok.cond (b:=role == 7) rfl (fun h5=>?_) (fun h5=>?_)
 have hr:=selT h5 hr
 refine Ok.skip ?_
 exact ⟨role == 7,hr,(Conv.mk (tau []) ⟨⟨_,rfl,.inl rfl⟩,trivial⟩ trivial rfl rfl rfl rfl)⟩
 have hr:=selF h5 hr
 refine Ok.seq (Ok.region (OkOps.y (aB (role == 8)) (OkOps.y (aB (role == 8)) (OkOps.nil ?_))))
 refine Ok.cond (b:=role == 8) rfl (fun h6=>?_) (fun h6=>?_)
 have hr:=selT h6 hr
 refine Ok.skip ?_
 exact ⟨role == 8,hr,(Conv.mk (tau []) ⟨⟨_,rfl,.inl rfl⟩,trivial⟩ trivial rfl rfl rfl rfl)⟩
 have hr:=selF h6 hr
 refine Ok.seq (Ok.region (OkOps.y (aB (role == 10)) (OkOps.y (aB (role == 10)) (OkOps.nil ?_))))
 refine Ok.cond (b:=role == 10) rfl (fun h7=>?_) (fun h7=>?_)
 have hr:=selT h7 hr
 refine Ok.skip ?_
 exact ⟨role == 10,hr,(Conv.mk (tau []) ⟨⟨_,rfl,.inl rfl⟩,trivial⟩ trivial rfl rfl rfl rfl)⟩
 have hr:=selF h7 hr
 refine Ok.seq (Ok.region (OkOps.y (aB (role == 12)) (OkOps.y (aB (role == 12)) (OkOps.nil ?_))))
 refine Ok.cond (b:=role == 12) rfl (fun h8=>?_) (fun h8=>?_)
 have hr:=selT h8 hr
 refine Ok.skip ?_
 exact ⟨role == 12,hr,(Conv.mk (tau []) ⟨⟨_,rfl,.inl rfl⟩,trivial⟩ trivial rfl rfl rfl rfl)⟩
 have hr:=selF h8 hr
 refine Ok.region (OkOps.y (aB (role == 3)) (OkOps.y (aB (role == 3)) (OkOps.nil ?_)))
 exact ⟨role == 3,hr,(Conv.mk (tau []) ⟨⟨_,rfl,.inl rfl⟩,trivial⟩ trivial rfl rfl rfl rfl)⟩
theorem nm_join_1_c (p_s : Str) {r : Bool} (hr : nm_join_1 p_s = some r) : Con Tryz.prog 179 [aS p_s] [] (.s (aB r)) []:=by
 unfold nm_join_1 at hr
 refine Con.of_ok 5 0 [.tmp 2] [(0,.s (aS p_s))] Tryz.func179 rfl rfl rfl rfl rfl rfl rfl rfl fun w g M ρ _=>(Ok.seq (Ok.region (OkOps.y (aB false) (OkOps.nil (Ok.seq (Ok.region (OkOps.y (aS p_s) (OkOps.y (aB (p_s.toList == (ByteArray.mk #[]).toList)) (OkOps.y (aB (p_s.toList == (ByteArray.mk #[]).toList)) (OkOps.nil (Ok.ret ?_)))))))))))
 obtain rfl:=Option.some.inj hr
 exact ⟨_,rfl,.inl rfl,trivial⟩
theorem sl_IndexFunc_str_c (p_s : (List Str)) {r : Int × (List Str)} (hr : sl_IndexFunc_str p_s = some r) : Con Tryz.prog 190 [.c (.own 0),.c (.fn 179 [])] [(0,.vec 1 (List.map eStr p_s))] (.s (aI r.1)) [(0,.vec 1 (List.map eStr r.2))]:=by
 unfold sl_IndexFunc_str at hr
 refine Con.of_ok 19 0 [.tmp 4] [(0,.s (.c (.own 0))),(1,.s (.c (.fn 179 [])))] Tryz.func190 rfl rfl rfl rfl rfl rfl rfl rfl fun w g M ρ _=>(Ok.seq (Ok.region (OkOps.y (aI 0) (OkOps.nil ?_))))
 obtain ⟨k2,hk2,hr⟩:=jn_some hr
 refine Ok.join (fun (s1 : Unit)=>⟨[],[(0,.vec 1 (List.map eStr p_s))],0⟩) k2 r (fun s1 hr=>?_) ?_
 rw [hk2] at hr
 refine Ok.seq (Ok.region (OkOps.y (aI (-1)) (OkOps.nil (Ok.ret ?_))))
 obtain rfl:=Option.some.inj hr
 exact ⟨_,rfl,.inl rfl,⟨rfl,trivial⟩⟩
 clear hk2
 refine Ok.seq (Ok.region (OkOps.y (.c (.own 0)) (OkOps.q (triLenV (enc:=eStr) p_s rfl rfl rfl rfl) (OkOps.y (aI 0) (OkOps.nil (Ok.block (Ok.loopK (fun (s3 : Int)=>⟨[(0,.s (.c (.own 0))),(1,.s (.c (.fn 179 []))),(7,.s (aI (p_s.length : Int))),(8,.s (aI s3))],[(0,.vec 1 (List.map eStr p_s))],0⟩) hr (Conv.mk (tau []) ⟨⟨_,rfl,.inl rfl⟩,⟨_,rfl,.inl rfl⟩,⟨_,rfl,.inl rfl⟩,⟨_,rfl,.inl rfl⟩,trivial⟩ ⟨rfl,trivial⟩ rfl rfl rfl rfl) ?_)))))))
 clear hr
 intro again4 s3 hr
 unfold sl_IndexFunc_str_L1 at hr
 refine Ok.seq (Ok.region (OkOps.y (aB (decide (s3 < (p_s.length : Int)))) (OkOps.nil (Ok.seq ?_))))
 refine Ok.cond (b:=decide (s3 < (p_s.length : Int))) rfl (fun h5=>?_) (fun h5=>?_)
 have hr:=selT h5 hr
 refine Ok.skip (Ok.seq (Ok.block (Ok.seq (Ok.region (OkOps.y (aI s3) (OkOps.y (aI s3) (OkOps.nil (Ok.seq (Ok.region (OkOps.y (.c (.fn 179 [])) (OkOps.y (.c (.own 0)) (OkOps.y (aI s3) ?_))))))))))))
 obtain ⟨x6,hx6,hr⟩:=bind_some hr
 refine OkOps.q (triIdxV (enc:=eStr) (L:=p_s) hx6 rfl rfl rfl rfl trivial rfl) ?_
 obtain ⟨x7,hx7,hr⟩:=bind_some hr
 refine OkOps.q (triLoadV (enc:=eStr) (L:=p_s) (row:=[dS x7]) (r:=aS x7) hx7 rfl rfl rfl (fun _=>rfl) rfl  rfl) ?_
 obtain ⟨x8,hx8,hr⟩:=bind_some hr
 refine OkOps.q (triCallF (caps:=[]) (tau []) (.s (aB x8)) [] rfl (nm_join_1_c _ hx8) rfl ⟨.inl rfl,trivial⟩ trivial entry179 trivial rfl rfl rfl rfl trivial rfl rfl rfl) (OkOps.nil ?_)
 refine Ok.cond (b:=x8) rfl (fun h9=>?_) (fun h9=>?_)
 have hr:=selT h9 hr
 refine Ok.seq (Ok.region (OkOps.y (aI s3) (OkOps.y (aI s3) (OkOps.nil (Ok.ret ?_)))))
 obtain rfl:=Option.some.inj hr
 exact ⟨_,rfl,.inl rfl,⟨rfl,trivial⟩⟩
 have hr:=selF h9 hr
 refine Ok.skip (Ok.region (OkOps.y (aI (IntKind.i64.wrap (s3 + 1))) (OkOps.y (aI (IntKind.i64.wrap (s3 + 1))) (OkOps.nil ?_))))
 exact ⟨IntKind.i64.wrap (s3 + 1),hr,(Conv.mk (tau []) ⟨⟨_,rfl,.inl rfl⟩,⟨_,rfl,.inl rfl⟩,⟨_,rfl,.inl rfl⟩,⟨_,rfl,.inl rfl⟩,trivial⟩ ⟨rfl,trivial⟩ rfl rfl rfl rfl)⟩
 have hr:=selF h5 hr
 refine Ok.exit ?_
 exact ⟨(),hr,(Conv.mk (tau []) trivial ⟨rfl,trivial⟩ rfl rfl rfl rfl)⟩
theorem sl_DeleteFunc_str_c (p_s : (List Str)) {r : (List Str)} (hr : sl_DeleteFunc_str p_s = some r) : Con Tryz.prog 178 [.c (.own 0),.c (.fn 179 [])] [(0,.vec 1 (List.map eStr p_s))] (.s (.c (.tl 2000 (List.map eStr r)))) [(0,.dead),(2000,.tail 1)]:=by
 unfold sl_DeleteFunc_str at hr
 refine Con.of_ok 42 0 [.tmp 4] [(0,.s (.c (.own 0))),(1,.s (.c (.fn 179 [])))] Tryz.func178 rfl rfl rfl rfl rfl rfl rfl rfl fun w g M ρ _=>(Ok.seq (Ok.region (OkOps.y (.c (.d (.v (.slice none 0 0)))) (OkOps.nil (Ok.seq (Ok.region (OkOps.y (.c (.own 0)) (OkOps.y (.c (.fn 179 [])) ?_))))))))
 obtain ⟨x1,hx1,hr⟩:=bind_some hr
 refine OkOps.m 0 (triCl (tau [(0,0)]) (.s (aI x1.1)) [(0,.vec 1 (List.map eStr x1.2))] (sl_IndexFunc_str_c _ hx1) rfl ⟨.inl rfl,.inl rfl,trivial⟩ trivial entry190 ⟨rfl,trivial⟩) (OkOps.y (aI x1.1) (OkOps.nil (Ok.seq (Ok.seq (Ok.region (OkOps.y (aI x1.1) (OkOps.y (aB (x1.1 == (-1))) (OkOps.nil ?_))))))))
 refine Ok.cond (b:=x1.1 == (-1)) rfl (fun h2=>?_) (fun h2=>?_)
 have hr:=selT h2 hr
 refine Ok.seq (Ok.region (OkOps.y (.c (.own 0)) (OkOps.y (.c (.own 0)) (OkOps.nil (Ok.conv (Conv.freeze (enc:=eStr) (L:=x1.2) [0,4,8,13] 0 1 1 0 ⟨rfl,rfl,rfl,rfl,trivial⟩ rfl (fun _=>rfl) rfl) (Ok.conv (T:=⟨[(4,.s (.c (.tl 2000 (List.map eStr x1.2))))],[(0,.dead),(2000,.tail 1)],0⟩) (Conv.mk (tau [(2000,1)]) ⟨⟨_,rfl,.inl rfl⟩,trivial⟩ ⟨rfl,trivial⟩ rfl rfl rfl rfl) (Ok.ret ?_)))))))
 obtain rfl:=Option.some.inj hr
 exact ⟨_,rfl,.inl rfl,⟨(fun h=>by cases h),rfl,trivial⟩⟩
 have hr:=selF h2 hr
 refine Ok.skip ?_
 obtain ⟨k4,hk4,hr⟩:=jn_some hr
 refine Ok.join (fun (s3 : Int × (List Str))=>⟨[(0,.s (.c (.own 0))),(5,.s (aI s3.1))],[(0,.vec 1 (List.map eStr s3.2))],0⟩) k4 r (fun s3 hr=>?_) ?_
 rw [hk4] at hr
 refine Ok.seq (Ok.region (OkOps.y (.c (.own 0)) (OkOps.y (aI s3.1) ?_)))
 obtain ⟨x5,hx5,hr⟩:=bind_some hr
 refine OkOps.clrV (enc:=eStr) (L:=s3.2) ByteArray.empty hx5 rfl rfl rfl rfl rfl rfl rfl (fun _=>rfl) trivial rfl rfl (OkOps.nil (Ok.seq (Ok.region (OkOps.y (.c (.own 0)) (OkOps.y (aI s3.1) ?_)))))
 obtain ⟨x6,hx6,hr⟩:=bind_some hr
 refine OkOps.m2 0 (triSlcV (enc:=eStr) (L:=List.take x5 s3.2 ++ List.replicate (s3.2.length - x5) ByteArray.empty) (j:=0) (j':=2) hx6 rfl rfl rfl rfl (fun _=>rfl) trivial rfl rfl) (OkOps.y (.c (.tl 2 (List.map eStr (List.take x6 (List.take x5 s3.2 ++ List.replicate (s3.2.length - x5) ByteArray.empty))))) (OkOps.nil (Ok.conv (T:=⟨[(4,.s (.c (.tl 2000 (List.map eStr (List.take x6 (List.take x5 s3.2 ++ List.replicate (s3.2.length - x5) ByteArray.empty))))))],[(0,.dead),(2000,.tail 1)],0⟩) (Conv.mk (tau [(2000,2)]) ⟨⟨_,rfl,.inl rfl⟩,trivial⟩ ⟨rfl,trivial⟩ rfl rfl rfl rfl) (Ok.ret ?_))))
 obtain rfl:=Option.some.inj hr
 exact ⟨_,rfl,.inl rfl,⟨(fun h=>by cases h),rfl,trivial⟩⟩
 clear hk4
 refine Ok.seq (Ok.region (OkOps.y (aI x1.1) (OkOps.y (aI (IntKind.i64.wrap (x1.1 + 1))) (OkOps.y (aI (IntKind.i64.wrap (x1.1 + 1))) (OkOps.nil (Ok.block (Ok.loopK (fun (s7 : Int × Int × (List Str))=>⟨[(0,.s (.c (.own 0))),(1,.s (.c (.fn 179 []))),(5,.s (aI s7.1)),(6,.s (aI s7.2.1))],[(0,.vec 1 (List.map eStr s7.2.2))],0⟩) hr (Conv.mk (tau []) ⟨⟨_,rfl,.inl rfl⟩,⟨_,rfl,.inl rfl⟩,⟨_,rfl,.inl rfl⟩,⟨_,rfl,.inl rfl⟩,trivial⟩ ⟨rfl,trivial⟩ rfl rfl rfl rfl) ?_)))))))
 clear hr
 intro again8 s7 hr
 unfold sl_DeleteFunc_str_L1 at hr
 refine Ok.seq (Ok.seq (Ok.region (OkOps.y (aI s7.2.1) (OkOps.y (.c (.own 0)) (OkOps.q (triLenV (enc:=eStr) s7.2.2 rfl rfl rfl rfl) (OkOps.y (aB (decide (s7.2.1 < (s7.2.2.length : Int)))) (OkOps.nil ?_)))))))
 refine Ok.cond (b:=decide (s7.2.1 < (s7.2.2.length : Int))) rfl (fun h9=>?_) (fun h9=>?_)
 have hr:=selT h9 hr
 refine Ok.skip ?_
 obtain ⟨k11,hk11,hr⟩:=jn_some hr
 refine Ok.join (fun (s10 : Int × (List Str))=>⟨[(0,.s (.c (.own 0))),(1,.s (.c (.fn 179 []))),(5,.s (aI s10.1)),(6,.s (aI s7.2.1))],[(0,.vec 1 (List.map eStr s10.2))],0⟩) k11 r (fun s10 hr=>?_) ?_
 rw [hk11] at hr
 refine Ok.region (OkOps.y (aI s7.2.1) (OkOps.y (aI (IntKind.i64.wrap (s7.2.1 + 1))) (OkOps.y (aI (IntKind.i64.wrap (s7.2.1 + 1))) (OkOps.nil ?_))))
 exact ⟨(s10.1,IntKind.i64.wrap (s7.2.1 + 1),s10.2),hr,(Conv.mk (tau []) ⟨⟨_,rfl,.inl rfl⟩,⟨_,rfl,.inl rfl⟩,⟨_,rfl,.inl rfl⟩,⟨_,rfl,.inl rfl⟩,trivial⟩ ⟨rfl,trivial⟩ rfl rfl rfl rfl)⟩
 clear hk11
 refine Ok.block (Ok.seq (Ok.region (OkOps.y (.c (.own 0)) (OkOps.y (aI s7.2.1) ?_))))
 obtain ⟨x12,hx12,hr⟩:=bind_some hr
 refine OkOps.q (triIdxV (enc:=eStr) (L:=s7.2.2) hx12 rfl rfl rfl rfl trivial rfl) ?_
 obtain ⟨x13,hx13,hr⟩:=bind_some hr
 refine OkOps.q (triLoadV (enc:=eStr) (L:=s7.2.2) (row:=[dS x13]) (r:=aS x13) hx13 rfl rfl rfl (fun _=>rfl) rfl  rfl) (OkOps.y (aS x13) (OkOps.nil (Ok.seq (Ok.region (OkOps.y (.c (.fn 179 [])) (OkOps.y (aS x13) ?_))))))
 obtain ⟨x14,hx14,hr⟩:=bind_some hr
 refine OkOps.q (triCallF (caps:=[]) (tau []) (.s (aB x14)) [] rfl (nm_join_1_c _ hx14) rfl ⟨.inl rfl,trivial⟩ trivial entry179 trivial rfl rfl rfl rfl trivial rfl rfl rfl) (OkOps.y (aB (!x14)) (OkOps.nil ?_))
 refine Ok.cond (b:=!x14) rfl (fun h15=>?_) (fun h15=>?_)
 have hr:=selT h15 hr
 refine Ok.seq (Ok.region (OkOps.y (.c (.own 0)) (OkOps.y (aI s7.1) (OkOps.y (aS x13) ?_))))
 obtain ⟨x16,hx16,hr⟩:=bind_some hr
 refine OkOps.q (triIdxV (enc:=eStr) (L:=s7.2.2) hx16 rfl rfl rfl rfl trivial rfl) (OkOps.w (triStoreV (enc:=eStr) (L:=s7.2.2) x13 (.inr (ixO_spec hx16).2) rfl rfl rfl rfl rfl rfl (fun _=>rfl) rfl) (OkOps.nil (Ok.region (OkOps.y (aI s7.1) (OkOps.y (aI (IntKind.i64.wrap (s7.1 + 1))) (OkOps.y (aI (IntKind.i64.wrap (s7.1 + 1))) (OkOps.nil ?_)))))))
 exact ⟨(IntKind.i64.wrap (s7.1 + 1),List.set s7.2.2 x16 x13),hr,(Conv.mk (tau []) ⟨⟨_,rfl,.inl rfl⟩,⟨_,rfl,.inl rfl⟩,⟨_,rfl,.inl rfl⟩,⟨_,rfl,.inl rfl⟩,trivial⟩ ⟨rfl,trivial⟩ rfl rfl rfl rfl)⟩
 have hr:=selF h15 hr
 refine Ok.skip ?_
 exact ⟨(s7.1,s7.2.2),hr,(Conv.mk (tau []) ⟨⟨_,rfl,.inl rfl⟩,⟨_,rfl,.inl rfl⟩,⟨_,rfl,.inl rfl⟩,⟨_,rfl,.inl rfl⟩,trivial⟩ ⟨rfl,trivial⟩ rfl rfl rfl rfl)⟩
 have hr:=selF h9 hr
 refine Ok.exit ?_
 exact ⟨(s7.1,s7.2.2),hr,(Conv.mk (tau []) ⟨⟨_,rfl,.inl rfl⟩,⟨_,rfl,.inl rfl⟩,trivial⟩ ⟨rfl,trivial⟩ rfl rfl rfl rfl)⟩
theorem nm_join_c (l : (List Str)) {r : Str} (hr : nm_join l = some r) : Con Tryz.prog 146 [.c (.own 0)] [(0,.vec 1 (List.map eStr l))] (.s (aS r)) [(0,.dead)]:=by
 unfold nm_join at hr
 refine Con.of_ok 6 0 [.tmp 2] [(0,.s (.c (.own 0)))] Tryz.func146 rfl rfl rfl rfl rfl rfl rfl rfl fun w g M ρ _=>(Ok.seq (Ok.region (OkOps.y (aS (ByteArray.mk #[])) (OkOps.nil (Ok.seq (Ok.region (OkOps.y (.c (.own 0)) ?_)))))))
 obtain ⟨x1,hx1,hr⟩:=bind_some hr
 refine OkOps.m2 0 (triCall (tau [(0,0),(2000,1)]) (.s (.c (.tl 1 (List.map eStr x1)))) [(0,.dead),(1,.tail 1)] (sl_DeleteFunc_str_c _ hx1) rfl ⟨.inl rfl,.inl rfl,trivial⟩ trivial entry178 ⟨rfl,trivial⟩ rfl rfl rfl rfl ⟨rfl,trivial⟩ rfl rfl rfl) ?_
 obtain ⟨x2,hx2,hr⟩:=bind_some hr
 refine OkOps.q (triCl (tau []) (.s (aS x2)) [] (strings_Join_c _ _ hx2) rfl ⟨.inr rfl,.inl rfl,trivial⟩ trivial entry143 trivial) (OkOps.y (aS x2) (OkOps.nil (Ok.conv (T:=⟨[(2,.s (aS x2))],[(0,.dead)],0⟩) (Conv.mk (tau []) ⟨⟨_,rfl,.inl rfl⟩,trivial⟩ trivial rfl rfl rfl rfl) (Ok.ret ?_))))
 obtain rfl:=Option.some.inj hr
 exact ⟨_,rfl,.inl rfl,⟨(fun h=>by cases h),trivial⟩⟩
theorem nm_speaker_content_B_c (self0 : name_speaker → Int → Option Str) (self1 : name_speaker → (List Int) → Option Str) (_hself0 : ∀ (p_s : name_speaker) (id : Int) {r : Str},self0 p_s id = some r → Con Tryz.prog 145 [.agg [cI p_s.t.Root,cI p_s.t.Next,.d (.sl (List.map Node.cs p_s.t.Nodes)),.d (.sl (List.map Styled.cs p_s.st)),.d (.mp false (encM (kInt .i64) eBool p_s.shown)),.d (.mp false (encM (kInt .i64) eBool p_s.visible))],aI id] [] (.s (aS r)) []) (hself1 : ∀ (p_s : name_speaker) (l : (List Int)) {r : Str},self1 p_s l = some r → Con Tryz.prog 105 [.agg [cI p_s.t.Root,cI p_s.t.Next,.d (.sl (List.map Node.cs p_s.t.Nodes)),.d (.sl (List.map Styled.cs p_s.st)),.d (.mp false (encM (kInt .i64) eBool p_s.shown)),.d (.mp false (encM (kInt .i64) eBool p_s.visible))],.c (.d (.sl (List.map (eInt .i64) l)))] [] (.s (aS r)) []) (p_s : name_speaker) (id : Int) {r : Str} (hr : nm_speaker_content_B self0 self1 p_s id = some r) : Con Tryz.prog 145 [.agg [cI p_s.t.Root,cI p_s.t.Next,.d (.sl (List.map Node.cs p_s.t.Nodes)),.d (.sl (List.map Styled.cs p_s.st)),.d (.mp false (encM (kInt .i64) eBool p_s.shown)),.d (.mp false (encM (kInt .i64) eBool p_s.visible))],aI id] [] (.s (aS r)) []:=by
 unfold nm_speaker_content_B at hr
 refine Con.of_ok 61 0 [.tmp 4] [(0,.s (.agg [cI p_s.t.Root,cI p_s.t.Next,.d (.sl (List.map Node.cs p_s.t.Nodes)),.d (.sl (List.map Styled.cs p_s.st)),.d (.mp false (encM (kInt .i64) eBool p_s.shown)),.d (.mp false (encM (kInt .i64) eBool p_s.visible))])),(1,.s (aI id))] Tryz.func145 rfl rfl rfl rfl rfl rfl rfl rfl fun w g M ρ _=>(Ok.seq (Ok.region (OkOps.m 0 (triBox (j:=0) (cs:=[cI p_s.t.Root,cI p_s.t.Next,.d (.sl (List.map Node.cs p_s.t.Nodes)),.d (.sl (List.map Styled.cs p_s.st)),.d (.mp false (encM (kInt .i64) eBool p_s.shown)),.d (.mp false (encM (kInt .i64) eBool p_s.visible))]) rfl rfl rfl rfl rfl) (OkOps.y (aS (ByteArray.mk #[])) (OkOps.nil (Ok.seq (Ok.region (OkOps.y (.c (.loc 0 0)) (OkOps.y (.agg [cI p_s.t.Root,cI p_s.t.Next,.d (.sl (List.map Node.cs p_s.t.Nodes))]) (OkOps.y (aI id) ?_))))))))))
 obtain ⟨x1,hx1,hr⟩:=bind_some hr
 refine OkOps.q (triCl (tau []) (.tup [.agg [cI x1.1.ID,cI x1.1.Parent,cI x1.1.Kind,cS x1.1.Key,.d (.sl (List.map Attr.cs x1.1.Attrs)),.d (.sl (List.map Action.cs x1.1.Actions)),.d (.sl (List.map (eInt .i64) x1.1.Kids))],aB x1.2]) [] (vw_Find_c _ _ hx1) rfl ⟨.inl rfl,.inl rfl,trivial⟩ trivial entry36 trivial) (OkOps.q (triMv (v:=.tup [.agg [cI x1.1.ID,cI x1.1.Parent,cI x1.1.Kind,cS x1.1.Key,.d (.sl (List.map Attr.cs x1.1.Attrs)),.d (.sl (List.map Action.cs x1.1.Actions)),.d (.sl (List.map (eInt .i64) x1.1.Kids))],aB x1.2]) rfl rfl) (OkOps.y (.agg [cI x1.1.ID,cI x1.1.Parent,cI x1.1.Kind,cS x1.1.Key,.d (.sl (List.map Attr.cs x1.1.Attrs)),.d (.sl (List.map Action.cs x1.1.Actions)),.d (.sl (List.map (eInt .i64) x1.1.Kids))]) (OkOps.y (aB x1.2) (OkOps.m 0 (triAlloc (j:=1) (cs:=[cI 0,cI 0,cI 0,cS ByteArray.empty,.d (.v (.slice none 0 0)),.d (.v (.slice none 0 0)),.d (.v (.slice none 0 0))]) rfl rfl rfl rfl) (OkOps.w (triStore (cs':=[cI x1.1.ID,cI x1.1.Parent,cI x1.1.Kind,cS x1.1.Key,.d (.sl (List.map Attr.cs x1.1.Attrs)),.d (.sl (List.map Action.cs x1.1.Actions)),.d (.sl (List.map (eInt .i64) x1.1.Kids))]) rfl rfl rfl rfl rfl rfl rfl rfl rfl) (OkOps.y (aB x1.2) (OkOps.nil (Ok.seq (Ok.seq (Ok.region (OkOps.y (.c (.loc 0 4)) (OkOps.y (.c (.d (.mp false (encM (kInt .i64) eBool p_s.shown)))) (OkOps.y (aI id) ?_)))))))))))))
 obtain ⟨x2,hx2,hr⟩:=bind_some hr
 refine OkOps.q (triLook (agg:=false) (ek:=(kInt .i64)) (ev:=eBool) (L:=p_s.shown) (r:=aB x2.1) hx2 rfl rfl rfl (keyInt Tryz.underlying3) rfl rfl (fun _ _=>rfl) rfl trivial rfl) (OkOps.y (aB (!x2.1)) (OkOps.y (aB (!x2.1)) (OkOps.q (triQG (x:=.c (.loc 1 2)) rfl rfl trivial rfl) (OkOps.q (triQG (x:=aI x1.1.Kind) rfl rfl ⟨fun h=>h,trivial⟩ rfl) ?_))))
 obtain ⟨x3,hx3,hr⟩:=bind_some hr
 refine OkOps.q (triCallG (x:=aB x3) (fun hg=>nm_leaf_c _ (gO_t hx3 hg)) rfl rfl ⟨.inl rfl,trivial⟩ ⟨fun h=>h,trivial⟩ entry176 rfl rfl rfl) (OkOps.q (triQG (x:=aB x3) rfl rfl ⟨fun h=>h,trivial⟩ rfl) (OkOps.q (triQG (x:=.c (.loc 0 5)) rfl rfl trivial rfl) (OkOps.q (triQG (x:=.c (.d (.mp false (encM (kInt .i64) eBool p_s.visible)))) rfl rfl ⟨fun h=>h,trivial⟩ rfl) (OkOps.q (triQG (x:=aI id) rfl rfl trivial rfl) ?_))))
 obtain ⟨x4,hx4,hr⟩:=bind_some hr
 refine OkOps.q (triLookG (agg:=false) (ek:=(kInt .i64)) (ev:=eBool) (L:=p_s.visible) (r:=aB x4.1) (gO_t hx4) rfl rfl rfl rfl (keyInt Tryz.underlying3) rfl rfl (fun _ _=>rfl) rfl ⟨fun h=>h,⟨fun h=>h,trivial⟩⟩ rfl) (OkOps.q (triQG (x:=aB (!x4.1)) rfl rfl ⟨fun h=>h,trivial⟩ rfl) ?_)
 refine OkOps.q (triAndG rfl rfl rfl (fun h=>h) (fun h h2=>by rw [h,h2];rfl) rfl) ?_
 refine OkOps.q (triOr rfl rfl (fun h=>by rw [h];rfl) rfl) ?_
 refine OkOps.nil ?_
 refine Ok.cond (b:=(!x2.1) || (x3 && (!x4.1))) rfl (fun h5=>?_) (fun h5=>?_)
 have hr:=selT h5 hr
 refine Ok.seq (Ok.region (OkOps.y (aS (ByteArray.mk #[])) (OkOps.nil (Ok.ret ?_))))
 obtain rfl:=Option.some.inj hr
 exact ⟨_,rfl,.inl rfl,trivial⟩
 have hr:=selF h5 hr
 refine Ok.skip (Ok.seq (Ok.seq (Ok.region (OkOps.y (.c (.loc 1 4)) (OkOps.y (.c (.d (.sl (List.map Attr.cs x1.1.Attrs)))) ?_)))))
 obtain ⟨x6,hx6,hr⟩:=bind_some hr
 refine OkOps.q (triCl (tau []) (.s (aS x6)) [] (vw_Text_c _ _ hx6) rfl ⟨.inl rfl,.inl rfl,trivial⟩ trivial entry107 trivial) ?_
 obtain ⟨x7,hx7,hr⟩:=bind_some hr
 refine OkOps.q (triCl (tau []) (.s (aS x7)) [] (nm_clean_c _ hx7) rfl ⟨.inl rfl,trivial⟩ trivial entry104 trivial) (OkOps.y (aS x7) (OkOps.nil (Ok.seq (Ok.region (OkOps.y (aS x7) (OkOps.y (aB (!(x7.toList == (ByteArray.mk #[]).toList))) (OkOps.nil ?_)))))))
 refine Ok.cond (b:=!(x7.toList == (ByteArray.mk #[]).toList)) rfl (fun h8=>?_) (fun h8=>?_)
 have hr:=selT h8 hr
 refine Ok.seq (Ok.region (OkOps.y (aS x7) (OkOps.y (aS x7) (OkOps.nil (Ok.ret ?_)))))
 obtain rfl:=Option.some.inj hr
 exact ⟨_,rfl,.inl rfl,trivial⟩
 have hr:=selF h8 hr
 refine Ok.skip (Ok.seq (Ok.seq (Ok.region (OkOps.y (.c (.loc 1 2)) (OkOps.y (aI x1.1.Kind) (OkOps.nil (Ok.block ?_)))))))
 obtain ⟨k10,hk10,hr⟩:=jn_some hr
 refine Ok.join (fun (s9 : Bool)=>⟨[(2,.s (.c (.loc 0 0))),(5,.s (.c (.loc 1 0))),(40,.s (aI x1.1.Kind)),(41,.s (aB s9))],[(0,.blk [cI p_s.t.Root,cI p_s.t.Next,.d (.sl (List.map Node.cs p_s.t.Nodes)),.d (.sl (List.map Styled.cs p_s.st)),.d (.mp false (encM (kInt .i64) eBool p_s.shown)),.d (.mp false (encM (kInt .i64) eBool p_s.visible))] 119),(1,.blk [cI x1.1.ID,cI x1.1.Parent,cI x1.1.Kind,cS x1.1.Key,.d (.sl (List.map Attr.cs x1.1.Attrs)),.d (.sl (List.map Action.cs x1.1.Actions)),.d (.sl (List.map (eInt .i64) x1.1.Kids))] 61)],0⟩) k10 r (fun s9 hr=>?_) ?_
 rw [hk10] at hr
 refine Ok.cond (b:=s9) rfl (fun h11=>?_) (fun h11=>?_)
 have hr:=selT h11 hr
 refine Ok.seq (Ok.region (OkOps.y (.c (.loc 1 4)) (OkOps.y (.c (.d (.sl (List.map Attr.cs x1.1.Attrs)))) ?_)))
 obtain ⟨x12,hx12,hr⟩:=bind_some hr
 refine OkOps.q (triCl (tau []) (.s (aS x12)) [] (vw_Text_c _ _ hx12) rfl ⟨.inl rfl,.inl rfl,trivial⟩ trivial entry107 trivial) ?_
 obtain ⟨x13,hx13,hr⟩:=bind_some hr
 refine OkOps.q (triCl (tau []) (.s (aS x13)) [] (nm_clean_c _ hx13) rfl ⟨.inl rfl,trivial⟩ trivial entry104 trivial) (OkOps.y (aS x13) (OkOps.nil (Ok.ret ?_)))
 obtain rfl:=Option.some.inj hr
 exact ⟨_,rfl,.inl rfl,trivial⟩
 have hr:=selF h11 hr
 refine Ok.seq (Ok.region (OkOps.y (aB (x1.1.Kind == 13)) (OkOps.y (aB (x1.1.Kind == 13)) (OkOps.nil ?_))))
 refine Ok.cond (b:=x1.1.Kind == 13) rfl (fun h14=>?_) (fun h14=>?_)
 have hr:=selT h14 hr
 refine Ok.seq (Ok.region (OkOps.y (.c (.loc 1 4)) (OkOps.y (.c (.d (.sl (List.map Attr.cs x1.1.Attrs)))) ?_)))
 obtain ⟨x15,hx15,hr⟩:=bind_some hr
 refine OkOps.q (triCl (tau []) (.s (aI x15)) [] (vw_Number_c _ _ _ hx15) rfl ⟨.inl rfl,.inl rfl,.inl rfl,trivial⟩ trivial entry44 trivial) ?_
 obtain ⟨x16,hx16,hr⟩:=bind_some hr
 refine OkOps.q (triCl (tau []) (.s (aS x16)) [] (strconv_Itoa_c _ hx16) rfl ⟨.inl rfl,trivial⟩ trivial entry177 trivial) (OkOps.y (aS x16) (OkOps.nil (Ok.ret ?_)))
 obtain rfl:=Option.some.inj hr
 exact ⟨_,rfl,.inl rfl,trivial⟩
 have hr:=selF h14 hr
 refine Ok.skip (Ok.seq (Ok.region (OkOps.y (.agg [cI p_s.t.Root,cI p_s.t.Next,.d (.sl (List.map Node.cs p_s.t.Nodes)),.d (.sl (List.map Styled.cs p_s.st)),.d (.mp false (encM (kInt .i64) eBool p_s.shown)),.d (.mp false (encM (kInt .i64) eBool p_s.visible))]) (OkOps.y (.c (.loc 1 6)) (OkOps.y (.c (.d (.sl (List.map (eInt .i64) x1.1.Kids)))) ?_)))))
 obtain ⟨x17,hx17,hr⟩:=bind_some hr
 refine OkOps.q (triCl (tau []) (.s (aS x17)) [] (hself1 _ _ hx17) rfl ⟨.inl rfl,.inl rfl,trivial⟩ trivial entry105 trivial) ?_
 obtain ⟨x18,hx18,hr⟩:=bind_some hr
 refine OkOps.q (triCl (tau []) (.s (aS x18)) [] (nm_clean_c _ hx18) rfl ⟨.inl rfl,trivial⟩ trivial entry104 trivial) (OkOps.y (aS x18) (OkOps.nil (Ok.ret ?_)))
 obtain rfl:=Option.some.inj hr
 exact ⟨_,rfl,.inl rfl,trivial⟩
 clear hk10
 refine Ok.seq (Ok.region (OkOps.y (aB (x1.1.Kind == 2)) (OkOps.y (aB (x1.1.Kind == 2)) (OkOps.nil ?_))))
 refine Ok.cond (b:=x1.1.Kind == 2) rfl (fun h19=>?_) (fun h19=>?_)
 have hr:=selT h19 hr
 refine Ok.skip ?_
 exact ⟨x1.1.Kind == 2,hr,(Conv.mk (tau []) ⟨⟨_,rfl,.inl rfl⟩,⟨_,rfl,.inl rfl⟩,⟨_,rfl,.inl rfl⟩,⟨_,rfl,.inl rfl⟩,trivial⟩ ⟨rfl,rfl,trivial⟩ rfl rfl rfl rfl)⟩
 have hr:=selF h19 hr
 refine Ok.seq (Ok.region (OkOps.y (aB (x1.1.Kind == 4)) (OkOps.y (aB (x1.1.Kind == 4)) (OkOps.nil ?_))))
 refine Ok.cond (b:=x1.1.Kind == 4) rfl (fun h20=>?_) (fun h20=>?_)
 have hr:=selT h20 hr
 refine Ok.skip ?_
 exact ⟨x1.1.Kind == 4,hr,(Conv.mk (tau []) ⟨⟨_,rfl,.inl rfl⟩,⟨_,rfl,.inl rfl⟩,⟨_,rfl,.inl rfl⟩,⟨_,rfl,.inl rfl⟩,trivial⟩ ⟨rfl,rfl,trivial⟩ rfl rfl rfl rfl)⟩
 have hr:=selF h20 hr
 refine Ok.seq (Ok.region (OkOps.y (aB (x1.1.Kind == 7)) (OkOps.y (aB (x1.1.Kind == 7)) (OkOps.nil ?_))))
 refine Ok.cond (b:=x1.1.Kind == 7) rfl (fun h21=>?_) (fun h21=>?_)
 have hr:=selT h21 hr
 refine Ok.skip ?_
 exact ⟨x1.1.Kind == 7,hr,(Conv.mk (tau []) ⟨⟨_,rfl,.inl rfl⟩,⟨_,rfl,.inl rfl⟩,⟨_,rfl,.inl rfl⟩,⟨_,rfl,.inl rfl⟩,trivial⟩ ⟨rfl,rfl,trivial⟩ rfl rfl rfl rfl)⟩
 have hr:=selF h21 hr
 refine Ok.region (OkOps.y (aB (x1.1.Kind == 9)) (OkOps.y (aB (x1.1.Kind == 9)) (OkOps.nil ?_)))
 exact ⟨x1.1.Kind == 9,hr,(Conv.mk (tau []) ⟨⟨_,rfl,.inl rfl⟩,⟨_,rfl,.inl rfl⟩,⟨_,rfl,.inl rfl⟩,⟨_,rfl,.inl rfl⟩,trivial⟩ ⟨rfl,rfl,trivial⟩ rfl rfl rfl rfl)⟩
theorem nm_speaker_contents_B_c (self0 : name_speaker → Int → Option Str) (self1 : name_speaker → (List Int) → Option Str) (hself0 : ∀ (p_s : name_speaker) (id : Int) {r : Str},self0 p_s id = some r → Con Tryz.prog 145 [.agg [cI p_s.t.Root,cI p_s.t.Next,.d (.sl (List.map Node.cs p_s.t.Nodes)),.d (.sl (List.map Styled.cs p_s.st)),.d (.mp false (encM (kInt .i64) eBool p_s.shown)),.d (.mp false (encM (kInt .i64) eBool p_s.visible))],aI id] [] (.s (aS r)) []) (_hself1 : ∀ (p_s : name_speaker) (l : (List Int)) {r : Str},self1 p_s l = some r → Con Tryz.prog 105 [.agg [cI p_s.t.Root,cI p_s.t.Next,.d (.sl (List.map Node.cs p_s.t.Nodes)),.d (.sl (List.map Styled.cs p_s.st)),.d (.mp false (encM (kInt .i64) eBool p_s.shown)),.d (.mp false (encM (kInt .i64) eBool p_s.visible))],.c (.d (.sl (List.map (eInt .i64) l)))] [] (.s (aS r)) []) (p_s : name_speaker) (l : (List Int)) {r : Str} (hr : nm_speaker_contents_B self0 self1 p_s l = some r) : Con Tryz.prog 105 [.agg [cI p_s.t.Root,cI p_s.t.Next,.d (.sl (List.map Node.cs p_s.t.Nodes)),.d (.sl (List.map Styled.cs p_s.st)),.d (.mp false (encM (kInt .i64) eBool p_s.shown)),.d (.mp false (encM (kInt .i64) eBool p_s.visible))],.c (.d (.sl (List.map (eInt .i64) l)))] [] (.s (aS r)) []:=by
 unfold nm_speaker_contents_B at hr
 refine Con.of_ok 23 0 [.tmp 4] [(0,.s (.agg [cI p_s.t.Root,cI p_s.t.Next,.d (.sl (List.map Node.cs p_s.t.Nodes)),.d (.sl (List.map Styled.cs p_s.st)),.d (.mp false (encM (kInt .i64) eBool p_s.shown)),.d (.mp false (encM (kInt .i64) eBool p_s.visible))])),(1,.s (.c (.d (.sl (List.map (eInt .i64) l)))))] Tryz.func105 rfl rfl rfl rfl rfl rfl rfl rfl fun w g M ρ _=>(Ok.seq (Ok.region (OkOps.m 0 (triBox (j:=0) (cs:=[cI p_s.t.Root,cI p_s.t.Next,.d (.sl (List.map Node.cs p_s.t.Nodes)),.d (.sl (List.map Styled.cs p_s.st)),.d (.mp false (encM (kInt .i64) eBool p_s.shown)),.d (.mp false (encM (kInt .i64) eBool p_s.visible))]) rfl rfl rfl rfl rfl) (OkOps.y (aS (ByteArray.mk #[])) (OkOps.nil (Ok.seq (Ok.region (OkOps.y (.c (.d (.v (.slice none 0 0)))) (OkOps.conv (Conv.nilV (enc:=eStr) 5 1 1 0 rfl rfl) (OkOps.nil ?_))))))))))
 obtain ⟨k2,hk2,hr⟩:=jn_some hr
 refine Ok.join (fun (s1 : (List Str))=>⟨[(5,.s (.c (.own 1003)))],[(1003,.vec 1 (List.map eStr s1))],0⟩) k2 r (fun s1 hr=>?_) ?_
 rw [hk2] at hr
 refine Ok.seq (Ok.region (OkOps.y (.c (.own 1003)) ?_))
 obtain ⟨x3,hx3,hr⟩:=bind_some hr
 refine OkOps.m 0 (triCl (tau [(0,1003)]) (.s (aS x3)) [(1003,.dead)] (nm_join_c _ hx3) rfl ⟨.inl rfl,trivial⟩ trivial entry146 ⟨rfl,trivial⟩) (OkOps.y (aS x3) (OkOps.nil (Ok.ret ?_)))
 obtain rfl:=Option.some.inj hr
 exact ⟨_,rfl,.inl rfl,trivial⟩
 clear hk2
 refine Ok.seq (Ok.region (OkOps.y (.c (.d (.sl (List.map (eInt .i64) l)))) (OkOps.q (triLen (enc:=(eInt .i64)) l rfl rfl trivial rfl) (OkOps.y (aI 0) (OkOps.nil (Ok.block (Ok.loopK (fun (s4 : (List Str) × Int)=>⟨[(2,.s (.c (.loc 0 0))),(5,.s (.c (.own 1005))),(8,.s (.c (.d (.sl (List.map (eInt .i64) l))))),(9,.s (aI (l.length : Int))),(10,.s (aI s4.2))],[(0,.blk [cI p_s.t.Root,cI p_s.t.Next,.d (.sl (List.map Node.cs p_s.t.Nodes)),.d (.sl (List.map Styled.cs p_s.st)),.d (.mp false (encM (kInt .i64) eBool p_s.shown)),.d (.mp false (encM (kInt .i64) eBool p_s.visible))] 119),(1005,.vec 1 (List.map eStr s4.1))],0⟩) hr (Conv.mk (tau [(1005,1)]) ⟨⟨_,rfl,.inl rfl⟩,⟨_,rfl,.inl rfl⟩,⟨_,rfl,.inl rfl⟩,⟨_,rfl,.inl rfl⟩,⟨_,rfl,.inl rfl⟩,trivial⟩ ⟨rfl,rfl,trivial⟩ rfl rfl rfl rfl) ?_)))))))
 clear hr
 intro again5 s4 hr
 unfold nm_speaker_contents_L1 at hr
 refine Ok.seq (Ok.region (OkOps.y (aB (decide (s4.2 < (l.length : Int)))) (OkOps.nil (Ok.seq ?_))))
 refine Ok.cond (b:=decide (s4.2 < (l.length : Int))) rfl (fun h6=>?_) (fun h6=>?_)
 have hr:=selT h6 hr
 refine Ok.skip (Ok.seq (Ok.block (Ok.seq (Ok.region ?_))))
 obtain ⟨x7,hx7,hr⟩:=bind_some hr
 refine OkOps.q (triIdx (enc:=(eInt .i64)) (L:=l) (row:=[dI x7]) hx7 rfl rfl rfl rfl (fun _=>rfl) trivial rfl) (OkOps.y (aI x7) (OkOps.y (aI x7) (OkOps.nil (Ok.region (OkOps.y (.c (.own 1005)) (OkOps.y (.agg [cI p_s.t.Root,cI p_s.t.Next,.d (.sl (List.map Node.cs p_s.t.Nodes)),.d (.sl (List.map Styled.cs p_s.st)),.d (.mp false (encM (kInt .i64) eBool p_s.shown)),.d (.mp false (encM (kInt .i64) eBool p_s.visible))]) (OkOps.y (aI x7) ?_)))))))
 obtain ⟨x8,hx8,hr⟩:=bind_some hr
 refine OkOps.q (triCl (tau []) (.s (aS x8)) [] (hself0 _ _ hx8) rfl ⟨.inl rfl,.inl rfl,trivial⟩ trivial entry145 trivial) (OkOps.m 0 (triBST (sz:=1) (enc:=eStr) (j:=2) ([x8]) rfl rfl rfl rfl rfl rfl rfl rfl (fun _=>rfl) trivial rfl rfl) ?_)
 obtain ⟨x9,hx9,hr⟩:=bind_some hr
 refine OkOps.m2 0 (triAppV (enc:=eStr) (L:=s4.1) (X:=[x8]) (j:=1005) (j':=3) hx9 rfl rfl rfl rfl rfl rfl (fun _=>rfl) (fun _=>rfl) trivial rfl rfl) (OkOps.y (.c (.own 3)) (OkOps.nil (Ok.region (OkOps.y (aI (IntKind.i64.wrap (s4.2 + 1))) (OkOps.y (aI (IntKind.i64.wrap (s4.2 + 1))) (OkOps.nil ?_))))))
 exact ⟨(x9,IntKind.i64.wrap (s4.2 + 1)),hr,(Conv.mk (tau [(1005,3)]) ⟨⟨_,rfl,.inl rfl⟩,⟨_,rfl,.inl rfl⟩,⟨_,rfl,.inl rfl⟩,⟨_,rfl,.inl rfl⟩,⟨_,rfl,.inl rfl⟩,trivial⟩ ⟨rfl,rfl,trivial⟩ rfl rfl rfl rfl)⟩
 have hr:=selF h6 hr
 refine Ok.exit ?_
 exact ⟨s4.1,hr,(Conv.mk (tau [(1003,1005)]) ⟨⟨_,rfl,.inl rfl⟩,trivial⟩ ⟨rfl,trivial⟩ rfl rfl rfl rfl)⟩
theorem nm_speaker_content_all : ∀ n : Nat,(∀ (p_s : name_speaker) (id : Int) {r : Str},nm_speaker_content n p_s id = some r → Con Tryz.prog 145 [.agg [cI p_s.t.Root,cI p_s.t.Next,.d (.sl (List.map Node.cs p_s.t.Nodes)),.d (.sl (List.map Styled.cs p_s.st)),.d (.mp false (encM (kInt .i64) eBool p_s.shown)),.d (.mp false (encM (kInt .i64) eBool p_s.visible))],aI id] [] (.s (aS r)) []) ∧ (∀ (p_s : name_speaker) (l : (List Int)) {r : Str},nm_speaker_contents n p_s l = some r → Con Tryz.prog 105 [.agg [cI p_s.t.Root,cI p_s.t.Next,.d (.sl (List.map Node.cs p_s.t.Nodes)),.d (.sl (List.map Styled.cs p_s.st)),.d (.mp false (encM (kInt .i64) eBool p_s.shown)),.d (.mp false (encM (kInt .i64) eBool p_s.visible))],.c (.d (.sl (List.map (eInt .i64) l)))] [] (.s (aS r)) []) ∧ True:=by
 intro n
 induction n with
 | zero=>exact ⟨(by intros;rename_i hr;cases hr),(by intros;rename_i hr;cases hr),trivial⟩
 | succ n ih=>exact ⟨(by intros;rename_i hr;exact nm_speaker_content_B_c _ _ ih.1 ih.2.1 _ _ hr),(by intros;rename_i hr;exact nm_speaker_contents_B_c _ _ ih.1 ih.2.1 _ _ hr),trivial⟩
theorem nm_speaker_contents_c (n : Nat) (p_s : name_speaker) (l : (List Int)) {r : Str} (hr : nm_speaker_contents n p_s l = some r) : Con Tryz.prog 105 [.agg [cI p_s.t.Root,cI p_s.t.Next,.d (.sl (List.map Node.cs p_s.t.Nodes)),.d (.sl (List.map Styled.cs p_s.st)),.d (.mp false (encM (kInt .i64) eBool p_s.shown)),.d (.mp false (encM (kInt .i64) eBool p_s.visible))],.c (.d (.sl (List.map (eInt .i64) l)))] [] (.s (aS r)) []:=(nm_speaker_content_all n).2.1 p_s l hr
theorem nm_speaker_listed_c (p_s : name_speaker) (p_n : Node) (attr : Str) {r : (List Int)} (hr : nm_speaker_listed p_s p_n attr = some r) : Con Tryz.prog 106 [.agg [cI p_s.t.Root,cI p_s.t.Next,.d (.sl (List.map Node.cs p_s.t.Nodes)),.d (.sl (List.map Styled.cs p_s.st)),.d (.mp false (encM (kInt .i64) eBool p_s.shown)),.d (.mp false (encM (kInt .i64) eBool p_s.visible))],.agg [cI p_n.ID,cI p_n.Parent,cI p_n.Kind,cS p_n.Key,.d (.sl (List.map Attr.cs p_n.Attrs)),.d (.sl (List.map Action.cs p_n.Actions)),.d (.sl (List.map (eInt .i64) p_n.Kids))],aS attr] [] (.s (.c (.d (.sl (List.map (eInt .i64) r))))) []:=by
 unfold nm_speaker_listed at hr
 refine Con.of_ok 50 0 [.tmp 6] [(0,.s (.agg [cI p_s.t.Root,cI p_s.t.Next,.d (.sl (List.map Node.cs p_s.t.Nodes)),.d (.sl (List.map Styled.cs p_s.st)),.d (.mp false (encM (kInt .i64) eBool p_s.shown)),.d (.mp false (encM (kInt .i64) eBool p_s.visible))])),(1,.s (.agg [cI p_n.ID,cI p_n.Parent,cI p_n.Kind,cS p_n.Key,.d (.sl (List.map Attr.cs p_n.Attrs)),.d (.sl (List.map Action.cs p_n.Actions)),.d (.sl (List.map (eInt .i64) p_n.Kids))])),(2,.s (aS attr))] Tryz.func106 rfl rfl rfl rfl rfl rfl rfl rfl fun w g M ρ _=>(Ok.seq (Ok.region (OkOps.m 0 (triBox (j:=0) (cs:=[cI p_s.t.Root,cI p_s.t.Next,.d (.sl (List.map Node.cs p_s.t.Nodes)),.d (.sl (List.map Styled.cs p_s.st)),.d (.mp false (encM (kInt .i64) eBool p_s.shown)),.d (.mp false (encM (kInt .i64) eBool p_s.visible))]) rfl rfl rfl rfl rfl) (OkOps.m 0 (triBox (j:=1) (cs:=[cI p_n.ID,cI p_n.Parent,cI p_n.Kind,cS p_n.Key,.d (.sl (List.map Attr.cs p_n.Attrs)),.d (.sl (List.map Action.cs p_n.Actions)),.d (.sl (List.map (eInt .i64) p_n.Kids))]) rfl rfl rfl rfl rfl) (OkOps.y (.c (.d (.v (.slice none 0 0)))) (OkOps.nil (Ok.seq (Ok.region (OkOps.y (.c (.loc 1 4)) (OkOps.y (.c (.d (.sl (List.map Attr.cs p_n.Attrs)))) (OkOps.y (aS attr) ?_)))))))))))
 obtain ⟨x1,hx1,hr⟩:=bind_some hr
 refine OkOps.q (triCl (tau []) (.tup [.agg [cI x1.1.Kind,cI x1.1.N,cS x1.1.S,.d (.sl (List.map AValue.cs x1.1.L))],aB x1.2]) [] (vw_Attr_c _ _ hx1) rfl ⟨.inl rfl,.inl rfl,trivial⟩ trivial entry84 trivial) (OkOps.q (triMv (v:=.tup [.agg [cI x1.1.Kind,cI x1.1.N,cS x1.1.S,.d (.sl (List.map AValue.cs x1.1.L))],aB x1.2]) rfl rfl) (OkOps.y (.agg [cI x1.1.Kind,cI x1.1.N,cS x1.1.S,.d (.sl (List.map AValue.cs x1.1.L))]) (OkOps.y (aB x1.2) (OkOps.m 0 (triAlloc (j:=2) (cs:=[cI 0,cI 0,cS ByteArray.empty,.d (.v (.slice none 0 0))]) rfl rfl rfl rfl) (OkOps.w (triStore (cs':=[cI x1.1.Kind,cI x1.1.N,cS x1.1.S,.d (.sl (List.map AValue.cs x1.1.L))]) rfl rfl rfl rfl rfl rfl rfl rfl rfl) (OkOps.y (aB x1.2) (OkOps.nil (Ok.seq (Ok.region (OkOps.y (.c (.loc 2 3)) (OkOps.y (.c (.d (.sl (List.map AValue.cs x1.1.L)))) (OkOps.y (.c (.d (.sl (List.map AValue.cs x1.1.L)))) (OkOps.nil ?_)))))))))))))
 obtain ⟨k3,hk3,hr⟩:=jn_some hr
 refine Ok.join (fun (s2 : (List AValue))=>⟨[(3,.s (.c (.loc 0 0))),(9,.s (.c (.d (.sl (List.map AValue.cs s2)))))],[(0,.blk [cI p_s.t.Root,cI p_s.t.Next,.d (.sl (List.map Node.cs p_s.t.Nodes)),.d (.sl (List.map Styled.cs p_s.st)),.d (.mp false (encM (kInt .i64) eBool p_s.shown)),.d (.mp false (encM (kInt .i64) eBool p_s.visible))] 119)],0⟩) k3 r (fun s2 hr=>?_) ?_
 rw [hk3] at hr
 refine Ok.seq (Ok.region (OkOps.y (.c (.d (.v (.slice none 0 0)))) (OkOps.nil ?_)))
 obtain ⟨k5,hk5,hr⟩:=jn_some hr
 refine Ok.join (fun (s4 : (List Int))=>⟨[(10,.s (.c (.tl 1009 (List.map (eInt .i64) s4))))],[(1009,.tail 1)],0⟩) k5 r (fun s4 hr=>?_) ?_
 rw [hk5] at hr
 refine Ok.seq (Ok.region (OkOps.y (.c (.tl 1009 (List.map (eInt .i64) s4))) (OkOps.y (.c (.tl 1009 (List.map (eInt .i64) s4))) (OkOps.nil (Ok.ret ?_)))))
 obtain rfl:=Option.some.inj hr
 exact ⟨_,rfl,.inr rfl,trivial⟩
 clear hk5
 refine Ok.seq (Ok.region (OkOps.y (.c (.d (.sl (List.map AValue.cs s2)))) (OkOps.q (triLen (enc:=AValue.cs) s2 rfl rfl trivial rfl) (OkOps.y (aI 0) (OkOps.nil (Ok.block (Ok.loopK (fun (s6 : (List Int) × Int)=>⟨[(3,.s (.c (.loc 0 0))),(10,.s (.c (.tl 1015 (List.map (eInt .i64) s6.1)))),(28,.s (.c (.d (.sl (List.map AValue.cs s2))))),(29,.s (aI (s2.length : Int))),(30,.s (aI s6.2))],[(0,.blk [cI p_s.t.Root,cI p_s.t.Next,.d (.sl (List.map Node.cs p_s.t.Nodes)),.d (.sl (List.map Styled.cs p_s.st)),.d (.mp false (encM (kInt .i64) eBool p_s.shown)),.d (.mp false (encM (kInt .i64) eBool p_s.visible))] 119),(1015,.tail 1)],0⟩) hr (Conv.trans (Conv.nil 10 1018 1 0 rfl rfl) (Conv.mk (tau [(1015,1018)]) ⟨⟨_,rfl,.inl rfl⟩,⟨_,rfl,.inl rfl⟩,⟨_,rfl,.inl rfl⟩,⟨_,rfl,.inl rfl⟩,⟨_,rfl,.inl rfl⟩,trivial⟩ ⟨rfl,rfl,trivial⟩ rfl rfl rfl rfl)) ?_)))))))
 clear hr
 intro again7 s6 hr
 unfold nm_speaker_listed_L1 at hr
 refine Ok.seq (Ok.region (OkOps.y (aB (decide (s6.2 < (s2.length : Int)))) (OkOps.nil (Ok.seq ?_))))
 refine Ok.cond (b:=decide (s6.2 < (s2.length : Int))) rfl (fun h8=>?_) (fun h8=>?_)
 have hr:=selT h8 hr
 refine Ok.skip ?_
 obtain ⟨k10,hk10,hr⟩:=jn_some hr
 refine Ok.join (fun (s9 : (List Int))=>⟨[(3,.s (.c (.loc 0 0))),(10,.s (.c (.tl 1019 (List.map (eInt .i64) s9)))),(28,.s (.c (.d (.sl (List.map AValue.cs s2))))),(29,.s (aI (s2.length : Int))),(30,.s (aI s6.2))],[(0,.blk [cI p_s.t.Root,cI p_s.t.Next,.d (.sl (List.map Node.cs p_s.t.Nodes)),.d (.sl (List.map Styled.cs p_s.st)),.d (.mp false (encM (kInt .i64) eBool p_s.shown)),.d (.mp false (encM (kInt .i64) eBool p_s.visible))] 119),(1019,.tail 1)],0⟩) k10 r (fun s9 hr=>?_) ?_
 rw [hk10] at hr
 refine Ok.region (OkOps.y (aI (IntKind.i64.wrap (s6.2 + 1))) (OkOps.y (aI (IntKind.i64.wrap (s6.2 + 1))) (OkOps.nil ?_)))
 exact ⟨(s9,IntKind.i64.wrap (s6.2 + 1)),hr,(Conv.mk (tau [(1015,1019)]) ⟨⟨_,rfl,.inl rfl⟩,⟨_,rfl,.inl rfl⟩,⟨_,rfl,.inl rfl⟩,⟨_,rfl,.inl rfl⟩,⟨_,rfl,.inl rfl⟩,trivial⟩ ⟨rfl,rfl,trivial⟩ rfl rfl rfl rfl)⟩
 clear hk10
 refine Ok.block (Ok.seq (Ok.region ?_))
 obtain ⟨x11,hx11,hr⟩:=bind_some hr
 refine OkOps.q (triIdx (enc:=AValue.cs) (L:=s2) (row:=[dI x11.Kind,dI x11.N,dS x11.S,.sl (List.map AValue.cs x11.L)]) hx11 (AValue.cs_eq _) rfl rfl rfl (fun x=>by rw [AValue.cs_eq];rfl) trivial rfl) ?_
 refine OkOps.y (.agg [cI x11.Kind,cI x11.N,cS x11.S,.d (.sl (List.map AValue.cs x11.L))]) (OkOps.m 0 (triAlloc (j:=3) (cs:=[cI 0,cI 0,cS ByteArray.empty,.d (.v (.slice none 0 0))]) rfl rfl rfl rfl) (OkOps.w (triStore (cs':=[cI x11.Kind,cI x11.N,cS x11.S,.d (.sl (List.map AValue.cs x11.L))]) rfl rfl rfl rfl rfl rfl rfl rfl rfl) (OkOps.nil (Ok.seq (Ok.seq (Ok.region (OkOps.y (.c (.loc 3 0)) (OkOps.y (aI x11.Kind) (OkOps.y (aB (x11.Kind != 3)) (OkOps.nil ?_))))))))))
 refine Ok.cond (b:=x11.Kind != 3) rfl (fun h12=>?_) (fun h12=>?_)
 have hr:=selT h12 hr
 refine Ok.exit ?_
 exact ⟨s6.1,hr,(Conv.mk (tau [(1019,1015)]) ⟨⟨_,rfl,.inl rfl⟩,⟨_,rfl,.inl rfl⟩,⟨_,rfl,.inl rfl⟩,⟨_,rfl,.inl rfl⟩,⟨_,rfl,.inl rfl⟩,trivial⟩ ⟨rfl,rfl,trivial⟩ rfl rfl rfl rfl)⟩
 have hr:=selF h12 hr
 refine Ok.skip (Ok.seq (Ok.region (OkOps.y (.c (.loc 0 0)) (OkOps.y (.agg [cI p_s.t.Root,cI p_s.t.Next,.d (.sl (List.map Node.cs p_s.t.Nodes))]) (OkOps.y (.c (.loc 3 2)) (OkOps.y (aS x11.S) ?_))))))
 obtain ⟨x13,hx13,hr⟩:=bind_some hr
 refine OkOps.q (triCl (tau []) (.s (aI x13)) [] (ac_Keyed_c _ _ hx13) rfl ⟨.inl rfl,.inl rfl,trivial⟩ trivial entry147 trivial) (OkOps.y (aI x13) (OkOps.nil (Ok.seq (Ok.region (OkOps.y (aI x13) (OkOps.y (aB (x13 != 0)) (OkOps.nil ?_)))))))
 refine Ok.cond (b:=x13 != 0) rfl (fun h14=>?_) (fun h14=>?_)
 have hr:=selT h14 hr
 refine Ok.region (OkOps.y (.c (.tl 1015 (List.map (eInt .i64) s6.1))) (OkOps.y (aI x13) (OkOps.m 0 (triBST (sz:=1) (enc:=(eInt .i64)) (j:=4) ([x13]) rfl rfl rfl rfl rfl rfl rfl rfl (fun _=>rfl) trivial rfl rfl) ?_)))
 obtain ⟨x15,hx15,hr⟩:=bind_some hr
 refine OkOps.m2 0 (triApp (enc:=(eInt .i64)) (L:=s6.1) (X:=[x13]) (j:=1015) (j':=5) hx15 rfl rfl rfl rfl rfl rfl (fun _=>rfl) (fun _=>rfl) (by decide) trivial rfl rfl) (OkOps.y (.c (.tl 5 (List.map (eInt .i64) x15))) (OkOps.nil ?_))
 exact ⟨x15,hr,(Conv.mk (tau [(1019,5)]) ⟨⟨_,rfl,.inl rfl⟩,⟨_,rfl,.inl rfl⟩,⟨_,rfl,.inl rfl⟩,⟨_,rfl,.inl rfl⟩,⟨_,rfl,.inl rfl⟩,trivial⟩ ⟨rfl,rfl,trivial⟩ rfl rfl rfl rfl)⟩
 have hr:=selF h14 hr
 refine Ok.skip ?_
 exact ⟨s6.1,hr,(Conv.mk (tau [(1019,1015)]) ⟨⟨_,rfl,.inl rfl⟩,⟨_,rfl,.inl rfl⟩,⟨_,rfl,.inl rfl⟩,⟨_,rfl,.inl rfl⟩,⟨_,rfl,.inl rfl⟩,trivial⟩ ⟨rfl,rfl,trivial⟩ rfl rfl rfl rfl)⟩
 have hr:=selF h8 hr
 refine Ok.exit ?_
 exact ⟨s6.1,hr,(Conv.mk (tau [(1009,1015)]) ⟨⟨_,rfl,.inl rfl⟩,trivial⟩ ⟨rfl,trivial⟩ rfl rfl rfl rfl)⟩
 clear hk3
 refine Ok.seq (Ok.region (OkOps.y (.c (.loc 2 0)) (OkOps.y (aI x1.1.Kind) (OkOps.y (aB (x1.1.Kind == 3)) (OkOps.nil ?_)))))
 refine Ok.cond (b:=x1.1.Kind == 3) rfl (fun h16=>?_) (fun h16=>?_)
 have hr:=selT h16 hr
 refine Ok.region (OkOps.y (.agg [cI x1.1.Kind,cI x1.1.N,cS x1.1.S,.d (.sl (List.map AValue.cs x1.1.L))]) ?_)
 refine OkOps.m 0 (triBST (sz:=4) (enc:=AValue.cs) (j:=6) ([x1.1]) rfl rfl rfl rfl rfl (rows:=[[dI x1.1.Kind,dI x1.1.N,dS x1.1.S,.sl (List.map AValue.cs x1.1.L)]]) (by simp only [List.map,AValue.cs_eq]) rfl rfl (fun x=>by rw [AValue.cs_eq];rfl) trivial rfl rfl) ?_
 refine OkOps.y (.c (.tl 6 (List.map AValue.cs ([x1.1])))) (OkOps.nil ?_)
 exact ⟨[x1.1],hr,(Conv.mk (tau []) ⟨⟨_,rfl,.inl rfl⟩,⟨_,rfl,.inr rfl⟩,trivial⟩ ⟨rfl,trivial⟩ rfl rfl rfl rfl)⟩
 have hr:=selF h16 hr
 refine Ok.skip ?_
 exact ⟨x1.1.L,hr,(Conv.mk (tau []) ⟨⟨_,rfl,.inl rfl⟩,⟨_,rfl,.inl rfl⟩,trivial⟩ ⟨rfl,trivial⟩ rfl rfl rfl rfl)⟩
theorem nm_speaker_name_c (p_s : name_speaker) (id : Int) {r : Str} (hr : nm_speaker_name p_s id = some r) : Con Tryz.prog 72 [.agg [cI p_s.t.Root,cI p_s.t.Next,.d (.sl (List.map Node.cs p_s.t.Nodes)),.d (.sl (List.map Styled.cs p_s.st)),.d (.mp false (encM (kInt .i64) eBool p_s.shown)),.d (.mp false (encM (kInt .i64) eBool p_s.visible))],aI id] [] (.s (aS r)) []:=by
 unfold nm_speaker_name at hr
 refine Con.of_ok 83 0 [.tmp 4] [(0,.s (.agg [cI p_s.t.Root,cI p_s.t.Next,.d (.sl (List.map Node.cs p_s.t.Nodes)),.d (.sl (List.map Styled.cs p_s.st)),.d (.mp false (encM (kInt .i64) eBool p_s.shown)),.d (.mp false (encM (kInt .i64) eBool p_s.visible))])),(1,.s (aI id))] Tryz.func72 rfl rfl rfl rfl rfl rfl rfl rfl fun w g M ρ _=>(Ok.seq (Ok.region (OkOps.m 0 (triBox (j:=0) (cs:=[cI p_s.t.Root,cI p_s.t.Next,.d (.sl (List.map Node.cs p_s.t.Nodes)),.d (.sl (List.map Styled.cs p_s.st)),.d (.mp false (encM (kInt .i64) eBool p_s.shown)),.d (.mp false (encM (kInt .i64) eBool p_s.visible))]) rfl rfl rfl rfl rfl) (OkOps.y (aS (ByteArray.mk #[])) (OkOps.nil (Ok.seq (Ok.region (OkOps.y (.c (.loc 0 0)) (OkOps.y (.agg [cI p_s.t.Root,cI p_s.t.Next,.d (.sl (List.map Node.cs p_s.t.Nodes))]) (OkOps.y (aI id) ?_))))))))))
 obtain ⟨x1,hx1,hr⟩:=bind_some hr
 refine OkOps.q (triCl (tau []) (.tup [.agg [cI x1.1.ID,cI x1.1.Parent,cI x1.1.Kind,cS x1.1.Key,.d (.sl (List.map Attr.cs x1.1.Attrs)),.d (.sl (List.map Action.cs x1.1.Actions)),.d (.sl (List.map (eInt .i64) x1.1.Kids))],aB x1.2]) [] (vw_Find_c _ _ hx1) rfl ⟨.inl rfl,.inl rfl,trivial⟩ trivial entry36 trivial) (OkOps.q (triMv (v:=.tup [.agg [cI x1.1.ID,cI x1.1.Parent,cI x1.1.Kind,cS x1.1.Key,.d (.sl (List.map Attr.cs x1.1.Attrs)),.d (.sl (List.map Action.cs x1.1.Actions)),.d (.sl (List.map (eInt .i64) x1.1.Kids))],aB x1.2]) rfl rfl) (OkOps.y (.agg [cI x1.1.ID,cI x1.1.Parent,cI x1.1.Kind,cS x1.1.Key,.d (.sl (List.map Attr.cs x1.1.Attrs)),.d (.sl (List.map Action.cs x1.1.Actions)),.d (.sl (List.map (eInt .i64) x1.1.Kids))]) (OkOps.y (aB x1.2) (OkOps.m 0 (triAlloc (j:=1) (cs:=[cI 0,cI 0,cI 0,cS ByteArray.empty,.d (.v (.slice none 0 0)),.d (.v (.slice none 0 0)),.d (.v (.slice none 0 0))]) rfl rfl rfl rfl) (OkOps.w (triStore (cs':=[cI x1.1.ID,cI x1.1.Parent,cI x1.1.Kind,cS x1.1.Key,.d (.sl (List.map Attr.cs x1.1.Attrs)),.d (.sl (List.map Action.cs x1.1.Actions)),.d (.sl (List.map (eInt .i64) x1.1.Kids))]) rfl rfl rfl rfl rfl rfl rfl rfl rfl) (OkOps.y (aB x1.2) (OkOps.nil (Ok.seq (Ok.seq (Ok.region (OkOps.y (aB x1.2) (OkOps.y (aB (!x1.2)) (OkOps.nil ?_)))))))))))))
 refine Ok.cond (b:=!x1.2) rfl (fun h2=>?_) (fun h2=>?_)
 have hr:=selT h2 hr
 refine Ok.seq (Ok.region (OkOps.y (aS (ByteArray.mk #[])) (OkOps.nil (Ok.ret ?_))))
 obtain rfl:=Option.some.inj hr
 exact ⟨_,rfl,.inl rfl,trivial⟩
 have hr:=selF h2 hr
 refine Ok.skip (Ok.seq (Ok.seq (Ok.regionD (by kernel_rfl) (OkD.x (.agg [cI p_s.t.Root,cI p_s.t.Next,.d (.sl (List.map Node.cs p_s.t.Nodes)),.d (.sl (List.map Styled.cs p_s.st)),.d (.mp false (encM (kInt .i64) eBool p_s.shown)),.d (.mp false (encM (kInt .i64) eBool p_s.visible))]) rfl trivial rfl (OkD.x (.agg [cI p_s.t.Root,cI p_s.t.Next,.d (.sl (List.map Node.cs p_s.t.Nodes)),.d (.sl (List.map Styled.cs p_s.st)),.d (.mp false (encM (kInt .i64) eBool p_s.shown)),.d (.mp false (encM (kInt .i64) eBool p_s.visible))]) rfl trivial rfl (OkD.x (.agg [cI x1.1.ID,cI x1.1.Parent,cI x1.1.Kind,cS x1.1.Key,.d (.sl (List.map Attr.cs x1.1.Attrs)),.d (.sl (List.map Action.cs x1.1.Actions)),.d (.sl (List.map (eInt .i64) x1.1.Kids))]) rfl trivial rfl ?_))))))
 obtain ⟨x3,hx3,hr⟩:=bind_some hr
 refine OkD.q (triCl (tau []) (.s (.c (.d (.sl (List.map (eInt .i64) x3))))) [] (nm_speaker_listed_c _ _ _ hx3) rfl ⟨.inl rfl,.inl rfl,.inl rfl,trivial⟩ trivial entry106 trivial) ?_
 obtain ⟨x4,hx4,hr⟩:=bind_some hr
 refine OkD.q (triCl (tau []) (.s (aS x4)) [] (nm_speaker_contents_c _ _ _ hx4) rfl ⟨.inl rfl,.inl rfl,trivial⟩ trivial entry105 trivial) ?_
 obtain ⟨x5,hx5,hr⟩:=bind_some hr
 refine OkD.q (triCl (tau []) (.s (aS x5)) [] (nm_clean_c _ hx5) rfl ⟨.inl rfl,trivial⟩ trivial entry104 trivial) (OkD.x (aS x5) rfl trivial rfl (OkD.nil (by kernel_rfl) (Ok.seq (Ok.region (OkOps.y (aS x5) (OkOps.y (aB (!(x5.toList == (ByteArray.mk #[]).toList))) (OkOps.nil ?_)))))))
 refine Ok.cond (b:=!(x5.toList == (ByteArray.mk #[]).toList)) rfl (fun h6=>?_) (fun h6=>?_)
 have hr:=selT h6 hr
 refine Ok.seq (Ok.region (OkOps.y (aS x5) (OkOps.y (aS x5) (OkOps.nil (Ok.ret ?_)))))
 obtain rfl:=Option.some.inj hr
 exact ⟨_,rfl,.inl rfl,trivial⟩
 have hr:=selF h6 hr
 refine Ok.skip (Ok.seq (Ok.seq (Ok.region (OkOps.y (.c (.loc 1 4)) (OkOps.y (.c (.d (.sl (List.map Attr.cs x1.1.Attrs)))) ?_)))))
 obtain ⟨x7,hx7,hr⟩:=bind_some hr
 refine OkOps.q (triCl (tau []) (.s (aS x7)) [] (vw_Text_c _ _ hx7) rfl ⟨.inl rfl,.inl rfl,trivial⟩ trivial entry107 trivial) ?_
 obtain ⟨x8,hx8,hr⟩:=bind_some hr
 refine OkOps.q (triCl (tau []) (.s (aS x8)) [] (nm_clean_c _ hx8) rfl ⟨.inl rfl,trivial⟩ trivial entry104 trivial) (OkOps.y (aS x8) (OkOps.nil (Ok.seq (Ok.region (OkOps.y (aS x8) (OkOps.y (aB (!(x8.toList == (ByteArray.mk #[]).toList))) (OkOps.nil ?_)))))))
 refine Ok.cond (b:=!(x8.toList == (ByteArray.mk #[]).toList)) rfl (fun h9=>?_) (fun h9=>?_)
 have hr:=selT h9 hr
 refine Ok.seq (Ok.region (OkOps.y (aS x8) (OkOps.y (aS x8) (OkOps.nil (Ok.ret ?_)))))
 obtain rfl:=Option.some.inj hr
 exact ⟨_,rfl,.inl rfl,trivial⟩
 have hr:=selF h9 hr
 refine Ok.skip (Ok.seq (Ok.region (OkOps.y (aS (ByteArray.mk #[])) (OkOps.nil ?_))))
 obtain ⟨k11,hk11,hr⟩:=jn_some hr
 refine Ok.join (fun (s10 : Str)=>⟨[(1,.s (aI id)),(2,.s (.c (.loc 0 0))),(5,.s (.c (.loc 1 0))),(9,.s (aS s10))],[(0,.blk [cI p_s.t.Root,cI p_s.t.Next,.d (.sl (List.map Node.cs p_s.t.Nodes)),.d (.sl (List.map Styled.cs p_s.st)),.d (.mp false (encM (kInt .i64) eBool p_s.shown)),.d (.mp false (encM (kInt .i64) eBool p_s.visible))] 119),(1,.blk [cI x1.1.ID,cI x1.1.Parent,cI x1.1.Kind,cS x1.1.Key,.d (.sl (List.map Attr.cs x1.1.Attrs)),.d (.sl (List.map Action.cs x1.1.Actions)),.d (.sl (List.map (eInt .i64) x1.1.Kids))] 61)],0⟩) k11 r (fun s10 hr=>?_) ?_
 rw [hk11] at hr
 refine Ok.seq (Ok.seq (Ok.region (OkOps.y (aS s10) ?_)))
 obtain ⟨x12,hx12,hr⟩:=bind_some hr
 refine OkOps.q (triCl (tau []) (.s (aS x12)) [] (nm_clean_c _ hx12) rfl ⟨.inl rfl,trivial⟩ trivial entry104 trivial) (OkOps.y (aS x12) (OkOps.nil (Ok.seq (Ok.region (OkOps.y (aS x12) (OkOps.y (aB (!(x12.toList == (ByteArray.mk #[]).toList))) (OkOps.nil ?_)))))))
 refine Ok.cond (b:=!(x12.toList == (ByteArray.mk #[]).toList)) rfl (fun h13=>?_) (fun h13=>?_)
 have hr:=selT h13 hr
 refine Ok.seq (Ok.region (OkOps.y (aS x12) (OkOps.y (aS x12) (OkOps.nil (Ok.ret ?_)))))
 obtain rfl:=Option.some.inj hr
 exact ⟨_,rfl,.inl rfl,trivial⟩
 have hr:=selF h13 hr
 refine Ok.skip ?_
 obtain ⟨k15,hk15,hr⟩:=jn_some hr
 refine Ok.join (fun (s14 : Unit)=>⟨[(5,.s (.c (.loc 1 0)))],[(1,.blk [cI x1.1.ID,cI x1.1.Parent,cI x1.1.Kind,cS x1.1.Key,.d (.sl (List.map Attr.cs x1.1.Attrs)),.d (.sl (List.map Action.cs x1.1.Actions)),.d (.sl (List.map (eInt .i64) x1.1.Kids))] 61)],0⟩) k15 r (fun s14 hr=>?_) ?_
 rw [hk15] at hr
 refine Ok.seq (Ok.region (OkOps.y (.c (.loc 1 4)) (OkOps.y (.c (.d (.sl (List.map Attr.cs x1.1.Attrs)))) ?_)))
 obtain ⟨x16,hx16,hr⟩:=bind_some hr
 refine OkOps.q (triCl (tau []) (.s (aS x16)) [] (vw_Text_c _ _ hx16) rfl ⟨.inl rfl,.inl rfl,trivial⟩ trivial entry107 trivial) ?_
 obtain ⟨x17,hx17,hr⟩:=bind_some hr
 refine OkOps.q (triCl (tau []) (.s (aS x17)) [] (nm_clean_c _ hx17) rfl ⟨.inl rfl,trivial⟩ trivial entry104 trivial) (OkOps.y (aS x17) (OkOps.nil (Ok.ret ?_)))
 obtain rfl:=Option.some.inj hr
 exact ⟨_,rfl,.inl rfl,trivial⟩
 clear hk15
 refine Ok.seq (Ok.region (OkOps.y (.c (.loc 1 2)) (OkOps.y (aI x1.1.Kind) (OkOps.y (aB (x1.1.Kind != 4)) (OkOps.y (aB (x1.1.Kind != 4)) (OkOps.q (triQG (x:=.c (.loc 1 2)) rfl rfl trivial rfl) (OkOps.q (triQG (x:=aI x1.1.Kind) rfl rfl ⟨fun h=>h,trivial⟩ rfl) (OkOps.q (triQG (x:=aB (x1.1.Kind != 13)) rfl rfl ⟨fun h=>h,trivial⟩ rfl) (OkOps.q (triAnd rfl rfl (fun h=>h) rfl) (OkOps.y (aB ((x1.1.Kind != 4) && (x1.1.Kind != 13))) (OkOps.q (triQG (x:=.c (.loc 0 0)) rfl rfl trivial rfl) (OkOps.q (triQG (x:=.agg [cI p_s.t.Root,cI p_s.t.Next,.d (.sl (List.map Node.cs p_s.t.Nodes))]) rfl rfl ⟨fun h=>h,trivial⟩ rfl) (OkOps.q (triQG (x:=aI id) rfl rfl trivial rfl) ?_)))))))))))))
 obtain ⟨x18,hx18,hr⟩:=bind_some hr
 refine OkOps.q (triCallG (x:=aI x18) (fun hg=>ac_Role_c _ _ (gO_t hx18 hg)) rfl rfl ⟨.inl rfl,.inl rfl,trivial⟩ ⟨fun h=>h,⟨fun h=>h,trivial⟩⟩ entry109 rfl rfl rfl) ?_
 obtain ⟨x19,hx19,hr⟩:=bind_some hr
 refine OkOps.q (triCallG (x:=aB x19) (fun hg=>nm_named_c _ (gO_t hx19 hg)) rfl rfl ⟨.inl rfl,trivial⟩ ⟨fun h=>h,trivial⟩ entry108 rfl rfl rfl) (OkOps.q (triAnd rfl rfl (fun h=>h) rfl) (OkOps.nil ?_))
 refine Ok.cond (b:=((x1.1.Kind != 4) && (x1.1.Kind != 13)) && x19) rfl (fun h20=>?_) (fun h20=>?_)
 have hr:=selT h20 hr
 refine Ok.seq (Ok.region (OkOps.y (.agg [cI p_s.t.Root,cI p_s.t.Next,.d (.sl (List.map Node.cs p_s.t.Nodes)),.d (.sl (List.map Styled.cs p_s.st)),.d (.mp false (encM (kInt .i64) eBool p_s.shown)),.d (.mp false (encM (kInt .i64) eBool p_s.visible))]) (OkOps.y (.c (.loc 1 6)) (OkOps.y (.c (.d (.sl (List.map (eInt .i64) x1.1.Kids)))) ?_))))
 obtain ⟨x21,hx21,hr⟩:=bind_some hr
 refine OkOps.q (triCl (tau []) (.s (aS x21)) [] (nm_speaker_contents_c _ _ _ hx21) rfl ⟨.inl rfl,.inl rfl,trivial⟩ trivial entry105 trivial) ?_
 obtain ⟨x22,hx22,hr⟩:=bind_some hr
 refine OkOps.q (triCl (tau []) (.s (aS x22)) [] (nm_clean_c _ hx22) rfl ⟨.inl rfl,trivial⟩ trivial entry104 trivial) (OkOps.y (aS x22) (OkOps.nil (Ok.seq (Ok.region (OkOps.y (aS x22) (OkOps.y (aB (!(x22.toList == (ByteArray.mk #[]).toList))) (OkOps.nil ?_)))))))
 refine Ok.cond (b:=!(x22.toList == (ByteArray.mk #[]).toList)) rfl (fun h23=>?_) (fun h23=>?_)
 have hr:=selT h23 hr
 refine Ok.seq (Ok.region (OkOps.y (aS x22) (OkOps.y (aS x22) (OkOps.nil (Ok.ret ?_)))))
 obtain rfl:=Option.some.inj hr
 exact ⟨_,rfl,.inl rfl,trivial⟩
 have hr:=selF h23 hr
 refine Ok.skip ?_
 exact ⟨(),hr,(Conv.mk (tau []) ⟨⟨_,rfl,.inl rfl⟩,trivial⟩ ⟨rfl,trivial⟩ rfl rfl rfl rfl)⟩
 have hr:=selF h20 hr
 refine Ok.skip ?_
 exact ⟨(),hr,(Conv.mk (tau []) ⟨⟨_,rfl,.inl rfl⟩,trivial⟩ ⟨rfl,trivial⟩ rfl rfl rfl rfl)⟩
 clear hk11
 refine Ok.seq (Ok.region (OkOps.y (.c (.loc 1 2)) (OkOps.y (aI x1.1.Kind) (OkOps.nil (Ok.block ?_)))))
 obtain ⟨k25,hk25,hr⟩:=jn_some hr
 refine Ok.join (fun (s24 : Bool)=>⟨[(1,.s (aI id)),(2,.s (.c (.loc 0 0))),(5,.s (.c (.loc 1 0))),(9,.s (aS (ByteArray.mk #[]))),(38,.s (aI x1.1.Kind)),(39,.s (aB s24))],[(0,.blk [cI p_s.t.Root,cI p_s.t.Next,.d (.sl (List.map Node.cs p_s.t.Nodes)),.d (.sl (List.map Styled.cs p_s.st)),.d (.mp false (encM (kInt .i64) eBool p_s.shown)),.d (.mp false (encM (kInt .i64) eBool p_s.visible))] 119),(1,.blk [cI x1.1.ID,cI x1.1.Parent,cI x1.1.Kind,cS x1.1.Key,.d (.sl (List.map Attr.cs x1.1.Attrs)),.d (.sl (List.map Action.cs x1.1.Actions)),.d (.sl (List.map (eInt .i64) x1.1.Kids))] 61)],0⟩) k25 r (fun s24 hr=>?_) ?_
 rw [hk25] at hr
 refine Ok.cond (b:=s24) rfl (fun h26=>?_) (fun h26=>?_)
 have hr:=selT h26 hr
 refine Ok.region (OkOps.y (.c (.loc 1 4)) (OkOps.y (.c (.d (.sl (List.map Attr.cs x1.1.Attrs)))) ?_))
 obtain ⟨x27,hx27,hr⟩:=bind_some hr
 refine OkOps.q (triCl (tau []) (.s (aS x27)) [] (vw_Text_c _ _ hx27) rfl ⟨.inl rfl,.inl rfl,trivial⟩ trivial entry107 trivial) (OkOps.y (aS x27) (OkOps.nil ?_))
 exact ⟨x27,hr,(Conv.mk (tau []) ⟨⟨_,rfl,.inl rfl⟩,⟨_,rfl,.inl rfl⟩,⟨_,rfl,.inl rfl⟩,⟨_,rfl,.inl rfl⟩,trivial⟩ ⟨rfl,rfl,trivial⟩ rfl rfl rfl rfl)⟩
 have hr:=selF h26 hr
 refine Ok.seq (Ok.region (OkOps.y (aB (x1.1.Kind == 4)) (OkOps.y (aB (x1.1.Kind == 4)) (OkOps.nil ?_))))
 refine Ok.cond (b:=x1.1.Kind == 4) rfl (fun h28=>?_) (fun h28=>?_)
 have hr:=selT h28 hr
 refine Ok.region (OkOps.y (.c (.loc 1 4)) (OkOps.y (.c (.d (.sl (List.map Attr.cs x1.1.Attrs)))) ?_))
 obtain ⟨x29,hx29,hr⟩:=bind_some hr
 refine OkOps.q (triCl (tau []) (.s (aS x29)) [] (vw_Text_c _ _ hx29) rfl ⟨.inl rfl,.inl rfl,trivial⟩ trivial entry107 trivial) (OkOps.y (aS x29) (OkOps.nil ?_))
 exact ⟨x29,hr,(Conv.mk (tau []) ⟨⟨_,rfl,.inl rfl⟩,⟨_,rfl,.inl rfl⟩,⟨_,rfl,.inl rfl⟩,⟨_,rfl,.inl rfl⟩,trivial⟩ ⟨rfl,rfl,trivial⟩ rfl rfl rfl rfl)⟩
 have hr:=selF h28 hr
 refine Ok.skip ?_
 exact ⟨(ByteArray.mk #[]),hr,(Conv.mk (tau []) ⟨⟨_,rfl,.inl rfl⟩,⟨_,rfl,.inl rfl⟩,⟨_,rfl,.inl rfl⟩,⟨_,rfl,.inl rfl⟩,trivial⟩ ⟨rfl,rfl,trivial⟩ rfl rfl rfl rfl)⟩
 clear hk25
 refine Ok.seq (Ok.region (OkOps.y (aB (x1.1.Kind == 2)) (OkOps.y (aB (x1.1.Kind == 2)) (OkOps.nil ?_))))
 refine Ok.cond (b:=x1.1.Kind == 2) rfl (fun h30=>?_) (fun h30=>?_)
 have hr:=selT h30 hr
 refine Ok.skip ?_
 exact ⟨x1.1.Kind == 2,hr,(Conv.mk (tau []) ⟨⟨_,rfl,.inl rfl⟩,⟨_,rfl,.inl rfl⟩,⟨_,rfl,.inl rfl⟩,⟨_,rfl,.inl rfl⟩,⟨_,rfl,.inl rfl⟩,⟨_,rfl,.inl rfl⟩,trivial⟩ ⟨rfl,rfl,trivial⟩ rfl rfl rfl rfl)⟩
 have hr:=selF h30 hr
 refine Ok.seq (Ok.region (OkOps.y (aB (x1.1.Kind == 7)) (OkOps.y (aB (x1.1.Kind == 7)) (OkOps.nil ?_))))
 refine Ok.cond (b:=x1.1.Kind == 7) rfl (fun h31=>?_) (fun h31=>?_)
 have hr:=selT h31 hr
 refine Ok.skip ?_
 exact ⟨x1.1.Kind == 7,hr,(Conv.mk (tau []) ⟨⟨_,rfl,.inl rfl⟩,⟨_,rfl,.inl rfl⟩,⟨_,rfl,.inl rfl⟩,⟨_,rfl,.inl rfl⟩,⟨_,rfl,.inl rfl⟩,⟨_,rfl,.inl rfl⟩,trivial⟩ ⟨rfl,rfl,trivial⟩ rfl rfl rfl rfl)⟩
 have hr:=selF h31 hr
 refine Ok.region (OkOps.y (aB (x1.1.Kind == 9)) (OkOps.y (aB (x1.1.Kind == 9)) (OkOps.nil ?_)))
 exact ⟨x1.1.Kind == 9,hr,(Conv.mk (tau []) ⟨⟨_,rfl,.inl rfl⟩,⟨_,rfl,.inl rfl⟩,⟨_,rfl,.inl rfl⟩,⟨_,rfl,.inl rfl⟩,⟨_,rfl,.inl rfl⟩,⟨_,rfl,.inl rfl⟩,trivial⟩ ⟨rfl,rfl,trivial⟩ rfl rfl rfl rfl)⟩
theorem nm_Name_c (t : Tree) (st : (List Styled)) (id : Int) {r : Str} (hr : nm_Name t st id = some r) : Con Tryz.prog 27 [.agg [cI t.Root,cI t.Next,.d (.sl (List.map Node.cs t.Nodes))],.c (.d (.sl (List.map Styled.cs st))),aI id] [] (.s (aS r)) []:=by
 unfold nm_Name at hr
 refine Con.of_ok 12 0 [.tmp 6] [(0,.s (.agg [cI t.Root,cI t.Next,.d (.sl (List.map Node.cs t.Nodes))])),(1,.s (.c (.d (.sl (List.map Styled.cs st))))),(2,.s (aI id))] Tryz.func27 rfl rfl rfl rfl rfl rfl rfl rfl fun w g M ρ _=>(Ok.seq (Ok.region (OkOps.m 0 (triBox (j:=0) (cs:=[cI t.Root,cI t.Next,.d (.sl (List.map Node.cs t.Nodes))]) rfl rfl rfl rfl rfl) (OkOps.y (aS (ByteArray.mk #[])) (OkOps.nil (Ok.seq (Ok.region (OkOps.y (.agg [cI t.Root,cI t.Next,.d (.sl (List.map Node.cs t.Nodes))]) (OkOps.y (.c (.d (.sl (List.map Styled.cs st)))) ?_)))))))))
 obtain ⟨x1,hx1,hr⟩:=bind_some hr
 refine OkOps.q (triCl (tau []) (.s (.agg [cI x1.t.Root,cI x1.t.Next,.d (.sl (List.map Node.cs x1.t.Nodes)),.d (.sl (List.map Styled.cs x1.st)),.d (.mp false (encM (kInt .i64) eBool x1.shown)),.d (.mp false (encM (kInt .i64) eBool x1.visible))])) [] (nm_read_c _ _ hx1) rfl ⟨.inl rfl,.inl rfl,trivial⟩ trivial entry71 trivial) (OkOps.y (aI id) ?_)
 obtain ⟨x2,hx2,hr⟩:=bind_some hr
 refine OkOps.q (triCl (tau []) (.s (aS x2)) [] (nm_speaker_name_c _ _ hx2) rfl ⟨.inl rfl,.inl rfl,trivial⟩ trivial entry72 trivial) (OkOps.y (aS x2) (OkOps.nil (Ok.ret ?_)))
 obtain rfl:=Option.some.inj hr
 exact ⟨_,rfl,.inl rfl,trivial⟩
end Go.Proofs.YtfoigppmcelgfaaGreatDoor
end
section
set_option maxRecDepth 100000
namespace Go.Proofs.YtfoigppmcelgfaaGreatDoor
open Go Go.E2
theorem r11_join_B_c (self0 : AType → AType → Option (AType × Bool)) (hself0 : ∀ (a : AType) (b : AType) {r : AType × Bool},self0 a b = some r → Con Tryz.prog 192 [.agg [cI a.Kind,.d (.sl (List.map AType.cs a.Of))],.agg [cI b.Kind,.d (.sl (List.map AType.cs b.Of))]] [] (.tup [.agg [cI r.1.Kind,.d (.sl (List.map AType.cs r.1.Of))],aB r.2]) []) (a : AType) (b : AType) {r : AType × Bool} (hr : r11_join_B self0 a b = some r) : Con Tryz.prog 192 [.agg [cI a.Kind,.d (.sl (List.map AType.cs a.Of))],.agg [cI b.Kind,.d (.sl (List.map AType.cs b.Of))]] [] (.tup [.agg [cI r.1.Kind,.d (.sl (List.map AType.cs r.1.Of))],aB r.2]) []:=by
 unfold r11_join_B at hr
 refine Con.of_ok 44 0 [.cell 4 196,.tmp 5] [(0,.s (.agg [cI a.Kind,.d (.sl (List.map AType.cs a.Of))])),(1,.s (.agg [cI b.Kind,.d (.sl (List.map AType.cs b.Of))]))] Tryz.func192 rfl rfl rfl rfl rfl rfl rfl rfl fun w g M ρ _=>(Ok.seq (Ok.region (OkOps.m 0 (triBox (j:=0) (cs:=[cI a.Kind,.d (.sl (List.map AType.cs a.Of))]) rfl rfl rfl rfl rfl) (OkOps.m 0 (triBox (j:=1) (cs:=[cI b.Kind,.d (.sl (List.map AType.cs b.Of))]) rfl rfl rfl rfl rfl) (OkOps.m 0 (triAlloc (j:=2) (cs:=[cI 0,.d (.v (.slice none 0 0))]) rfl rfl rfl rfl) (OkOps.y (aB false) (OkOps.nil (Ok.seq (Ok.seq (Ok.region (OkOps.y (.c (.loc 0 0)) (OkOps.y (aI a.Kind) (OkOps.y (.c (.loc 1 0)) (OkOps.y (aI b.Kind) (OkOps.y (aB (a.Kind != b.Kind)) ?_)))))))))))))))
 refine OkOps.nil ?_
 refine Ok.cond (b:=a.Kind != b.Kind) rfl (fun h1=>?_) (fun h1=>?_)
 have hr:=selT h1 hr
 refine Ok.seq (Ok.region (OkOps.y (.agg [cI 0,.d (.v (.slice none 0 0))]) (OkOps.w (triStore (cs':=[cI 0,.d (.v (.slice none 0 0))]) rfl rfl rfl rfl rfl rfl rfl rfl rfl) (OkOps.y (aB false) (OkOps.nil (Ok.ret ?_))))))
 obtain rfl:=Option.some.inj hr
 exact ⟨_,rfl,.inr rfl,trivial⟩
 have hr:=selF h1 hr
 refine Ok.skip (Ok.seq (Ok.seq (Ok.region (OkOps.y (.c (.loc 0 1)) (OkOps.y (.c (.d (.sl (List.map AType.cs a.Of)))) (OkOps.q (triLen (enc:=AType.cs) a.Of rfl rfl trivial rfl) (OkOps.y (aB ((a.Of.length : Int) == 0)) (OkOps.nil ?_))))))))
 refine Ok.cond (b:=(a.Of.length : Int) == 0) rfl (fun h2=>?_) (fun h2=>?_)
 have hr:=selT h2 hr
 refine Ok.seq (Ok.region (OkOps.y (.agg [cI b.Kind,.d (.sl (List.map AType.cs b.Of))]) (OkOps.w (triStore (cs':=[cI b.Kind,.d (.sl (List.map AType.cs b.Of))]) rfl rfl rfl rfl rfl rfl rfl rfl rfl) (OkOps.y (aB true) (OkOps.nil (Ok.ret ?_))))))
 obtain rfl:=Option.some.inj hr
 exact ⟨_,rfl,.inl rfl,trivial⟩
 have hr:=selF h2 hr
 refine Ok.skip (Ok.seq (Ok.seq (Ok.region (OkOps.y (.c (.loc 1 1)) (OkOps.y (.c (.d (.sl (List.map AType.cs b.Of)))) (OkOps.q (triLen (enc:=AType.cs) b.Of rfl rfl trivial rfl) (OkOps.y (aB ((b.Of.length : Int) == 0)) (OkOps.nil ?_))))))))
 refine Ok.cond (b:=(b.Of.length : Int) == 0) rfl (fun h3=>?_) (fun h3=>?_)
 have hr:=selT h3 hr
 refine Ok.seq (Ok.region (OkOps.y (.agg [cI a.Kind,.d (.sl (List.map AType.cs a.Of))]) (OkOps.w (triStore (cs':=[cI a.Kind,.d (.sl (List.map AType.cs a.Of))]) rfl rfl rfl rfl rfl rfl rfl rfl rfl) (OkOps.y (aB true) (OkOps.nil (Ok.ret ?_))))))
 obtain rfl:=Option.some.inj hr
 exact ⟨_,rfl,.inl rfl,trivial⟩
 have hr:=selF h3 hr
 refine Ok.skip (Ok.seq (Ok.regionD (by kernel_rfl) (OkD.x (.c (.loc 0 1)) rfl trivial rfl (OkD.x (.c (.d (.sl (List.map AType.cs a.Of)))) rfl trivial rfl ?_))))
 obtain ⟨x4,hx4,hr⟩:=bind_some hr
 refine OkD.q (triIdx (enc:=AType.cs) (L:=a.Of) (row:=[dI x4.Kind,.sl (List.map AType.cs x4.Of)]) hx4 (AType.cs_eq _) rfl rfl rfl (fun x=>by rw [AType.cs_eq];rfl) trivial rfl) ?_
 refine OkD.x (.agg [cI x4.Kind,.d (.sl (List.map AType.cs x4.Of))]) rfl trivial rfl (OkD.x (.c (.loc 1 1)) rfl trivial rfl (OkD.x (.c (.d (.sl (List.map AType.cs b.Of)))) rfl trivial rfl ?_))
 obtain ⟨x5,hx5,hr⟩:=bind_some hr
 refine OkD.q (triIdx (enc:=AType.cs) (L:=b.Of) (row:=[dI x5.Kind,.sl (List.map AType.cs x5.Of)]) hx5 (AType.cs_eq _) rfl rfl rfl (fun x=>by rw [AType.cs_eq];rfl) trivial rfl) ?_
 refine OkD.x (.agg [cI x5.Kind,.d (.sl (List.map AType.cs x5.Of))]) rfl trivial rfl ?_
 obtain ⟨x6,hx6,hr⟩:=bind_some hr
 refine OkD.q (triCl (tau []) (.tup [.agg [cI x6.1.Kind,.d (.sl (List.map AType.cs x6.1.Of))],aB x6.2]) [] (hself0 _ _ hx6) rfl ⟨.inl rfl,.inl rfl,trivial⟩ trivial entry192 trivial) (OkD.q (triMv (v:=.tup [.agg [cI x6.1.Kind,.d (.sl (List.map AType.cs x6.1.Of))],aB x6.2]) rfl rfl) (OkD.x (.agg [cI x6.1.Kind,.d (.sl (List.map AType.cs x6.1.Of))]) rfl trivial rfl (OkD.x (aB x6.2) rfl trivial rfl (OkD.m 0 (triAlloc (j:=3) (cs:=[cI 0,.d (.v (.slice none 0 0))]) rfl rfl rfl rfl) (OkD.w (triStore (cs':=[cI x6.1.Kind,.d (.sl (List.map AType.cs x6.1.Of))]) rfl rfl rfl rfl rfl rfl rfl rfl rfl) (OkD.x (aB x6.2) rfl trivial rfl (OkD.nil (by kernel_rfl) (Ok.seq (Ok.seq (Ok.region (OkOps.y (aB x6.2) (OkOps.y (aB (!x6.2)) (OkOps.nil ?_)))))))))))))
 refine Ok.cond (b:=!x6.2) rfl (fun h7=>?_) (fun h7=>?_)
 have hr:=selT h7 hr
 refine Ok.seq (Ok.region (OkOps.y (.agg [cI 0,.d (.v (.slice none 0 0))]) (OkOps.w (triStore (cs':=[cI 0,.d (.v (.slice none 0 0))]) rfl rfl rfl rfl rfl rfl rfl rfl rfl) (OkOps.y (aB false) (OkOps.nil (Ok.ret ?_))))))
 obtain rfl:=Option.some.inj hr
 exact ⟨_,rfl,.inr rfl,trivial⟩
 have hr:=selF h7 hr
 refine Ok.skip (Ok.seq (Ok.region (OkOps.y (.c (.loc 0 0)) (OkOps.y (aI a.Kind) (OkOps.y (.agg [cI x6.1.Kind,.d (.sl (List.map AType.cs x6.1.Of))]) ?_)))))
 refine OkOps.m 0 (triBST (sz:=2) (enc:=AType.cs) (j:=4) ([x6.1]) rfl rfl rfl rfl rfl (rows:=[[dI x6.1.Kind,.sl (List.map AType.cs x6.1.Of)]]) (by simp only [List.map,AType.cs_eq]) rfl rfl (fun x=>by rw [AType.cs_eq];rfl) trivial rfl rfl) ?_
 refine OkOps.y (.agg [cI a.Kind,.tl 4 (List.map AType.cs ([x6.1]))]) (OkOps.w (triStore (cs':=[cI a.Kind,.tl 4 (List.map AType.cs ([x6.1]))]) rfl rfl rfl rfl rfl rfl rfl rfl rfl) (OkOps.y (aB true) (OkOps.nil (Ok.ret ?_))))
 obtain rfl:=Option.some.inj hr
 exact ⟨_,rfl,.inr rfl,trivial⟩
theorem r11_join_all : ∀ n : Nat,(∀ (a : AType) (b : AType) {r : AType × Bool},r11_join n a b = some r → Con Tryz.prog 192 [.agg [cI a.Kind,.d (.sl (List.map AType.cs a.Of))],.agg [cI b.Kind,.d (.sl (List.map AType.cs b.Of))]] [] (.tup [.agg [cI r.1.Kind,.d (.sl (List.map AType.cs r.1.Of))],aB r.2]) []) ∧ True:=by
 intro n
 induction n with
 | zero=>exact ⟨(by intros;rename_i hr;cases hr),trivial⟩
 | succ n ih=>exact ⟨(by intros;rename_i hr;exact r11_join_B_c _ ih.1 _ _ hr),trivial⟩
theorem r11_join_c (n : Nat) (a : AType) (b : AType) {r : AType × Bool} (hr : r11_join n a b = some r) : Con Tryz.prog 192 [.agg [cI a.Kind,.d (.sl (List.map AType.cs a.Of))],.agg [cI b.Kind,.d (.sl (List.map AType.cs b.Of))]] [] (.tup [.agg [cI r.1.Kind,.d (.sl (List.map AType.cs r.1.Of))],aB r.2]) []:=(r11_join_all n).1 a b hr
theorem r11_check_B_c (self0 : AValue → Int → Int → Option (AType × Int × Int)) (hself0 : ∀ (v : AValue) (depth : Int) (met : Int) {r : AType × Int × Int},self0 v depth met = some r → Con Tryz.prog 180 [.agg [cI v.Kind,cI v.N,cS v.S,.d (.sl (List.map AValue.cs v.L))],aI depth,aI met] [] (.tup [.agg [cI r.1.Kind,.d (.sl (List.map AType.cs r.1.Of))],aI r.2.1,aI r.2.2]) []) (v : AValue) (depth : Int) (met : Int) {r : AType × Int × Int} (hr : r11_check_B self0 v depth met = some r) : Con Tryz.prog 180 [.agg [cI v.Kind,cI v.N,cS v.S,.d (.sl (List.map AValue.cs v.L))],aI depth,aI met] [] (.tup [.agg [cI r.1.Kind,.d (.sl (List.map AType.cs r.1.Of))],aI r.2.1,aI r.2.2]) []:=by
 unfold r11_check_B at hr
 refine Con.of_ok 184 0 [.cell 6 196,.tmp 7,.tmp 8] [(0,.s (.agg [cI v.Kind,cI v.N,cS v.S,.d (.sl (List.map AValue.cs v.L))])),(1,.s (aI depth)),(2,.s (aI met))] Tryz.func180 rfl rfl rfl rfl rfl rfl rfl rfl fun w g M ρ _=>(Ok.seq (Ok.region (OkOps.m 0 (triBox (j:=0) (cs:=[cI v.Kind,cI v.N,cS v.S,.d (.sl (List.map AValue.cs v.L))]) rfl rfl rfl rfl rfl) (OkOps.m 0 (triAlloc (j:=1) (cs:=[cI 0,.d (.v (.slice none 0 0))]) rfl rfl rfl rfl) (OkOps.y (aI 0) (OkOps.y (aI 0) (OkOps.nil (Ok.seq (Ok.region (OkOps.y (aI met) (OkOps.y (aI (IntKind.i64.wrap (met + 1))) (OkOps.y (aI (IntKind.i64.wrap (met + 1))) (OkOps.nil (Ok.seq (Ok.region ?_)))))))))))))))
 refine OkOps.y (.c (.loc 0 0)) (OkOps.y (aI v.Kind) (OkOps.y (aB (v.Kind == 4)) (OkOps.y (aB (v.Kind == 4)) (OkOps.nil (Ok.seq (Ok.seq (Ok.region (OkOps.y (aB (v.Kind == 4)) (OkOps.y (aB (v.Kind == 4)) (OkOps.q (triQG (x:=aI depth) rfl rfl trivial rfl) (OkOps.q (triQG (x:=aB (decide (depth > 16))) rfl rfl ⟨fun h=>h,trivial⟩ rfl) (OkOps.q (triAnd rfl rfl (fun h=>h) rfl) (OkOps.nil ?_)))))))))))))
 refine Ok.cond (b:=(v.Kind == 4) && (decide (depth > 16))) rfl (fun h1=>?_) (fun h1=>?_)
 have hr:=selT h1 hr
 refine Ok.seq (Ok.region (OkOps.y (.agg [cI 0,.d (.v (.slice none 0 0))]) (OkOps.y (aI (IntKind.i64.wrap (met + 1))) (OkOps.w (triStore (cs':=[cI 0,.d (.v (.slice none 0 0))]) rfl rfl rfl rfl rfl rfl rfl rfl rfl) (OkOps.y (aI (IntKind.i64.wrap (met + 1))) (OkOps.y (aI 8) (OkOps.nil (Ok.ret ?_))))))))
 obtain rfl:=Option.some.inj hr
 exact ⟨_,rfl,.inr rfl,trivial⟩
 have hr:=selF h1 hr
 refine Ok.skip (Ok.seq (Ok.seq (Ok.region (OkOps.y (.c (.loc 0 0)) (OkOps.y (aI v.Kind) (OkOps.y (aB (decide (v.Kind < 1))) (OkOps.y (aB (decide (v.Kind < 1))) (OkOps.q (triQG (x:=.c (.loc 0 0)) rfl rfl trivial rfl) (OkOps.q (triQG (x:=aI v.Kind) rfl rfl ⟨fun h=>h,trivial⟩ rfl) (OkOps.q (triQG (x:=aB (decide (v.Kind > 4))) rfl rfl ⟨fun h=>h,trivial⟩ rfl) ?_))))))))))
 refine OkOps.q (triOr rfl rfl (fun h=>by rw [h];rfl) rfl) ?_
 refine OkOps.y (aB ((decide (v.Kind < 1)) || (decide (v.Kind > 4)))) (OkOps.q (triQG (x:=.c (.loc 0 1)) rfl rfl trivial rfl) (OkOps.q (triQG (x:=aI v.N) rfl rfl ⟨fun h=>h,trivial⟩ rfl) (OkOps.q (triQG (x:=aB (v.N != 0)) rfl rfl ⟨fun h=>h,trivial⟩ rfl) (OkOps.q (triQG (x:=aB (v.N != 0)) rfl rfl ⟨fun h=>h,trivial⟩ rfl) (OkOps.q (triQG (x:=.c (.loc 0 0)) rfl rfl trivial rfl) (OkOps.q (triQG (x:=aI v.Kind) rfl rfl ⟨fun h=>h,trivial⟩ rfl) (OkOps.q (triQG (x:=aB (v.Kind != 1)) rfl rfl ⟨fun h=>h,trivial⟩ rfl) ?_)))))))
 refine OkOps.q (triAndG rfl rfl rfl (fun h=>h) (fun h h2=>by rw [h,h2];rfl) rfl) ?_
 refine OkOps.q (triQG (x:=aB ((v.N != 0) && (v.Kind != 1))) rfl rfl ⟨fun h=>h,trivial⟩ rfl) (OkOps.q (triQG (x:=.c (.loc 0 0)) rfl rfl trivial rfl) (OkOps.q (triQG (x:=aI v.Kind) rfl rfl ⟨fun h=>h,trivial⟩ rfl) (OkOps.q (triQG (x:=aB (v.Kind != 2)) rfl rfl ⟨fun h=>h,trivial⟩ rfl) ?_)))
 refine OkOps.q (triAndG rfl rfl rfl (fun h=>h) (fun h h2=>by rw [h,h2];rfl) rfl) ?_
 refine OkOps.q (triOr rfl rfl (fun h=>by rw [h];rfl) rfl) ?_
 refine OkOps.y (aB (((decide (v.Kind < 1)) || (decide (v.Kind > 4))) || (((v.N != 0) && (v.Kind != 1)) && (v.Kind != 2)))) (OkOps.q (triQG (x:=.c (.loc 0 2)) rfl rfl trivial rfl) (OkOps.q (triQG (x:=aS v.S) rfl rfl ⟨fun h=>h,trivial⟩ rfl) (OkOps.q (triQG (x:=aB (!(v.S.toList == (ByteArray.mk #[]).toList))) rfl rfl ⟨fun h=>h,trivial⟩ rfl) (OkOps.q (triQG (x:=aB (!(v.S.toList == (ByteArray.mk #[]).toList))) rfl rfl ⟨fun h=>h,trivial⟩ rfl) (OkOps.q (triQG (x:=.c (.loc 0 0)) rfl rfl trivial rfl) (OkOps.q (triQG (x:=aI v.Kind) rfl rfl ⟨fun h=>h,trivial⟩ rfl) (OkOps.q (triQG (x:=aB (v.Kind != 3)) rfl rfl ⟨fun h=>h,trivial⟩ rfl) ?_)))))))
 refine OkOps.q (triAndG rfl rfl rfl (fun h=>h) (fun h h2=>by rw [h,h2];rfl) rfl) ?_
 refine OkOps.q (triOr rfl rfl (fun h=>by rw [h];rfl) rfl) ?_
 refine OkOps.y (aB ((((decide (v.Kind < 1)) || (decide (v.Kind > 4))) || (((v.N != 0) && (v.Kind != 1)) && (v.Kind != 2))) || ((!(v.S.toList == (ByteArray.mk #[]).toList)) && (v.Kind != 3)))) (OkOps.q (triQG (x:=.c (.loc 0 3)) rfl rfl trivial rfl) (OkOps.q (triQG (x:=.c (.d (.sl (List.map AValue.cs v.L)))) rfl rfl ⟨fun h=>h,trivial⟩ rfl) (OkOps.q (triLenG (enc:=AValue.cs) v.L rfl rfl rfl ⟨fun h=>h,trivial⟩ rfl) (OkOps.q (triQG (x:=aB (decide ((v.L.length : Int) > 0))) rfl rfl ⟨fun h=>h,trivial⟩ rfl) (OkOps.q (triQG (x:=aB (decide ((v.L.length : Int) > 0))) rfl rfl ⟨fun h=>h,trivial⟩ rfl) (OkOps.q (triQG (x:=aB (v.Kind == 4)) rfl rfl trivial rfl) (OkOps.q (triQG (x:=aB (!(v.Kind == 4))) rfl rfl ⟨fun h=>h,trivial⟩ rfl) ?_)))))))
 refine OkOps.q (triAndG rfl rfl rfl (fun h=>h) (fun h h2=>by rw [h,h2];rfl) rfl) ?_
 refine OkOps.q (triOr rfl rfl (fun h=>by rw [h];rfl) rfl) ?_
 refine OkOps.nil ?_
 refine Ok.cond (b:=((((decide (v.Kind < 1)) || (decide (v.Kind > 4))) || (((v.N != 0) && (v.Kind != 1)) && (v.Kind != 2))) || ((!(v.S.toList == (ByteArray.mk #[]).toList)) && (v.Kind != 3))) || ((decide ((v.L.length : Int) > 0)) && (!(v.Kind == 4)))) rfl (fun h2=>?_) (fun h2=>?_)
 have hr:=selT h2 hr
 refine Ok.seq (Ok.region (OkOps.y (.agg [cI 0,.d (.v (.slice none 0 0))]) (OkOps.y (aI (IntKind.i64.wrap (met + 1))) (OkOps.w (triStore (cs':=[cI 0,.d (.v (.slice none 0 0))]) rfl rfl rfl rfl rfl rfl rfl rfl rfl) (OkOps.y (aI (IntKind.i64.wrap (met + 1))) (OkOps.y (aI 9) (OkOps.nil (Ok.ret ?_))))))))
 obtain rfl:=Option.some.inj hr
 exact ⟨_,rfl,.inr rfl,trivial⟩
 have hr:=selF h2 hr
 refine Ok.skip (Ok.seq (Ok.seq (Ok.region (OkOps.y (.c (.loc 0 0)) (OkOps.y (aI v.Kind) (OkOps.y (aB (v.Kind == 1)) (OkOps.y (aB (v.Kind == 1)) (OkOps.q (triQG (x:=.c (.loc 0 1)) rfl rfl trivial rfl) (OkOps.q (triQG (x:=aI v.N) rfl rfl ⟨fun h=>h,trivial⟩ rfl) (OkOps.q (triQG (x:=aB (decide (v.N < (-1099511627776)))) rfl rfl ⟨fun h=>h,trivial⟩ rfl) (OkOps.q (triQG (x:=aB (decide (v.N < (-1099511627776)))) rfl rfl ⟨fun h=>h,trivial⟩ rfl) (OkOps.q (triQG (x:=.c (.loc 0 1)) rfl rfl trivial rfl) (OkOps.q (triQG (x:=aI v.N) rfl rfl ⟨fun h=>h,trivial⟩ rfl) (OkOps.q (triQG (x:=aB (decide (v.N > 1099511627776))) rfl rfl ⟨fun h=>h,trivial⟩ rfl) ?_))))))))))))))
 refine OkOps.q (triOrG rfl rfl rfl (fun h=>h) (fun h h2=>by rw [h,h2];rfl) rfl) ?_
 refine OkOps.q (triAnd rfl rfl (fun h=>h) rfl) (OkOps.y (aB ((v.Kind == 1) && ((decide (v.N < (-1099511627776))) || (decide (v.N > 1099511627776))))) (OkOps.q (triQG (x:=.c (.loc 0 0)) rfl rfl trivial rfl) (OkOps.q (triQG (x:=aI v.Kind) rfl rfl ⟨fun h=>h,trivial⟩ rfl) (OkOps.q (triQG (x:=aB (v.Kind == 2)) rfl rfl ⟨fun h=>h,trivial⟩ rfl) (OkOps.q (triQG (x:=aB (v.Kind == 2)) rfl rfl ⟨fun h=>h,trivial⟩ rfl) (OkOps.q (triQG (x:=.c (.loc 0 1)) rfl rfl trivial rfl) (OkOps.q (triQG (x:=aI v.N) rfl rfl ⟨fun h=>h,trivial⟩ rfl) (OkOps.q (triQG (x:=aB (v.N != 0)) rfl rfl ⟨fun h=>h,trivial⟩ rfl) ?_))))))))
 refine OkOps.q (triAndG rfl rfl rfl (fun h=>h) (fun h h2=>by rw [h,h2];rfl) rfl) ?_
 refine OkOps.q (triQG (x:=aB ((v.Kind == 2) && (v.N != 0))) rfl rfl ⟨fun h=>h,trivial⟩ rfl) (OkOps.q (triQG (x:=.c (.loc 0 1)) rfl rfl trivial rfl) (OkOps.q (triQG (x:=aI v.N) rfl rfl ⟨fun h=>h,trivial⟩ rfl) (OkOps.q (triQG (x:=aB (v.N != 1)) rfl rfl ⟨fun h=>h,trivial⟩ rfl) ?_)))
 refine OkOps.q (triAndG rfl rfl rfl (fun h=>h) (fun h h2=>by rw [h,h2];rfl) rfl) ?_
 refine OkOps.q (triOr rfl rfl (fun h=>by rw [h];rfl) rfl) ?_
 refine OkOps.nil ?_
 refine Ok.cond (b:=((v.Kind == 1) && ((decide (v.N < (-1099511627776))) || (decide (v.N > 1099511627776)))) || (((v.Kind == 2) && (v.N != 0)) && (v.N != 1))) rfl (fun h3=>?_) (fun h3=>?_)
 have hr:=selT h3 hr
 refine Ok.seq (Ok.region (OkOps.y (.agg [cI 0,.d (.v (.slice none 0 0))]) (OkOps.y (aI (IntKind.i64.wrap (met + 1))) (OkOps.w (triStore (cs':=[cI 0,.d (.v (.slice none 0 0))]) rfl rfl rfl rfl rfl rfl rfl rfl rfl) (OkOps.y (aI (IntKind.i64.wrap (met + 1))) (OkOps.y (aI 1) (OkOps.nil (Ok.ret ?_))))))))
 obtain rfl:=Option.some.inj hr
 exact ⟨_,rfl,.inr rfl,trivial⟩
 have hr:=selF h3 hr
 refine Ok.skip (Ok.seq (Ok.seq (Ok.region (OkOps.y (.c (.loc 0 2)) (OkOps.y (aS v.S) (OkOps.y (aI (v.S.size : Int)) (OkOps.y (aB (decide ((v.S.size : Int) > 2000))) (OkOps.y (aB (decide ((v.S.size : Int) > 2000))) (OkOps.q (triQG (x:=.c (.loc 0 3)) rfl rfl trivial rfl) (OkOps.q (triQG (x:=.c (.d (.sl (List.map AValue.cs v.L)))) rfl rfl ⟨fun h=>h,trivial⟩ rfl) (OkOps.q (triLenG (enc:=AValue.cs) v.L rfl rfl rfl ⟨fun h=>h,trivial⟩ rfl) (OkOps.q (triQG (x:=aB (decide ((v.L.length : Int) > 100))) rfl rfl ⟨fun h=>h,trivial⟩ rfl) ?_))))))))))))
 refine OkOps.q (triOr rfl rfl (fun h=>by rw [h];rfl) rfl) ?_
 refine OkOps.y (aB ((decide ((v.S.size : Int) > 2000)) || (decide ((v.L.length : Int) > 100)))) (OkOps.q (triQG (x:=aI (IntKind.i64.wrap (met + 1))) rfl rfl trivial rfl) (OkOps.q (triQG (x:=aB (decide ((IntKind.i64.wrap (met + 1)) > 1000))) rfl rfl ⟨fun h=>h,trivial⟩ rfl) ?_))
 refine OkOps.q (triOr rfl rfl (fun h=>by rw [h];rfl) rfl) ?_
 refine OkOps.nil ?_
 refine Ok.cond (b:=((decide ((v.S.size : Int) > 2000)) || (decide ((v.L.length : Int) > 100))) || (decide ((IntKind.i64.wrap (met + 1)) > 1000))) rfl (fun h4=>?_) (fun h4=>?_)
 have hr:=selT h4 hr
 refine Ok.seq (Ok.region (OkOps.y (.agg [cI 0,.d (.v (.slice none 0 0))]) (OkOps.y (aI (IntKind.i64.wrap (met + 1))) (OkOps.w (triStore (cs':=[cI 0,.d (.v (.slice none 0 0))]) rfl rfl rfl rfl rfl rfl rfl rfl rfl) (OkOps.y (aI (IntKind.i64.wrap (met + 1))) (OkOps.y (aI 2) (OkOps.nil (Ok.ret ?_))))))))
 obtain rfl:=Option.some.inj hr
 exact ⟨_,rfl,.inr rfl,trivial⟩
 have hr:=selF h4 hr
 refine Ok.skip (Ok.seq (Ok.seq (Ok.region (OkOps.y (.c (.loc 0 2)) (OkOps.y (aS v.S) ?_)))))
 obtain ⟨x5,hx5,hr⟩:=bind_some hr
 refine OkOps.q (triCl (tau []) (.s (aB x5)) [] (r11_UTF8_c _ hx5) rfl ⟨.inl rfl,trivial⟩ trivial entry191 trivial) (OkOps.y (aB (!x5)) (OkOps.nil ?_))
 refine Ok.cond (b:=!x5) rfl (fun h6=>?_) (fun h6=>?_)
 have hr:=selT h6 hr
 refine Ok.seq (Ok.region (OkOps.y (.agg [cI 0,.d (.v (.slice none 0 0))]) (OkOps.y (aI (IntKind.i64.wrap (met + 1))) (OkOps.w (triStore (cs':=[cI 0,.d (.v (.slice none 0 0))]) rfl rfl rfl rfl rfl rfl rfl rfl rfl) (OkOps.y (aI (IntKind.i64.wrap (met + 1))) (OkOps.y (aI 3) (OkOps.nil (Ok.ret ?_))))))))
 obtain rfl:=Option.some.inj hr
 exact ⟨_,rfl,.inr rfl,trivial⟩
 have hr:=selF h6 hr
 refine Ok.skip (Ok.seq (Ok.region (OkOps.y (.c (.loc 0 0)) (OkOps.y (aI v.Kind) (OkOps.y (.agg [cI v.Kind,.d (.v (.slice none 0 0))]) (OkOps.m 0 (triAlloc (j:=2) (cs:=[cI 0,.d (.v (.slice none 0 0))]) rfl rfl rfl rfl) (OkOps.w (triStore (cs':=[cI v.Kind,.d (.v (.slice none 0 0))]) rfl rfl rfl rfl rfl rfl rfl rfl rfl) (OkOps.nil (Ok.seq (Ok.region (OkOps.y (aB true) (OkOps.nil ?_))))))))))))
 obtain ⟨k8,hk8,hr⟩:=jn_some hr
 refine Ok.join (fun (s7 : Int × Bool × (List AType))=>⟨[(2,.s (aI s7.1)),(6,.s (.c (.loc 1 0))),(10,.s (.c (.loc 2 0))),(11,.s (aB s7.2.1))],[(1,.blk [cI 0,.d (.v (.slice none 0 0))] 196),(2,.blk [cI v.Kind,.tl 1007 (List.map AType.cs s7.2.2)] 196),(1007,.tail 2)],0⟩) k8 r (fun s7 hr=>?_) ?_
 rw [hk8] at hr
 refine Ok.seq (Ok.seq (Ok.region (OkOps.y (aB s7.2.1) (OkOps.y (aB (!s7.2.1)) (OkOps.nil ?_)))))
 refine Ok.cond (b:=!s7.2.1) rfl (fun h9=>?_) (fun h9=>?_)
 have hr:=selT h9 hr
 refine Ok.seq (Ok.region (OkOps.y (.agg [cI 0,.d (.v (.slice none 0 0))]) (OkOps.y (aI s7.1) (OkOps.w (triStore (cs':=[cI 0,.d (.v (.slice none 0 0))]) rfl rfl rfl rfl rfl rfl rfl rfl rfl) (OkOps.y (aI s7.1) (OkOps.y (aI 5) (OkOps.nil (Ok.ret ?_))))))))
 obtain rfl:=Option.some.inj hr
 exact ⟨_,rfl,.inr rfl,trivial⟩
 have hr:=selF h9 hr
 refine Ok.skip (Ok.seq (Ok.region (OkOps.y (.agg [cI v.Kind,.tl 1007 (List.map AType.cs s7.2.2)]) (OkOps.y (aI s7.1) (OkOps.w (triStore (cs':=[cI v.Kind,.tl 1007 (List.map AType.cs s7.2.2)]) rfl rfl rfl rfl rfl rfl rfl rfl rfl) (OkOps.y (aI s7.1) (OkOps.y (aI 0) (OkOps.nil (Ok.ret ?_)))))))))
 obtain rfl:=Option.some.inj hr
 exact ⟨_,rfl,.inr rfl,trivial⟩
 clear hk8
 refine Ok.seq (Ok.region (OkOps.y (aI 0) (OkOps.nil (Ok.block (Ok.loopK (fun (s10 : Int × Bool × Int × (List AType))=>⟨[(1,.s (aI depth)),(2,.s (aI s10.1)),(3,.s (.c (.loc 0 0))),(6,.s (.c (.loc 1 0))),(10,.s (.c (.loc 2 0))),(11,.s (aB s10.2.1)),(12,.s (aI s10.2.2.1))],[(0,.blk [cI v.Kind,cI v.N,cS v.S,.d (.sl (List.map AValue.cs v.L))] 53),(1,.blk [cI 0,.d (.v (.slice none 0 0))] 196),(2,.blk [cI v.Kind,.tl 1011 (List.map AType.cs s10.2.2.2)] 196),(1011,.tail 2)],0⟩) hr (Conv.trans (Conv.nilO 2 1 1014 2 [cI v.Kind,.d (.v (.slice none 0 0))] [cI v.Kind,.tl 1014 (List.map AType.cs ([] : (List AType)))] 196 0 rfl rfl rfl rfl) (Conv.mk (tau [(1011,1014)]) ⟨⟨_,rfl,.inl rfl⟩,⟨_,rfl,.inl rfl⟩,⟨_,rfl,.inl rfl⟩,⟨_,rfl,.inl rfl⟩,⟨_,rfl,.inl rfl⟩,⟨_,rfl,.inl rfl⟩,⟨_,rfl,.inl rfl⟩,trivial⟩ ⟨rfl,rfl,rfl,rfl,trivial⟩ rfl rfl rfl rfl)) ?_)))))
 clear hr
 intro again11 s10 hr
 unfold r11_check_L1 at hr
 refine Ok.seq (Ok.seq (Ok.region (OkOps.y (aI s10.2.2.1) (OkOps.y (.c (.loc 0 3)) (OkOps.y (.c (.d (.sl (List.map AValue.cs v.L)))) (OkOps.q (triLen (enc:=AValue.cs) v.L rfl rfl trivial rfl) (OkOps.y (aB (decide (s10.2.2.1 < (v.L.length : Int)))) (OkOps.nil ?_))))))))
 refine Ok.cond (b:=decide (s10.2.2.1 < (v.L.length : Int))) rfl (fun h12=>?_) (fun h12=>?_)
 have hr:=selT h12 hr
 refine Ok.skip ?_
 obtain ⟨k14,hk14,hr⟩:=jn_some hr
 refine Ok.join (fun (s13 : Int × Bool × (List AType))=>⟨[(1,.s (aI depth)),(2,.s (aI s13.1)),(3,.s (.c (.loc 0 0))),(6,.s (.c (.loc 1 0))),(10,.s (.c (.loc 2 0))),(11,.s (aB s13.2.1)),(12,.s (aI s10.2.2.1))],[(0,.blk [cI v.Kind,cI v.N,cS v.S,.d (.sl (List.map AValue.cs v.L))] 53),(1,.blk [cI 0,.d (.v (.slice none 0 0))] 196),(2,.blk [cI v.Kind,.tl 1015 (List.map AType.cs s13.2.2)] 196),(1015,.tail 2)],0⟩) k14 r (fun s13 hr=>?_) ?_
 rw [hk14] at hr
 refine Ok.region (OkOps.y (aI s10.2.2.1) (OkOps.y (aI (IntKind.i64.wrap (s10.2.2.1 + 1))) (OkOps.y (aI (IntKind.i64.wrap (s10.2.2.1 + 1))) (OkOps.nil ?_))))
 exact ⟨(s13.1,s13.2.1,IntKind.i64.wrap (s10.2.2.1 + 1),s13.2.2),hr,(Conv.mk (tau [(1011,1015)]) ⟨⟨_,rfl,.inl rfl⟩,⟨_,rfl,.inl rfl⟩,⟨_,rfl,.inl rfl⟩,⟨_,rfl,.inl rfl⟩,⟨_,rfl,.inl rfl⟩,⟨_,rfl,.inl rfl⟩,⟨_,rfl,.inl rfl⟩,trivial⟩ ⟨rfl,rfl,rfl,rfl,trivial⟩ rfl rfl rfl rfl)⟩
 clear hk14
 refine Ok.block (Ok.seq (Ok.region (OkOps.y (.c (.loc 0 3)) (OkOps.y (.c (.d (.sl (List.map AValue.cs v.L)))) (OkOps.y (aI s10.2.2.1) ?_)))))
 obtain ⟨x15,hx15,hr⟩:=bind_some hr
 refine OkOps.q (triIdx (enc:=AValue.cs) (L:=v.L) (row:=[dI x15.Kind,dI x15.N,dS x15.S,.sl (List.map AValue.cs x15.L)]) hx15 (AValue.cs_eq _) rfl rfl rfl (fun x=>by rw [AValue.cs_eq];rfl) trivial rfl) ?_
 refine OkOps.y (.agg [cI x15.Kind,cI x15.N,cS x15.S,.d (.sl (List.map AValue.cs x15.L))]) (OkOps.y (aI depth) (OkOps.y (aI (IntKind.i64.wrap (depth + 1))) (OkOps.y (aI s10.1) ?_)))
 obtain ⟨x16,hx16,hr⟩:=bind_some hr
 refine OkOps.q (triCl (tau []) (.tup [.agg [cI x16.1.Kind,.d (.sl (List.map AType.cs x16.1.Of))],aI x16.2.1,aI x16.2.2]) [] (hself0 _ _ _ hx16) rfl ⟨.inl rfl,.inl rfl,.inl rfl,trivial⟩ trivial entry180 trivial) (OkOps.q (triMv (v:=.tup [.agg [cI x16.1.Kind,.d (.sl (List.map AType.cs x16.1.Of))],aI x16.2.1,aI x16.2.2]) rfl rfl) (OkOps.y (.agg [cI x16.1.Kind,.d (.sl (List.map AType.cs x16.1.Of))]) (OkOps.y (aI x16.2.1) (OkOps.y (aI x16.2.2) (OkOps.m 0 (triAlloc (j:=3) (cs:=[cI 0,.d (.v (.slice none 0 0))]) rfl rfl rfl rfl) (OkOps.w (triStore (cs':=[cI x16.1.Kind,.d (.sl (List.map AType.cs x16.1.Of))]) rfl rfl rfl rfl rfl rfl rfl rfl rfl) (OkOps.y (aI x16.2.1) (OkOps.y (aI x16.2.2) (OkOps.nil (Ok.seq (Ok.region (OkOps.y (aI x16.2.1) (OkOps.y (aI x16.2.1) (OkOps.nil (Ok.seq ?_)))))))))))))))
 refine Ok.seq (Ok.region (OkOps.y (aI x16.2.2) (OkOps.y (aB (x16.2.2 != 0)) (OkOps.nil ?_))))
 refine Ok.cond (b:=x16.2.2 != 0) rfl (fun h17=>?_) (fun h17=>?_)
 have hr:=selT h17 hr
 refine Ok.seq (Ok.region (OkOps.y (.agg [cI 0,.d (.v (.slice none 0 0))]) (OkOps.y (aI x16.2.1) (OkOps.y (aI x16.2.2) (OkOps.w (triStore (cs':=[cI 0,.d (.v (.slice none 0 0))]) rfl rfl rfl rfl rfl rfl rfl rfl rfl) (OkOps.y (aI x16.2.1) (OkOps.y (aI x16.2.2) (OkOps.nil (Ok.ret ?_)))))))))
 obtain rfl:=Option.some.inj hr
 exact ⟨_,rfl,.inr rfl,trivial⟩
 have hr:=selF h17 hr
 refine Ok.skip (Ok.seq (Ok.seq (Ok.region (OkOps.y (aB s10.2.1) (OkOps.y (aB (!s10.2.1)) (OkOps.nil ?_))))))
 refine Ok.cond (b:=!s10.2.1) rfl (fun h18=>?_) (fun h18=>?_)
 have hr:=selT h18 hr
 refine Ok.exit ?_
 exact ⟨(x16.2.1,s10.2.1,s10.2.2.2),hr,(Conv.mk (tau [(1015,1011)]) ⟨⟨_,rfl,.inl rfl⟩,⟨_,rfl,.inl rfl⟩,⟨_,rfl,.inl rfl⟩,⟨_,rfl,.inl rfl⟩,⟨_,rfl,.inl rfl⟩,⟨_,rfl,.inl rfl⟩,⟨_,rfl,.inl rfl⟩,trivial⟩ ⟨rfl,rfl,rfl,rfl,trivial⟩ rfl rfl rfl rfl)⟩
 have hr:=selF h18 hr
 refine Ok.skip (Ok.seq (Ok.seq (Ok.region (OkOps.y (.c (.loc 2 1)) (OkOps.y (.c (.tl 1011 (List.map AType.cs s10.2.2.2))) (OkOps.q (triLen (enc:=AType.cs) s10.2.2.2 rfl rfl trivial rfl) (OkOps.y (aB ((s10.2.2.2.length : Int) == 0)) (OkOps.nil ?_))))))))
 refine Ok.cond (b:=(s10.2.2.2.length : Int) == 0) rfl (fun h19=>?_) (fun h19=>?_)
 have hr:=selT h19 hr
 refine Ok.seq (Ok.region (OkOps.y (.agg [cI x16.1.Kind,.d (.sl (List.map AType.cs x16.1.Of))]) ?_))
 refine OkOps.m 0 (triBST (sz:=2) (enc:=AType.cs) (j:=4) ([x16.1]) rfl rfl rfl rfl rfl (rows:=[[dI x16.1.Kind,.sl (List.map AType.cs x16.1.Of)]]) (by simp only [List.map,AType.cs_eq]) rfl rfl (fun x=>by rw [AType.cs_eq];rfl) trivial rfl rfl) ?_
 refine OkOps.y (.c (.loc 2 1)) (OkOps.w (triStore (cs':=[cI v.Kind,.tl 4 (List.map AType.cs ([x16.1]))]) rfl rfl rfl rfl rfl rfl rfl rfl rfl) (OkOps.nil (Ok.exit ?_)))
 exact ⟨(x16.2.1,s10.2.1,[x16.1]),hr,(Conv.mk (tau [(1015,4)]) ⟨⟨_,rfl,.inl rfl⟩,⟨_,rfl,.inl rfl⟩,⟨_,rfl,.inl rfl⟩,⟨_,rfl,.inl rfl⟩,⟨_,rfl,.inl rfl⟩,⟨_,rfl,.inl rfl⟩,⟨_,rfl,.inl rfl⟩,trivial⟩ ⟨rfl,rfl,rfl,rfl,trivial⟩ rfl rfl rfl rfl)⟩
 have hr:=selF h19 hr
 refine Ok.skip (Ok.seq (Ok.regionD (by kernel_rfl) (OkD.x (.c (.loc 2 1)) rfl trivial rfl (OkD.x (.c (.tl 1011 (List.map AType.cs s10.2.2.2))) rfl trivial rfl ?_))))
 obtain ⟨x20,hx20,hr⟩:=bind_some hr
 refine OkD.q (triIdx (enc:=AType.cs) (L:=s10.2.2.2) (row:=[dI x20.Kind,.sl (List.map AType.cs x20.Of)]) hx20 (AType.cs_eq _) rfl rfl rfl (fun x=>by rw [AType.cs_eq];rfl) trivial rfl) ?_
 refine OkD.x (.agg [cI x20.Kind,.d (.sl (List.map AType.cs x20.Of))]) rfl trivial rfl (OkD.x (.agg [cI x16.1.Kind,.d (.sl (List.map AType.cs x16.1.Of))]) rfl trivial rfl ?_)
 obtain ⟨x21,hx21,hr⟩:=bind_some hr
 refine OkD.q (triCl (tau []) (.tup [.agg [cI x21.1.Kind,.d (.sl (List.map AType.cs x21.1.Of))],aB x21.2]) [] (r11_join_c _ _ _ hx21) rfl ⟨.inl rfl,.inl rfl,trivial⟩ trivial entry192 trivial) (OkD.q (triMv (v:=.tup [.agg [cI x21.1.Kind,.d (.sl (List.map AType.cs x21.1.Of))],aB x21.2]) rfl rfl) (OkD.x (.agg [cI x21.1.Kind,.d (.sl (List.map AType.cs x21.1.Of))]) rfl trivial rfl (OkD.x (aB x21.2) rfl trivial rfl (OkD.m 0 (triAlloc (j:=5) (cs:=[cI 0,.d (.v (.slice none 0 0))]) rfl rfl rfl rfl) (OkD.w (triStore (cs':=[cI x21.1.Kind,.d (.sl (List.map AType.cs x21.1.Of))]) rfl rfl rfl rfl rfl rfl rfl rfl rfl) (OkD.x (aB x21.2) rfl trivial rfl (OkD.nil (by kernel_rfl) (Ok.seq (Ok.region (OkOps.y (aB x21.2) (OkOps.y (aB x21.2) (OkOps.nil (Ok.region (OkOps.y (.agg [cI x21.1.Kind,.d (.sl (List.map AType.cs x21.1.Of))]) ?_))))))))))))))
 refine OkOps.m 0 (triBST (sz:=2) (enc:=AType.cs) (j:=6) ([x21.1]) rfl rfl rfl rfl rfl (rows:=[[dI x21.1.Kind,.sl (List.map AType.cs x21.1.Of)]]) (by simp only [List.map,AType.cs_eq]) rfl rfl (fun x=>by rw [AType.cs_eq];rfl) trivial rfl rfl) ?_
 refine OkOps.y (.c (.loc 2 1)) (OkOps.w (triStore (cs':=[cI v.Kind,.tl 6 (List.map AType.cs ([x21.1]))]) rfl rfl rfl rfl rfl rfl rfl rfl rfl) (OkOps.nil ?_))
 exact ⟨(x16.2.1,x21.2,[x21.1]),hr,(Conv.mk (tau [(1015,6)]) ⟨⟨_,rfl,.inl rfl⟩,⟨_,rfl,.inl rfl⟩,⟨_,rfl,.inl rfl⟩,⟨_,rfl,.inl rfl⟩,⟨_,rfl,.inl rfl⟩,⟨_,rfl,.inl rfl⟩,⟨_,rfl,.inl rfl⟩,trivial⟩ ⟨rfl,rfl,rfl,rfl,trivial⟩ rfl rfl rfl rfl)⟩
 have hr:=selF h12 hr
 refine Ok.exit ?_
 exact ⟨(s10.1,s10.2.1,s10.2.2.2),hr,(Conv.mk (tau [(1007,1011)]) ⟨⟨_,rfl,.inl rfl⟩,⟨_,rfl,.inl rfl⟩,⟨_,rfl,.inl rfl⟩,⟨_,rfl,.inl rfl⟩,trivial⟩ ⟨rfl,rfl,rfl,trivial⟩ rfl rfl rfl rfl)⟩
theorem r11_check_all : ∀ n : Nat,(∀ (v : AValue) (depth : Int) (met : Int) {r : AType × Int × Int},r11_check n v depth met = some r → Con Tryz.prog 180 [.agg [cI v.Kind,cI v.N,cS v.S,.d (.sl (List.map AValue.cs v.L))],aI depth,aI met] [] (.tup [.agg [cI r.1.Kind,.d (.sl (List.map AType.cs r.1.Of))],aI r.2.1,aI r.2.2]) []) ∧ True:=by
 intro n
 induction n with
 | zero=>exact ⟨(by intros;rename_i hr;cases hr),trivial⟩
 | succ n ih=>exact ⟨(by intros;rename_i hr;exact r11_check_B_c _ ih.1 _ _ _ hr),trivial⟩
theorem r11_check_c (n : Nat) (v : AValue) (depth : Int) (met : Int) {r : AType × Int × Int} (hr : r11_check n v depth met = some r) : Con Tryz.prog 180 [.agg [cI v.Kind,cI v.N,cS v.S,.d (.sl (List.map AValue.cs v.L))],aI depth,aI met] [] (.tup [.agg [cI r.1.Kind,.d (.sl (List.map AType.cs r.1.Of))],aI r.2.1,aI r.2.2]) []:=(r11_check_all n).1 v depth met hr
theorem r11_TypeOf_c (v : AValue) {r : AType × Int} (hr : r11_TypeOf v = some r) : Con Tryz.prog 153 [.agg [cI v.Kind,cI v.N,cS v.S,.d (.sl (List.map AValue.cs v.L))]] [] (.tup [.agg [cI r.1.Kind,.d (.sl (List.map AType.cs r.1.Of))],aI r.2]) []:=by
 unfold r11_TypeOf at hr
 refine Con.of_ok 15 0 [.cell 2 196,.tmp 3] [(0,.s (.agg [cI v.Kind,cI v.N,cS v.S,.d (.sl (List.map AValue.cs v.L))]))] Tryz.func153 rfl rfl rfl rfl rfl rfl rfl rfl fun w g M ρ _=>(Ok.seq (Ok.region (OkOps.m 0 (triBox (j:=0) (cs:=[cI v.Kind,cI v.N,cS v.S,.d (.sl (List.map AValue.cs v.L))]) rfl rfl rfl rfl rfl) (OkOps.m 0 (triAlloc (j:=1) (cs:=[cI 0,.d (.v (.slice none 0 0))]) rfl rfl rfl rfl) (OkOps.y (aI 0) (OkOps.nil (Ok.seq (Ok.region (OkOps.y (.agg [cI v.Kind,cI v.N,cS v.S,.d (.sl (List.map AValue.cs v.L))]) ?_)))))))))
 obtain ⟨x1,hx1,hr⟩:=bind_some hr
 refine OkOps.q (triCl (tau []) (.tup [.agg [cI x1.1.Kind,.d (.sl (List.map AType.cs x1.1.Of))],aI x1.2.1,aI x1.2.2]) [] (r11_check_c _ _ _ _ hx1) rfl ⟨.inl rfl,.inl rfl,.inl rfl,trivial⟩ trivial entry180 trivial) (OkOps.q (triMv (v:=.tup [.agg [cI x1.1.Kind,.d (.sl (List.map AType.cs x1.1.Of))],aI x1.2.1,aI x1.2.2]) rfl rfl) (OkOps.y (.agg [cI x1.1.Kind,.d (.sl (List.map AType.cs x1.1.Of))]) (OkOps.y (aI x1.2.1) (OkOps.y (aI x1.2.2) (OkOps.m 0 (triAlloc (j:=2) (cs:=[cI 0,.d (.v (.slice none 0 0))]) rfl rfl rfl rfl) (OkOps.w (triStore (cs':=[cI x1.1.Kind,.d (.sl (List.map AType.cs x1.1.Of))]) rfl rfl rfl rfl rfl rfl rfl rfl rfl) (OkOps.y (aI x1.2.1) (OkOps.y (aI x1.2.2) (OkOps.nil (Ok.seq (Ok.region (OkOps.y (.agg [cI x1.1.Kind,.d (.sl (List.map AType.cs x1.1.Of))]) (OkOps.y (aI x1.2.2) (OkOps.w (triStore (cs':=[cI x1.1.Kind,.d (.sl (List.map AType.cs x1.1.Of))]) rfl rfl rfl rfl rfl rfl rfl rfl rfl) (OkOps.y (aI x1.2.2) ?_)))))))))))))))
 refine OkOps.nil (Ok.ret ?_)
 obtain rfl:=Option.some.inj hr
 exact ⟨_,rfl,.inl rfl,trivial⟩
theorem r11_Check_c (v : AValue) {r : Int} (hr : r11_Check v = some r) : Con Tryz.prog 112 [.agg [cI v.Kind,cI v.N,cS v.S,.d (.sl (List.map AValue.cs v.L))]] [] (.s (aI r)) []:=by
 unfold r11_Check at hr
 refine Con.of_ok 11 0 [.tmp 2] [(0,.s (.agg [cI v.Kind,cI v.N,cS v.S,.d (.sl (List.map AValue.cs v.L))]))] Tryz.func112 rfl rfl rfl rfl rfl rfl rfl rfl fun w g M ρ _=>(Ok.seq (Ok.region (OkOps.m 0 (triBox (j:=0) (cs:=[cI v.Kind,cI v.N,cS v.S,.d (.sl (List.map AValue.cs v.L))]) rfl rfl rfl rfl rfl) (OkOps.y (aI 0) (OkOps.nil (Ok.seq (Ok.region (OkOps.y (.agg [cI v.Kind,cI v.N,cS v.S,.d (.sl (List.map AValue.cs v.L))]) ?_))))))))
 obtain ⟨x1,hx1,hr⟩:=bind_some hr
 refine OkOps.q (triCl (tau []) (.tup [.agg [cI x1.1.Kind,.d (.sl (List.map AType.cs x1.1.Of))],aI x1.2]) [] (r11_TypeOf_c _ hx1) rfl ⟨.inl rfl,trivial⟩ trivial entry153 trivial) (OkOps.q (triMv (v:=.tup [.agg [cI x1.1.Kind,.d (.sl (List.map AType.cs x1.1.Of))],aI x1.2]) rfl rfl) (OkOps.y (.agg [cI x1.1.Kind,.d (.sl (List.map AType.cs x1.1.Of))]) (OkOps.y (aI x1.2) (OkOps.m 0 (triAlloc (j:=1) (cs:=[cI 0,.d (.v (.slice none 0 0))]) rfl rfl rfl rfl) (OkOps.w (triStore (cs':=[cI x1.1.Kind,.d (.sl (List.map AType.cs x1.1.Of))]) rfl rfl rfl rfl rfl rfl rfl rfl rfl) (OkOps.y (aI x1.2) (OkOps.nil (Ok.seq (Ok.region (OkOps.y (aI x1.2) (OkOps.y (aI x1.2) (OkOps.nil (Ok.ret ?_)))))))))))))
 obtain rfl:=Option.some.inj hr
 exact ⟨_,rfl,.inl rfl,trivial⟩
end Go.Proofs.YtfoigppmcelgfaaGreatDoor
end
section
set_option maxRecDepth 100000
namespace Go.Proofs.YtfoigppmcelgfaaGreatDoor
open Go Go.E2
theorem r14_validate_B_c (self0 : View → Int → Int → Option (Int × Int)) (hself0 : ∀ (v : View) (depth : Int) (met : Int) {r : Int × Int},self0 v depth met = some r → Con Tryz.prog 75 [.agg [cI v.Kind,cS v.Key,.d (.sl (List.map Attr.cs v.Attrs)),.d (.sl (List.map Action.cs v.Actions)),.d (.sl (List.map View.cs v.Kids))],aI depth,aI met] [] (.tup [aI r.1,aI r.2]) []) (v : View) (depth : Int) (met : Int) {r : Int × Int} (hr : r14_validate_B self0 v depth met = some r) : Con Tryz.prog 75 [.agg [cI v.Kind,cS v.Key,.d (.sl (List.map Attr.cs v.Attrs)),.d (.sl (List.map Action.cs v.Actions)),.d (.sl (List.map View.cs v.Kids))],aI depth,aI met] [] (.tup [aI r.1,aI r.2]) []:=by
 unfold r14_validate_B at hr
 refine Con.of_ok 230 0 [.tmp 6,.tmp 7] [(0,.s (.agg [cI v.Kind,cS v.Key,.d (.sl (List.map Attr.cs v.Attrs)),.d (.sl (List.map Action.cs v.Actions)),.d (.sl (List.map View.cs v.Kids))])),(1,.s (aI depth)),(2,.s (aI met))] Tryz.func75 rfl rfl rfl rfl rfl rfl rfl rfl fun w g M ρ _=>(Ok.seq (Ok.region (OkOps.m 0 (triBox (j:=0) (cs:=[cI v.Kind,cS v.Key,.d (.sl (List.map Attr.cs v.Attrs)),.d (.sl (List.map Action.cs v.Actions)),.d (.sl (List.map View.cs v.Kids))]) rfl rfl rfl rfl rfl) (OkOps.y (aI 0) (OkOps.y (aI 0) (OkOps.nil (Ok.seq (Ok.region (OkOps.y (aI met) (OkOps.y (aI (IntKind.i64.wrap (met + 1))) (OkOps.y (aI (IntKind.i64.wrap (met + 1))) (OkOps.nil (Ok.seq (Ok.seq (Ok.region ?_)))))))))))))))
 refine OkOps.y (aI depth) (OkOps.y (aB (decide (depth > 16))) (OkOps.nil ?_))
 refine Ok.cond (b:=decide (depth > 16)) rfl (fun h1=>?_) (fun h1=>?_)
 have hr:=selT h1 hr
 refine Ok.seq (Ok.region (OkOps.y (aI (IntKind.i64.wrap (met + 1))) (OkOps.y (aI (IntKind.i64.wrap (met + 1))) (OkOps.y (aI 8) (OkOps.nil (Ok.ret ?_))))))
 obtain rfl:=Option.some.inj hr
 exact ⟨_,rfl,.inl rfl,trivial⟩
 have hr:=selF h1 hr
 refine Ok.skip (Ok.seq (Ok.seq (Ok.region (OkOps.y (aI (IntKind.i64.wrap (met + 1))) (OkOps.y (aB (decide ((IntKind.i64.wrap (met + 1)) > 400))) (OkOps.nil ?_))))))
 refine Ok.cond (b:=decide ((IntKind.i64.wrap (met + 1)) > 400)) rfl (fun h2=>?_) (fun h2=>?_)
 have hr:=selT h2 hr
 refine Ok.seq (Ok.region (OkOps.y (aI (IntKind.i64.wrap (met + 1))) (OkOps.y (aI (IntKind.i64.wrap (met + 1))) (OkOps.y (aI 2) (OkOps.nil (Ok.ret ?_))))))
 obtain rfl:=Option.some.inj hr
 exact ⟨_,rfl,.inl rfl,trivial⟩
 have hr:=selF h2 hr
 refine Ok.skip (Ok.seq (Ok.seq (Ok.region (OkOps.y (.c (.loc 0 0)) (OkOps.y (aI v.Kind) (OkOps.y (aB (decide (v.Kind < 1))) (OkOps.y (aB (decide (v.Kind < 1))) (OkOps.q (triQG (x:=.c (.loc 0 0)) rfl rfl trivial rfl) (OkOps.q (triQG (x:=aI v.Kind) rfl rfl ⟨fun h=>h,trivial⟩ rfl) (OkOps.q (triQG (x:=aB (decide (v.Kind > 13))) rfl rfl ⟨fun h=>h,trivial⟩ rfl) ?_))))))))))
 refine OkOps.q (triOr rfl rfl (fun h=>by rw [h];rfl) rfl) ?_
 refine OkOps.nil ?_
 refine Ok.cond (b:=(decide (v.Kind < 1)) || (decide (v.Kind > 13))) rfl (fun h3=>?_) (fun h3=>?_)
 have hr:=selT h3 hr
 refine Ok.seq (Ok.region (OkOps.y (aI (IntKind.i64.wrap (met + 1))) (OkOps.y (aI (IntKind.i64.wrap (met + 1))) (OkOps.y (aI 9) (OkOps.nil (Ok.ret ?_))))))
 obtain rfl:=Option.some.inj hr
 exact ⟨_,rfl,.inl rfl,trivial⟩
 have hr:=selF h3 hr
 refine Ok.skip (Ok.seq (Ok.seq (Ok.region (OkOps.y (.c (.loc 0 1)) (OkOps.y (aS v.Key) ?_)))))
 obtain ⟨x4,hx4,hr⟩:=bind_some hr
 refine OkOps.q (triCl (tau []) (.s (aB x4)) [] (r14_Key_c _ hx4) rfl ⟨.inl rfl,trivial⟩ trivial entry110 trivial) (OkOps.y (aB (!x4)) (OkOps.nil ?_))
 refine Ok.cond (b:=!x4) rfl (fun h5=>?_) (fun h5=>?_)
 have hr:=selT h5 hr
 refine Ok.seq (Ok.region (OkOps.y (aI (IntKind.i64.wrap (met + 1))) (OkOps.y (aI (IntKind.i64.wrap (met + 1))) (OkOps.y (aI 4) (OkOps.nil (Ok.ret ?_))))))
 obtain rfl:=Option.some.inj hr
 exact ⟨_,rfl,.inl rfl,trivial⟩
 have hr:=selF h5 hr
 refine Ok.skip (Ok.seq (Ok.seq (Ok.region (OkOps.y (.c (.loc 0 2)) (OkOps.y (.c (.d (.sl (List.map Attr.cs v.Attrs)))) (OkOps.q (triLen (enc:=Attr.cs) v.Attrs rfl rfl trivial rfl) (OkOps.y (aB (decide ((v.Attrs.length : Int) > 24))) (OkOps.y (aB (decide ((v.Attrs.length : Int) > 24))) (OkOps.q (triQG (x:=.c (.loc 0 3)) rfl rfl trivial rfl) (OkOps.q (triQG (x:=.c (.d (.sl (List.map Action.cs v.Actions)))) rfl rfl ⟨fun h=>h,trivial⟩ rfl) (OkOps.q (triLenG (enc:=Action.cs) v.Actions rfl rfl rfl ⟨fun h=>h,trivial⟩ rfl) (OkOps.q (triQG (x:=aB (decide ((v.Actions.length : Int) > 24))) rfl rfl ⟨fun h=>h,trivial⟩ rfl) ?_))))))))))))
 refine OkOps.q (triOr rfl rfl (fun h=>by rw [h];rfl) rfl) ?_
 refine OkOps.y (aB ((decide ((v.Attrs.length : Int) > 24)) || (decide ((v.Actions.length : Int) > 24)))) (OkOps.q (triQG (x:=.c (.loc 0 4)) rfl rfl trivial rfl) (OkOps.q (triQG (x:=.c (.d (.sl (List.map View.cs v.Kids)))) rfl rfl ⟨fun h=>h,trivial⟩ rfl) (OkOps.q (triLenG (enc:=View.cs) v.Kids rfl rfl rfl ⟨fun h=>h,trivial⟩ rfl) (OkOps.q (triQG (x:=aB (decide ((v.Kids.length : Int) > 100))) rfl rfl ⟨fun h=>h,trivial⟩ rfl) ?_))))
 refine OkOps.q (triOr rfl rfl (fun h=>by rw [h];rfl) rfl) ?_
 refine OkOps.nil ?_
 refine Ok.cond (b:=((decide ((v.Attrs.length : Int) > 24)) || (decide ((v.Actions.length : Int) > 24))) || (decide ((v.Kids.length : Int) > 100))) rfl (fun h6=>?_) (fun h6=>?_)
 have hr:=selT h6 hr
 refine Ok.seq (Ok.region (OkOps.y (aI (IntKind.i64.wrap (met + 1))) (OkOps.y (aI (IntKind.i64.wrap (met + 1))) (OkOps.y (aI 2) (OkOps.nil (Ok.ret ?_))))))
 obtain rfl:=Option.some.inj hr
 exact ⟨_,rfl,.inl rfl,trivial⟩
 have hr:=selF h6 hr
 refine Ok.skip ?_
 obtain ⟨k8,hk8,hr⟩:=jn_some hr
 refine Ok.join (fun (s7 : Unit)=>⟨[(1,.s (aI depth)),(2,.s (aI (IntKind.i64.wrap (met + 1)))),(3,.s (.c (.loc 0 0)))],[(0,.blk [cI v.Kind,cS v.Key,.d (.sl (List.map Attr.cs v.Attrs)),.d (.sl (List.map Action.cs v.Actions)),.d (.sl (List.map View.cs v.Kids))] 27)],0⟩) k8 r (fun s7 hr=>?_) ?_
 rw [hk8] at hr
 obtain ⟨k10,hk10,hr⟩:=jn_some hr
 refine Ok.join (fun (s9 : Unit)=>⟨[(1,.s (aI depth)),(2,.s (aI (IntKind.i64.wrap (met + 1)))),(3,.s (.c (.loc 0 0)))],[(0,.blk [cI v.Kind,cS v.Key,.d (.sl (List.map Attr.cs v.Attrs)),.d (.sl (List.map Action.cs v.Actions)),.d (.sl (List.map View.cs v.Kids))] 27)],0⟩) k10 r (fun s9 hr=>?_) ?_
 rw [hk10] at hr
 obtain ⟨k12,hk12,hr⟩:=jn_some hr
 refine Ok.join (fun (s11 : Unit)=>⟨[(1,.s (aI depth)),(2,.s (aI (IntKind.i64.wrap (met + 1)))),(3,.s (.c (.loc 0 0)))],[(0,.blk [cI v.Kind,cS v.Key,.d (.sl (List.map Attr.cs v.Attrs)),.d (.sl (List.map Action.cs v.Actions)),.d (.sl (List.map View.cs v.Kids))] 27)],0⟩) k12 r (fun s11 hr=>?_) ?_
 rw [hk12] at hr
 obtain ⟨k14,hk14,hr⟩:=jn_some hr
 refine Ok.join (fun (s13 : Int)=>⟨[(2,.s (aI s13))],[],0⟩) k14 r (fun s13 hr=>?_) ?_
 rw [hk14] at hr
 refine Ok.seq (Ok.region (OkOps.y (aI s13) (OkOps.y (aI s13) (OkOps.y (aI 0) (OkOps.nil (Ok.ret ?_))))))
 obtain rfl:=Option.some.inj hr
 exact ⟨_,rfl,.inl rfl,trivial⟩
 clear hk14
 refine Ok.seq (Ok.region (OkOps.y (aI 0) (OkOps.nil (Ok.block (Ok.loopK (fun (s15 : Int × Int)=>⟨[(1,.s (aI depth)),(2,.s (aI s15.1)),(3,.s (.c (.loc 0 0))),(16,.s (aI s15.2))],[(0,.blk [cI v.Kind,cS v.Key,.d (.sl (List.map Attr.cs v.Attrs)),.d (.sl (List.map Action.cs v.Actions)),.d (.sl (List.map View.cs v.Kids))] 27)],0⟩) hr (Conv.mk (tau []) ⟨⟨_,rfl,.inl rfl⟩,⟨_,rfl,.inl rfl⟩,⟨_,rfl,.inl rfl⟩,⟨_,rfl,.inl rfl⟩,trivial⟩ ⟨rfl,trivial⟩ rfl rfl rfl rfl) ?_)))))
 clear hr
 intro again16 s15 hr
 unfold r14_validate_L1 at hr
 refine Ok.seq (Ok.seq (Ok.region (OkOps.y (aI s15.2) (OkOps.y (.c (.loc 0 4)) (OkOps.y (.c (.d (.sl (List.map View.cs v.Kids)))) (OkOps.q (triLen (enc:=View.cs) v.Kids rfl rfl trivial rfl) (OkOps.y (aB (decide (s15.2 < (v.Kids.length : Int)))) (OkOps.nil ?_))))))))
 refine Ok.cond (b:=decide (s15.2 < (v.Kids.length : Int))) rfl (fun h17=>?_) (fun h17=>?_)
 have hr:=selT h17 hr
 refine Ok.skip (Ok.seq (Ok.block (Ok.seq (Ok.region (OkOps.y (.c (.loc 0 4)) (OkOps.y (.c (.d (.sl (List.map View.cs v.Kids)))) (OkOps.y (aI s15.2) ?_)))))))
 obtain ⟨x18,hx18,hr⟩:=bind_some hr
 refine OkOps.q (triIdx (enc:=View.cs) (L:=v.Kids) (row:=[dI x18.Kind,dS x18.Key,.sl (List.map Attr.cs x18.Attrs),.sl (List.map Action.cs x18.Actions),.sl (List.map View.cs x18.Kids)]) hx18 (View.cs_eq _) rfl rfl rfl (fun x=>by rw [View.cs_eq];rfl) trivial rfl) ?_
 refine OkOps.y (.agg [cI x18.Kind,cS x18.Key,.d (.sl (List.map Attr.cs x18.Attrs)),.d (.sl (List.map Action.cs x18.Actions)),.d (.sl (List.map View.cs x18.Kids))]) (OkOps.y (aI depth) (OkOps.y (aI (IntKind.i64.wrap (depth + 1))) (OkOps.y (aI s15.1) ?_)))
 obtain ⟨x19,hx19,hr⟩:=bind_some hr
 refine OkOps.q (triCl (tau []) (.tup [aI x19.1,aI x19.2]) [] (hself0 _ _ _ hx19) rfl ⟨.inl rfl,.inl rfl,.inl rfl,trivial⟩ trivial entry75 trivial) (OkOps.q (triMv (v:=.tup [aI x19.1,aI x19.2]) rfl rfl) (OkOps.y (aI x19.1) (OkOps.y (aI x19.2) (OkOps.y (aI x19.1) (OkOps.y (aI x19.2) (OkOps.nil (Ok.seq (Ok.region (OkOps.y (aI x19.1) (OkOps.y (aI x19.1) (OkOps.nil (Ok.seq (Ok.region (OkOps.y (aI x19.2) (OkOps.y (aB (x19.2 != 0)) ?_)))))))))))))))
 refine OkOps.nil ?_
 refine Ok.cond (b:=x19.2 != 0) rfl (fun h20=>?_) (fun h20=>?_)
 have hr:=selT h20 hr
 refine Ok.seq (Ok.region (OkOps.y (aI x19.1) (OkOps.y (aI x19.2) (OkOps.y (aI x19.1) (OkOps.y (aI x19.2) (OkOps.nil (Ok.ret ?_)))))))
 obtain rfl:=Option.some.inj hr
 exact ⟨_,rfl,.inl rfl,trivial⟩
 have hr:=selF h20 hr
 refine Ok.skip (Ok.region (OkOps.y (aI s15.2) (OkOps.y (aI (IntKind.i64.wrap (s15.2 + 1))) (OkOps.y (aI (IntKind.i64.wrap (s15.2 + 1))) (OkOps.nil ?_)))))
 exact ⟨(x19.1,IntKind.i64.wrap (s15.2 + 1)),hr,(Conv.mk (tau []) ⟨⟨_,rfl,.inl rfl⟩,⟨_,rfl,.inl rfl⟩,⟨_,rfl,.inl rfl⟩,⟨_,rfl,.inl rfl⟩,trivial⟩ ⟨rfl,trivial⟩ rfl rfl rfl rfl)⟩
 have hr:=selF h17 hr
 refine Ok.exit ?_
 exact ⟨s15.1,hr,(Conv.mk (tau []) ⟨⟨_,rfl,.inl rfl⟩,trivial⟩ trivial rfl rfl rfl rfl)⟩
 clear hk12
 refine Ok.seq (Ok.region (OkOps.y (aI 0) (OkOps.nil (Ok.block (Ok.loopK (fun (s21 : Int)=>⟨[(1,.s (aI depth)),(2,.s (aI (IntKind.i64.wrap (met + 1)))),(3,.s (.c (.loc 0 0))),(14,.s (aI s21))],[(0,.blk [cI v.Kind,cS v.Key,.d (.sl (List.map Attr.cs v.Attrs)),.d (.sl (List.map Action.cs v.Actions)),.d (.sl (List.map View.cs v.Kids))] 27)],0⟩) hr (Conv.mk (tau []) ⟨⟨_,rfl,.inl rfl⟩,⟨_,rfl,.inl rfl⟩,⟨_,rfl,.inl rfl⟩,⟨_,rfl,.inl rfl⟩,trivial⟩ ⟨rfl,trivial⟩ rfl rfl rfl rfl) ?_)))))
 clear hr
 intro again22 s21 hr
 unfold r14_validate_L3 at hr
 refine Ok.seq (Ok.seq (Ok.region (OkOps.y (aI s21) (OkOps.y (.c (.loc 0 4)) (OkOps.y (.c (.d (.sl (List.map View.cs v.Kids)))) (OkOps.q (triLen (enc:=View.cs) v.Kids rfl rfl trivial rfl) (OkOps.y (aB (decide (s21 < (v.Kids.length : Int)))) (OkOps.nil ?_))))))))
 refine Ok.cond (b:=decide (s21 < (v.Kids.length : Int))) rfl (fun h23=>?_) (fun h23=>?_)
 have hr:=selT h23 hr
 refine Ok.skip ?_
 obtain ⟨k25,hk25,hr⟩:=jn_some hr
 refine Ok.join (fun (s24 : Unit)=>⟨[(1,.s (aI depth)),(2,.s (aI (IntKind.i64.wrap (met + 1)))),(3,.s (.c (.loc 0 0))),(14,.s (aI s21))],[(0,.blk [cI v.Kind,cS v.Key,.d (.sl (List.map Attr.cs v.Attrs)),.d (.sl (List.map Action.cs v.Actions)),.d (.sl (List.map View.cs v.Kids))] 27)],0⟩) k25 r (fun s24 hr=>?_) ?_
 rw [hk25] at hr
 refine Ok.region (OkOps.y (aI s21) (OkOps.y (aI (IntKind.i64.wrap (s21 + 1))) (OkOps.y (aI (IntKind.i64.wrap (s21 + 1))) (OkOps.nil ?_))))
 exact ⟨IntKind.i64.wrap (s21 + 1),hr,(Conv.mk (tau []) ⟨⟨_,rfl,.inl rfl⟩,⟨_,rfl,.inl rfl⟩,⟨_,rfl,.inl rfl⟩,⟨_,rfl,.inl rfl⟩,trivial⟩ ⟨rfl,trivial⟩ rfl rfl rfl rfl)⟩
 clear hk25
 refine Ok.block (Ok.seq (Ok.region (OkOps.y (aI 0) (OkOps.nil ?_))))
 obtain ⟨k27,hk27,hr⟩:=jn_some hr
 refine Ok.joinEnd (fun (s26 : Unit)=>⟨[(1,.s (aI depth)),(2,.s (aI (IntKind.i64.wrap (met + 1)))),(3,.s (.c (.loc 0 0))),(14,.s (aI s21))],[(0,.blk [cI v.Kind,cS v.Key,.d (.sl (List.map Attr.cs v.Attrs)),.d (.sl (List.map Action.cs v.Actions)),.d (.sl (List.map View.cs v.Kids))] 27)],0⟩) k27 r (fun s26 hr=>?_) ?_
 rw [hk27] at hr
 exact ⟨(),hr,(Conv.mk (tau []) ⟨⟨_,rfl,.inl rfl⟩,⟨_,rfl,.inl rfl⟩,⟨_,rfl,.inl rfl⟩,⟨_,rfl,.inl rfl⟩,trivial⟩ ⟨rfl,trivial⟩ rfl rfl rfl rfl)⟩
 clear hk27
 refine Ok.block (Ok.loopK (fun (s28 : Int)=>⟨[(1,.s (aI depth)),(2,.s (aI (IntKind.i64.wrap (met + 1)))),(3,.s (.c (.loc 0 0))),(14,.s (aI s21)),(15,.s (aI s28))],[(0,.blk [cI v.Kind,cS v.Key,.d (.sl (List.map Attr.cs v.Attrs)),.d (.sl (List.map Action.cs v.Actions)),.d (.sl (List.map View.cs v.Kids))] 27)],0⟩) hr (Conv.mk (tau []) ⟨⟨_,rfl,.inl rfl⟩,⟨_,rfl,.inl rfl⟩,⟨_,rfl,.inl rfl⟩,⟨_,rfl,.inl rfl⟩,⟨_,rfl,.inl rfl⟩,trivial⟩ ⟨rfl,trivial⟩ rfl rfl rfl rfl) ?_)
 clear hr
 intro again29 s28 hr
 unfold r14_validate_L2 at hr
 refine Ok.seq (Ok.seq (Ok.region (OkOps.y (aI s28) (OkOps.y (aI s21) (OkOps.y (aB (decide (s28 < s21))) (OkOps.nil ?_))))))
 refine Ok.cond (b:=decide (s28 < s21)) rfl (fun h30=>?_) (fun h30=>?_)
 have hr:=selT h30 hr
 refine Ok.skip (Ok.seq (Ok.block (Ok.seq (Ok.regionD (by kernel_rfl) (OkD.x (.c (.loc 0 4)) rfl trivial rfl (OkD.x (.c (.d (.sl (List.map View.cs v.Kids)))) rfl trivial rfl (OkD.x (aI s21) rfl trivial rfl ?_)))))))
 obtain ⟨x31,hx31,hr⟩:=bind_some hr
 refine OkD.q (triIdx (enc:=View.cs) (L:=v.Kids) (row:=[dI x31.Kind,dS x31.Key,.sl (List.map Attr.cs x31.Attrs),.sl (List.map Action.cs x31.Actions),.sl (List.map View.cs x31.Kids)]) hx31 (View.cs_eq _) rfl rfl rfl (fun x=>by rw [View.cs_eq];rfl) trivial rfl) ?_
 refine OkD.x (.c (.pt [dS x31.Key,.sl (List.map Attr.cs x31.Attrs),.sl (List.map Action.cs x31.Actions),.sl (List.map View.cs x31.Kids)])) rfl trivial rfl (OkD.x (aS x31.Key) rfl trivial rfl (OkD.x (aB (!(x31.Key.toList == (ByteArray.mk #[]).toList))) rfl trivial rfl (OkD.x (aB (!(x31.Key.toList == (ByteArray.mk #[]).toList))) rfl trivial rfl (OkD.q (triQG (x:=.c (.loc 0 4)) rfl rfl trivial rfl) (OkD.q (triQG (x:=.c (.d (.sl (List.map View.cs v.Kids)))) rfl rfl ⟨fun h=>h,trivial⟩ rfl) (OkD.q (triQG (x:=aI s21) rfl rfl trivial rfl) ?_))))))
 obtain ⟨x32,hx32,hr⟩:=bind_some hr
 refine OkD.q (triIdxG (enc:=View.cs) (L:=v.Kids) (row:=[dI x32.Kind,dS x32.Key,.sl (List.map Attr.cs x32.Attrs),.sl (List.map Action.cs x32.Actions),.sl (List.map View.cs x32.Kids)]) (gO_t hx32) (View.cs_eq _) rfl rfl rfl rfl (fun x=>by rw [View.cs_eq];rfl) ⟨fun h=>h,⟨fun h=>h,trivial⟩⟩ rfl) ?_
 refine OkD.q (triQG (x:=.c (.pt [dS x32.Key,.sl (List.map Attr.cs x32.Attrs),.sl (List.map Action.cs x32.Actions),.sl (List.map View.cs x32.Kids)])) rfl rfl ⟨fun h=>h,trivial⟩ rfl) (OkD.q (triQG (x:=aS x32.Key) rfl rfl ⟨fun h=>h,trivial⟩ rfl) (OkD.q (triQG (x:=.c (.loc 0 4)) rfl rfl trivial rfl) (OkD.q (triQG (x:=.c (.d (.sl (List.map View.cs v.Kids)))) rfl rfl ⟨fun h=>h,trivial⟩ rfl) (OkD.q (triQG (x:=aI s28) rfl rfl trivial rfl) ?_))))
 obtain ⟨x33,hx33,hr⟩:=bind_some hr
 refine OkD.q (triIdxG (enc:=View.cs) (L:=v.Kids) (row:=[dI x33.Kind,dS x33.Key,.sl (List.map Attr.cs x33.Attrs),.sl (List.map Action.cs x33.Actions),.sl (List.map View.cs x33.Kids)]) (gO_t hx33) (View.cs_eq _) rfl rfl rfl rfl (fun x=>by rw [View.cs_eq];rfl) ⟨fun h=>h,⟨fun h=>h,trivial⟩⟩ rfl) ?_
 refine OkD.q (triQG (x:=.c (.pt [dS x33.Key,.sl (List.map Attr.cs x33.Attrs),.sl (List.map Action.cs x33.Actions),.sl (List.map View.cs x33.Kids)])) rfl rfl ⟨fun h=>h,trivial⟩ rfl) (OkD.q (triQG (x:=aS x33.Key) rfl rfl ⟨fun h=>h,trivial⟩ rfl) (OkD.q (triQG (x:=aB (x32.Key.toList == x33.Key.toList)) rfl rfl ⟨fun h=>h,⟨fun h=>h,trivial⟩⟩ rfl) (OkD.q (triAnd rfl rfl (fun h=>h) rfl) (OkD.nil (by kernel_rfl) ?_))))
 refine Ok.cond (b:=(!(x31.Key.toList == (ByteArray.mk #[]).toList)) && (x32.Key.toList == x33.Key.toList)) rfl (fun h34=>?_) (fun h34=>?_)
 have hr:=selT h34 hr
 refine Ok.seq (Ok.region (OkOps.y (aI (IntKind.i64.wrap (met + 1))) (OkOps.y (aI (IntKind.i64.wrap (met + 1))) (OkOps.y (aI 6) (OkOps.nil (Ok.ret ?_))))))
 obtain rfl:=Option.some.inj hr
 exact ⟨_,rfl,.inl rfl,trivial⟩
 have hr:=selF h34 hr
 refine Ok.skip (Ok.region (OkOps.y (aI s28) (OkOps.y (aI (IntKind.i64.wrap (s28 + 1))) (OkOps.y (aI (IntKind.i64.wrap (s28 + 1))) (OkOps.nil ?_)))))
 exact ⟨IntKind.i64.wrap (s28 + 1),hr,(Conv.mk (tau []) ⟨⟨_,rfl,.inl rfl⟩,⟨_,rfl,.inl rfl⟩,⟨_,rfl,.inl rfl⟩,⟨_,rfl,.inl rfl⟩,⟨_,rfl,.inl rfl⟩,trivial⟩ ⟨rfl,trivial⟩ rfl rfl rfl rfl)⟩
 have hr:=selF h30 hr
 refine Ok.exit ?_
 exact ⟨(),hr,(Conv.mk (tau []) ⟨⟨_,rfl,.inl rfl⟩,⟨_,rfl,.inl rfl⟩,⟨_,rfl,.inl rfl⟩,⟨_,rfl,.inl rfl⟩,trivial⟩ ⟨rfl,trivial⟩ rfl rfl rfl rfl)⟩
 have hr:=selF h23 hr
 refine Ok.exit ?_
 exact ⟨(),hr,(Conv.mk (tau []) ⟨⟨_,rfl,.inl rfl⟩,⟨_,rfl,.inl rfl⟩,⟨_,rfl,.inl rfl⟩,trivial⟩ ⟨rfl,trivial⟩ rfl rfl rfl rfl)⟩
 clear hk10
 refine Ok.seq (Ok.region (OkOps.y (aI 0) (OkOps.nil (Ok.block (Ok.loopK (fun (s35 : Int)=>⟨[(1,.s (aI depth)),(2,.s (aI (IntKind.i64.wrap (met + 1)))),(3,.s (.c (.loc 0 0))),(10,.s (aI s35))],[(0,.blk [cI v.Kind,cS v.Key,.d (.sl (List.map Attr.cs v.Attrs)),.d (.sl (List.map Action.cs v.Actions)),.d (.sl (List.map View.cs v.Kids))] 27)],0⟩) hr (Conv.mk (tau []) ⟨⟨_,rfl,.inl rfl⟩,⟨_,rfl,.inl rfl⟩,⟨_,rfl,.inl rfl⟩,⟨_,rfl,.inl rfl⟩,trivial⟩ ⟨rfl,trivial⟩ rfl rfl rfl rfl) ?_)))))
 clear hr
 intro again36 s35 hr
 unfold r14_validate_L5 at hr
 refine Ok.seq (Ok.seq (Ok.region (OkOps.y (aI s35) (OkOps.y (.c (.loc 0 3)) (OkOps.y (.c (.d (.sl (List.map Action.cs v.Actions)))) (OkOps.q (triLen (enc:=Action.cs) v.Actions rfl rfl trivial rfl) (OkOps.y (aB (decide (s35 < (v.Actions.length : Int)))) (OkOps.nil ?_))))))))
 refine Ok.cond (b:=decide (s35 < (v.Actions.length : Int))) rfl (fun h37=>?_) (fun h37=>?_)
 have hr:=selT h37 hr
 refine Ok.skip ?_
 obtain ⟨k39,hk39,hr⟩:=jn_some hr
 refine Ok.join (fun (s38 : Unit)=>⟨[(1,.s (aI depth)),(2,.s (aI (IntKind.i64.wrap (met + 1)))),(3,.s (.c (.loc 0 0))),(10,.s (aI s35))],[(0,.blk [cI v.Kind,cS v.Key,.d (.sl (List.map Attr.cs v.Attrs)),.d (.sl (List.map Action.cs v.Actions)),.d (.sl (List.map View.cs v.Kids))] 27)],0⟩) k39 r (fun s38 hr=>?_) ?_
 rw [hk39] at hr
 refine Ok.region (OkOps.y (aI s35) (OkOps.y (aI (IntKind.i64.wrap (s35 + 1))) (OkOps.y (aI (IntKind.i64.wrap (s35 + 1))) (OkOps.nil ?_))))
 exact ⟨IntKind.i64.wrap (s35 + 1),hr,(Conv.mk (tau []) ⟨⟨_,rfl,.inl rfl⟩,⟨_,rfl,.inl rfl⟩,⟨_,rfl,.inl rfl⟩,⟨_,rfl,.inl rfl⟩,trivial⟩ ⟨rfl,trivial⟩ rfl rfl rfl rfl)⟩
 clear hk39
 refine Ok.block (Ok.seq (Ok.region (OkOps.y (.c (.loc 0 3)) (OkOps.y (.c (.d (.sl (List.map Action.cs v.Actions)))) (OkOps.y (aI s35) ?_)))))
 obtain ⟨x40,hx40,hr⟩:=bind_some hr
 refine OkOps.q (triIdx (enc:=Action.cs) (L:=v.Actions) (row:=[dS x40.Event,dS x40.Instance,dS x40.Handler,.sl (List.map AValue.cs x40.Args)]) hx40 rfl rfl rfl rfl (fun _=>rfl) trivial rfl) (OkOps.y (.agg [cS x40.Event,cS x40.Instance,cS x40.Handler,.d (.sl (List.map AValue.cs x40.Args))]) (OkOps.m 0 (triAlloc (j:=1) (cs:=[cS ByteArray.empty,cS ByteArray.empty,cS ByteArray.empty,.d (.v (.slice none 0 0))]) rfl rfl rfl rfl) (OkOps.w (triStore (cs':=[cS x40.Event,cS x40.Instance,cS x40.Handler,.d (.sl (List.map AValue.cs x40.Args))]) rfl rfl rfl rfl rfl rfl rfl rfl rfl) (OkOps.nil (Ok.seq (Ok.seq (Ok.region (OkOps.y (.c (.loc 1 0)) (OkOps.y (aS x40.Event) ?_)))))))))
 obtain ⟨x41,hx41,hr⟩:=bind_some hr
 refine OkOps.q (triCl (tau []) (.s (aB x41)) [] (r11_Name_c _ hx41) rfl ⟨.inl rfl,trivial⟩ trivial entry111 trivial) (OkOps.y (aB (!x41)) (OkOps.y (aB (!x41)) (OkOps.q (triQG (x:=.c (.loc 1 2)) rfl rfl trivial rfl) (OkOps.q (triQG (x:=aS x40.Handler) rfl rfl ⟨fun h=>h,trivial⟩ rfl) ?_))))
 obtain ⟨x42,hx42,hr⟩:=bind_some hr
 refine OkOps.q (triCallG (x:=aB x42) (fun hg=>r11_Name_c _ (gO_t hx42 hg)) rfl rfl ⟨.inl rfl,trivial⟩ ⟨fun h=>h,trivial⟩ entry111 rfl rfl rfl) (OkOps.q (triQG (x:=aB (!x42)) rfl rfl ⟨fun h=>h,trivial⟩ rfl) ?_)
 refine OkOps.q (triOr rfl rfl (fun h=>by rw [h];rfl) rfl) ?_
 refine OkOps.nil ?_
 refine Ok.cond (b:=(!x41) || (!x42)) rfl (fun h43=>?_) (fun h43=>?_)
 have hr:=selT h43 hr
 refine Ok.seq (Ok.region (OkOps.y (aI (IntKind.i64.wrap (met + 1))) (OkOps.y (aI (IntKind.i64.wrap (met + 1))) (OkOps.y (aI 4) (OkOps.nil (Ok.ret ?_))))))
 obtain rfl:=Option.some.inj hr
 exact ⟨_,rfl,.inl rfl,trivial⟩
 have hr:=selF h43 hr
 refine Ok.skip (Ok.seq (Ok.seq (Ok.regionD (by kernel_rfl) (OkD.x (aI s35) rfl trivial rfl (OkD.x (aB (decide (s35 > 0))) rfl trivial rfl (OkD.x (aB (decide (s35 > 0))) rfl trivial rfl (OkD.q (triQG (x:=.c (.loc 1 0)) rfl rfl trivial rfl) (OkD.q (triQG (x:=aS x40.Event) rfl rfl ⟨fun h=>h,trivial⟩ rfl) (OkD.q (triQG (x:=.c (.loc 0 3)) rfl rfl trivial rfl) (OkD.q (triQG (x:=.c (.d (.sl (List.map Action.cs v.Actions)))) rfl rfl ⟨fun h=>h,trivial⟩ rfl) (OkD.q (triQG (x:=aI s35) rfl rfl trivial rfl) (OkD.q (triQG (x:=aI (IntKind.i64.wrap (s35 - 1))) rfl rfl ⟨fun h=>h,trivial⟩ rfl) ?_))))))))))))
 obtain ⟨x44,hx44,hr⟩:=bind_some hr
 refine OkD.q (triIdxG (enc:=Action.cs) (L:=v.Actions) (row:=[dS x44.Event,dS x44.Instance,dS x44.Handler,.sl (List.map AValue.cs x44.Args)]) (gO_t hx44) rfl rfl rfl rfl rfl (fun _=>rfl) ⟨fun h=>h,⟨fun h=>h,trivial⟩⟩ rfl) (OkD.q (triQG (x:=.c (.pt [dS x44.Event,dS x44.Instance,dS x44.Handler,.sl (List.map AValue.cs x44.Args)])) rfl rfl ⟨fun h=>h,trivial⟩ rfl) (OkD.q (triQG (x:=aS x44.Event) rfl rfl ⟨fun h=>h,trivial⟩ rfl) (OkD.q (triQG (x:=aB (Op.bytesLess x40.Event.toList x44.Event.toList || x40.Event.toList == x44.Event.toList)) rfl rfl ⟨fun h=>h,⟨fun h=>h,trivial⟩⟩ rfl) (OkD.q (triAnd rfl rfl (fun h=>h) rfl) (OkD.nil (by kernel_rfl) ?_)))))
 refine Ok.cond (b:=(decide (s35 > 0)) && (Op.bytesLess x40.Event.toList x44.Event.toList || x40.Event.toList == x44.Event.toList)) rfl (fun h45=>?_) (fun h45=>?_)
 have hr:=selT h45 hr
 refine Ok.seq (Ok.region (OkOps.y (aI (IntKind.i64.wrap (met + 1))) (OkOps.y (aI (IntKind.i64.wrap (met + 1))) (OkOps.y (aI 10) (OkOps.nil (Ok.ret ?_))))))
 obtain rfl:=Option.some.inj hr
 exact ⟨_,rfl,.inl rfl,trivial⟩
 have hr:=selF h45 hr
 refine Ok.skip (Ok.seq (Ok.seq (Ok.region (OkOps.y (.c (.loc 1 1)) (OkOps.y (aS x40.Instance) (OkOps.y (aI (x40.Instance.size : Int)) (OkOps.y (aB (decide ((x40.Instance.size : Int) > 400))) (OkOps.y (aB (decide ((x40.Instance.size : Int) > 400))) (OkOps.q (triQG (x:=.c (.loc 1 3)) rfl rfl trivial rfl) (OkOps.q (triQG (x:=.c (.d (.sl (List.map AValue.cs x40.Args)))) rfl rfl ⟨fun h=>h,trivial⟩ rfl) (OkOps.q (triLenG (enc:=AValue.cs) x40.Args rfl rfl rfl ⟨fun h=>h,trivial⟩ rfl) (OkOps.q (triQG (x:=aB (decide ((x40.Args.length : Int) > 100))) rfl rfl ⟨fun h=>h,trivial⟩ rfl) ?_))))))))))))
 refine OkOps.q (triOr rfl rfl (fun h=>by rw [h];rfl) rfl) ?_
 refine OkOps.nil ?_
 refine Ok.cond (b:=(decide ((x40.Instance.size : Int) > 400)) || (decide ((x40.Args.length : Int) > 100))) rfl (fun h46=>?_) (fun h46=>?_)
 have hr:=selT h46 hr
 refine Ok.seq (Ok.region (OkOps.y (aI (IntKind.i64.wrap (met + 1))) (OkOps.y (aI (IntKind.i64.wrap (met + 1))) (OkOps.y (aI 2) (OkOps.nil (Ok.ret ?_))))))
 obtain rfl:=Option.some.inj hr
 exact ⟨_,rfl,.inl rfl,trivial⟩
 have hr:=selF h46 hr
 refine Ok.skip (Ok.seq (Ok.region (OkOps.y (aI 0) (OkOps.nil ?_))))
 obtain ⟨k48,hk48,hr⟩:=jn_some hr
 refine Ok.joinEnd (fun (s47 : Unit)=>⟨[(1,.s (aI depth)),(2,.s (aI (IntKind.i64.wrap (met + 1)))),(3,.s (.c (.loc 0 0))),(10,.s (aI s35))],[(0,.blk [cI v.Kind,cS v.Key,.d (.sl (List.map Attr.cs v.Attrs)),.d (.sl (List.map Action.cs v.Actions)),.d (.sl (List.map View.cs v.Kids))] 27)],0⟩) k48 r (fun s47 hr=>?_) ?_
 rw [hk48] at hr
 exact ⟨(),hr,(Conv.mk (tau []) ⟨⟨_,rfl,.inl rfl⟩,⟨_,rfl,.inl rfl⟩,⟨_,rfl,.inl rfl⟩,⟨_,rfl,.inl rfl⟩,trivial⟩ ⟨rfl,trivial⟩ rfl rfl rfl rfl)⟩
 clear hk48
 refine Ok.block (Ok.loopK (fun (s49 : Int)=>⟨[(1,.s (aI depth)),(2,.s (aI (IntKind.i64.wrap (met + 1)))),(3,.s (.c (.loc 0 0))),(10,.s (aI s35)),(11,.s (.c (.loc 1 0))),(12,.s (aI s49))],[(0,.blk [cI v.Kind,cS v.Key,.d (.sl (List.map Attr.cs v.Attrs)),.d (.sl (List.map Action.cs v.Actions)),.d (.sl (List.map View.cs v.Kids))] 27),(1,.blk [cS x40.Event,cS x40.Instance,cS x40.Handler,.d (.sl (List.map AValue.cs x40.Args))] 93)],0⟩) hr (Conv.mk (tau []) ⟨⟨_,rfl,.inl rfl⟩,⟨_,rfl,.inl rfl⟩,⟨_,rfl,.inl rfl⟩,⟨_,rfl,.inl rfl⟩,⟨_,rfl,.inl rfl⟩,⟨_,rfl,.inl rfl⟩,trivial⟩ ⟨rfl,rfl,trivial⟩ rfl rfl rfl rfl) ?_)
 clear hr
 intro again50 s49 hr
 unfold r14_validate_L4 at hr
 refine Ok.seq (Ok.seq (Ok.region (OkOps.y (aI s49) (OkOps.y (.c (.loc 1 3)) (OkOps.y (.c (.d (.sl (List.map AValue.cs x40.Args)))) (OkOps.q (triLen (enc:=AValue.cs) x40.Args rfl rfl trivial rfl) (OkOps.y (aB (decide (s49 < (x40.Args.length : Int)))) (OkOps.nil ?_))))))))
 refine Ok.cond (b:=decide (s49 < (x40.Args.length : Int))) rfl (fun h51=>?_) (fun h51=>?_)
 have hr:=selT h51 hr
 refine Ok.skip (Ok.seq (Ok.block (Ok.seq (Ok.region (OkOps.y (.c (.loc 1 3)) (OkOps.y (.c (.d (.sl (List.map AValue.cs x40.Args)))) (OkOps.y (aI s49) ?_)))))))
 obtain ⟨x52,hx52,hr⟩:=bind_some hr
 refine OkOps.q (triIdx (enc:=AValue.cs) (L:=x40.Args) (row:=[dI x52.Kind,dI x52.N,dS x52.S,.sl (List.map AValue.cs x52.L)]) hx52 (AValue.cs_eq _) rfl rfl rfl (fun x=>by rw [AValue.cs_eq];rfl) trivial rfl) ?_
 refine OkOps.y (.agg [cI x52.Kind,cI x52.N,cS x52.S,.d (.sl (List.map AValue.cs x52.L))]) ?_
 obtain ⟨x53,hx53,hr⟩:=bind_some hr
 refine OkOps.q (triCl (tau []) (.s (aI x53)) [] (r11_Check_c _ hx53) rfl ⟨.inl rfl,trivial⟩ trivial entry112 trivial) (OkOps.y (aI x53) (OkOps.nil (Ok.seq (Ok.region (OkOps.y (aI x53) (OkOps.y (aB (x53 != 0)) (OkOps.nil ?_)))))))
 refine Ok.cond (b:=x53 != 0) rfl (fun h54=>?_) (fun h54=>?_)
 have hr:=selT h54 hr
 refine Ok.seq (Ok.region (OkOps.y (aI (IntKind.i64.wrap (met + 1))) (OkOps.y (aI x53) (OkOps.y (aI (IntKind.i64.wrap (met + 1))) (OkOps.y (aI x53) (OkOps.nil (Ok.ret ?_)))))))
 obtain rfl:=Option.some.inj hr
 exact ⟨_,rfl,.inl rfl,trivial⟩
 have hr:=selF h54 hr
 refine Ok.skip (Ok.region (OkOps.y (aI s49) (OkOps.y (aI (IntKind.i64.wrap (s49 + 1))) (OkOps.y (aI (IntKind.i64.wrap (s49 + 1))) (OkOps.nil ?_)))))
 exact ⟨IntKind.i64.wrap (s49 + 1),hr,(Conv.mk (tau []) ⟨⟨_,rfl,.inl rfl⟩,⟨_,rfl,.inl rfl⟩,⟨_,rfl,.inl rfl⟩,⟨_,rfl,.inl rfl⟩,⟨_,rfl,.inl rfl⟩,⟨_,rfl,.inl rfl⟩,trivial⟩ ⟨rfl,rfl,trivial⟩ rfl rfl rfl rfl)⟩
 have hr:=selF h51 hr
 refine Ok.exit ?_
 exact ⟨(),hr,(Conv.mk (tau []) ⟨⟨_,rfl,.inl rfl⟩,⟨_,rfl,.inl rfl⟩,⟨_,rfl,.inl rfl⟩,⟨_,rfl,.inl rfl⟩,trivial⟩ ⟨rfl,trivial⟩ rfl rfl rfl rfl)⟩
 have hr:=selF h37 hr
 refine Ok.exit ?_
 exact ⟨(),hr,(Conv.mk (tau []) ⟨⟨_,rfl,.inl rfl⟩,⟨_,rfl,.inl rfl⟩,⟨_,rfl,.inl rfl⟩,trivial⟩ ⟨rfl,trivial⟩ rfl rfl rfl rfl)⟩
 clear hk8
 refine Ok.seq (Ok.region (OkOps.y (aI 0) (OkOps.nil (Ok.block (Ok.loopK (fun (s55 : Int)=>⟨[(1,.s (aI depth)),(2,.s (aI (IntKind.i64.wrap (met + 1)))),(3,.s (.c (.loc 0 0))),(8,.s (aI s55))],[(0,.blk [cI v.Kind,cS v.Key,.d (.sl (List.map Attr.cs v.Attrs)),.d (.sl (List.map Action.cs v.Actions)),.d (.sl (List.map View.cs v.Kids))] 27)],0⟩) hr (Conv.mk (tau []) ⟨⟨_,rfl,.inl rfl⟩,⟨_,rfl,.inl rfl⟩,⟨_,rfl,.inl rfl⟩,⟨_,rfl,.inl rfl⟩,trivial⟩ ⟨rfl,trivial⟩ rfl rfl rfl rfl) ?_)))))
 clear hr
 intro again56 s55 hr
 unfold r14_validate_L6 at hr
 refine Ok.seq (Ok.seq (Ok.region (OkOps.y (aI s55) (OkOps.y (.c (.loc 0 2)) (OkOps.y (.c (.d (.sl (List.map Attr.cs v.Attrs)))) (OkOps.q (triLen (enc:=Attr.cs) v.Attrs rfl rfl trivial rfl) (OkOps.y (aB (decide (s55 < (v.Attrs.length : Int)))) (OkOps.nil ?_))))))))
 refine Ok.cond (b:=decide (s55 < (v.Attrs.length : Int))) rfl (fun h57=>?_) (fun h57=>?_)
 have hr:=selT h57 hr
 refine Ok.skip (Ok.seq (Ok.block (Ok.seq (Ok.seq (Ok.region (OkOps.y (.c (.loc 0 2)) (OkOps.y (.c (.d (.sl (List.map Attr.cs v.Attrs)))) (OkOps.y (aI s55) ?_))))))))
 obtain ⟨x58,hx58,hr⟩:=bind_some hr
 refine OkOps.q (triIdx (enc:=Attr.cs) (L:=v.Attrs) (row:=[dS x58.Name,dI x58.Value.Kind,dI x58.Value.N,dS x58.Value.S,.sl (List.map AValue.cs x58.Value.L)]) hx58 rfl rfl rfl rfl (fun _=>rfl) trivial rfl) (OkOps.y (.c (.pt [dS x58.Name,dI x58.Value.Kind,dI x58.Value.N,dS x58.Value.S,.sl (List.map AValue.cs x58.Value.L)])) (OkOps.y (aS x58.Name) ?_))
 obtain ⟨x59,hx59,hr⟩:=bind_some hr
 refine OkOps.q (triCl (tau []) (.s (aB x59)) [] (r11_Name_c _ hx59) rfl ⟨.inl rfl,trivial⟩ trivial entry111 trivial) (OkOps.y (aB (!x59)) (OkOps.nil ?_))
 refine Ok.cond (b:=!x59) rfl (fun h60=>?_) (fun h60=>?_)
 have hr:=selT h60 hr
 refine Ok.seq (Ok.region (OkOps.y (aI (IntKind.i64.wrap (met + 1))) (OkOps.y (aI (IntKind.i64.wrap (met + 1))) (OkOps.y (aI 4) (OkOps.nil (Ok.ret ?_))))))
 obtain rfl:=Option.some.inj hr
 exact ⟨_,rfl,.inl rfl,trivial⟩
 have hr:=selF h60 hr
 refine Ok.skip (Ok.seq (Ok.seq (Ok.regionD (by kernel_rfl) (OkD.x (aI s55) rfl trivial rfl (OkD.x (aB (decide (s55 > 0))) rfl trivial rfl (OkD.x (aB (decide (s55 > 0))) rfl trivial rfl (OkD.q (triQG (x:=.c (.loc 0 2)) rfl rfl trivial rfl) (OkD.q (triQG (x:=.c (.d (.sl (List.map Attr.cs v.Attrs)))) rfl rfl ⟨fun h=>h,trivial⟩ rfl) (OkD.q (triQG (x:=aI s55) rfl rfl trivial rfl) ?_)))))))))
 obtain ⟨x61,hx61,hr⟩:=bind_some hr
 refine OkD.q (triIdxG (enc:=Attr.cs) (L:=v.Attrs) (row:=[dS x61.Name,dI x61.Value.Kind,dI x61.Value.N,dS x61.Value.S,.sl (List.map AValue.cs x61.Value.L)]) (gO_t hx61) rfl rfl rfl rfl rfl (fun _=>rfl) ⟨fun h=>h,⟨fun h=>h,trivial⟩⟩ rfl) (OkD.q (triQG (x:=.c (.pt [dS x61.Name,dI x61.Value.Kind,dI x61.Value.N,dS x61.Value.S,.sl (List.map AValue.cs x61.Value.L)])) rfl rfl ⟨fun h=>h,trivial⟩ rfl) (OkD.q (triQG (x:=aS x61.Name) rfl rfl ⟨fun h=>h,trivial⟩ rfl) (OkD.q (triQG (x:=.c (.loc 0 2)) rfl rfl trivial rfl) (OkD.q (triQG (x:=.c (.d (.sl (List.map Attr.cs v.Attrs)))) rfl rfl ⟨fun h=>h,trivial⟩ rfl) (OkD.q (triQG (x:=aI s55) rfl rfl trivial rfl) (OkD.q (triQG (x:=aI (IntKind.i64.wrap (s55 - 1))) rfl rfl ⟨fun h=>h,trivial⟩ rfl) ?_))))))
 obtain ⟨x62,hx62,hr⟩:=bind_some hr
 refine OkD.q (triIdxG (enc:=Attr.cs) (L:=v.Attrs) (row:=[dS x62.Name,dI x62.Value.Kind,dI x62.Value.N,dS x62.Value.S,.sl (List.map AValue.cs x62.Value.L)]) (gO_t hx62) rfl rfl rfl rfl rfl (fun _=>rfl) ⟨fun h=>h,⟨fun h=>h,trivial⟩⟩ rfl) (OkD.q (triQG (x:=.c (.pt [dS x62.Name,dI x62.Value.Kind,dI x62.Value.N,dS x62.Value.S,.sl (List.map AValue.cs x62.Value.L)])) rfl rfl ⟨fun h=>h,trivial⟩ rfl) (OkD.q (triQG (x:=aS x62.Name) rfl rfl ⟨fun h=>h,trivial⟩ rfl) (OkD.q (triQG (x:=aB (Op.bytesLess x61.Name.toList x62.Name.toList || x61.Name.toList == x62.Name.toList)) rfl rfl ⟨fun h=>h,⟨fun h=>h,trivial⟩⟩ rfl) (OkD.q (triAnd rfl rfl (fun h=>h) rfl) (OkD.nil (by kernel_rfl) ?_)))))
 refine Ok.cond (b:=(decide (s55 > 0)) && (Op.bytesLess x61.Name.toList x62.Name.toList || x61.Name.toList == x62.Name.toList)) rfl (fun h63=>?_) (fun h63=>?_)
 have hr:=selT h63 hr
 refine Ok.seq (Ok.region (OkOps.y (aI (IntKind.i64.wrap (met + 1))) (OkOps.y (aI (IntKind.i64.wrap (met + 1))) (OkOps.y (aI 10) (OkOps.nil (Ok.ret ?_))))))
 obtain rfl:=Option.some.inj hr
 exact ⟨_,rfl,.inl rfl,trivial⟩
 have hr:=selF h63 hr
 refine Ok.skip (Ok.seq (Ok.region (OkOps.y (.c (.loc 0 2)) (OkOps.y (.c (.d (.sl (List.map Attr.cs v.Attrs)))) (OkOps.y (aI s55) ?_)))))
 obtain ⟨x64,hx64,hr⟩:=bind_some hr
 refine OkOps.q (triIdx (enc:=Attr.cs) (L:=v.Attrs) (row:=[dS x64.Name,dI x64.Value.Kind,dI x64.Value.N,dS x64.Value.S,.sl (List.map AValue.cs x64.Value.L)]) hx64 rfl rfl rfl rfl (fun _=>rfl) trivial rfl) (OkOps.y (.c (.pt [dI x64.Value.Kind,dI x64.Value.N,dS x64.Value.S,.sl (List.map AValue.cs x64.Value.L)])) (OkOps.y (.agg [cI x64.Value.Kind,cI x64.Value.N,cS x64.Value.S,.d (.sl (List.map AValue.cs x64.Value.L))]) ?_))
 obtain ⟨x65,hx65,hr⟩:=bind_some hr
 refine OkOps.q (triCl (tau []) (.s (aI x65)) [] (r11_Check_c _ hx65) rfl ⟨.inl rfl,trivial⟩ trivial entry112 trivial) (OkOps.y (aI x65) (OkOps.nil (Ok.seq (Ok.region (OkOps.y (aI x65) (OkOps.y (aB (x65 != 0)) (OkOps.nil ?_)))))))
 refine Ok.cond (b:=x65 != 0) rfl (fun h66=>?_) (fun h66=>?_)
 have hr:=selT h66 hr
 refine Ok.seq (Ok.region (OkOps.y (aI (IntKind.i64.wrap (met + 1))) (OkOps.y (aI x65) (OkOps.y (aI (IntKind.i64.wrap (met + 1))) (OkOps.y (aI x65) (OkOps.nil (Ok.ret ?_)))))))
 obtain rfl:=Option.some.inj hr
 exact ⟨_,rfl,.inl rfl,trivial⟩
 have hr:=selF h66 hr
 refine Ok.skip (Ok.region (OkOps.y (aI s55) (OkOps.y (aI (IntKind.i64.wrap (s55 + 1))) (OkOps.y (aI (IntKind.i64.wrap (s55 + 1))) (OkOps.nil ?_)))))
 exact ⟨IntKind.i64.wrap (s55 + 1),hr,(Conv.mk (tau []) ⟨⟨_,rfl,.inl rfl⟩,⟨_,rfl,.inl rfl⟩,⟨_,rfl,.inl rfl⟩,⟨_,rfl,.inl rfl⟩,trivial⟩ ⟨rfl,trivial⟩ rfl rfl rfl rfl)⟩
 have hr:=selF h57 hr
 refine Ok.exit ?_
 exact ⟨(),hr,(Conv.mk (tau []) ⟨⟨_,rfl,.inl rfl⟩,⟨_,rfl,.inl rfl⟩,⟨_,rfl,.inl rfl⟩,trivial⟩ ⟨rfl,trivial⟩ rfl rfl rfl rfl)⟩
theorem r14_validate_all : ∀ n : Nat,(∀ (v : View) (depth : Int) (met : Int) {r : Int × Int},r14_validate n v depth met = some r → Con Tryz.prog 75 [.agg [cI v.Kind,cS v.Key,.d (.sl (List.map Attr.cs v.Attrs)),.d (.sl (List.map Action.cs v.Actions)),.d (.sl (List.map View.cs v.Kids))],aI depth,aI met] [] (.tup [aI r.1,aI r.2]) []) ∧ True:=by
 intro n
 induction n with
 | zero=>exact ⟨(by intros;rename_i hr;cases hr),trivial⟩
 | succ n ih=>exact ⟨(by intros;rename_i hr;exact r14_validate_B_c _ ih.1 _ _ _ hr),trivial⟩
theorem r14_validate_c (n : Nat) (v : View) (depth : Int) (met : Int) {r : Int × Int} (hr : r14_validate n v depth met = some r) : Con Tryz.prog 75 [.agg [cI v.Kind,cS v.Key,.d (.sl (List.map Attr.cs v.Attrs)),.d (.sl (List.map Action.cs v.Actions)),.d (.sl (List.map View.cs v.Kids))],aI depth,aI met] [] (.tup [aI r.1,aI r.2]) []:=(r14_validate_all n).1 v depth met hr
theorem r14_Validate_c (v : View) {r : Int} (hr : r14_Validate v = some r) : Con Tryz.prog 34 [.agg [cI v.Kind,cS v.Key,.d (.sl (List.map Attr.cs v.Attrs)),.d (.sl (List.map Action.cs v.Actions)),.d (.sl (List.map View.cs v.Kids))]] [] (.s (aI r)) []:=by
 unfold r14_Validate at hr
 refine Con.of_ok 11 0 [.tmp 2] [(0,.s (.agg [cI v.Kind,cS v.Key,.d (.sl (List.map Attr.cs v.Attrs)),.d (.sl (List.map Action.cs v.Actions)),.d (.sl (List.map View.cs v.Kids))]))] Tryz.func34 rfl rfl rfl rfl rfl rfl rfl rfl fun w g M ρ _=>(Ok.seq (Ok.region (OkOps.m 0 (triBox (j:=0) (cs:=[cI v.Kind,cS v.Key,.d (.sl (List.map Attr.cs v.Attrs)),.d (.sl (List.map Action.cs v.Actions)),.d (.sl (List.map View.cs v.Kids))]) rfl rfl rfl rfl rfl) (OkOps.y (aI 0) (OkOps.nil (Ok.seq (Ok.region (OkOps.y (.agg [cI v.Kind,cS v.Key,.d (.sl (List.map Attr.cs v.Attrs)),.d (.sl (List.map Action.cs v.Actions)),.d (.sl (List.map View.cs v.Kids))]) ?_))))))))
 obtain ⟨x1,hx1,hr⟩:=bind_some hr
 refine OkOps.q (triCl (tau []) (.tup [aI x1.1,aI x1.2]) [] (r14_validate_c _ _ _ _ hx1) rfl ⟨.inl rfl,.inl rfl,.inl rfl,trivial⟩ trivial entry75 trivial) (OkOps.q (triMv (v:=.tup [aI x1.1,aI x1.2]) rfl rfl) (OkOps.y (aI x1.1) (OkOps.y (aI x1.2) (OkOps.y (aI x1.1) (OkOps.y (aI x1.2) (OkOps.nil (Ok.seq (Ok.region (OkOps.y (aI x1.2) (OkOps.y (aI x1.2) (OkOps.nil (Ok.ret ?_))))))))))))
 obtain rfl:=Option.some.inj hr
 exact ⟨_,rfl,.inl rfl,trivial⟩
end Go.Proofs.YtfoigppmcelgfaaGreatDoor
end
section
set_option maxRecDepth 100000
namespace Go.Proofs.YtfoigppmcelgfaaGreatDoor
open Go Go.E2
theorem r14_build_B_c (self0 : View → Int → Tree → Option Tree) (hself0 : ∀ (v : View) (parent : Int) (t : Tree) {r : Tree},self0 v parent t = some r → Con Tryz.prog 35 [.agg [cI v.Kind,cS v.Key,.d (.sl (List.map Attr.cs v.Attrs)),.d (.sl (List.map Action.cs v.Actions)),.d (.sl (List.map View.cs v.Kids))],aI parent,.agg [cI t.Root,cI t.Next,.own 0]] [(0,.vec 7 (List.map Node.cs t.Nodes))] (.s (.agg [cI r.Root,cI r.Next,.own 2000])) [(0,.dead),(2000,.vec 7 (List.map Node.cs r.Nodes))]) (v : View) (parent : Int) (t : Tree) {r : Tree} (hr : r14_build_B self0 v parent t = some r) : Con Tryz.prog 35 [.agg [cI v.Kind,cS v.Key,.d (.sl (List.map Attr.cs v.Attrs)),.d (.sl (List.map Action.cs v.Actions)),.d (.sl (List.map View.cs v.Kids))],aI parent,.agg [cI t.Root,cI t.Next,.own 0]] [(0,.vec 7 (List.map Node.cs t.Nodes))] (.s (.agg [cI r.Root,cI r.Next,.own 2000])) [(0,.dead),(2000,.vec 7 (List.map Node.cs r.Nodes))]:=by
 unfold r14_build_B at hr
 refine Con.of_ok 63 0 [.cell 6 30] [(0,.s (.agg [cI v.Kind,cS v.Key,.d (.sl (List.map Attr.cs v.Attrs)),.d (.sl (List.map Action.cs v.Actions)),.d (.sl (List.map View.cs v.Kids))])),(1,.s (aI parent)),(2,.s (.agg [cI t.Root,cI t.Next,.own 0]))] Tryz.func35 rfl rfl rfl rfl rfl rfl rfl rfl fun w g M ρ _=>(Ok.seq (Ok.region (OkOps.m 0 (triBox (j:=1) (cs:=[cI v.Kind,cS v.Key,.d (.sl (List.map Attr.cs v.Attrs)),.d (.sl (List.map Action.cs v.Actions)),.d (.sl (List.map View.cs v.Kids))]) rfl rfl rfl rfl rfl) (OkOps.m 0 (triBox (j:=2) (cs:=[cI t.Root,cI t.Next,.own 0]) rfl rfl rfl rfl rfl) (OkOps.m 0 (triAlloc (j:=3) (cs:=[cI 0,cI 0,.d (.v (.slice none 0 0))]) rfl rfl rfl rfl) (OkOps.nil (Ok.seq (Ok.region (OkOps.y (.c (.loc 2 1)) (OkOps.y (aI t.Next) (OkOps.y (aI t.Next) (OkOps.nil (Ok.seq (Ok.region (OkOps.y (.c (.loc 2 2)) ?_)))))))))))))))
 refine OkOps.y (.c (.own 0)) (OkOps.q (triLenV (enc:=Node.cs) t.Nodes rfl rfl rfl rfl) (OkOps.y (aI (t.Nodes.length : Int)) (OkOps.nil (Ok.seq (Ok.region (OkOps.y (.c (.loc 2 2)) (OkOps.y (.c (.own 0)) (OkOps.y (aI t.Next) (OkOps.y (aI parent) (OkOps.y (.c (.loc 1 0)) (OkOps.y (aI v.Kind) (OkOps.y (.c (.loc 1 1)) (OkOps.y (aS v.Key) (OkOps.y (.c (.loc 1 2)) (OkOps.y (.c (.d (.sl (List.map Attr.cs v.Attrs)))) ?_)))))))))))))))
 refine OkOps.y (.c (.loc 1 3)) (OkOps.y (.c (.d (.sl (List.map Action.cs v.Actions)))) (OkOps.y (.agg [cI t.Next,cI parent,cI v.Kind,cS v.Key,.d (.sl (List.map Attr.cs v.Attrs)),.d (.sl (List.map Action.cs v.Actions)),.d (.v (.slice none 0 0))]) (OkOps.m 0 (triBST (sz:=7) (enc:=Node.cs) (j:=4) ([(Node.mk t.Next parent v.Kind v.Key v.Attrs v.Actions ([] : (List Int)))]) rfl rfl rfl rfl rfl rfl rfl rfl (fun _=>rfl) trivial rfl rfl) ?_)))
 obtain ⟨x1,hx1,hr⟩:=bind_some hr
 refine OkOps.m2 0 (triAppV (enc:=Node.cs) (L:=t.Nodes) (X:=[(Node.mk t.Next parent v.Kind v.Key v.Attrs v.Actions ([] : (List Int)))]) (j:=0) (j':=5) hx1 rfl rfl rfl rfl rfl rfl (fun _=>rfl) (fun _=>rfl) trivial rfl rfl) (OkOps.y (.c (.loc 2 2)) (OkOps.w (triStoreF (cs':=[cI t.Root,cI t.Next,.own 5]) rfl rfl rfl rfl rfl rfl rfl rfl) (OkOps.nil (Ok.seq (Ok.region (OkOps.y (.c (.loc 2 1)) (OkOps.y (aI t.Next) (OkOps.y (aI (IntKind.i64.wrap (t.Next + 1))) (OkOps.y (.c (.loc 2 1)) (OkOps.w (triStore (cs':=[cI t.Root,cI (IntKind.i64.wrap (t.Next + 1)),.own 5]) rfl rfl rfl rfl rfl rfl rfl rfl rfl) (OkOps.nil (Ok.seq (Ok.region (OkOps.y (.c (.d (.v (.slice none 0 0)))) (OkOps.nil ?_)))))))))))))))
 obtain ⟨k3,hk3,hr⟩:=jn_some hr
 refine Ok.join (fun (s2 : (List Int) × Int × Int × (List Node))=>⟨[(5,.s (.c (.loc 2 0))),(6,.s (.c (.loc 3 0))),(8,.s (aI (t.Nodes.length : Int))),(9,.s (.c (.tl 1007 (List.map (eInt .i64) s2.1))))],[(0,.dead),(2,.blk [cI s2.2.1,cI s2.2.2.1,.own 1008] 30),(3,.blk [cI 0,cI 0,.d (.v (.slice none 0 0))] 30),(1007,.tail 1),(1008,.vec 7 (List.map Node.cs s2.2.2.2))],0⟩) k3 r (fun s2 hr=>?_) ?_
 rw [hk3] at hr
 refine Ok.seq (Ok.region (OkOps.y (.c (.loc 2 2)) (OkOps.y (.c (.own 1008)) (OkOps.y (aI (t.Nodes.length : Int)) (OkOps.y (.c (.tl 1007 (List.map (eInt .i64) s2.1))) ?_)))))
 obtain ⟨x4,hx4,hr⟩:=bind_some hr
 refine OkOps.q (triIdxV (enc:=Node.cs) (L:=s2.2.2.2) hx4 rfl rfl rfl rfl trivial rfl) (OkOps.q (triFldV (o:=6) (enc:=Node.cs) (L:=s2.2.2.2) rfl rfl rfl (by have:=(ixO_spec hx4).2;omega) rfl) ?_)
 obtain ⟨x5,hx5,hr⟩:=bind_some hr
 refine OkOps.w (triStoreVF (n:=1) (enc:=Node.cs) (L:=s2.2.2.2) (z:=(Node.mk x5.ID x5.Parent x5.Kind x5.Key x5.Attrs x5.Actions s2.1)) hx5 rfl rfl rfl rfl rfl rfl rfl rfl (by decide) (fun _=>rfl) rfl) (OkOps.nil (Ok.seq (Ok.region (OkOps.y (.agg [cI s2.2.1,cI s2.2.2.1,.own 1008]) (OkOps.w (triStoreF (cs':=[cI s2.2.1,cI s2.2.2.1,.own 1008]) rfl rfl rfl rfl rfl rfl rfl rfl) (OkOps.nil (Ok.conv (T:=⟨[(6,.s (.c (.loc 3 0)))],[(0,.dead),(3,.blk [cI s2.2.1,cI s2.2.2.1,.own 2000] 30),(2000,.vec 7 (List.map Node.cs (List.set s2.2.2.2 x4 (Node.mk x5.ID x5.Parent x5.Kind x5.Key x5.Attrs x5.Actions s2.1))))],0⟩) (Conv.mk (tau [(2000,1008)]) ⟨⟨_,rfl,.inl rfl⟩,trivial⟩ ⟨rfl,rfl,trivial⟩ rfl rfl rfl rfl) (Ok.ret ?_))))))))
 obtain rfl:=Option.some.inj hr
 exact ⟨_,rfl,.inl rfl,⟨(fun h=>by cases h),rfl,trivial⟩⟩
 clear hk3
 refine Ok.seq (Ok.region (OkOps.y (aI 0) (OkOps.nil (Ok.block (Ok.loopK (fun (s6 : (List Int) × Int × Int × Int × (List Node))=>⟨[(3,.s (.c (.loc 1 0))),(5,.s (.c (.loc 2 0))),(6,.s (.c (.loc 3 0))),(7,.s (aI t.Next)),(8,.s (aI (t.Nodes.length : Int))),(9,.s (.c (.tl 1012 (List.map (eInt .i64) s6.1)))),(10,.s (aI s6.2.1))],[(0,.dead),(1,.blk [cI v.Kind,cS v.Key,.d (.sl (List.map Attr.cs v.Attrs)),.d (.sl (List.map Action.cs v.Actions)),.d (.sl (List.map View.cs v.Kids))] 27),(2,.blk [cI s6.2.2.1,cI s6.2.2.2.1,.own 1013] 30),(3,.blk [cI 0,cI 0,.d (.v (.slice none 0 0))] 30),(1012,.tail 1),(1013,.vec 7 (List.map Node.cs s6.2.2.2.2))],0⟩) hr (Conv.trans (Conv.nil 9 1016 1 0 rfl rfl) (Conv.mk (tau [(1012,1016),(1013,5)]) ⟨⟨_,rfl,.inl rfl⟩,⟨_,rfl,.inl rfl⟩,⟨_,rfl,.inl rfl⟩,⟨_,rfl,.inl rfl⟩,⟨_,rfl,.inl rfl⟩,⟨_,rfl,.inl rfl⟩,⟨_,rfl,.inl rfl⟩,trivial⟩ ⟨rfl,rfl,rfl,rfl,rfl,trivial⟩ rfl rfl rfl rfl)) ?_)))))
 clear hr
 intro again7 s6 hr
 unfold r14_build_L1 at hr
 refine Ok.seq (Ok.seq (Ok.region (OkOps.y (aI s6.2.1) (OkOps.y (.c (.loc 1 4)) (OkOps.y (.c (.d (.sl (List.map View.cs v.Kids)))) (OkOps.q (triLen (enc:=View.cs) v.Kids rfl rfl trivial rfl) (OkOps.y (aB (decide (s6.2.1 < (v.Kids.length : Int)))) (OkOps.nil ?_))))))))
 refine Ok.cond (b:=decide (s6.2.1 < (v.Kids.length : Int))) rfl (fun h8=>?_) (fun h8=>?_)
 have hr:=selT h8 hr
 refine Ok.skip (Ok.seq (Ok.block (Ok.seq (Ok.region (OkOps.y (.c (.tl 1012 (List.map (eInt .i64) s6.1))) (OkOps.y (.c (.loc 2 1)) (OkOps.y (aI s6.2.2.2.1) (OkOps.m 0 (triBST (sz:=1) (enc:=(eInt .i64)) (j:=6) ([s6.2.2.2.1]) rfl rfl rfl rfl rfl rfl rfl rfl (fun _=>rfl) trivial rfl rfl) ?_))))))))
 obtain ⟨x9,hx9,hr⟩:=bind_some hr
 refine OkOps.m2 0 (triApp (enc:=(eInt .i64)) (L:=s6.1) (X:=[s6.2.2.2.1]) (j:=1012) (j':=7) hx9 rfl rfl rfl rfl rfl rfl (fun _=>rfl) (fun _=>rfl) (by decide) trivial rfl rfl) (OkOps.y (.c (.tl 7 (List.map (eInt .i64) x9))) (OkOps.nil (Ok.regionD (by kernel_rfl) (OkD.x (.c (.loc 1 4)) rfl trivial rfl (OkD.x (.c (.d (.sl (List.map View.cs v.Kids)))) rfl trivial rfl (OkD.x (aI s6.2.1) rfl trivial rfl ?_))))))
 obtain ⟨x10,hx10,hr⟩:=bind_some hr
 refine OkD.q (triIdx (enc:=View.cs) (L:=v.Kids) (row:=[dI x10.Kind,dS x10.Key,.sl (List.map Attr.cs x10.Attrs),.sl (List.map Action.cs x10.Actions),.sl (List.map View.cs x10.Kids)]) hx10 (View.cs_eq _) rfl rfl rfl (fun x=>by rw [View.cs_eq];rfl) trivial rfl) ?_
 refine OkD.x (.agg [cI x10.Kind,cS x10.Key,.d (.sl (List.map Attr.cs x10.Attrs)),.d (.sl (List.map Action.cs x10.Actions)),.d (.sl (List.map View.cs x10.Kids))]) rfl trivial rfl (OkD.x (aI t.Next) rfl trivial rfl (OkD.x (.agg [cI s6.2.2.1,cI s6.2.2.2.1,.own 1013]) rfl trivial rfl ?_))
 obtain ⟨x11,hx11,hr⟩:=bind_some hr
 refine OkD.m2 0 (triCall (tau [(0,1013),(2000,8)]) (.s (.agg [cI x11.Root,cI x11.Next,.own 8])) [(1013,.dead),(8,.vec 7 (List.map Node.cs x11.Nodes))] (hself0 _ _ _ hx11) rfl ⟨.inl rfl,.inl rfl,.inl rfl,trivial⟩ trivial entry35 ⟨rfl,trivial⟩ rfl rfl rfl rfl ⟨rfl,trivial⟩ rfl rfl rfl) (OkD.w (triStoreF (cs':=[cI x11.Root,cI x11.Next,.own 8]) rfl rfl rfl rfl rfl rfl rfl rfl) (OkD.nil (by kernel_rfl) (Ok.region (OkOps.y (aI s6.2.1) (OkOps.y (aI (IntKind.i64.wrap (s6.2.1 + 1))) (OkOps.y (aI (IntKind.i64.wrap (s6.2.1 + 1))) (OkOps.nil ?_)))))))
 exact ⟨(x9,IntKind.i64.wrap (s6.2.1 + 1),x11.Root,x11.Next,x11.Nodes),hr,(Conv.mk (tau [(1012,7),(1013,8)]) ⟨⟨_,rfl,.inl rfl⟩,⟨_,rfl,.inl rfl⟩,⟨_,rfl,.inl rfl⟩,⟨_,rfl,.inl rfl⟩,⟨_,rfl,.inl rfl⟩,⟨_,rfl,.inl rfl⟩,⟨_,rfl,.inl rfl⟩,trivial⟩ ⟨rfl,rfl,rfl,rfl,rfl,trivial⟩ rfl rfl rfl rfl)⟩
 have hr:=selF h8 hr
 refine Ok.exit ?_
 exact ⟨(s6.1,s6.2.2.1,s6.2.2.2.1,s6.2.2.2.2),hr,(Conv.mk (tau [(1007,1012),(1008,1013)]) ⟨⟨_,rfl,.inl rfl⟩,⟨_,rfl,.inl rfl⟩,⟨_,rfl,.inl rfl⟩,⟨_,rfl,.inl rfl⟩,trivial⟩ ⟨rfl,rfl,rfl,rfl,trivial⟩ rfl rfl rfl rfl)⟩
theorem r14_build_all : ∀ n : Nat,(∀ (v : View) (parent : Int) (t : Tree) {r : Tree},r14_build n v parent t = some r → Con Tryz.prog 35 [.agg [cI v.Kind,cS v.Key,.d (.sl (List.map Attr.cs v.Attrs)),.d (.sl (List.map Action.cs v.Actions)),.d (.sl (List.map View.cs v.Kids))],aI parent,.agg [cI t.Root,cI t.Next,.own 0]] [(0,.vec 7 (List.map Node.cs t.Nodes))] (.s (.agg [cI r.Root,cI r.Next,.own 2000])) [(0,.dead),(2000,.vec 7 (List.map Node.cs r.Nodes))]) ∧ True:=by
 intro n
 induction n with
 | zero=>exact ⟨(by intros;rename_i hr;cases hr),trivial⟩
 | succ n ih=>exact ⟨(by intros;rename_i hr;exact r14_build_B_c _ ih.1 _ _ _ hr),trivial⟩
theorem r14_build_c (n : Nat) (v : View) (parent : Int) (t : Tree) {r : Tree} (hr : r14_build n v parent t = some r) : Con Tryz.prog 35 [.agg [cI v.Kind,cS v.Key,.d (.sl (List.map Attr.cs v.Attrs)),.d (.sl (List.map Action.cs v.Actions)),.d (.sl (List.map View.cs v.Kids))],aI parent,.agg [cI t.Root,cI t.Next,.own 0]] [(0,.vec 7 (List.map Node.cs t.Nodes))] (.s (.agg [cI r.Root,cI r.Next,.own 2000])) [(0,.dead),(2000,.vec 7 (List.map Node.cs r.Nodes))]:=(r14_build_all n).1 v parent t hr
theorem r14_Build_c (v : View) (next : Int) {r : Tree × Int} (hr : r14_Build v next = some r) : Con Tryz.prog 9 [.agg [cI v.Kind,cS v.Key,.d (.sl (List.map Attr.cs v.Attrs)),.d (.sl (List.map Action.cs v.Actions)),.d (.sl (List.map View.cs v.Kids))],aI next] [] (.tup [.agg [cI r.1.Root,cI r.1.Next,.d (.sl (List.map Node.cs r.1.Nodes))],aI r.2]) []:=by
 unfold r14_Build at hr
 refine Con.of_ok 27 0 [.cell 4 30,.tmp 5] [(0,.s (.agg [cI v.Kind,cS v.Key,.d (.sl (List.map Attr.cs v.Attrs)),.d (.sl (List.map Action.cs v.Actions)),.d (.sl (List.map View.cs v.Kids))])),(1,.s (aI next))] Tryz.func9 rfl rfl rfl rfl rfl rfl rfl rfl fun w g M ρ _=>(Ok.seq (Ok.region (OkOps.m 0 (triBox (j:=0) (cs:=[cI v.Kind,cS v.Key,.d (.sl (List.map Attr.cs v.Attrs)),.d (.sl (List.map Action.cs v.Actions)),.d (.sl (List.map View.cs v.Kids))]) rfl rfl rfl rfl rfl) (OkOps.m 0 (triAlloc (j:=1) (cs:=[cI 0,cI 0,.d (.v (.slice none 0 0))]) rfl rfl rfl rfl) (OkOps.y (aI 0) (OkOps.nil (Ok.seq (Ok.seq (Ok.region (OkOps.y (.agg [cI v.Kind,cS v.Key,.d (.sl (List.map Attr.cs v.Attrs)),.d (.sl (List.map Action.cs v.Actions)),.d (.sl (List.map View.cs v.Kids))]) ?_))))))))))
 obtain ⟨x1,hx1,hr⟩:=bind_some hr
 refine OkOps.q (triCl (tau []) (.s (aI x1)) [] (r14_Validate_c _ hx1) rfl ⟨.inl rfl,trivial⟩ trivial entry34 trivial) (OkOps.y (aI x1) (OkOps.nil (Ok.seq (Ok.region (OkOps.y (aI x1) (OkOps.y (aB (x1 != 0)) (OkOps.nil ?_)))))))
 refine Ok.cond (b:=x1 != 0) rfl (fun h2=>?_) (fun h2=>?_)
 have hr:=selT h2 hr
 refine Ok.seq (Ok.region (OkOps.y (.agg [cI 0,cI 0,.d (.v (.slice none 0 0))]) (OkOps.y (aI x1) (OkOps.w (triStore (cs':=[cI 0,cI 0,.d (.v (.slice none 0 0))]) rfl rfl rfl rfl rfl rfl rfl rfl rfl) (OkOps.y (aI x1) (OkOps.nil (Ok.ret ?_)))))))
 obtain rfl:=Option.some.inj hr
 exact ⟨_,rfl,.inr rfl,trivial⟩
 have hr:=selF h2 hr
 refine Ok.skip (Ok.seq (Ok.seq (Ok.region (OkOps.y (aI next) (OkOps.y (aB (decide (next < 1))) (OkOps.y (aB (decide (next < 1))) (OkOps.q (triQG (x:=aI next) rfl rfl trivial rfl) (OkOps.q (triQG (x:=aB (decide (next > 1099511627376))) rfl rfl ⟨fun h=>h,trivial⟩ rfl) ?_))))))))
 refine OkOps.q (triOr rfl rfl (fun h=>by rw [h];rfl) rfl) ?_
 refine OkOps.nil ?_
 refine Ok.cond (b:=(decide (next < 1)) || (decide (next > 1099511627376))) rfl (fun h3=>?_) (fun h3=>?_)
 have hr:=selT h3 hr
 refine Ok.seq (Ok.region (OkOps.y (.agg [cI 0,cI 0,.d (.v (.slice none 0 0))]) (OkOps.w (triStore (cs':=[cI 0,cI 0,.d (.v (.slice none 0 0))]) rfl rfl rfl rfl rfl rfl rfl rfl rfl) (OkOps.y (aI 1) (OkOps.nil (Ok.ret ?_))))))
 obtain rfl:=Option.some.inj hr
 exact ⟨_,rfl,.inr rfl,trivial⟩
 have hr:=selF h3 hr
 refine Ok.skip (Ok.seq (Ok.region (OkOps.y (aI next) (OkOps.y (aI next) (OkOps.y (.agg [cI next,cI next,.d (.v (.slice none 0 0))]) (OkOps.m 0 (triAlloc (j:=2) (cs:=[cI 0,cI 0,.d (.v (.slice none 0 0))]) rfl rfl rfl rfl) (OkOps.w (triStore (cs':=[cI next,cI next,.d (.v (.slice none 0 0))]) rfl rfl rfl rfl rfl rfl rfl rfl rfl) (OkOps.nil (Ok.seq (Ok.region (OkOps.y (.agg [cI v.Kind,cS v.Key,.d (.sl (List.map Attr.cs v.Attrs)),.d (.sl (List.map Action.cs v.Actions)),.d (.sl (List.map View.cs v.Kids))]) (OkOps.y (.agg [cI next,cI next,.d (.v (.slice none 0 0))]) (OkOps.conv (Conv.nilAg 25 2 3 (.vec 7 (List.map Node.cs ([] : (List Node)))) (.own 3) [cI next,cI next,.d (.v (.slice none 0 0))] [cI next,cI next,.own 3] 0 rfl rfl rfl rfl (nil_vec Node.cs 7 3) (fun _ _ h=>h.symm)) ?_)))))))))))))
 obtain ⟨x4,hx4,hr⟩:=bind_some hr
 refine OkOps.m2 0 (triCall (tau [(0,3),(2000,4)]) (.s (.agg [cI x4.Root,cI x4.Next,.own 4])) [(3,.dead),(4,.vec 7 (List.map Node.cs x4.Nodes))] (r14_build_c _ _ _ _ hx4) rfl ⟨.inl rfl,.inl rfl,.inl rfl,trivial⟩ trivial entry35 ⟨rfl,trivial⟩ rfl rfl rfl rfl ⟨rfl,trivial⟩ rfl rfl rfl) (OkOps.w (triStoreF (cs':=[cI x4.Root,cI x4.Next,.own 4]) rfl rfl rfl rfl rfl rfl rfl rfl) (OkOps.y (aI 0) (OkOps.nil (Ok.conv (Conv.freezeV (enc:=Node.cs) (L:=x4.Nodes) [(26,.s (.agg [cI x4.Root,cI x4.Next,.d (.sl (List.map Node.cs x4.Nodes))]))] [(1,.blk [cI x4.Root,cI x4.Next,.d (.sl (List.map Node.cs x4.Nodes))] 30)] 4 0 rfl (fun _=>rfl) ⟨⟨_,rfl,rfl⟩,trivial⟩ ⟨⟨_,_,rfl,rfl⟩,trivial⟩) (Ok.ret ?_)))))
 obtain rfl:=Option.some.inj hr
 exact ⟨_,rfl,.inl rfl,trivial⟩
end Go.Proofs.YtfoigppmcelgfaaGreatDoor
end

/-
  Part 5 of the texts under the law ShortcutScopes: the calculus, the plain functions, their walks, plain facts.
-/
import Derived.Test.YtobiohcdpfpefaaDoorShortcutScopesB4
import Derived.Test.YtobiohcdpfpefaaDoorProg
import Derived.KernelRfl
section
set_option maxRecDepth 100000
namespace Go.Proofs.YtobiohcdpfpefaaDoor
open Go Go.E2
theorem widgetry_layout_isText_c (kind : Int) {r : Bool} (hr : widgetry_layout_isText kind = some r) : Con Tryd.prog 114 [aI kind] [] (.s (aB r)) [] := by
  unfold widgetry_layout_isText at hr
  refine Con.of_ok 17 0 [.tmp 2] [(0, .s (aI kind))] Tryd.func114 rfl rfl rfl rfl rfl rfl rfl rfl fun w g M ρ _ => (Ok.seq (Ok.region (OkOps.y (aB false) (OkOps.nil (Ok.seq (Ok.region (OkOps.y (aI kind) (OkOps.y (aB (kind == 2)) (OkOps.y (aB (kind == 2)) (OkOps.q (triQG (x := aI kind) rfl rfl trivial rfl) (OkOps.q (triQG (x := aB (kind == 4)) rfl rfl ⟨fun h => h, trivial⟩ rfl) ?_)))))))))))
  refine OkOps.q (triOr rfl rfl (fun h => by rw [h]; rfl) rfl) ?_
  refine OkOps.y (aB ((kind == 2) || (kind == 4))) (OkOps.q (triQG (x := aI kind) rfl rfl trivial rfl) (OkOps.q (triQG (x := aB (kind == 7)) rfl rfl ⟨fun h => h, trivial⟩ rfl) ?_))
  refine OkOps.q (triOr rfl rfl (fun h => by rw [h]; rfl) rfl) ?_
  refine OkOps.y (aB (((kind == 2) || (kind == 4)) || (kind == 7))) (OkOps.q (triQG (x := aI kind) rfl rfl trivial rfl) (OkOps.q (triQG (x := aB (kind == 9)) rfl rfl ⟨fun h => h, trivial⟩ rfl) ?_))
  refine OkOps.q (triOr rfl rfl (fun h => by rw [h]; rfl) rfl) ?_
  refine OkOps.y (aB ((((kind == 2) || (kind == 4)) || (kind == 7)) || (kind == 9))) (OkOps.nil (Ok.ret ?_))
  obtain rfl := Option.some.inj hr
  exact ⟨_, rfl, .inl rfl, trivial⟩
theorem widgetry_layout_isFigure_c (kind : Int) {r : Bool} (hr : widgetry_layout_isFigure kind = some r) : Con Tryd.prog 115 [aI kind] [] (.s (aB r)) [] := by
  unfold widgetry_layout_isFigure at hr
  refine Con.of_ok 9 0 [.tmp 2] [(0, .s (aI kind))] Tryd.func115 rfl rfl rfl rfl rfl rfl rfl rfl fun w g M ρ _ => (Ok.seq (Ok.region (OkOps.y (aB false) (OkOps.nil (Ok.seq (Ok.region (OkOps.y (aI kind) (OkOps.y (aB (kind == 5)) (OkOps.y (aB (kind == 5)) (OkOps.q (triQG (x := aI kind) rfl rfl trivial rfl) (OkOps.q (triQG (x := aB (kind == 13)) rfl rfl ⟨fun h => h, trivial⟩ rfl) ?_)))))))))))
  refine OkOps.q (triOr rfl rfl (fun h => by rw [h]; rfl) rfl) ?_
  refine OkOps.y (aB ((kind == 5) || (kind == 13))) (OkOps.nil (Ok.ret ?_))
  obtain rfl := Option.some.inj hr
  exact ⟨_, rfl, .inl rfl, trivial⟩
theorem widgetry_layout_complete_1_c (p_n : Node) (p_s : Styled) {r : Bool} (hr : widgetry_layout_complete_1 p_n p_s = some r) : Con Tryd.prog 103 [.agg [cI p_n.ID, cI p_n.Parent, cI p_n.Kind, cS p_n.Key, .d (.sl (List.map Attr.cs p_n.Attrs)), .d (.sl (List.map Action.cs p_n.Actions)), .d (.sl (List.map (eInt .i64) p_n.Kids))], .agg [cI p_s.ID, cI (p_s.Style 0), cI (p_s.Style 1), cI (p_s.Style 2), cI (p_s.Style 3), cI (p_s.Style 4), cI (p_s.Style 5), cI (p_s.Style 6), cI (p_s.Style 7), cI (p_s.Style 8), cI (p_s.Style 9), cI (p_s.Style 10), cI (p_s.Style 11), cI (p_s.Style 12), cI (p_s.Style 13), cI (p_s.Style 14), cI (p_s.Style 15), cI (p_s.Style 16), cI (p_s.Style 17), cI (p_s.Style 18), cI (p_s.Style 19), cI (p_s.Style 20), cI (p_s.Style 21)]] [] (.s (aB r)) [] := by
  unfold widgetry_layout_complete_1 at hr
  refine Con.of_ok 10 0 [.tmp 4] [(0, .s (.agg [cI p_n.ID, cI p_n.Parent, cI p_n.Kind, cS p_n.Key, .d (.sl (List.map Attr.cs p_n.Attrs)), .d (.sl (List.map Action.cs p_n.Actions)), .d (.sl (List.map (eInt .i64) p_n.Kids))])), (1, .s (.agg [cI p_s.ID, cI (p_s.Style 0), cI (p_s.Style 1), cI (p_s.Style 2), cI (p_s.Style 3), cI (p_s.Style 4), cI (p_s.Style 5), cI (p_s.Style 6), cI (p_s.Style 7), cI (p_s.Style 8), cI (p_s.Style 9), cI (p_s.Style 10), cI (p_s.Style 11), cI (p_s.Style 12), cI (p_s.Style 13), cI (p_s.Style 14), cI (p_s.Style 15), cI (p_s.Style 16), cI (p_s.Style 17), cI (p_s.Style 18), cI (p_s.Style 19), cI (p_s.Style 20), cI (p_s.Style 21)]))] Tryd.func103 rfl rfl rfl rfl rfl rfl rfl rfl fun w g M ρ _ => (Ok.seq (Ok.region (OkOps.m 0 (triBox (j := 0) (cs := [cI p_n.ID, cI p_n.Parent, cI p_n.Kind, cS p_n.Key, .d (.sl (List.map Attr.cs p_n.Attrs)), .d (.sl (List.map Action.cs p_n.Actions)), .d (.sl (List.map (eInt .i64) p_n.Kids))]) rfl rfl rfl rfl rfl) (OkOps.m 0 (triBox (j := 1) (cs := [cI p_s.ID, cI (p_s.Style 0), cI (p_s.Style 1), cI (p_s.Style 2), cI (p_s.Style 3), cI (p_s.Style 4), cI (p_s.Style 5), cI (p_s.Style 6), cI (p_s.Style 7), cI (p_s.Style 8), cI (p_s.Style 9), cI (p_s.Style 10), cI (p_s.Style 11), cI (p_s.Style 12), cI (p_s.Style 13), cI (p_s.Style 14), cI (p_s.Style 15), cI (p_s.Style 16), cI (p_s.Style 17), cI (p_s.Style 18), cI (p_s.Style 19), cI (p_s.Style 20), cI (p_s.Style 21)]) rfl rfl rfl rfl rfl) (OkOps.y (aB false) (OkOps.nil (Ok.seq (Ok.region (OkOps.y (.c (.loc 0 0)) (OkOps.y (aI p_n.ID) (OkOps.y (.c (.loc 1 0)) (OkOps.y (aI p_s.ID) (OkOps.y (aB (p_n.ID == p_s.ID)) (OkOps.y (aB (p_n.ID == p_s.ID)) (OkOps.nil ?_)))))))))))))))
  refine Ok.ret ?_
  obtain rfl := Option.some.inj hr
  exact ⟨_, rfl, .inl rfl, trivial⟩
theorem slices_EqualFunc_Sl_Node_Sl_Styled_Node_Styled_c (p_s1 : (List Node)) (p_s2 : (List Styled)) {r : Bool} (hr : slices_EqualFunc_Sl_Node_Sl_Styled_Node_Styled p_s1 p_s2 = some r) : Con Tryd.prog 102 [.c (.d (.sl (List.map Node.cs p_s1))), .c (.d (.sl (List.map Styled.cs p_s2))), .c (.fn 103 [])] [] (.s (aB r)) [] := by
  unfold slices_EqualFunc_Sl_Node_Sl_Styled_Node_Styled at hr
  refine Con.of_ok 32 0 [.tmp 6] [(0, .s (.c (.d (.sl (List.map Node.cs p_s1))))), (1, .s (.c (.d (.sl (List.map Styled.cs p_s2))))), (2, .s (.c (.fn 103 [])))] Tryd.func102 rfl rfl rfl rfl rfl rfl rfl rfl fun w g M ρ _ => (Ok.seq (Ok.region (OkOps.y (aB false) (OkOps.nil (Ok.seq (Ok.seq (Ok.region (OkOps.y (.c (.d (.sl (List.map Node.cs p_s1)))) (OkOps.q (triLen (enc := Node.cs) p_s1 rfl rfl trivial rfl) (OkOps.y (.c (.d (.sl (List.map Styled.cs p_s2)))) (OkOps.q (triLen (enc := Styled.cs) p_s2 rfl rfl trivial rfl) (OkOps.y (aB ((p_s1.length : Int) != (p_s2.length : Int))) (OkOps.nil ?_)))))))))))))
  refine Ok.cond (b := (p_s1.length : Int) != (p_s2.length : Int)) rfl (fun h1 => ?_) (fun h1 => ?_)
  have hr := selT h1 hr
  refine Ok.seq (Ok.region (OkOps.y (aB false) (OkOps.nil (Ok.ret ?_))))
  obtain rfl := Option.some.inj hr
  exact ⟨_, rfl, .inl rfl, trivial⟩
  have hr := selF h1 hr
  refine Ok.skip ?_
  obtain ⟨k3, hk3, hr⟩ := jn_some hr
  refine Ok.join (fun (s2 : Unit) => ⟨[], [], 0⟩) k3 r (fun s2 hr => ?_) ?_
  rw [hk3] at hr
  refine Ok.seq (Ok.region (OkOps.y (aB true) (OkOps.nil (Ok.ret ?_))))
  obtain rfl := Option.some.inj hr
  exact ⟨_, rfl, .inl rfl, trivial⟩
  clear hk3
  refine Ok.seq (Ok.region (OkOps.y (.c (.d (.sl (List.map Node.cs p_s1)))) (OkOps.q (triLen (enc := Node.cs) p_s1 rfl rfl trivial rfl) (OkOps.y (aI 0) (OkOps.nil (Ok.block (Ok.loopK (fun (s4 : Int) => ⟨[(1, .s (.c (.d (.sl (List.map Styled.cs p_s2))))), (2, .s (.c (.fn 103 []))), (15, .s (.c (.d (.sl (List.map Node.cs p_s1))))), (16, .s (aI (p_s1.length : Int))), (17, .s (aI s4))], [], 0⟩) hr (Conv.mk (tau []) ⟨⟨_, rfl, .inl rfl⟩, ⟨_, rfl, .inl rfl⟩, ⟨_, rfl, .inl rfl⟩, ⟨_, rfl, .inl rfl⟩, ⟨_, rfl, .inl rfl⟩, trivial⟩ trivial rfl rfl rfl rfl) ?_)))))))
  clear hr
  intro again5 s4 hr
  unfold slices_EqualFunc_Sl_Node_Sl_Styled_Node_Styled_L1 at hr
  refine Ok.seq (Ok.region (OkOps.y (aB (decide (s4 < (p_s1.length : Int)))) (OkOps.nil (Ok.seq ?_))))
  refine Ok.cond (b := decide (s4 < (p_s1.length : Int))) rfl (fun h6 => ?_) (fun h6 => ?_)
  have hr := selT h6 hr
  refine Ok.skip (Ok.seq (Ok.block (Ok.seq (Ok.region (OkOps.y (aI s4) ?_)))))
  obtain ⟨x7, hx7, hr⟩ := bind_some hr
  refine OkOps.q (triIdx (enc := Node.cs) (L := p_s1) (row := [dI x7.ID, dI x7.Parent, dI x7.Kind, dS x7.Key, .sl (List.map Attr.cs x7.Attrs), .sl (List.map Action.cs x7.Actions), .sl (List.map (eInt .i64) x7.Kids)]) hx7 rfl rfl rfl rfl (fun _ => rfl) trivial rfl) (OkOps.y (.agg [cI x7.ID, cI x7.Parent, cI x7.Kind, cS x7.Key, .d (.sl (List.map Attr.cs x7.Attrs)), .d (.sl (List.map Action.cs x7.Actions)), .d (.sl (List.map (eInt .i64) x7.Kids))]) (OkOps.m 0 (triAlloc (j := 0) (cs := [cI 0, cI 0, cI 0, cS ByteArray.empty, .d (.v (.slice none 0 0)), .d (.v (.slice none 0 0)), .d (.v (.slice none 0 0))]) rfl rfl rfl rfl) (OkOps.y (aI s4) (OkOps.w (triStore (cs' := [cI x7.ID, cI x7.Parent, cI x7.Kind, cS x7.Key, .d (.sl (List.map Attr.cs x7.Attrs)), .d (.sl (List.map Action.cs x7.Actions)), .d (.sl (List.map (eInt .i64) x7.Kids))]) rfl rfl rfl rfl rfl rfl rfl rfl rfl) (OkOps.nil (Ok.seq (Ok.region (OkOps.y (.c (.d (.sl (List.map Styled.cs p_s2)))) (OkOps.y (aI s4) ?_)))))))))
  obtain ⟨x8, hx8, hr⟩ := bind_some hr
  refine OkOps.q (triIdx (enc := Styled.cs) (L := p_s2) (row := [dI x8.ID, dI (x8.Style 0), dI (x8.Style 1), dI (x8.Style 2), dI (x8.Style 3), dI (x8.Style 4), dI (x8.Style 5), dI (x8.Style 6), dI (x8.Style 7), dI (x8.Style 8), dI (x8.Style 9), dI (x8.Style 10), dI (x8.Style 11), dI (x8.Style 12), dI (x8.Style 13), dI (x8.Style 14), dI (x8.Style 15), dI (x8.Style 16), dI (x8.Style 17), dI (x8.Style 18), dI (x8.Style 19), dI (x8.Style 20), dI (x8.Style 21)]) hx8 rfl rfl rfl rfl (fun _ => rfl) trivial rfl) (OkOps.y (.agg [cI x8.ID, cI (x8.Style 0), cI (x8.Style 1), cI (x8.Style 2), cI (x8.Style 3), cI (x8.Style 4), cI (x8.Style 5), cI (x8.Style 6), cI (x8.Style 7), cI (x8.Style 8), cI (x8.Style 9), cI (x8.Style 10), cI (x8.Style 11), cI (x8.Style 12), cI (x8.Style 13), cI (x8.Style 14), cI (x8.Style 15), cI (x8.Style 16), cI (x8.Style 17), cI (x8.Style 18), cI (x8.Style 19), cI (x8.Style 20), cI (x8.Style 21)]) (OkOps.m 0 (triAlloc (j := 1) (cs := [cI 0, cI 0, cI 0, cI 0, cI 0, cI 0, cI 0, cI 0, cI 0, cI 0, cI 0, cI 0, cI 0, cI 0, cI 0, cI 0, cI 0, cI 0, cI 0, cI 0, cI 0, cI 0, cI 0]) rfl rfl rfl rfl) (OkOps.w (triStore (cs' := [cI x8.ID, cI (x8.Style 0), cI (x8.Style 1), cI (x8.Style 2), cI (x8.Style 3), cI (x8.Style 4), cI (x8.Style 5), cI (x8.Style 6), cI (x8.Style 7), cI (x8.Style 8), cI (x8.Style 9), cI (x8.Style 10), cI (x8.Style 11), cI (x8.Style 12), cI (x8.Style 13), cI (x8.Style 14), cI (x8.Style 15), cI (x8.Style 16), cI (x8.Style 17), cI (x8.Style 18), cI (x8.Style 19), cI (x8.Style 20), cI (x8.Style 21)]) rfl rfl rfl rfl rfl rfl rfl rfl (by kernel_rfl)) (OkOps.nil (Ok.seq (Ok.region (OkOps.y (.c (.fn 103 [])) (OkOps.y (.agg [cI x7.ID, cI x7.Parent, cI x7.Kind, cS x7.Key, .d (.sl (List.map Attr.cs x7.Attrs)), .d (.sl (List.map Action.cs x7.Actions)), .d (.sl (List.map (eInt .i64) x7.Kids))]) (OkOps.y (.agg [cI x8.ID, cI (x8.Style 0), cI (x8.Style 1), cI (x8.Style 2), cI (x8.Style 3), cI (x8.Style 4), cI (x8.Style 5), cI (x8.Style 6), cI (x8.Style 7), cI (x8.Style 8), cI (x8.Style 9), cI (x8.Style 10), cI (x8.Style 11), cI (x8.Style 12), cI (x8.Style 13), cI (x8.Style 14), cI (x8.Style 15), cI (x8.Style 16), cI (x8.Style 17), cI (x8.Style 18), cI (x8.Style 19), cI (x8.Style 20), cI (x8.Style 21)]) ?_)))))))))
  obtain ⟨x9, hx9, hr⟩ := bind_some hr
  refine OkOps.q (triCallF (caps := []) (tau []) (.s (aB x9)) [] rfl (widgetry_layout_complete_1_c _ _ hx9) rfl ⟨.inl rfl, .inl rfl, trivial⟩ trivial entry103 trivial rfl rfl rfl rfl trivial rfl rfl rfl) (OkOps.y (aB (!x9)) (OkOps.nil ?_))
  refine Ok.cond (b := !x9) rfl (fun h10 => ?_) (fun h10 => ?_)
  have hr := selT h10 hr
  refine Ok.seq (Ok.region (OkOps.y (aB false) (OkOps.nil (Ok.ret ?_))))
  obtain rfl := Option.some.inj hr
  exact ⟨_, rfl, .inl rfl, trivial⟩
  have hr := selF h10 hr
  refine Ok.skip (Ok.region (OkOps.y (aI (IntKind.i64.wrap (s4 + 1))) (OkOps.y (aI (IntKind.i64.wrap (s4 + 1))) (OkOps.nil ?_))))
  exact ⟨IntKind.i64.wrap (s4 + 1), hr, (Conv.mk (tau []) ⟨⟨_, rfl, .inl rfl⟩, ⟨_, rfl, .inl rfl⟩, ⟨_, rfl, .inl rfl⟩, ⟨_, rfl, .inl rfl⟩, ⟨_, rfl, .inl rfl⟩, trivial⟩ trivial rfl rfl rfl rfl)⟩
  have hr := selF h6 hr
  refine Ok.exit ?_
  exact ⟨(), hr, (Conv.mk (tau []) trivial trivial rfl rfl rfl rfl)⟩
theorem widgetry_layout_complete_c (t : Tree) (st : (List Styled)) {r : Bool} (hr : widgetry_layout_complete t st = some r) : Con Tryd.prog 84 [.agg [cI t.Root, cI t.Next, .d (.sl (List.map Node.cs t.Nodes))], .c (.d (.sl (List.map Styled.cs st)))] [] (.s (aB r)) [] := by
  unfold widgetry_layout_complete at hr
  refine Con.of_ok 9 0 [.tmp 4] [(0, .s (.agg [cI t.Root, cI t.Next, .d (.sl (List.map Node.cs t.Nodes))])), (1, .s (.c (.d (.sl (List.map Styled.cs st)))))] Tryd.func84 rfl rfl rfl rfl rfl rfl rfl rfl fun w g M ρ _ => (Ok.seq (Ok.region (OkOps.m 0 (triBox (j := 0) (cs := [cI t.Root, cI t.Next, .d (.sl (List.map Node.cs t.Nodes))]) rfl rfl rfl rfl rfl) (OkOps.y (aB false) (OkOps.nil (Ok.seq (Ok.region (OkOps.y (.c (.loc 0 2)) (OkOps.y (.c (.d (.sl (List.map Node.cs t.Nodes)))) (OkOps.y (.c (.d (.sl (List.map Styled.cs st)))) ?_))))))))))
  obtain ⟨x1, hx1, hr⟩ := bind_some hr
  refine OkOps.q (triCl (tau []) (.s (aB x1)) [] (slices_EqualFunc_Sl_Node_Sl_Styled_Node_Styled_c _ _ hx1) rfl ⟨.inl rfl, .inl rfl, .inl rfl, trivial⟩ trivial entry102 trivial) (OkOps.y (aB x1) (OkOps.nil (Ok.ret ?_)))
  obtain rfl := Option.some.inj hr
  exact ⟨_, rfl, .inl rfl, trivial⟩
theorem widgetry_layout_styled_c (st : (List Styled)) {r : Bool} (hr : widgetry_layout_styled st = some r) : Con Tryd.prog 85 [.c (.d (.sl (List.map Styled.cs st)))] [] (.s (aB r)) [] := by
  unfold widgetry_layout_styled at hr
  refine Con.of_ok 25 0 [.tmp 2] [(0, .s (.c (.d (.sl (List.map Styled.cs st)))))] Tryd.func85 rfl rfl rfl rfl rfl rfl rfl rfl fun w g M ρ _ => (Ok.seq (Ok.region (OkOps.y (aB false) (OkOps.nil ?_))))
  obtain ⟨k2, hk2, hr⟩ := jn_some hr
  refine Ok.join (fun (s1 : Unit) => ⟨[], [], 0⟩) k2 r (fun s1 hr => ?_) ?_
  rw [hk2] at hr
  refine Ok.seq (Ok.region (OkOps.y (aB true) (OkOps.nil (Ok.ret ?_))))
  obtain rfl := Option.some.inj hr
  exact ⟨_, rfl, .inl rfl, trivial⟩
  clear hk2
  refine Ok.seq (Ok.region (OkOps.y (.c (.d (.sl (List.map Styled.cs st)))) (OkOps.q (triLen (enc := Styled.cs) st rfl rfl trivial rfl) (OkOps.y (aI 0) (OkOps.nil (Ok.block (Ok.loopK (fun (s3 : Int) => ⟨[(7, .s (.c (.d (.sl (List.map Styled.cs st))))), (8, .s (aI (st.length : Int))), (9, .s (aI s3))], [], 0⟩) hr (Conv.mk (tau []) ⟨⟨_, rfl, .inl rfl⟩, ⟨_, rfl, .inl rfl⟩, ⟨_, rfl, .inl rfl⟩, trivial⟩ trivial rfl rfl rfl rfl) ?_)))))))
  clear hr
  intro again4 s3 hr
  unfold widgetry_layout_styled_L2 at hr
  refine Ok.seq (Ok.region (OkOps.y (aB (decide (s3 < (st.length : Int)))) (OkOps.nil (Ok.seq ?_))))
  refine Ok.cond (b := decide (s3 < (st.length : Int))) rfl (fun h5 => ?_) (fun h5 => ?_)
  have hr := selT h5 hr
  refine Ok.skip ?_
  obtain ⟨k7, hk7, hr⟩ := jn_some hr
  refine Ok.join (fun (s6 : Unit) => ⟨[(7, .s (.c (.d (.sl (List.map Styled.cs st))))), (8, .s (aI (st.length : Int))), (9, .s (aI s3))], [], 0⟩) k7 r (fun s6 hr => ?_) ?_
  rw [hk7] at hr
  refine Ok.region (OkOps.y (aI (IntKind.i64.wrap (s3 + 1))) (OkOps.y (aI (IntKind.i64.wrap (s3 + 1))) (OkOps.nil ?_)))
  exact ⟨IntKind.i64.wrap (s3 + 1), hr, (Conv.mk (tau []) ⟨⟨_, rfl, .inl rfl⟩, ⟨_, rfl, .inl rfl⟩, ⟨_, rfl, .inl rfl⟩, trivial⟩ trivial rfl rfl rfl rfl)⟩
  clear hk7
  refine Ok.block (Ok.seq (Ok.region ?_))
  obtain ⟨x8, hx8, hr⟩ := bind_some hr
  refine OkOps.q (triIdx (enc := Styled.cs) (L := st) (row := [dI x8.ID, dI (x8.Style 0), dI (x8.Style 1), dI (x8.Style 2), dI (x8.Style 3), dI (x8.Style 4), dI (x8.Style 5), dI (x8.Style 6), dI (x8.Style 7), dI (x8.Style 8), dI (x8.Style 9), dI (x8.Style 10), dI (x8.Style 11), dI (x8.Style 12), dI (x8.Style 13), dI (x8.Style 14), dI (x8.Style 15), dI (x8.Style 16), dI (x8.Style 17), dI (x8.Style 18), dI (x8.Style 19), dI (x8.Style 20), dI (x8.Style 21)]) hx8 rfl rfl rfl rfl (fun _ => rfl) trivial rfl) (OkOps.y (.agg [cI x8.ID, cI (x8.Style 0), cI (x8.Style 1), cI (x8.Style 2), cI (x8.Style 3), cI (x8.Style 4), cI (x8.Style 5), cI (x8.Style 6), cI (x8.Style 7), cI (x8.Style 8), cI (x8.Style 9), cI (x8.Style 10), cI (x8.Style 11), cI (x8.Style 12), cI (x8.Style 13), cI (x8.Style 14), cI (x8.Style 15), cI (x8.Style 16), cI (x8.Style 17), cI (x8.Style 18), cI (x8.Style 19), cI (x8.Style 20), cI (x8.Style 21)]) (OkOps.m 0 (triAlloc (j := 0) (cs := [cI 0, cI 0, cI 0, cI 0, cI 0, cI 0, cI 0, cI 0, cI 0, cI 0, cI 0, cI 0, cI 0, cI 0, cI 0, cI 0, cI 0, cI 0, cI 0, cI 0, cI 0, cI 0, cI 0]) rfl rfl rfl rfl) (OkOps.w (triStore (cs' := [cI x8.ID, cI (x8.Style 0), cI (x8.Style 1), cI (x8.Style 2), cI (x8.Style 3), cI (x8.Style 4), cI (x8.Style 5), cI (x8.Style 6), cI (x8.Style 7), cI (x8.Style 8), cI (x8.Style 9), cI (x8.Style 10), cI (x8.Style 11), cI (x8.Style 12), cI (x8.Style 13), cI (x8.Style 14), cI (x8.Style 15), cI (x8.Style 16), cI (x8.Style 17), cI (x8.Style 18), cI (x8.Style 19), cI (x8.Style 20), cI (x8.Style 21)]) rfl rfl rfl rfl rfl rfl rfl rfl (by kernel_rfl)) (OkOps.nil (Ok.seq (Ok.region (OkOps.y (.c (.loc 0 1)) (OkOps.y (.agg [cI (x8.Style 0), cI (x8.Style 1), cI (x8.Style 2), cI (x8.Style 3), cI (x8.Style 4), cI (x8.Style 5), cI (x8.Style 6), cI (x8.Style 7), cI (x8.Style 8), cI (x8.Style 9), cI (x8.Style 10), cI (x8.Style 11), cI (x8.Style 12), cI (x8.Style 13), cI (x8.Style 14), cI (x8.Style 15), cI (x8.Style 16), cI (x8.Style 17), cI (x8.Style 18), cI (x8.Style 19), cI (x8.Style 20), cI (x8.Style 21)]) (OkOps.y (aI 0) (OkOps.nil ?_))))))))))
  obtain ⟨k10, hk10, hr⟩ := jn_some hr
  refine Ok.joinEnd (fun (s9 : Unit) => ⟨[(7, .s (.c (.d (.sl (List.map Styled.cs st))))), (8, .s (aI (st.length : Int))), (9, .s (aI s3))], [], 0⟩) k10 r (fun s9 hr => ?_) ?_
  rw [hk10] at hr
  exact ⟨(), hr, (Conv.mk (tau []) ⟨⟨_, rfl, .inl rfl⟩, ⟨_, rfl, .inl rfl⟩, ⟨_, rfl, .inl rfl⟩, trivial⟩ trivial rfl rfl rfl rfl)⟩
  clear hk10
  refine Ok.block (Ok.loopK (fun (s11 : Int) => ⟨[(7, .s (.c (.d (.sl (List.map Styled.cs st))))), (8, .s (aI (st.length : Int))), (9, .s (aI s3)), (14, .s (.agg [cI (x8.Style 0), cI (x8.Style 1), cI (x8.Style 2), cI (x8.Style 3), cI (x8.Style 4), cI (x8.Style 5), cI (x8.Style 6), cI (x8.Style 7), cI (x8.Style 8), cI (x8.Style 9), cI (x8.Style 10), cI (x8.Style 11), cI (x8.Style 12), cI (x8.Style 13), cI (x8.Style 14), cI (x8.Style 15), cI (x8.Style 16), cI (x8.Style 17), cI (x8.Style 18), cI (x8.Style 19), cI (x8.Style 20), cI (x8.Style 21)])), (15, .s (aI s11))], [], 0⟩) hr (Conv.mk (tau []) ⟨⟨_, rfl, .inl rfl⟩, ⟨_, rfl, .inl rfl⟩, ⟨_, rfl, .inl rfl⟩, ⟨_, rfl, .inl rfl⟩, ⟨_, rfl, .inl rfl⟩, trivial⟩ trivial rfl rfl rfl rfl) ?_)
  clear hr
  intro again12 s11 hr
  unfold widgetry_layout_styled_L1 at hr
  refine Ok.seq (Ok.region (OkOps.y (aB (decide (s11 < 22))) (OkOps.nil (Ok.seq ?_))))
  refine Ok.cond (b := decide (s11 < 22)) rfl (fun h13 => ?_) (fun h13 => ?_)
  have hr := selT h13 hr
  refine Ok.skip (Ok.seq (Ok.block (Ok.seq (Ok.region (OkOps.y (aI s11) ?_)))))
  obtain ⟨x14, hx14, hr⟩ := bind_some hr
  refine OkOps.q (triIxA (c := cI (x8.Style x14)) hx14 rfl rfl rfl rfl (arr1_get (e1 := dInt .i64) (a := x8.Style) (ixO_spec hx14).2) trivial rfl) (OkOps.y (aI s11) (OkOps.y (aI (x8.Style x14)) (OkOps.nil (Ok.seq (Ok.region (OkOps.y (aI s11) (OkOps.y (aI (x8.Style x14)) ?_)))))))
  obtain ⟨x15, hx15, hr⟩ := bind_some hr
  refine OkOps.q (triCl (tau []) (.s (aB x15)) [] (widgetry_style_InRange_c _ _ hx15) rfl ⟨.inl rfl, .inl rfl, trivial⟩ trivial entry104 trivial) (OkOps.y (aB (!x15)) (OkOps.nil ?_))
  refine Ok.cond (b := !x15) rfl (fun h16 => ?_) (fun h16 => ?_)
  have hr := selT h16 hr
  refine Ok.seq (Ok.region (OkOps.y (aB false) (OkOps.nil (Ok.ret ?_))))
  obtain rfl := Option.some.inj hr
  exact ⟨_, rfl, .inl rfl, trivial⟩
  have hr := selF h16 hr
  refine Ok.skip (Ok.region (OkOps.y (aI (IntKind.i64.wrap (s11 + 1))) (OkOps.y (aI (IntKind.i64.wrap (s11 + 1))) (OkOps.nil ?_))))
  exact ⟨IntKind.i64.wrap (s11 + 1), hr, (Conv.mk (tau []) ⟨⟨_, rfl, .inl rfl⟩, ⟨_, rfl, .inl rfl⟩, ⟨_, rfl, .inl rfl⟩, ⟨_, rfl, .inl rfl⟩, ⟨_, rfl, .inl rfl⟩, trivial⟩ trivial rfl rfl rfl rfl)⟩
  have hr := selF h13 hr
  refine Ok.exit ?_
  exact ⟨(), hr, (Conv.mk (tau []) ⟨⟨_, rfl, .inl rfl⟩, ⟨_, rfl, .inl rfl⟩, ⟨_, rfl, .inl rfl⟩, trivial⟩ trivial rfl rfl rfl rfl)⟩
  have hr := selF h5 hr
  refine Ok.exit ?_
  exact ⟨(), hr, (Conv.mk (tau []) trivial trivial rfl rfl rfl rfl)⟩
theorem widgetry_layout_scene_hidden_c (p_x : layout_scene) (id : Int) {r : Bool × layout_scene} (hr : widgetry_layout_scene_hidden p_x id = some r) : Con Tryd.prog 105 [.c (.loc 0 0), aI id] [(0, .blk [cI p_x.t.Root, cI p_x.t.Next, .d (.sl (List.map Node.cs p_x.t.Nodes)), .d (.sl (List.map Font.cs p_x.fonts)), .d (.mp true (encM (kInt .i64) Node.cs p_x.nodes)), .d (.mp true (encM (kInt .i64) (eArr 22 (dInt .i64)) p_x.style)), .own 1, .tl 2 (List.map (eInt .i64) p_x.shown), .d (.mp false (encM (kInt .i64) (eInt .i64) p_x.least)), .d (.mp false (encM (kInt .i64) (eInt .i64) p_x.most)), .d (.mp false (encM (kPair .i64) (eInt .i64) p_x.tall)), .d (.mp false (encM (kPair .i64) (eInt .i64) p_x.first))] 165), (1, .mp false (encM (kInt .i64) (eJ 1) p_x.kids)), (2, .tail 1)] (.s (aB r.1)) [(0, .blk [cI r.2.t.Root, cI r.2.t.Next, .d (.sl (List.map Node.cs r.2.t.Nodes)), .d (.sl (List.map Font.cs r.2.fonts)), .d (.mp true (encM (kInt .i64) Node.cs r.2.nodes)), .d (.mp true (encM (kInt .i64) (eArr 22 (dInt .i64)) r.2.style)), .own 3000, .tl 3001 (List.map (eInt .i64) r.2.shown), .d (.mp false (encM (kInt .i64) (eInt .i64) r.2.least)), .d (.mp false (encM (kInt .i64) (eInt .i64) r.2.most)), .d (.mp false (encM (kPair .i64) (eInt .i64) r.2.tall)), .d (.mp false (encM (kPair .i64) (eInt .i64) r.2.first))] 165), (1, .dead), (2, .dead), (3000, .mp false (encM (kInt .i64) (eJ 1) r.2.kids)), (3001, .tail 1)] := by
  unfold widgetry_layout_scene_hidden at hr
  refine Con.of_ok 23 0 [.tmp 4] [(0, .s (.c (.loc 0 0))), (1, .s (aI id))] Tryd.func105 rfl rfl rfl rfl rfl rfl rfl rfl fun w g M ρ _ => (Ok.seq (Ok.region (OkOps.y (aB false) (OkOps.nil (Ok.seq (Ok.region (OkOps.y (.c (.loc 0 0)) (OkOps.y (.c (.loc 0 0)) (OkOps.y (.c (.loc 0 5)) (OkOps.y (.c (.d (.mp true (encM (kInt .i64) (eArr 22 (dInt .i64)) p_x.style)))) (OkOps.y (aI id) ?_)))))))))))
  obtain ⟨x1, hx1, hr⟩ := bind_some hr
  refine OkOps.q (triLook (agg := true) (ek := (kInt .i64)) (ev := (eArr 22 (dInt .i64))) (L := p_x.style) (r := .agg [cI (x1.1 0), cI (x1.1 1), cI (x1.1 2), cI (x1.1 3), cI (x1.1 4), cI (x1.1 5), cI (x1.1 6), cI (x1.1 7), cI (x1.1 8), cI (x1.1 9), cI (x1.1 10), cI (x1.1 11), cI (x1.1 12), cI (x1.1 13), cI (x1.1 14), cI (x1.1 15), cI (x1.1 16), cI (x1.1 17), cI (x1.1 18), cI (x1.1 19), cI (x1.1 20), cI (x1.1 21)]) hx1 rfl rfl rfl (keyInt Tryd.underlying3) rfl rfl (fun h => by cases h) rfl trivial rfl) ?_
  refine OkOps.q (triIxA (k := 5) (c := cI (x1.1 5)) rfl rfl rfl rfl rfl rfl trivial rfl) (OkOps.y (aB ((x1.1 5) == 0)) (OkOps.y (aB ((x1.1 5) == 0)) (OkOps.q (triQG (x := .c (.loc 0 0)) rfl rfl trivial rfl) (OkOps.q (triQG (x := .c (.loc 0 0)) rfl rfl ⟨fun h => h, trivial⟩ rfl) (OkOps.q (triQG (x := .c (.loc 0 4)) rfl rfl ⟨fun h => h, trivial⟩ rfl) (OkOps.q (triQG (x := .c (.d (.mp true (encM (kInt .i64) Node.cs p_x.nodes)))) rfl rfl ⟨fun h => h, trivial⟩ rfl) (OkOps.q (triQG (x := aI id) rfl rfl trivial rfl) ?_)))))))
  obtain ⟨x2, hx2, hr⟩ := bind_some hr
  refine OkOps.q (triLookG (agg := true) (ek := (kInt .i64)) (ev := Node.cs) (L := p_x.nodes) (r := .agg [cI x2.1.ID, cI x2.1.Parent, cI x2.1.Kind, cS x2.1.Key, .d (.sl (List.map Attr.cs x2.1.Attrs)), .d (.sl (List.map Action.cs x2.1.Actions)), .d (.sl (List.map (eInt .i64) x2.1.Kids))]) (gO_t hx2) rfl rfl rfl rfl (keyInt Tryd.underlying3) rfl rfl (fun h => by cases h) rfl ⟨fun h => h, ⟨fun h => h, trivial⟩⟩ rfl) ?_
  refine OkOps.q (triQG (x := .c (.d (.sl (List.map Attr.cs x2.1.Attrs)))) rfl rfl ⟨fun h => h, trivial⟩ rfl) ?_
  obtain ⟨x3, hx3, hr⟩ := bind_some hr
  refine OkOps.q (triCallG (x := aB x3) (fun hg => vw_Flag_c _ _ (gO_t hx3 hg)) rfl rfl ⟨.inl rfl, .inl rfl, trivial⟩ ⟨fun h => h, trivial⟩ entry87 rfl rfl rfl) ?_
  refine OkOps.q (triOr rfl rfl (fun h => by rw [h]; rfl) rfl) ?_
  refine OkOps.y (aB (((x1.1 5) == 0) || x3)) (OkOps.nil (Ok.conv (T := ⟨[(4, .s (aB (((x1.1 5) == 0) || x3)))], [(0, .blk [cI p_x.t.Root, cI p_x.t.Next, .d (.sl (List.map Node.cs p_x.t.Nodes)), .d (.sl (List.map Font.cs p_x.fonts)), .d (.mp true (encM (kInt .i64) Node.cs p_x.nodes)), .d (.mp true (encM (kInt .i64) (eArr 22 (dInt .i64)) p_x.style)), .own 3000, .tl 3001 (List.map (eInt .i64) p_x.shown), .d (.mp false (encM (kInt .i64) (eInt .i64) p_x.least)), .d (.mp false (encM (kInt .i64) (eInt .i64) p_x.most)), .d (.mp false (encM (kPair .i64) (eInt .i64) p_x.tall)), .d (.mp false (encM (kPair .i64) (eInt .i64) p_x.first))] 165), (1, .dead), (2, .dead), (3000, .mp false (encM (kInt .i64) (eJ 1) p_x.kids)), (3001, .tail 1)], 0⟩) (Conv.mk (tau [(3000, 1), (3001, 2)]) ⟨⟨_, rfl, .inl rfl⟩, trivial⟩ ⟨rfl, rfl, rfl, trivial⟩ rfl rfl rfl rfl) (Ok.ret ?_)))
  obtain rfl := Option.some.inj hr
  exact ⟨_, rfl, .inl rfl, ⟨rfl, (fun h => by cases h), (fun h => by cases h), rfl, rfl, trivial⟩⟩
theorem widgetry_layout_scene_show_B_c (self0 : layout_scene → Int → Option layout_scene) (hself0 : ∀ (p_x : layout_scene) (id : Int) {r : layout_scene}, self0 p_x id = some r → Con Tryd.prog 106 [.c (.loc 0 0), aI id] [(0, .blk [cI p_x.t.Root, cI p_x.t.Next, .d (.sl (List.map Node.cs p_x.t.Nodes)), .d (.sl (List.map Font.cs p_x.fonts)), .d (.mp true (encM (kInt .i64) Node.cs p_x.nodes)), .d (.mp true (encM (kInt .i64) (eArr 22 (dInt .i64)) p_x.style)), .own 1, .tl 2 (List.map (eInt .i64) p_x.shown), .d (.mp false (encM (kInt .i64) (eInt .i64) p_x.least)), .d (.mp false (encM (kInt .i64) (eInt .i64) p_x.most)), .d (.mp false (encM (kPair .i64) (eInt .i64) p_x.tall)), .d (.mp false (encM (kPair .i64) (eInt .i64) p_x.first))] 165), (1, .mp false (encM (kInt .i64) (eJ 1) p_x.kids)), (2, .tail 1)] (.tup []) [(0, .blk [cI r.t.Root, cI r.t.Next, .d (.sl (List.map Node.cs r.t.Nodes)), .d (.sl (List.map Font.cs r.fonts)), .d (.mp true (encM (kInt .i64) Node.cs r.nodes)), .d (.mp true (encM (kInt .i64) (eArr 22 (dInt .i64)) r.style)), .own 3000, .tl 3001 (List.map (eInt .i64) r.shown), .d (.mp false (encM (kInt .i64) (eInt .i64) r.least)), .d (.mp false (encM (kInt .i64) (eInt .i64) r.most)), .d (.mp false (encM (kPair .i64) (eInt .i64) r.tall)), .d (.mp false (encM (kPair .i64) (eInt .i64) r.first))] 165), (1, .dead), (2, .dead), (3000, .mp false (encM (kInt .i64) (eJ 1) r.kids)), (3001, .tail 1)]) (p_x : layout_scene) (id : Int) {r : layout_scene} (hr : widgetry_layout_scene_show_B self0 p_x id = some r) : Con Tryd.prog 106 [.c (.loc 0 0), aI id] [(0, .blk [cI p_x.t.Root, cI p_x.t.Next, .d (.sl (List.map Node.cs p_x.t.Nodes)), .d (.sl (List.map Font.cs p_x.fonts)), .d (.mp true (encM (kInt .i64) Node.cs p_x.nodes)), .d (.mp true (encM (kInt .i64) (eArr 22 (dInt .i64)) p_x.style)), .own 1, .tl 2 (List.map (eInt .i64) p_x.shown), .d (.mp false (encM (kInt .i64) (eInt .i64) p_x.least)), .d (.mp false (encM (kInt .i64) (eInt .i64) p_x.most)), .d (.mp false (encM (kPair .i64) (eInt .i64) p_x.tall)), .d (.mp false (encM (kPair .i64) (eInt .i64) p_x.first))] 165), (1, .mp false (encM (kInt .i64) (eJ 1) p_x.kids)), (2, .tail 1)] (.tup []) [(0, .blk [cI r.t.Root, cI r.t.Next, .d (.sl (List.map Node.cs r.t.Nodes)), .d (.sl (List.map Font.cs r.fonts)), .d (.mp true (encM (kInt .i64) Node.cs r.nodes)), .d (.mp true (encM (kInt .i64) (eArr 22 (dInt .i64)) r.style)), .own 3000, .tl 3001 (List.map (eInt .i64) r.shown), .d (.mp false (encM (kInt .i64) (eInt .i64) r.least)), .d (.mp false (encM (kInt .i64) (eInt .i64) r.most)), .d (.mp false (encM (kPair .i64) (eInt .i64) r.tall)), .d (.mp false (encM (kPair .i64) (eInt .i64) r.first))] 165), (1, .dead), (2, .dead), (3000, .mp false (encM (kInt .i64) (eJ 1) r.kids)), (3001, .tail 1)] := by
  unfold widgetry_layout_scene_show_B at hr
  refine Con.of_ok 60 0 [] [(0, .s (.c (.loc 0 0))), (1, .s (aI id))] Tryd.func106 rfl rfl rfl rfl rfl rfl rfl rfl fun w g M ρ _ => (Ok.seq (Ok.region (OkOps.y (.c (.loc 0 0)) (OkOps.y (.c (.loc 0 0)) (OkOps.y (.c (.loc 0 0)) (OkOps.y (.c (.loc 0 7)) (OkOps.y (.c (.tl 2 (List.map (eInt .i64) p_x.shown))) (OkOps.y (aI id) (OkOps.m 0 (triBST (sz := 1) (enc := (eInt .i64)) (j := 3) ([id]) rfl rfl rfl rfl rfl rfl rfl rfl (fun _ => rfl) trivial rfl rfl) ?_)))))))))
  obtain ⟨x1, hx1, hr⟩ := bind_some hr
  refine OkOps.m2 0 (triApp (enc := (eInt .i64)) (L := p_x.shown) (X := [id]) (j := 2) (j' := 4) hx1 rfl rfl rfl rfl rfl rfl (fun _ => rfl) (fun _ => rfl) (by decide) trivial rfl rfl) (OkOps.y (.c (.loc 0 0)) (OkOps.y (.c (.loc 0 7)) (OkOps.w (triStore (cs' := [cI p_x.t.Root, cI p_x.t.Next, .d (.sl (List.map Node.cs p_x.t.Nodes)), .d (.sl (List.map Font.cs p_x.fonts)), .d (.mp true (encM (kInt .i64) Node.cs p_x.nodes)), .d (.mp true (encM (kInt .i64) (eArr 22 (dInt .i64)) p_x.style)), .own 1, .tl 4 (List.map (eInt .i64) x1), .d (.mp false (encM (kInt .i64) (eInt .i64) p_x.least)), .d (.mp false (encM (kInt .i64) (eInt .i64) p_x.most)), .d (.mp false (encM (kPair .i64) (eInt .i64) p_x.tall)), .d (.mp false (encM (kPair .i64) (eInt .i64) p_x.first))]) rfl rfl rfl rfl rfl rfl rfl rfl rfl) (OkOps.nil (Ok.seq (Ok.region (OkOps.y (.c (.loc 0 0)) (OkOps.y (.c (.loc 0 0)) (OkOps.y (.c (.loc 0 4)) (OkOps.y (.c (.d (.mp true (encM (kInt .i64) Node.cs p_x.nodes)))) (OkOps.y (aI id) ?_)))))))))))
  obtain ⟨x2, hx2, hr⟩ := bind_some hr
  refine OkOps.q (triLook (agg := true) (ek := (kInt .i64)) (ev := Node.cs) (L := p_x.nodes) (r := .agg [cI x2.1.ID, cI x2.1.Parent, cI x2.1.Kind, cS x2.1.Key, .d (.sl (List.map Attr.cs x2.1.Attrs)), .d (.sl (List.map Action.cs x2.1.Actions)), .d (.sl (List.map (eInt .i64) x2.1.Kids))]) hx2 rfl rfl rfl (keyInt Tryd.underlying3) rfl rfl (fun h => by cases h) rfl trivial rfl) ?_
  refine OkOps.m 0 (triAlloc (j := 5) (cs := [cI 0, cI 0, cI 0, cS ByteArray.empty, .d (.v (.slice none 0 0)), .d (.v (.slice none 0 0)), .d (.v (.slice none 0 0))]) rfl rfl rfl rfl) (OkOps.w (triStore (cs' := [cI x2.1.ID, cI x2.1.Parent, cI x2.1.Kind, cS x2.1.Key, .d (.sl (List.map Attr.cs x2.1.Attrs)), .d (.sl (List.map Action.cs x2.1.Actions)), .d (.sl (List.map (eInt .i64) x2.1.Kids))]) rfl rfl rfl rfl rfl rfl rfl rfl rfl) (OkOps.nil (Ok.seq (Ok.seq (Ok.region (OkOps.y (.c (.loc 5 2)) (OkOps.y (aI x2.1.Kind) ?_)))))))
  obtain ⟨x3, hx3, hr⟩ := bind_some hr
  refine OkOps.q (triCl (tau []) (.s (aB x3)) [] (widgetry_layout_isText_c _ hx3) rfl ⟨.inl rfl, trivial⟩ trivial entry114 trivial) (OkOps.y (aB x3) (OkOps.q (triQG (x := .c (.loc 5 2)) rfl rfl trivial rfl) (OkOps.q (triQG (x := aI x2.1.Kind) rfl rfl ⟨fun h => h, trivial⟩ rfl) ?_)))
  obtain ⟨x4, hx4, hr⟩ := bind_some hr
  refine OkOps.q (triCallG (x := aB x4) (fun hg => widgetry_layout_isFigure_c _ (gO_t hx4 hg)) rfl rfl ⟨.inl rfl, trivial⟩ ⟨fun h => h, trivial⟩ entry115 rfl rfl rfl) ?_
  refine OkOps.q (triOr rfl rfl (fun h => by rw [h]; rfl) rfl) ?_
  refine OkOps.nil ?_
  refine Ok.cond (b := x3 || x4) rfl (fun h5 => ?_) (fun h5 => ?_)
  have hr := selT h5 hr
  refine Ok.conv (T := ⟨[], [(0, .blk [cI p_x.t.Root, cI p_x.t.Next, .d (.sl (List.map Node.cs p_x.t.Nodes)), .d (.sl (List.map Font.cs p_x.fonts)), .d (.mp true (encM (kInt .i64) Node.cs p_x.nodes)), .d (.mp true (encM (kInt .i64) (eArr 22 (dInt .i64)) p_x.style)), .own 3000, .tl 3001 (List.map (eInt .i64) x1), .d (.mp false (encM (kInt .i64) (eInt .i64) p_x.least)), .d (.mp false (encM (kInt .i64) (eInt .i64) p_x.most)), .d (.mp false (encM (kPair .i64) (eInt .i64) p_x.tall)), .d (.mp false (encM (kPair .i64) (eInt .i64) p_x.first))] 165), (1, .dead), (2, .dead), (3000, .mp false (encM (kInt .i64) (eJ 1) p_x.kids)), (3001, .tail 1)], 0⟩) (Conv.mk (tau [(3000, 1), (3001, 4)]) trivial ⟨rfl, rfl, rfl, trivial⟩ rfl rfl rfl rfl) (Ok.ret ?_)
  obtain rfl := Option.some.inj hr
  exact ⟨_, rfl, .inl rfl, ⟨rfl, (fun h => by cases h), (fun h => by cases h), rfl, rfl, trivial⟩⟩
  have hr := selF h5 hr
  refine Ok.skip (Ok.seq (Ok.region (OkOps.y (.c (.loc 5 6)) (OkOps.y (.c (.d (.sl (List.map (eInt .i64) x2.1.Kids)))) (OkOps.q (triLen (enc := (eInt .i64)) x2.1.Kids rfl rfl trivial rfl) (OkOps.y (aI 0) (OkOps.nil (Ok.block (Ok.loopK (fun (s6 : Int × Int × Int × (List Node) × (List Font) × (List (Int × Node)) × (List (Int × (Nat → Int))) × (List (Int × Nat)) × (List Int) × (List (Int × Int)) × (List (Int × Int)) × (List ((Int × Int) × Int)) × (List ((Int × Int) × Int))) => ⟨[(0, .s (.c (.loc 0 0))), (1, .s (aI id)), (32, .s (.c (.d (.sl (List.map (eInt .i64) x2.1.Kids))))), (33, .s (aI (x2.1.Kids.length : Int))), (34, .s (aI s6.1))], [(0, .blk [cI s6.2.1, cI s6.2.2.1, .d (.sl (List.map Node.cs s6.2.2.2.1)), .d (.sl (List.map Font.cs s6.2.2.2.2.1)), .d (.mp true (encM (kInt .i64) Node.cs s6.2.2.2.2.2.1)), .d (.mp true (encM (kInt .i64) (eArr 22 (dInt .i64)) s6.2.2.2.2.2.2.1)), .own 1004, .tl 1005 (List.map (eInt .i64) s6.2.2.2.2.2.2.2.2.1), .d (.mp false (encM (kInt .i64) (eInt .i64) s6.2.2.2.2.2.2.2.2.2.1)), .d (.mp false (encM (kInt .i64) (eInt .i64) s6.2.2.2.2.2.2.2.2.2.2.1)), .d (.mp false (encM (kPair .i64) (eInt .i64) s6.2.2.2.2.2.2.2.2.2.2.2.1)), .d (.mp false (encM (kPair .i64) (eInt .i64) s6.2.2.2.2.2.2.2.2.2.2.2.2))] 165), (1, .dead), (2, .dead), (1004, .mp false (encM (kInt .i64) (eJ 1) s6.2.2.2.2.2.2.2.1)), (1005, .tail 1)], 0⟩) hr (Conv.mk (tau [(1004, 1), (1005, 4)]) ⟨⟨_, rfl, .inl rfl⟩, ⟨_, rfl, .inl rfl⟩, ⟨_, rfl, .inl rfl⟩, ⟨_, rfl, .inl rfl⟩, ⟨_, rfl, .inl rfl⟩, trivial⟩ ⟨rfl, rfl, rfl, trivial⟩ rfl rfl rfl rfl) ?_)))))))))
  clear hr
  intro again7 s6 hr
  unfold widgetry_layout_scene_show_L1 at hr
  refine Ok.seq (Ok.region (OkOps.y (aB (decide (s6.1 < (x2.1.Kids.length : Int)))) (OkOps.nil (Ok.seq ?_))))
  refine Ok.cond (b := decide (s6.1 < (x2.1.Kids.length : Int))) rfl (fun h8 => ?_) (fun h8 => ?_)
  have hr := selT h8 hr
  refine Ok.skip ?_
  obtain ⟨k10, hk10, hr⟩ := jn_some hr
  refine Ok.join (fun (s9 : Int × Int × (List Node) × (List Font) × (List (Int × Node)) × (List (Int × (Nat → Int))) × (List (Int × Nat)) × (List Int) × (List (Int × Int)) × (List (Int × Int)) × (List ((Int × Int) × Int)) × (List ((Int × Int) × Int))) => ⟨[(0, .s (.c (.loc 0 0))), (1, .s (aI id)), (32, .s (.c (.d (.sl (List.map (eInt .i64) x2.1.Kids))))), (33, .s (aI (x2.1.Kids.length : Int))), (34, .s (aI s6.1))], [(0, .blk [cI s9.1, cI s9.2.1, .d (.sl (List.map Node.cs s9.2.2.1)), .d (.sl (List.map Font.cs s9.2.2.2.1)), .d (.mp true (encM (kInt .i64) Node.cs s9.2.2.2.2.1)), .d (.mp true (encM (kInt .i64) (eArr 22 (dInt .i64)) s9.2.2.2.2.2.1)), .own 1010, .tl 1011 (List.map (eInt .i64) s9.2.2.2.2.2.2.2.1), .d (.mp false (encM (kInt .i64) (eInt .i64) s9.2.2.2.2.2.2.2.2.1)), .d (.mp false (encM (kInt .i64) (eInt .i64) s9.2.2.2.2.2.2.2.2.2.1)), .d (.mp false (encM (kPair .i64) (eInt .i64) s9.2.2.2.2.2.2.2.2.2.2.1)), .d (.mp false (encM (kPair .i64) (eInt .i64) s9.2.2.2.2.2.2.2.2.2.2.2))] 165), (1, .dead), (2, .dead), (1010, .mp false (encM (kInt .i64) (eJ 1) s9.2.2.2.2.2.2.1)), (1011, .tail 1)], 0⟩) k10 r (fun s9 hr => ?_) ?_
  rw [hk10] at hr
  refine Ok.region (OkOps.y (aI (IntKind.i64.wrap (s6.1 + 1))) (OkOps.y (aI (IntKind.i64.wrap (s6.1 + 1))) (OkOps.nil ?_)))
  exact ⟨(IntKind.i64.wrap (s6.1 + 1), s9.1, s9.2.1, s9.2.2.1, s9.2.2.2.1, s9.2.2.2.2.1, s9.2.2.2.2.2.1, s9.2.2.2.2.2.2.1, s9.2.2.2.2.2.2.2.1, s9.2.2.2.2.2.2.2.2.1, s9.2.2.2.2.2.2.2.2.2.1, s9.2.2.2.2.2.2.2.2.2.2.1, s9.2.2.2.2.2.2.2.2.2.2.2), hr, (Conv.mk (tau [(1004, 1010), (1005, 1011)]) ⟨⟨_, rfl, .inl rfl⟩, ⟨_, rfl, .inl rfl⟩, ⟨_, rfl, .inl rfl⟩, ⟨_, rfl, .inl rfl⟩, ⟨_, rfl, .inl rfl⟩, trivial⟩ ⟨rfl, rfl, rfl, trivial⟩ rfl rfl rfl rfl)⟩
  clear hk10
  refine Ok.block (Ok.seq (Ok.region ?_))
  obtain ⟨x11, hx11, hr⟩ := bind_some hr
  refine OkOps.q (triIdx (enc := (eInt .i64)) (L := x2.1.Kids) (row := [dI x11]) hx11 rfl rfl rfl rfl (fun _ => rfl) trivial rfl) (OkOps.y (aI x11) (OkOps.y (aI x11) (OkOps.nil (Ok.seq (Ok.region (OkOps.y (.c (.loc 0 0)) (OkOps.y (aI x11) ?_)))))))
  obtain ⟨x12, hx12, hr⟩ := bind_some hr
  refine OkOps.wq [(0, .blk [cI x12.2.t.Root, cI x12.2.t.Next, .d (.sl (List.map Node.cs x12.2.t.Nodes)), .d (.sl (List.map Font.cs x12.2.fonts)), .d (.mp true (encM (kInt .i64) Node.cs x12.2.nodes)), .d (.mp true (encM (kInt .i64) (eArr 22 (dInt .i64)) x12.2.style)), .own 6, .tl 7 (List.map (eInt .i64) x12.2.shown), .d (.mp false (encM (kInt .i64) (eInt .i64) x12.2.least)), .d (.mp false (encM (kInt .i64) (eInt .i64) x12.2.most)), .d (.mp false (encM (kPair .i64) (eInt .i64) x12.2.tall)), .d (.mp false (encM (kPair .i64) (eInt .i64) x12.2.first))] 165), (1004, .dead), (1005, .dead), (6, .mp false (encM (kInt .i64) (eJ 1) x12.2.kids)), (7, .tail 1)] (triCall (tau [(0, 0), (1, 1004), (2, 1005), (3000, 6), (3001, 7)]) (.s (aB x12.1)) [(0, .blk [cI x12.2.t.Root, cI x12.2.t.Next, .d (.sl (List.map Node.cs x12.2.t.Nodes)), .d (.sl (List.map Font.cs x12.2.fonts)), .d (.mp true (encM (kInt .i64) Node.cs x12.2.nodes)), .d (.mp true (encM (kInt .i64) (eArr 22 (dInt .i64)) x12.2.style)), .own 6, .tl 7 (List.map (eInt .i64) x12.2.shown), .d (.mp false (encM (kInt .i64) (eInt .i64) x12.2.least)), .d (.mp false (encM (kInt .i64) (eInt .i64) x12.2.most)), .d (.mp false (encM (kPair .i64) (eInt .i64) x12.2.tall)), .d (.mp false (encM (kPair .i64) (eInt .i64) x12.2.first))] 165), (1004, .dead), (1005, .dead), (6, .mp false (encM (kInt .i64) (eJ 1) x12.2.kids)), (7, .tail 1)] (widgetry_layout_scene_hidden_c _ _ hx12) rfl ⟨.inl rfl, .inl rfl, trivial⟩ trivial entry105 ⟨rfl, rfl, rfl, trivial⟩ rfl rfl rfl rfl ⟨rfl, rfl, trivial⟩ rfl rfl rfl) (OkOps.y (aB (!x12.1)) (OkOps.nil ?_))
  refine Ok.cond (b := !x12.1) rfl (fun h13 => ?_) (fun h13 => ?_)
  have hr := selT h13 hr
  refine Ok.seq (Ok.regionD (by kernel_rfl) (OkD.x (.c (.loc 0 0)) rfl trivial rfl (OkD.x (.c (.loc 0 0)) rfl trivial rfl (OkD.x (.c (.loc 0 6)) rfl trivial rfl (OkD.x (.c (.own 6)) rfl trivial rfl (OkD.x (aI id) rfl trivial rfl (OkD.x (.c (.loc 0 0)) rfl trivial rfl (OkD.x (.c (.loc 0 0)) rfl trivial rfl (OkD.x (.c (.loc 0 6)) rfl trivial rfl (OkD.x (.c (.own 6)) rfl trivial rfl (OkD.x (aI id) rfl trivial rfl ?_)))))))))))
  obtain ⟨x14, hx14, hr⟩ := bind_some hr
  refine OkD.q (triLookJ (sz := 1) (L := x12.2.kids) hx14 rfl rfl rfl (keyInt Tryd.underlying3) rfl trivial rfl) (OkD.x (aI x11) rfl trivial rfl (OkD.m 0 (triBST (sz := 1) (enc := (eInt .i64)) (j := 8) ([x11]) rfl rfl rfl rfl rfl rfl rfl rfl (fun _ => rfl) trivial rfl rfl) ?_))
  obtain ⟨x15, hx15, hr⟩ := bind_some hr
  refine OkD.q (triAppJ (enc := (eInt .i64)) (X := [x11]) hx15 rfl rfl rfl rfl rfl (fun _ => rfl) (fun _ => rfl) trivial rfl) (OkD.w (triMapUp (ek := (kInt .i64)) (ev := eJ 1) (L := x12.2.kids) (z := x15) rfl rfl rfl rfl rfl rfl (keyInt Tryd.underlying3) (fun _ _ => rfl) rfl trivial) (OkD.nil (by kernel_rfl) (Ok.region (OkOps.y (.c (.loc 0 0)) (OkOps.y (aI x11) ?_)))))
  obtain ⟨x16, hx16, hr⟩ := bind_some hr
  refine OkOps.wq [(0, .blk [cI x16.t.Root, cI x16.t.Next, .d (.sl (List.map Node.cs x16.t.Nodes)), .d (.sl (List.map Font.cs x16.fonts)), .d (.mp true (encM (kInt .i64) Node.cs x16.nodes)), .d (.mp true (encM (kInt .i64) (eArr 22 (dInt .i64)) x16.style)), .own 9, .tl 10 (List.map (eInt .i64) x16.shown), .d (.mp false (encM (kInt .i64) (eInt .i64) x16.least)), .d (.mp false (encM (kInt .i64) (eInt .i64) x16.most)), .d (.mp false (encM (kPair .i64) (eInt .i64) x16.tall)), .d (.mp false (encM (kPair .i64) (eInt .i64) x16.first))] 165), (6, .dead), (7, .dead), (9, .mp false (encM (kInt .i64) (eJ 1) x16.kids)), (10, .tail 1)] (triCall (tau [(0, 0), (1, 6), (2, 7), (3000, 9), (3001, 10)]) (.tup []) [(0, .blk [cI x16.t.Root, cI x16.t.Next, .d (.sl (List.map Node.cs x16.t.Nodes)), .d (.sl (List.map Font.cs x16.fonts)), .d (.mp true (encM (kInt .i64) Node.cs x16.nodes)), .d (.mp true (encM (kInt .i64) (eArr 22 (dInt .i64)) x16.style)), .own 9, .tl 10 (List.map (eInt .i64) x16.shown), .d (.mp false (encM (kInt .i64) (eInt .i64) x16.least)), .d (.mp false (encM (kInt .i64) (eInt .i64) x16.most)), .d (.mp false (encM (kPair .i64) (eInt .i64) x16.tall)), .d (.mp false (encM (kPair .i64) (eInt .i64) x16.first))] 165), (6, .dead), (7, .dead), (9, .mp false (encM (kInt .i64) (eJ 1) x16.kids)), (10, .tail 1)] (hself0 _ _ hx16) rfl ⟨.inl rfl, .inl rfl, trivial⟩ trivial entry106 ⟨rfl, rfl, rfl, trivial⟩ rfl rfl rfl rfl ⟨rfl, rfl, trivial⟩ rfl rfl rfl) (OkOps.nil ?_)
  exact ⟨(x16.t.Root, x16.t.Next, x16.t.Nodes, x16.fonts, x16.nodes, x16.style, x16.kids, x16.shown, x16.least, x16.most, x16.tall, x16.first), hr, (Conv.mk (tau [(1010, 9), (1011, 10)]) ⟨⟨_, rfl, .inl rfl⟩, ⟨_, rfl, .inl rfl⟩, ⟨_, rfl, .inl rfl⟩, ⟨_, rfl, .inl rfl⟩, ⟨_, rfl, .inl rfl⟩, trivial⟩ ⟨rfl, rfl, rfl, trivial⟩ rfl rfl rfl rfl)⟩
  have hr := selF h13 hr
  refine Ok.skip ?_
  exact ⟨(x12.2.t.Root, x12.2.t.Next, x12.2.t.Nodes, x12.2.fonts, x12.2.nodes, x12.2.style, x12.2.kids, x12.2.shown, x12.2.least, x12.2.most, x12.2.tall, x12.2.first), hr, (Conv.mk (tau [(1010, 6), (1011, 7)]) ⟨⟨_, rfl, .inl rfl⟩, ⟨_, rfl, .inl rfl⟩, ⟨_, rfl, .inl rfl⟩, ⟨_, rfl, .inl rfl⟩, ⟨_, rfl, .inl rfl⟩, trivial⟩ ⟨rfl, rfl, rfl, trivial⟩ rfl rfl rfl rfl)⟩
  have hr := selF h8 hr
  refine Ok.conv (T := ⟨[], [(0, .blk [cI s6.2.1, cI s6.2.2.1, .d (.sl (List.map Node.cs s6.2.2.2.1)), .d (.sl (List.map Font.cs s6.2.2.2.2.1)), .d (.mp true (encM (kInt .i64) Node.cs s6.2.2.2.2.2.1)), .d (.mp true (encM (kInt .i64) (eArr 22 (dInt .i64)) s6.2.2.2.2.2.2.1)), .own 3000, .tl 3001 (List.map (eInt .i64) s6.2.2.2.2.2.2.2.2.1), .d (.mp false (encM (kInt .i64) (eInt .i64) s6.2.2.2.2.2.2.2.2.2.1)), .d (.mp false (encM (kInt .i64) (eInt .i64) s6.2.2.2.2.2.2.2.2.2.2.1)), .d (.mp false (encM (kPair .i64) (eInt .i64) s6.2.2.2.2.2.2.2.2.2.2.2.1)), .d (.mp false (encM (kPair .i64) (eInt .i64) s6.2.2.2.2.2.2.2.2.2.2.2.2))] 165), (1, .dead), (2, .dead), (3000, .mp false (encM (kInt .i64) (eJ 1) s6.2.2.2.2.2.2.2.1)), (3001, .tail 1)], 0⟩) (Conv.mk (tau [(3000, 1004), (3001, 1005)]) trivial ⟨rfl, rfl, rfl, trivial⟩ rfl rfl rfl rfl) (Ok.exit ?_)
  obtain rfl := Option.some.inj hr
  exact ⟨_, rfl, .inl rfl, ⟨rfl, (fun h => by cases h), (fun h => by cases h), rfl, rfl, trivial⟩⟩
theorem widgetry_layout_scene_show_all : ∀ n : Nat, (∀ (p_x : layout_scene) (id : Int) {r : layout_scene}, widgetry_layout_scene_show n p_x id = some r → Con Tryd.prog 106 [.c (.loc 0 0), aI id] [(0, .blk [cI p_x.t.Root, cI p_x.t.Next, .d (.sl (List.map Node.cs p_x.t.Nodes)), .d (.sl (List.map Font.cs p_x.fonts)), .d (.mp true (encM (kInt .i64) Node.cs p_x.nodes)), .d (.mp true (encM (kInt .i64) (eArr 22 (dInt .i64)) p_x.style)), .own 1, .tl 2 (List.map (eInt .i64) p_x.shown), .d (.mp false (encM (kInt .i64) (eInt .i64) p_x.least)), .d (.mp false (encM (kInt .i64) (eInt .i64) p_x.most)), .d (.mp false (encM (kPair .i64) (eInt .i64) p_x.tall)), .d (.mp false (encM (kPair .i64) (eInt .i64) p_x.first))] 165), (1, .mp false (encM (kInt .i64) (eJ 1) p_x.kids)), (2, .tail 1)] (.tup []) [(0, .blk [cI r.t.Root, cI r.t.Next, .d (.sl (List.map Node.cs r.t.Nodes)), .d (.sl (List.map Font.cs r.fonts)), .d (.mp true (encM (kInt .i64) Node.cs r.nodes)), .d (.mp true (encM (kInt .i64) (eArr 22 (dInt .i64)) r.style)), .own 3000, .tl 3001 (List.map (eInt .i64) r.shown), .d (.mp false (encM (kInt .i64) (eInt .i64) r.least)), .d (.mp false (encM (kInt .i64) (eInt .i64) r.most)), .d (.mp false (encM (kPair .i64) (eInt .i64) r.tall)), .d (.mp false (encM (kPair .i64) (eInt .i64) r.first))] 165), (1, .dead), (2, .dead), (3000, .mp false (encM (kInt .i64) (eJ 1) r.kids)), (3001, .tail 1)]) ∧ True := by
  intro n
  induction n with
  | zero => exact ⟨(by intros; rename_i hr; cases hr), trivial⟩
  | succ n ih => exact ⟨(by intros; rename_i hr; exact widgetry_layout_scene_show_B_c _ ih.1 _ _ hr), trivial⟩
theorem widgetry_layout_scene_show_c (n : Nat) (p_x : layout_scene) (id : Int) {r : layout_scene} (hr : widgetry_layout_scene_show n p_x id = some r) : Con Tryd.prog 106 [.c (.loc 0 0), aI id] [(0, .blk [cI p_x.t.Root, cI p_x.t.Next, .d (.sl (List.map Node.cs p_x.t.Nodes)), .d (.sl (List.map Font.cs p_x.fonts)), .d (.mp true (encM (kInt .i64) Node.cs p_x.nodes)), .d (.mp true (encM (kInt .i64) (eArr 22 (dInt .i64)) p_x.style)), .own 1, .tl 2 (List.map (eInt .i64) p_x.shown), .d (.mp false (encM (kInt .i64) (eInt .i64) p_x.least)), .d (.mp false (encM (kInt .i64) (eInt .i64) p_x.most)), .d (.mp false (encM (kPair .i64) (eInt .i64) p_x.tall)), .d (.mp false (encM (kPair .i64) (eInt .i64) p_x.first))] 165), (1, .mp false (encM (kInt .i64) (eJ 1) p_x.kids)), (2, .tail 1)] (.tup []) [(0, .blk [cI r.t.Root, cI r.t.Next, .d (.sl (List.map Node.cs r.t.Nodes)), .d (.sl (List.map Font.cs r.fonts)), .d (.mp true (encM (kInt .i64) Node.cs r.nodes)), .d (.mp true (encM (kInt .i64) (eArr 22 (dInt .i64)) r.style)), .own 3000, .tl 3001 (List.map (eInt .i64) r.shown), .d (.mp false (encM (kInt .i64) (eInt .i64) r.least)), .d (.mp false (encM (kInt .i64) (eInt .i64) r.most)), .d (.mp false (encM (kPair .i64) (eInt .i64) r.tall)), .d (.mp false (encM (kPair .i64) (eInt .i64) r.first))] 165), (1, .dead), (2, .dead), (3000, .mp false (encM (kInt .i64) (eJ 1) r.kids)), (3001, .tail 1)] := (widgetry_layout_scene_show_all n).1 p_x id hr
theorem widgetry_layout_open_c (t : Tree) (st : (List Styled)) (fonts : (List Font)) {r : layout_scene} (hr : widgetry_layout_open t st fonts = some r) : Con Tryd.prog 86 [.agg [cI t.Root, cI t.Next, .d (.sl (List.map Node.cs t.Nodes))], .c (.d (.sl (List.map Styled.cs st))), .c (.d (.sl (List.map Font.cs fonts)))] [] (.s (.c (.loc 8 0))) [(8, .blk [cI r.t.Root, cI r.t.Next, .d (.sl (List.map Node.cs r.t.Nodes)), .d (.sl (List.map Font.cs r.fonts)), .d (.mp true (encM (kInt .i64) Node.cs r.nodes)), .d (.mp true (encM (kInt .i64) (eArr 22 (dInt .i64)) r.style)), .d (.mp false (encM (kInt .i64) (eJ 1) r.kids)), .d (.sl (List.map (eInt .i64) r.shown)), .d (.mp false (encM (kInt .i64) (eInt .i64) r.least)), .d (.mp false (encM (kInt .i64) (eInt .i64) r.most)), .d (.mp false (encM (kPair .i64) (eInt .i64) r.tall)), .d (.mp false (encM (kPair .i64) (eInt .i64) r.first))] 165)] := by
  unfold widgetry_layout_open at hr
  refine Con.of_ok 62 0 [.tmp 6] [(0, .s (.agg [cI t.Root, cI t.Next, .d (.sl (List.map Node.cs t.Nodes))])), (1, .s (.c (.d (.sl (List.map Styled.cs st))))), (2, .s (.c (.d (.sl (List.map Font.cs fonts)))))] Tryd.func86 rfl rfl rfl rfl rfl rfl rfl rfl fun w g M ρ _ => (Ok.seq (Ok.region (OkOps.m 0 (triBox (j := 0) (cs := [cI t.Root, cI t.Next, .d (.sl (List.map Node.cs t.Nodes))]) rfl rfl rfl rfl rfl) (OkOps.y (.c (.d (.v (.pointer none)))) (OkOps.nil (Ok.seq (Ok.region (OkOps.y (.agg [cI t.Root, cI t.Next, .d (.sl (List.map Node.cs t.Nodes))]) (OkOps.y (.c (.d (.sl (List.map Font.cs fonts)))) (OkOps.m 0 (triMkM (j := 1) true rfl rfl) (OkOps.m 0 (triMkM (j := 2) true rfl rfl) (OkOps.m 0 (triMkM (j := 3) false rfl rfl) (OkOps.m 0 (triMkM (j := 4) false rfl rfl) (OkOps.m 0 (triMkM (j := 5) false rfl rfl) (OkOps.m 0 (triMkM (j := 6) false rfl rfl) ?_)))))))))))))))
  refine OkOps.m 0 (triMkM (j := 7) false rfl rfl) (OkOps.q (triBuildF (x := .agg [cI t.Root, cI t.Next, .d (.sl (List.map Node.cs t.Nodes)), .d (.sl (List.map Font.cs fonts)), .own 1, .own 2, .own 3, .d (.v (.slice none 0 0)), .own 4, .own 5, .own 6, .own 7]) rfl rfl trivial rfl) (OkOps.m 0 (triBox (j := 8) (cs := [cI t.Root, cI t.Next, .d (.sl (List.map Node.cs t.Nodes)), .d (.sl (List.map Font.cs fonts)), .own 1, .own 2, .own 3, .d (.v (.slice none 0 0)), .own 4, .own 5, .own 6, .own 7]) rfl rfl rfl rfl rfl) (OkOps.y (.c (.loc 8 0)) (OkOps.nil ?_))))
  obtain ⟨k2, hk2, hr⟩ := jn_some hr
  refine Ok.join (fun (s1 : (List (Int × Node)) × (List (Int × (Nat → Int)))) => ⟨[(3, .s (.c (.loc 0 0))), (7, .s (.c (.loc 8 0)))], [(0, .blk [cI t.Root, cI t.Next, .d (.sl (List.map Node.cs t.Nodes))] 57), (1, .mp true (encM (kInt .i64) Node.cs s1.1)), (2, .mp true (encM (kInt .i64) (eArr 22 (dInt .i64)) s1.2)), (3, .mp false (encM (kInt .i64) (eJ 1) ([] : (List (Int × Nat))))), (4, .mp false (encM (kInt .i64) (eInt .i64) ([] : (List (Int × Int))))), (5, .mp false (encM (kInt .i64) (eInt .i64) ([] : (List (Int × Int))))), (6, .mp false (encM (kPair .i64) (eInt .i64) ([] : (List ((Int × Int) × Int))))), (7, .mp false (encM (kPair .i64) (eInt .i64) ([] : (List ((Int × Int) × Int))))), (8, .blk [cI t.Root, cI t.Next, .d (.sl (List.map Node.cs t.Nodes)), .d (.sl (List.map Font.cs fonts)), .own 1, .own 2, .own 3, .d (.v (.slice none 0 0)), .own 4, .own 5, .own 6, .own 7] 165)], 0⟩) k2 r (fun s1 hr => ?_) ?_
  rw [hk2] at hr
  obtain ⟨k4, hk4, hr⟩ := jn_some hr
  refine Ok.join (fun (s3 : Int × Int × (List Node) × (List Font) × (List (Int × Node)) × (List (Int × (Nat → Int))) × (List (Int × Nat)) × (List Int) × (List (Int × Int)) × (List (Int × Int)) × (List ((Int × Int) × Int)) × (List ((Int × Int) × Int))) => ⟨[(7, .s (.c (.loc 8 0)))], [(8, .blk [cI s3.1, cI s3.2.1, .d (.sl (List.map Node.cs s3.2.2.1)), .d (.sl (List.map Font.cs s3.2.2.2.1)), .d (.mp true (encM (kInt .i64) Node.cs s3.2.2.2.2.1)), .d (.mp true (encM (kInt .i64) (eArr 22 (dInt .i64)) s3.2.2.2.2.2.1)), .own 1000, .tl 1001 (List.map (eInt .i64) s3.2.2.2.2.2.2.2.1), .d (.mp false (encM (kInt .i64) (eInt .i64) s3.2.2.2.2.2.2.2.2.1)), .d (.mp false (encM (kInt .i64) (eInt .i64) s3.2.2.2.2.2.2.2.2.2.1)), .d (.mp false (encM (kPair .i64) (eInt .i64) s3.2.2.2.2.2.2.2.2.2.2.1)), .d (.mp false (encM (kPair .i64) (eInt .i64) s3.2.2.2.2.2.2.2.2.2.2.2))] 165), (1000, .mp false (encM (kInt .i64) (eJ 1) s3.2.2.2.2.2.2.1)), (1001, .tail 1)], 0⟩) k4 r (fun s3 hr => ?_) ?_
  rw [hk4] at hr
  refine Ok.seq (Ok.region (OkOps.y (.c (.loc 8 0)) (OkOps.y (.c (.loc 8 0)) (OkOps.nil (Ok.conv (Conv.freezeM [] [(8, .blk [cI s3.1, cI s3.2.1, .d (.sl (List.map Node.cs s3.2.2.1)), .d (.sl (List.map Font.cs s3.2.2.2.1)), .d (.mp true (encM (kInt .i64) Node.cs s3.2.2.2.2.1)), .d (.mp true (encM (kInt .i64) (eArr 22 (dInt .i64)) s3.2.2.2.2.2.1)), .d (.mp false (encM (kInt .i64) (eJ 1) s3.2.2.2.2.2.2.1)), .tl 1001 (List.map (eInt .i64) s3.2.2.2.2.2.2.2.1), .d (.mp false (encM (kInt .i64) (eInt .i64) s3.2.2.2.2.2.2.2.2.1)), .d (.mp false (encM (kInt .i64) (eInt .i64) s3.2.2.2.2.2.2.2.2.2.1)), .d (.mp false (encM (kPair .i64) (eInt .i64) s3.2.2.2.2.2.2.2.2.2.2.1)), .d (.mp false (encM (kPair .i64) (eInt .i64) s3.2.2.2.2.2.2.2.2.2.2.2))] 165)] 1000 0 rfl trivial ⟨⟨_, _, rfl, rfl⟩, trivial⟩) (Ok.conv (Conv.norm 8 [cI s3.1, cI s3.2.1, .d (.sl (List.map Node.cs s3.2.2.1)), .d (.sl (List.map Font.cs s3.2.2.2.1)), .d (.mp true (encM (kInt .i64) Node.cs s3.2.2.2.2.1)), .d (.mp true (encM (kInt .i64) (eArr 22 (dInt .i64)) s3.2.2.2.2.2.1)), .d (.mp false (encM (kInt .i64) (eJ 1) s3.2.2.2.2.2.2.1)), .tl 1001 (List.map (eInt .i64) s3.2.2.2.2.2.2.2.1), .d (.mp false (encM (kInt .i64) (eInt .i64) s3.2.2.2.2.2.2.2.2.1)), .d (.mp false (encM (kInt .i64) (eInt .i64) s3.2.2.2.2.2.2.2.2.2.1)), .d (.mp false (encM (kPair .i64) (eInt .i64) s3.2.2.2.2.2.2.2.2.2.2.1)), .d (.mp false (encM (kPair .i64) (eInt .i64) s3.2.2.2.2.2.2.2.2.2.2.2))] [cI s3.1, cI s3.2.1, .d (.sl (List.map Node.cs s3.2.2.1)), .d (.sl (List.map Font.cs s3.2.2.2.1)), .d (.mp true (encM (kInt .i64) Node.cs s3.2.2.2.2.1)), .d (.mp true (encM (kInt .i64) (eArr 22 (dInt .i64)) s3.2.2.2.2.2.1)), .d (.mp false (encM (kInt .i64) (eJ 1) s3.2.2.2.2.2.2.1)), .d (.sl (List.map (eInt .i64) s3.2.2.2.2.2.2.2.1)), .d (.mp false (encM (kInt .i64) (eInt .i64) s3.2.2.2.2.2.2.2.2.1)), .d (.mp false (encM (kInt .i64) (eInt .i64) s3.2.2.2.2.2.2.2.2.2.1)), .d (.mp false (encM (kPair .i64) (eInt .i64) s3.2.2.2.2.2.2.2.2.2.2.1)), .d (.mp false (encM (kPair .i64) (eInt .i64) s3.2.2.2.2.2.2.2.2.2.2.2))] 165 0 rfl rfl) (Ok.ret ?_)))))))
  obtain rfl := Option.some.inj hr
  exact ⟨_, rfl, .inl rfl, ⟨rfl, trivial⟩⟩
  clear hk4
  refine Ok.seq (Ok.region (OkOps.y (.c (.loc 8 0)) (OkOps.y (.c (.loc 0 0)) (OkOps.y (aI t.Root) (OkOps.conv (Conv.nilB 8 7 9 (.tail 1) (.tl 9 (List.map (eInt .i64) ([] : (List Int)))) [cI t.Root, cI t.Next, .d (.sl (List.map Node.cs t.Nodes)), .d (.sl (List.map Font.cs fonts)), .own 1, .own 2, .own 3, .d (.v (.slice none 0 0)), .own 4, .own 5, .own 6, .own 7] [cI t.Root, cI t.Next, .d (.sl (List.map Node.cs t.Nodes)), .d (.sl (List.map Font.cs fonts)), .own 1, .own 2, .own 3, .tl 9 (List.map (eInt .i64) ([] : (List Int))), .own 4, .own 5, .own 6, .own 7] 165 0 rfl rfl rfl rfl (nil_tail 1 9) (fun _ _ h => ⟨h.symm, Rep.nil⟩)) (OkOps.conv (Conv.freezeM [] [(8, .blk [cI t.Root, cI t.Next, .d (.sl (List.map Node.cs t.Nodes)), .d (.sl (List.map Font.cs fonts)), .d (.mp true (encM (kInt .i64) Node.cs s1.1)), .own 2, .own 3, .tl 9 (List.map (eInt .i64) ([] : (List Int))), .own 4, .own 5, .own 6, .own 7] 165)] 1 0 rfl trivial ⟨⟨_, _, rfl, rfl⟩, trivial⟩) (OkOps.conv (Conv.freezeM [] [(8, .blk [cI t.Root, cI t.Next, .d (.sl (List.map Node.cs t.Nodes)), .d (.sl (List.map Font.cs fonts)), .d (.mp true (encM (kInt .i64) Node.cs s1.1)), .d (.mp true (encM (kInt .i64) (eArr 22 (dInt .i64)) s1.2)), .own 3, .tl 9 (List.map (eInt .i64) ([] : (List Int))), .own 4, .own 5, .own 6, .own 7] 165)] 2 0 rfl trivial ⟨⟨_, _, rfl, rfl⟩, trivial⟩) (OkOps.conv (Conv.freezeM [] [(8, .blk [cI t.Root, cI t.Next, .d (.sl (List.map Node.cs t.Nodes)), .d (.sl (List.map Font.cs fonts)), .d (.mp true (encM (kInt .i64) Node.cs s1.1)), .d (.mp true (encM (kInt .i64) (eArr 22 (dInt .i64)) s1.2)), .own 3, .tl 9 (List.map (eInt .i64) ([] : (List Int))), .d (.mp false (encM (kInt .i64) (eInt .i64) ([] : (List (Int × Int))))), .own 5, .own 6, .own 7] 165)] 4 0 rfl trivial ⟨⟨_, _, rfl, rfl⟩, trivial⟩) (OkOps.conv (Conv.freezeM [] [(8, .blk [cI t.Root, cI t.Next, .d (.sl (List.map Node.cs t.Nodes)), .d (.sl (List.map Font.cs fonts)), .d (.mp true (encM (kInt .i64) Node.cs s1.1)), .d (.mp true (encM (kInt .i64) (eArr 22 (dInt .i64)) s1.2)), .own 3, .tl 9 (List.map (eInt .i64) ([] : (List Int))), .d (.mp false (encM (kInt .i64) (eInt .i64) ([] : (List (Int × Int))))), .d (.mp false (encM (kInt .i64) (eInt .i64) ([] : (List (Int × Int))))), .own 6, .own 7] 165)] 5 0 rfl trivial ⟨⟨_, _, rfl, rfl⟩, trivial⟩) (OkOps.conv (Conv.freezeM [] [(8, .blk [cI t.Root, cI t.Next, .d (.sl (List.map Node.cs t.Nodes)), .d (.sl (List.map Font.cs fonts)), .d (.mp true (encM (kInt .i64) Node.cs s1.1)), .d (.mp true (encM (kInt .i64) (eArr 22 (dInt .i64)) s1.2)), .own 3, .tl 9 (List.map (eInt .i64) ([] : (List Int))), .d (.mp false (encM (kInt .i64) (eInt .i64) ([] : (List (Int × Int))))), .d (.mp false (encM (kInt .i64) (eInt .i64) ([] : (List (Int × Int))))), .d (.mp false (encM (kPair .i64) (eInt .i64) ([] : (List ((Int × Int) × Int))))), .own 7] 165)] 6 0 rfl trivial ⟨⟨_, _, rfl, rfl⟩, trivial⟩) (OkOps.conv (Conv.freezeM [] [(8, .blk [cI t.Root, cI t.Next, .d (.sl (List.map Node.cs t.Nodes)), .d (.sl (List.map Font.cs fonts)), .d (.mp true (encM (kInt .i64) Node.cs s1.1)), .d (.mp true (encM (kInt .i64) (eArr 22 (dInt .i64)) s1.2)), .own 3, .tl 9 (List.map (eInt .i64) ([] : (List Int))), .d (.mp false (encM (kInt .i64) (eInt .i64) ([] : (List (Int × Int))))), .d (.mp false (encM (kInt .i64) (eInt .i64) ([] : (List (Int × Int))))), .d (.mp false (encM (kPair .i64) (eInt .i64) ([] : (List ((Int × Int) × Int))))), .d (.mp false (encM (kPair .i64) (eInt .i64) ([] : (List ((Int × Int) × Int)))))] 165)] 7 0 rfl trivial ⟨⟨_, _, rfl, rfl⟩, trivial⟩) ?_)))))))))))
  obtain ⟨x5, hx5, hr⟩ := bind_some hr
  refine OkOps.wq [(8, .blk [cI x5.2.t.Root, cI x5.2.t.Next, .d (.sl (List.map Node.cs x5.2.t.Nodes)), .d (.sl (List.map Font.cs x5.2.fonts)), .d (.mp true (encM (kInt .i64) Node.cs x5.2.nodes)), .d (.mp true (encM (kInt .i64) (eArr 22 (dInt .i64)) x5.2.style)), .own 10, .tl 11 (List.map (eInt .i64) x5.2.shown), .d (.mp false (encM (kInt .i64) (eInt .i64) x5.2.least)), .d (.mp false (encM (kInt .i64) (eInt .i64) x5.2.most)), .d (.mp false (encM (kPair .i64) (eInt .i64) x5.2.tall)), .d (.mp false (encM (kPair .i64) (eInt .i64) x5.2.first))] 165), (3, .dead), (9, .dead), (10, .mp false (encM (kInt .i64) (eJ 1) x5.2.kids)), (11, .tail 1)] (triCall (tau [(0, 8), (1, 3), (2, 9), (3000, 10), (3001, 11)]) (.s (aB x5.1)) [(8, .blk [cI x5.2.t.Root, cI x5.2.t.Next, .d (.sl (List.map Node.cs x5.2.t.Nodes)), .d (.sl (List.map Font.cs x5.2.fonts)), .d (.mp true (encM (kInt .i64) Node.cs x5.2.nodes)), .d (.mp true (encM (kInt .i64) (eArr 22 (dInt .i64)) x5.2.style)), .own 10, .tl 11 (List.map (eInt .i64) x5.2.shown), .d (.mp false (encM (kInt .i64) (eInt .i64) x5.2.least)), .d (.mp false (encM (kInt .i64) (eInt .i64) x5.2.most)), .d (.mp false (encM (kPair .i64) (eInt .i64) x5.2.tall)), .d (.mp false (encM (kPair .i64) (eInt .i64) x5.2.first))] 165), (3, .dead), (9, .dead), (10, .mp false (encM (kInt .i64) (eJ 1) x5.2.kids)), (11, .tail 1)] (widgetry_layout_scene_hidden_c _ _ hx5) rfl ⟨.inl rfl, .inl rfl, trivial⟩ trivial entry105 ⟨rfl, rfl, rfl, trivial⟩ rfl rfl rfl rfl ⟨rfl, rfl, trivial⟩ rfl rfl rfl) (OkOps.y (aB (!x5.1)) (OkOps.nil ?_))
  refine Ok.cond (b := !x5.1) rfl (fun h6 => ?_) (fun h6 => ?_)
  have hr := selT h6 hr
  refine Ok.region (OkOps.y (.c (.loc 8 0)) (OkOps.y (.c (.loc 0 0)) (OkOps.y (aI t.Root) ?_)))
  obtain ⟨x7, hx7, hr⟩ := bind_some hr
  refine OkOps.wq [(8, .blk [cI x7.t.Root, cI x7.t.Next, .d (.sl (List.map Node.cs x7.t.Nodes)), .d (.sl (List.map Font.cs x7.fonts)), .d (.mp true (encM (kInt .i64) Node.cs x7.nodes)), .d (.mp true (encM (kInt .i64) (eArr 22 (dInt .i64)) x7.style)), .own 12, .tl 13 (List.map (eInt .i64) x7.shown), .d (.mp false (encM (kInt .i64) (eInt .i64) x7.least)), .d (.mp false (encM (kInt .i64) (eInt .i64) x7.most)), .d (.mp false (encM (kPair .i64) (eInt .i64) x7.tall)), .d (.mp false (encM (kPair .i64) (eInt .i64) x7.first))] 165), (10, .dead), (11, .dead), (12, .mp false (encM (kInt .i64) (eJ 1) x7.kids)), (13, .tail 1)] (triCall (tau [(0, 8), (1, 10), (2, 11), (3000, 12), (3001, 13)]) (.tup []) [(8, .blk [cI x7.t.Root, cI x7.t.Next, .d (.sl (List.map Node.cs x7.t.Nodes)), .d (.sl (List.map Font.cs x7.fonts)), .d (.mp true (encM (kInt .i64) Node.cs x7.nodes)), .d (.mp true (encM (kInt .i64) (eArr 22 (dInt .i64)) x7.style)), .own 12, .tl 13 (List.map (eInt .i64) x7.shown), .d (.mp false (encM (kInt .i64) (eInt .i64) x7.least)), .d (.mp false (encM (kInt .i64) (eInt .i64) x7.most)), .d (.mp false (encM (kPair .i64) (eInt .i64) x7.tall)), .d (.mp false (encM (kPair .i64) (eInt .i64) x7.first))] 165), (10, .dead), (11, .dead), (12, .mp false (encM (kInt .i64) (eJ 1) x7.kids)), (13, .tail 1)] (widgetry_layout_scene_show_c _ _ _ hx7) rfl ⟨.inl rfl, .inl rfl, trivial⟩ trivial entry106 ⟨rfl, rfl, rfl, trivial⟩ rfl rfl rfl rfl ⟨rfl, rfl, trivial⟩ rfl rfl rfl) (OkOps.nil ?_)
  exact ⟨(x7.t.Root, x7.t.Next, x7.t.Nodes, x7.fonts, x7.nodes, x7.style, x7.kids, x7.shown, x7.least, x7.most, x7.tall, x7.first), hr, (Conv.mk (tau [(1000, 12), (1001, 13)]) ⟨⟨_, rfl, .inl rfl⟩, trivial⟩ ⟨rfl, rfl, rfl, trivial⟩ rfl rfl rfl rfl)⟩
  have hr := selF h6 hr
  refine Ok.skip ?_
  exact ⟨(x5.2.t.Root, x5.2.t.Next, x5.2.t.Nodes, x5.2.fonts, x5.2.nodes, x5.2.style, x5.2.kids, x5.2.shown, x5.2.least, x5.2.most, x5.2.tall, x5.2.first), hr, (Conv.mk (tau [(1000, 10), (1001, 11)]) ⟨⟨_, rfl, .inl rfl⟩, trivial⟩ ⟨rfl, rfl, rfl, trivial⟩ rfl rfl rfl rfl)⟩
  clear hk2
  refine Ok.seq (Ok.region (OkOps.y (.c (.loc 0 2)) (OkOps.y (.c (.d (.sl (List.map Node.cs t.Nodes)))) (OkOps.q (triLen (enc := Node.cs) t.Nodes rfl rfl trivial rfl) (OkOps.y (aI 0) (OkOps.nil (Ok.block (Ok.loopK (fun (s8 : Int × (List (Int × Node)) × (List (Int × (Nat → Int)))) => ⟨[(1, .s (.c (.d (.sl (List.map Styled.cs st))))), (3, .s (.c (.loc 0 0))), (7, .s (.c (.loc 8 0))), (22, .s (.c (.d (.sl (List.map Node.cs t.Nodes))))), (23, .s (aI (t.Nodes.length : Int))), (24, .s (aI s8.1))], [(0, .blk [cI t.Root, cI t.Next, .d (.sl (List.map Node.cs t.Nodes))] 57), (1, .mp true (encM (kInt .i64) Node.cs s8.2.1)), (2, .mp true (encM (kInt .i64) (eArr 22 (dInt .i64)) s8.2.2)), (3, .mp false (encM (kInt .i64) (eJ 1) ([] : (List (Int × Nat))))), (4, .mp false (encM (kInt .i64) (eInt .i64) ([] : (List (Int × Int))))), (5, .mp false (encM (kInt .i64) (eInt .i64) ([] : (List (Int × Int))))), (6, .mp false (encM (kPair .i64) (eInt .i64) ([] : (List ((Int × Int) × Int))))), (7, .mp false (encM (kPair .i64) (eInt .i64) ([] : (List ((Int × Int) × Int))))), (8, .blk [cI t.Root, cI t.Next, .d (.sl (List.map Node.cs t.Nodes)), .d (.sl (List.map Font.cs fonts)), .own 1, .own 2, .own 3, .d (.v (.slice none 0 0)), .own 4, .own 5, .own 6, .own 7] 165)], 0⟩) hr (Conv.mk (tau []) ⟨⟨_, rfl, .inl rfl⟩, ⟨_, rfl, .inl rfl⟩, ⟨_, rfl, .inl rfl⟩, ⟨_, rfl, .inl rfl⟩, ⟨_, rfl, .inl rfl⟩, ⟨_, rfl, .inl rfl⟩, trivial⟩ ⟨rfl, rfl, rfl, rfl, rfl, rfl, rfl, rfl, rfl, trivial⟩ rfl rfl rfl rfl) ?_))))))))
  clear hr
  intro again9 s8 hr
  unfold widgetry_layout_open_L1 at hr
  refine Ok.seq (Ok.region (OkOps.y (aB (decide (s8.1 < (t.Nodes.length : Int)))) (OkOps.nil (Ok.seq ?_))))
  refine Ok.cond (b := decide (s8.1 < (t.Nodes.length : Int))) rfl (fun h10 => ?_) (fun h10 => ?_)
  have hr := selT h10 hr
  refine Ok.skip (Ok.seq (Ok.block (Ok.seq (Ok.region (OkOps.y (aI s8.1) ?_)))))
  obtain ⟨x11, hx11, hr⟩ := bind_some hr
  refine OkOps.q (triIdx (enc := Node.cs) (L := t.Nodes) (row := [dI x11.ID, dI x11.Parent, dI x11.Kind, dS x11.Key, .sl (List.map Attr.cs x11.Attrs), .sl (List.map Action.cs x11.Actions), .sl (List.map (eInt .i64) x11.Kids)]) hx11 rfl rfl rfl rfl (fun _ => rfl) trivial rfl) (OkOps.y (.agg [cI x11.ID, cI x11.Parent, cI x11.Kind, cS x11.Key, .d (.sl (List.map Attr.cs x11.Attrs)), .d (.sl (List.map Action.cs x11.Actions)), .d (.sl (List.map (eInt .i64) x11.Kids))]) (OkOps.m 0 (triAlloc (j := 14) (cs := [cI 0, cI 0, cI 0, cS ByteArray.empty, .d (.v (.slice none 0 0)), .d (.v (.slice none 0 0)), .d (.v (.slice none 0 0))]) rfl rfl rfl rfl) (OkOps.y (aI s8.1) (OkOps.w (triStore (cs' := [cI x11.ID, cI x11.Parent, cI x11.Kind, cS x11.Key, .d (.sl (List.map Attr.cs x11.Attrs)), .d (.sl (List.map Action.cs x11.Actions)), .d (.sl (List.map (eInt .i64) x11.Kids))]) rfl rfl rfl rfl rfl rfl rfl rfl rfl) (OkOps.nil (Ok.regionD (by kernel_rfl) (OkD.x (.c (.loc 8 0)) rfl trivial rfl (OkD.x (.c (.loc 8 0)) rfl trivial rfl (OkD.x (.c (.loc 8 4)) rfl trivial rfl (OkD.x (.c (.own 1)) rfl trivial rfl (OkD.x (.c (.loc 14 0)) rfl trivial rfl (OkD.x (aI x11.ID) rfl trivial rfl (OkD.x (.c (.loc 8 0)) rfl trivial rfl (OkD.x (.c (.loc 8 0)) rfl trivial rfl (OkD.x (.c (.loc 8 5)) rfl trivial rfl ?_)))))))))))))))
  refine OkD.x (.c (.own 2)) rfl trivial rfl (OkD.x (.c (.loc 14 0)) rfl trivial rfl (OkD.x (aI x11.ID) rfl trivial rfl (OkD.x (.agg [cI x11.ID, cI x11.Parent, cI x11.Kind, cS x11.Key, .d (.sl (List.map Attr.cs x11.Attrs)), .d (.sl (List.map Action.cs x11.Actions)), .d (.sl (List.map (eInt .i64) x11.Kids))]) rfl trivial rfl (OkD.x (.c (.d (.sl (List.map Styled.cs st)))) rfl trivial rfl (OkD.x (aI s8.1) rfl trivial rfl ?_)))))
  obtain ⟨x12, hx12, hr⟩ := bind_some hr
  refine OkD.q (triIdx (enc := Styled.cs) (L := st) (row := [dI x12.ID, dI (x12.Style 0), dI (x12.Style 1), dI (x12.Style 2), dI (x12.Style 3), dI (x12.Style 4), dI (x12.Style 5), dI (x12.Style 6), dI (x12.Style 7), dI (x12.Style 8), dI (x12.Style 9), dI (x12.Style 10), dI (x12.Style 11), dI (x12.Style 12), dI (x12.Style 13), dI (x12.Style 14), dI (x12.Style 15), dI (x12.Style 16), dI (x12.Style 17), dI (x12.Style 18), dI (x12.Style 19), dI (x12.Style 20), dI (x12.Style 21)]) hx12 rfl rfl rfl rfl (fun _ => rfl) trivial rfl) (OkD.x (.c (.pt [dI (x12.Style 0), dI (x12.Style 1), dI (x12.Style 2), dI (x12.Style 3), dI (x12.Style 4), dI (x12.Style 5), dI (x12.Style 6), dI (x12.Style 7), dI (x12.Style 8), dI (x12.Style 9), dI (x12.Style 10), dI (x12.Style 11), dI (x12.Style 12), dI (x12.Style 13), dI (x12.Style 14), dI (x12.Style 15), dI (x12.Style 16), dI (x12.Style 17), dI (x12.Style 18), dI (x12.Style 19), dI (x12.Style 20), dI (x12.Style 21)])) rfl trivial rfl (OkD.x (.agg [cI (x12.Style 0), cI (x12.Style 1), cI (x12.Style 2), cI (x12.Style 3), cI (x12.Style 4), cI (x12.Style 5), cI (x12.Style 6), cI (x12.Style 7), cI (x12.Style 8), cI (x12.Style 9), cI (x12.Style 10), cI (x12.Style 11), cI (x12.Style 12), cI (x12.Style 13), cI (x12.Style 14), cI (x12.Style 15), cI (x12.Style 16), cI (x12.Style 17), cI (x12.Style 18), cI (x12.Style 19), cI (x12.Style 20), cI (x12.Style 21)]) rfl trivial rfl ?_))
  obtain ⟨x13, hx13, hr⟩ := bind_some hr
  refine OkD.m 0 (triMapEntry (ek := (kInt .i64)) (ev := Node.cs) (L := s8.2.1) (yo := x13) (r := .agg [cI x13.1.ID, cI x13.1.Parent, cI x13.1.Kind, cS x13.1.Key, .d (.sl (List.map Attr.cs x13.1.Attrs)), .d (.sl (List.map Action.cs x13.1.Actions)), .d (.sl (List.map (eInt .i64) x13.1.Kids))]) hx13 rfl rfl rfl rfl (keyInt Tryd.underlying3) rfl rfl (fun h => by cases h) rfl rfl trivial rfl) ?_
  refine OkD.x (aI (((midx (msetL s8.2.1 x11.ID x13.1) x11.ID).getD 0 : Nat) : Int)) rfl trivial rfl ?_
  refine OkD.w (triEntryStore (ek := (kInt .i64)) (ev := Node.cs) (L := msetL s8.2.1 x11.ID x13.1) (k := x11.ID) (z := x11) (midx_self s8.2.1 x11.ID x13.1) rfl rfl rfl rfl rfl rfl (keyInt Tryd.underlying3) (fun h => by cases h) (msetL_twice s8.2.1 x11.ID x13.1 x11) trivial) ?_
  obtain ⟨x14, hx14, hr⟩ := bind_some hr
  refine OkD.m 0 (triMapEntry (ek := (kInt .i64)) (ev := (eArr 22 (dInt .i64))) (L := s8.2.2) (yo := x14) (r := .agg [cI (x14.1 0), cI (x14.1 1), cI (x14.1 2), cI (x14.1 3), cI (x14.1 4), cI (x14.1 5), cI (x14.1 6), cI (x14.1 7), cI (x14.1 8), cI (x14.1 9), cI (x14.1 10), cI (x14.1 11), cI (x14.1 12), cI (x14.1 13), cI (x14.1 14), cI (x14.1 15), cI (x14.1 16), cI (x14.1 17), cI (x14.1 18), cI (x14.1 19), cI (x14.1 20), cI (x14.1 21)]) hx14 rfl rfl rfl rfl (keyInt Tryd.underlying3) rfl rfl (fun h => by cases h) rfl rfl trivial rfl) ?_
  refine OkD.x (aI (((midx (msetL s8.2.2 x11.ID x14.1) x11.ID).getD 0 : Nat) : Int)) rfl trivial rfl ?_
  refine OkD.w (triEntryStore (ek := (kInt .i64)) (ev := (eArr 22 (dInt .i64))) (L := msetL s8.2.2 x11.ID x14.1) (k := x11.ID) (z := x12.Style) (midx_self s8.2.2 x11.ID x14.1) rfl rfl rfl rfl rfl rfl (keyInt Tryd.underlying3) (fun h => by cases h) (msetL_twice s8.2.2 x11.ID x14.1 x12.Style) trivial) ?_
  refine OkD.nil (by kernel_rfl) (Ok.region (OkOps.y (aI (IntKind.i64.wrap (s8.1 + 1))) (OkOps.y (aI (IntKind.i64.wrap (s8.1 + 1))) (OkOps.nil ?_))))
  exact ⟨(IntKind.i64.wrap (s8.1 + 1), msetL s8.2.1 x11.ID x11, msetL s8.2.2 x11.ID x12.Style), hr, (Conv.mk (tau []) ⟨⟨_, rfl, .inl rfl⟩, ⟨_, rfl, .inl rfl⟩, ⟨_, rfl, .inl rfl⟩, ⟨_, rfl, .inl rfl⟩, ⟨_, rfl, .inl rfl⟩, ⟨_, rfl, .inl rfl⟩, trivial⟩ ⟨rfl, rfl, rfl, rfl, rfl, rfl, rfl, rfl, rfl, trivial⟩ rfl rfl rfl rfl)⟩
  have hr := selF h10 hr
  refine Ok.exit ?_
  exact ⟨(s8.2.1, s8.2.2), hr, (Conv.mk (tau []) ⟨⟨_, rfl, .inl rfl⟩, ⟨_, rfl, .inl rfl⟩, trivial⟩ ⟨rfl, rfl, rfl, rfl, rfl, rfl, rfl, rfl, rfl, trivial⟩ rfl rfl rfl rfl)⟩
theorem widgetry_layout_Shown_c (t : Tree) (st : (List Styled)) {r : (List Int)} (hr : widgetry_layout_Shown t st = some r) : Con Tryd.prog 66 [.agg [cI t.Root, cI t.Next, .d (.sl (List.map Node.cs t.Nodes))], .c (.d (.sl (List.map Styled.cs st)))] [] (.s (.c (.d (.sl (List.map (eInt .i64) r))))) [] := by
  unfold widgetry_layout_Shown at hr
  refine Con.of_ok 25 0 [.tmp 4] [(0, .s (.agg [cI t.Root, cI t.Next, .d (.sl (List.map Node.cs t.Nodes))])), (1, .s (.c (.d (.sl (List.map Styled.cs st)))))] Tryd.func66 rfl rfl rfl rfl rfl rfl rfl rfl fun w g M ρ _ => (Ok.seq (Ok.region (OkOps.m 0 (triBox (j := 0) (cs := [cI t.Root, cI t.Next, .d (.sl (List.map Node.cs t.Nodes))]) rfl rfl rfl rfl rfl) (OkOps.y (.c (.d (.v (.slice none 0 0)))) (OkOps.nil (Ok.seq (Ok.seq (Ok.region (OkOps.y (.agg [cI t.Root, cI t.Next, .d (.sl (List.map Node.cs t.Nodes))]) ?_)))))))))
  obtain ⟨x1, hx1, hr⟩ := bind_some hr
  refine OkOps.q (triCl (tau []) (.s (aI x1)) [] (vw_Check_c _ hx1) rfl ⟨.inl rfl, trivial⟩ trivial entry83 trivial) (OkOps.y (aB (x1 != 0)) (OkOps.y (aB (x1 != 0)) (OkOps.q (triQG (x := .agg [cI t.Root, cI t.Next, .d (.sl (List.map Node.cs t.Nodes))]) rfl rfl trivial rfl) (OkOps.q (triQG (x := .c (.d (.sl (List.map Styled.cs st)))) rfl rfl trivial rfl) ?_))))
  obtain ⟨x2, hx2, hr⟩ := bind_some hr
  refine OkOps.q (triCallG (x := aB x2) (fun hg => widgetry_layout_complete_c _ _ (gO_t hx2 hg)) rfl rfl ⟨.inl rfl, .inl rfl, trivial⟩ ⟨fun h => h, ⟨fun h => h, trivial⟩⟩ entry84 rfl rfl rfl) (OkOps.q (triQG (x := aB (!x2)) rfl rfl ⟨fun h => h, trivial⟩ rfl) ?_)
  refine OkOps.q (triOr rfl rfl (fun h => by rw [h]; rfl) rfl) ?_
  refine OkOps.y (aB ((x1 != 0) || (!x2))) (OkOps.q (triQG (x := .c (.d (.sl (List.map Styled.cs st)))) rfl rfl trivial rfl) ?_)
  obtain ⟨x3, hx3, hr⟩ := bind_some hr
  refine OkOps.q (triCallG (x := aB x3) (fun hg => widgetry_layout_styled_c _ (gO_t hx3 hg)) rfl rfl ⟨.inl rfl, trivial⟩ ⟨fun h => h, trivial⟩ entry85 rfl rfl rfl) (OkOps.q (triQG (x := aB (!x3)) rfl rfl ⟨fun h => h, trivial⟩ rfl) ?_)
  refine OkOps.q (triOr rfl rfl (fun h => by rw [h]; rfl) rfl) ?_
  refine OkOps.nil ?_
  refine Ok.cond (b := ((x1 != 0) || (!x2)) || (!x3)) rfl (fun h4 => ?_) (fun h4 => ?_)
  have hr := selT h4 hr
  refine Ok.seq (Ok.region (OkOps.y (.c (.d (.v (.slice none 0 0)))) (OkOps.nil (Ok.ret ?_))))
  obtain rfl := Option.some.inj hr
  exact ⟨_, rfl, .inr rfl, trivial⟩
  have hr := selF h4 hr
  refine Ok.skip (Ok.seq (Ok.region (OkOps.y (.agg [cI t.Root, cI t.Next, .d (.sl (List.map Node.cs t.Nodes))]) (OkOps.y (.c (.d (.sl (List.map Styled.cs st)))) ?_))))
  obtain ⟨x5, hx5, hr⟩ := bind_some hr
  refine OkOps.m 0 (triCall (tau [(8, 1)]) (.s (.c (.loc 1 0))) [(1, .blk [cI x5.t.Root, cI x5.t.Next, .d (.sl (List.map Node.cs x5.t.Nodes)), .d (.sl (List.map Font.cs x5.fonts)), .d (.mp true (encM (kInt .i64) Node.cs x5.nodes)), .d (.mp true (encM (kInt .i64) (eArr 22 (dInt .i64)) x5.style)), .d (.mp false (encM (kInt .i64) (eJ 1) x5.kids)), .d (.sl (List.map (eInt .i64) x5.shown)), .d (.mp false (encM (kInt .i64) (eInt .i64) x5.least)), .d (.mp false (encM (kInt .i64) (eInt .i64) x5.most)), .d (.mp false (encM (kPair .i64) (eInt .i64) x5.tall)), .d (.mp false (encM (kPair .i64) (eInt .i64) x5.first))] 165)] (widgetry_layout_open_c _ _ _ hx5) rfl ⟨.inl rfl, .inl rfl, .inr rfl, trivial⟩ trivial entry86 trivial rfl rfl rfl rfl ⟨rfl, trivial⟩ rfl rfl rfl) (OkOps.y (.c (.loc 1 0)) (OkOps.y (.c (.loc 1 7)) (OkOps.y (.c (.d (.sl (List.map (eInt .i64) x5.shown)))) (OkOps.y (.c (.d (.sl (List.map (eInt .i64) x5.shown)))) (OkOps.nil (Ok.ret ?_))))))
  obtain rfl := Option.some.inj hr
  exact ⟨_, rfl, .inl rfl, trivial⟩
end Go.Proofs.YtobiohcdpfpefaaDoor
end
section
set_option maxRecDepth 100000
namespace Go.Proofs.YtobiohcdpfpefaaDoor
open Go Go.E2
theorem slices_Clone_Sl_int_int_c (s : (List Int)) {r : (List Int)} (hr : slices_Clone_Sl_int_int s = some r) : Con Tryd.prog 63 [.c (.d (.sl (List.map (eInt .i64) s)))] [] (.s (.c (.tl 2000 (List.map (eInt .i64) r)))) [(2000, .tail 1)] := by
  unfold slices_Clone_Sl_int_int at hr
  refine Con.of_ok 8 0 [.tmp 2] [(0, .s (.c (.d (.sl (List.map (eInt .i64) s)))))] Tryd.func63 rfl rfl rfl rfl rfl rfl rfl rfl fun w g M ρ _ => (Ok.seq (Ok.region (OkOps.q (triQ (x := .c (.d (.v (.slice none 0 0)))) rfl trivial rfl) (OkOps.nil (Ok.seq (Ok.seq (Ok.region (OkOps.q (triQ (x := .c (.d (.sl (List.map (eInt .i64) s)))) rfl trivial rfl) ?_))))))))
  refine OkOps.eqNil (e := 3) rfl (by kernel_rfl) trivial rfl (fun b hb => ?_)
  refine OkOps.nil ?_
  refine Ok.cond (b := b) rfl (fun h => ?_) (fun h => ?_)
  obtain rfl : s = [] := by simpa using hb h
  obtain rfl : r = [] := ((appO_spec hr).2 : _)
  refine Ok.seq (Ok.region (OkOps.q (triQ (x := .c (.d (.v (.slice none 0 0)))) rfl trivial rfl) (OkOps.nil (Ok.conv (Conv.nil 2 2000 1 0 rfl rfl) (Ok.ret ?_)))))
  exact ⟨_, rfl, .inl rfl, ⟨rfl, trivial⟩⟩
  refine Ok.skip (Ok.seq (Ok.region (OkOps.m 0 (triBST (sz := 1) (enc := (eInt .i64)) (j := 0) [] rfl rfl rfl rfl rfl rfl rfl rfl (fun _ => rfl) trivial rfl rfl) (OkOps.q (triQ (x := .c (.d (.sl (List.map (eInt .i64) s)))) rfl trivial rfl) (OkOps.m2 0 (triApp (enc := (eInt .i64)) (L := []) (X := s) (j := 0) (j' := 2000) hr rfl rfl rfl rfl rfl rfl (fun _ => rfl) (fun _ => rfl) (by decide) trivial rfl rfl) (OkOps.q (triQ (x := .c (.tl 2000 (List.map (eInt .i64) r))) rfl trivial rfl) (OkOps.nil (Ok.ret ?_))))))))
  exact ⟨_, rfl, .inl rfl, ⟨rfl, trivial⟩⟩
theorem vw_Find_c (t : Tree) (id : Int) {r : Node × Bool} (hr : vw_Find t id = some r) : Con Tryd.prog 39 [.agg [cI t.Root, cI t.Next, .d (.sl (List.map Node.cs t.Nodes))], aI id] [] (.tup [.agg [cI r.1.ID, cI r.1.Parent, cI r.1.Kind, cS r.1.Key, .d (.sl (List.map Attr.cs r.1.Attrs)), .d (.sl (List.map Action.cs r.1.Actions)), .d (.sl (List.map (eInt .i64) r.1.Kids))], aB r.2]) [] := by
  unfold vw_Find at hr
  refine Con.of_ok 36 0 [.cell 4 62, .tmp 5] [(0, .s (.agg [cI t.Root, cI t.Next, .d (.sl (List.map Node.cs t.Nodes))])), (1, .s (aI id))] Tryd.func39 rfl rfl rfl rfl rfl rfl rfl rfl fun w g M ρ _ => (Ok.seq (Ok.region (OkOps.m 0 (triBox (j := 0) (cs := [cI t.Root, cI t.Next, .d (.sl (List.map Node.cs t.Nodes))]) rfl rfl rfl rfl rfl) (OkOps.m 0 (triAlloc (j := 1) (cs := [cI 0, cI 0, cI 0, cS ByteArray.empty, .d (.v (.slice none 0 0)), .d (.v (.slice none 0 0)), .d (.v (.slice none 0 0))]) rfl rfl rfl rfl) (OkOps.y (aB false) (OkOps.nil ?_))))))
  obtain ⟨k2, hk2, hr⟩ := jn_some hr
  refine Ok.join (fun (s1 : Unit) => ⟨[(4, .s (.c (.loc 1 0)))], [(1, .blk [cI 0, cI 0, cI 0, cS ByteArray.empty, .d (.v (.slice none 0 0)), .d (.v (.slice none 0 0)), .d (.v (.slice none 0 0))] 62)], 0⟩) k2 r (fun s1 hr => ?_) ?_
  rw [hk2] at hr
  refine Ok.seq (Ok.region (OkOps.y (.agg [cI 0, cI 0, cI 0, cS ByteArray.empty, .d (.v (.slice none 0 0)), .d (.v (.slice none 0 0)), .d (.v (.slice none 0 0))]) (OkOps.w (triStore (cs' := [cI 0, cI 0, cI 0, cS ByteArray.empty, .d (.v (.slice none 0 0)), .d (.v (.slice none 0 0)), .d (.v (.slice none 0 0))]) rfl rfl rfl rfl rfl rfl rfl rfl rfl) (OkOps.y (aB false) (OkOps.nil (Ok.ret ?_))))))
  obtain rfl := Option.some.inj hr
  exact ⟨_, rfl, .inr rfl, trivial⟩
  clear hk2
  refine Ok.seq (Ok.region (OkOps.y (.c (.loc 0 2)) (OkOps.y (.c (.d (.sl (List.map Node.cs t.Nodes)))) (OkOps.q (triLen (enc := Node.cs) t.Nodes rfl rfl trivial rfl) (OkOps.y (aI 0) (OkOps.nil (Ok.block (Ok.loopK (fun (s3 : Int) => ⟨[(1, .s (aI id)), (4, .s (.c (.loc 1 0))), (9, .s (.c (.d (.sl (List.map Node.cs t.Nodes))))), (10, .s (aI (t.Nodes.length : Int))), (11, .s (aI s3))], [(1, .blk [cI 0, cI 0, cI 0, cS ByteArray.empty, .d (.v (.slice none 0 0)), .d (.v (.slice none 0 0)), .d (.v (.slice none 0 0))] 62)], 0⟩) hr (Conv.mk (tau []) ⟨⟨_, rfl, .inl rfl⟩, ⟨_, rfl, .inl rfl⟩, ⟨_, rfl, .inl rfl⟩, ⟨_, rfl, .inl rfl⟩, ⟨_, rfl, .inl rfl⟩, trivial⟩ ⟨rfl, trivial⟩ rfl rfl rfl rfl) ?_))))))))
  clear hr
  intro again4 s3 hr
  unfold vw_Find_L1 at hr
  refine Ok.seq (Ok.region (OkOps.y (aB (decide (s3 < (t.Nodes.length : Int)))) (OkOps.nil (Ok.seq ?_))))
  refine Ok.cond (b := decide (s3 < (t.Nodes.length : Int))) rfl (fun h5 => ?_) (fun h5 => ?_)
  have hr := selT h5 hr
  refine Ok.skip (Ok.seq (Ok.block (Ok.seq (Ok.region ?_))))
  obtain ⟨x6, hx6, hr⟩ := bind_some hr
  refine OkOps.q (triIdx (enc := Node.cs) (L := t.Nodes) (row := [dI x6.ID, dI x6.Parent, dI x6.Kind, dS x6.Key, .sl (List.map Attr.cs x6.Attrs), .sl (List.map Action.cs x6.Actions), .sl (List.map (eInt .i64) x6.Kids)]) hx6 rfl rfl rfl rfl (fun _ => rfl) trivial rfl) (OkOps.y (.agg [cI x6.ID, cI x6.Parent, cI x6.Kind, cS x6.Key, .d (.sl (List.map Attr.cs x6.Attrs)), .d (.sl (List.map Action.cs x6.Actions)), .d (.sl (List.map (eInt .i64) x6.Kids))]) (OkOps.m 0 (triAlloc (j := 2) (cs := [cI 0, cI 0, cI 0, cS ByteArray.empty, .d (.v (.slice none 0 0)), .d (.v (.slice none 0 0)), .d (.v (.slice none 0 0))]) rfl rfl rfl rfl) (OkOps.w (triStore (cs' := [cI x6.ID, cI x6.Parent, cI x6.Kind, cS x6.Key, .d (.sl (List.map Attr.cs x6.Attrs)), .d (.sl (List.map Action.cs x6.Actions)), .d (.sl (List.map (eInt .i64) x6.Kids))]) rfl rfl rfl rfl rfl rfl rfl rfl rfl) (OkOps.nil (Ok.seq (Ok.seq (Ok.region (OkOps.y (.c (.loc 2 0)) (OkOps.y (aI x6.ID) (OkOps.y (aI id) (OkOps.y (aB (x6.ID != id)) (OkOps.nil ?_))))))))))))
  refine Ok.cond (b := x6.ID != id) rfl (fun h7 => ?_) (fun h7 => ?_)
  have hr := selT h7 hr
  refine Ok.exit (Ok.region (OkOps.y (aI (IntKind.i64.wrap (s3 + 1))) (OkOps.y (aI (IntKind.i64.wrap (s3 + 1))) (OkOps.nil ?_))))
  exact ⟨IntKind.i64.wrap (s3 + 1), hr, (Conv.mk (tau []) ⟨⟨_, rfl, .inl rfl⟩, ⟨_, rfl, .inl rfl⟩, ⟨_, rfl, .inl rfl⟩, ⟨_, rfl, .inl rfl⟩, ⟨_, rfl, .inl rfl⟩, trivial⟩ ⟨rfl, trivial⟩ rfl rfl rfl rfl)⟩
  have hr := selF h7 hr
  refine Ok.skip (Ok.seq (Ok.region (OkOps.y (.c (.loc 2 4)) (OkOps.y (.c (.d (.sl (List.map Attr.cs x6.Attrs)))) (OkOps.y (.c (.loc 2 5)) (OkOps.y (.c (.d (.sl (List.map Action.cs x6.Actions)))) ?_))))))
  obtain ⟨x8, hx8, hr⟩ := bind_some hr
  refine OkOps.q (triCl (tau []) (.tup [.c (.d (.sl (List.map Attr.cs x8.1))), .c (.d (.sl (List.map Action.cs x8.2)))]) [] (vw_copied_c _ _ hx8) rfl ⟨.inl rfl, .inl rfl, trivial⟩ trivial entry62 trivial) (OkOps.q (triMv (v := .tup [.c (.d (.sl (List.map Attr.cs x8.1))), .c (.d (.sl (List.map Action.cs x8.2)))]) rfl rfl) (OkOps.y (.c (.d (.sl (List.map Attr.cs x8.1)))) (OkOps.y (.c (.d (.sl (List.map Action.cs x8.2)))) (OkOps.y (.c (.loc 2 4)) (OkOps.w (triStore (cs' := [cI x6.ID, cI x6.Parent, cI x6.Kind, cS x6.Key, .d (.sl (List.map Attr.cs x8.1)), .d (.sl (List.map Action.cs x6.Actions)), .d (.sl (List.map (eInt .i64) x6.Kids))]) rfl rfl rfl rfl rfl rfl rfl rfl rfl) (OkOps.y (.c (.loc 2 5)) (OkOps.w (triStore (cs' := [cI x6.ID, cI x6.Parent, cI x6.Kind, cS x6.Key, .d (.sl (List.map Attr.cs x8.1)), .d (.sl (List.map Action.cs x8.2)), .d (.sl (List.map (eInt .i64) x6.Kids))]) rfl rfl rfl rfl rfl rfl rfl rfl rfl) (OkOps.nil (Ok.seq (Ok.region (OkOps.y (.c (.loc 2 6)) (OkOps.y (.c (.d (.sl (List.map (eInt .i64) x6.Kids)))) ?_))))))))))))
  obtain ⟨x9, hx9, hr⟩ := bind_some hr
  refine OkOps.m 0 (triCall (tau [(2000, 3)]) (.s (.c (.tl 3 (List.map (eInt .i64) x9)))) [(3, .tail 1)] (slices_Clone_Sl_int_int_c _ hx9) rfl ⟨.inl rfl, trivial⟩ trivial entry63 trivial rfl rfl rfl rfl ⟨rfl, trivial⟩ rfl rfl rfl) (OkOps.y (.c (.loc 2 6)) (OkOps.w (triStore (cs' := [cI x6.ID, cI x6.Parent, cI x6.Kind, cS x6.Key, .d (.sl (List.map Attr.cs x8.1)), .d (.sl (List.map Action.cs x8.2)), .tl 3 (List.map (eInt .i64) x9)]) rfl rfl rfl rfl rfl rfl rfl rfl rfl) (OkOps.nil (Ok.seq (Ok.region (OkOps.y (.agg [cI x6.ID, cI x6.Parent, cI x6.Kind, cS x6.Key, .d (.sl (List.map Attr.cs x8.1)), .d (.sl (List.map Action.cs x8.2)), .tl 3 (List.map (eInt .i64) x9)]) (OkOps.w (triStore (cs' := [cI x6.ID, cI x6.Parent, cI x6.Kind, cS x6.Key, .d (.sl (List.map Attr.cs x8.1)), .d (.sl (List.map Action.cs x8.2)), .tl 3 (List.map (eInt .i64) x9)]) rfl rfl rfl rfl rfl rfl rfl rfl rfl) (OkOps.y (aB true) (OkOps.nil (Ok.ret ?_))))))))))
  obtain rfl := Option.some.inj hr
  exact ⟨_, rfl, .inr rfl, trivial⟩
  have hr := selF h5 hr
  refine Ok.exit ?_
  exact ⟨(), hr, (Conv.mk (tau []) ⟨⟨_, rfl, .inl rfl⟩, trivial⟩ ⟨rfl, trivial⟩ rfl rfl rfl rfl)⟩
theorem vw_Order_c (t : Tree) {r : (List Int)} (hr : vw_Order t = some r) : Con Tryd.prog 38 [.agg [cI t.Root, cI t.Next, .d (.sl (List.map Node.cs t.Nodes))]] [] (.s (.c (.d (.sl (List.map (eInt .i64) r))))) [] := by
  unfold vw_Order at hr
  refine Con.of_ok 16 0 [.tmp 2] [(0, .s (.agg [cI t.Root, cI t.Next, .d (.sl (List.map Node.cs t.Nodes))]))] Tryd.func38 rfl rfl rfl rfl rfl rfl rfl rfl fun w g M ρ _ => (Ok.seq (Ok.region (OkOps.m 0 (triBox (j := 0) (cs := [cI t.Root, cI t.Next, .d (.sl (List.map Node.cs t.Nodes))]) rfl rfl rfl rfl rfl) (OkOps.y (.c (.d (.v (.slice none 0 0)))) (OkOps.nil (Ok.seq (Ok.region (OkOps.y (.agg [cI t.Root, cI t.Next, .d (.sl (List.map Node.cs t.Nodes))]) ?_))))))))
  obtain ⟨x1, hx1, hr⟩ := bind_some hr
  refine OkOps.q (triCl (tau []) (.tup [.c (.d (.mp true (encM (kInt .i64) Node.cs x1.1))), aB x1.2]) [] (vw_valid_c _ hx1) rfl ⟨.inl rfl, trivial⟩ trivial entry60 trivial) (OkOps.q (triMv (v := .tup [.c (.d (.mp true (encM (kInt .i64) Node.cs x1.1))), aB x1.2]) rfl rfl) (OkOps.y (.c (.d (.mp true (encM (kInt .i64) Node.cs x1.1)))) (OkOps.y (aB x1.2) (OkOps.y (.c (.d (.mp true (encM (kInt .i64) Node.cs x1.1)))) (OkOps.y (aB x1.2) (OkOps.nil (Ok.seq (Ok.seq (Ok.region (OkOps.y (aB x1.2) (OkOps.y (aB (!x1.2)) (OkOps.nil ?_))))))))))))
  refine Ok.cond (b := !x1.2) rfl (fun h2 => ?_) (fun h2 => ?_)
  have hr := selT h2 hr
  refine Ok.seq (Ok.region (OkOps.y (.c (.d (.v (.slice none 0 0)))) (OkOps.nil (Ok.ret ?_))))
  obtain rfl := Option.some.inj hr
  exact ⟨_, rfl, .inr rfl, trivial⟩
  have hr := selF h2 hr
  refine Ok.skip (Ok.seq (Ok.region (OkOps.y (.c (.d (.mp true (encM (kInt .i64) Node.cs x1.1)))) (OkOps.y (.c (.loc 0 0)) (OkOps.y (aI t.Root) ?_)))))
  obtain ⟨x3, hx3, hr⟩ := bind_some hr
  refine OkOps.q (triCl (tau []) (.s (.c (.d (.sl (List.map (eInt .i64) x3))))) [] (vw_preorder_c _ _ _ hx3) rfl ⟨.inl rfl, .inl rfl, trivial⟩ trivial entry61 trivial) (OkOps.y (.c (.d (.sl (List.map (eInt .i64) x3)))) (OkOps.nil (Ok.ret ?_)))
  obtain rfl := Option.some.inj hr
  exact ⟨_, rfl, .inl rfl, trivial⟩
theorem vw_Path_c (t : Tree) (id : Int) {r : (List Int)} (hr : vw_Path t id = some r) : Con Tryd.prog 43 [.agg [cI t.Root, cI t.Next, .d (.sl (List.map Node.cs t.Nodes))], aI id] [] (.s (.c (.d (.sl (List.map (eInt .i64) r))))) [] := by
  unfold vw_Path at hr
  refine Con.of_ok 17 0 [.tmp 4] [(0, .s (.agg [cI t.Root, cI t.Next, .d (.sl (List.map Node.cs t.Nodes))])), (1, .s (aI id))] Tryd.func43 rfl rfl rfl rfl rfl rfl rfl rfl fun w g M ρ _ => (Ok.seq (Ok.region (OkOps.m 0 (triBox (j := 0) (cs := [cI t.Root, cI t.Next, .d (.sl (List.map Node.cs t.Nodes))]) rfl rfl rfl rfl rfl) (OkOps.y (.c (.d (.v (.slice none 0 0)))) (OkOps.nil (Ok.seq (Ok.region (OkOps.y (.agg [cI t.Root, cI t.Next, .d (.sl (List.map Node.cs t.Nodes))]) ?_))))))))
  obtain ⟨x1, hx1, hr⟩ := bind_some hr
  refine OkOps.q (triCl (tau []) (.tup [.c (.d (.mp true (encM (kInt .i64) Node.cs x1.1))), aB x1.2]) [] (vw_valid_c _ hx1) rfl ⟨.inl rfl, trivial⟩ trivial entry60 trivial) (OkOps.q (triMv (v := .tup [.c (.d (.mp true (encM (kInt .i64) Node.cs x1.1))), aB x1.2]) rfl rfl) (OkOps.y (.c (.d (.mp true (encM (kInt .i64) Node.cs x1.1)))) (OkOps.y (aB x1.2) (OkOps.y (.c (.d (.mp true (encM (kInt .i64) Node.cs x1.1)))) (OkOps.y (aB x1.2) (OkOps.nil (Ok.seq (Ok.seq (Ok.region (OkOps.y (aB x1.2) (OkOps.y (aB (!x1.2)) (OkOps.nil ?_))))))))))))
  refine Ok.cond (b := !x1.2) rfl (fun h2 => ?_) (fun h2 => ?_)
  have hr := selT h2 hr
  refine Ok.seq (Ok.region (OkOps.y (.c (.d (.v (.slice none 0 0)))) (OkOps.nil (Ok.ret ?_))))
  obtain rfl := Option.some.inj hr
  exact ⟨_, rfl, .inr rfl, trivial⟩
  have hr := selF h2 hr
  refine Ok.skip (Ok.seq (Ok.region (OkOps.y (.c (.d (.mp true (encM (kInt .i64) Node.cs x1.1)))) (OkOps.y (aI id) ?_))))
  obtain ⟨x3, hx3, hr⟩ := bind_some hr
  refine OkOps.q (triCl (tau []) (.s (.c (.d (.sl (List.map (eInt .i64) x3))))) [] (vw_path_c _ _ hx3) rfl ⟨.inl rfl, .inl rfl, trivial⟩ trivial entry68 trivial) (OkOps.y (.c (.d (.sl (List.map (eInt .i64) x3)))) (OkOps.nil (Ok.ret ?_)))
  obtain rfl := Option.some.inj hr
  exact ⟨_, rfl, .inl rfl, trivial⟩
end Go.Proofs.YtobiohcdpfpefaaDoor
end
section
set_option maxRecDepth 100000
namespace Go.Proofs.YtobiohcdpfpefaaDoor
open Go Go.E2
theorem dp_steps_c (t : Tree) (id : Int) {r : (List dispatch_step)} (hr : dp_steps t id = some r) : Con Tryd.prog 67 [.agg [cI t.Root, cI t.Next, .d (.sl (List.map Node.cs t.Nodes))], aI id] [] (.s (.c (.d (.sl (List.map dispatch_step.cs r))))) [] := by
  unfold dp_steps at hr
  refine Con.of_ok 39 0 [.tmp 4] [(0, .s (.agg [cI t.Root, cI t.Next, .d (.sl (List.map Node.cs t.Nodes))])), (1, .s (aI id))] Tryd.func67 rfl rfl rfl rfl rfl rfl rfl rfl fun w g M ρ _ => (Ok.seq (Ok.region (OkOps.m 0 (triBox (j := 0) (cs := [cI t.Root, cI t.Next, .d (.sl (List.map Node.cs t.Nodes))]) rfl rfl rfl rfl rfl) (OkOps.y (.c (.d (.v (.slice none 0 0)))) (OkOps.nil (Ok.seq (Ok.region (OkOps.y (.c (.d (.v (.slice none 0 0)))) (OkOps.nil (Ok.seq (Ok.region (OkOps.y (aB false) (OkOps.nil ?_)))))))))))))
  obtain ⟨k2, hk2, hr⟩ := jn_some hr
  refine Ok.join (fun (s1 : (List dispatch_step)) => ⟨[(5, .s (.c (.tl 1004 (List.map dispatch_step.cs s1))))], [(1004, .tail 8)], 0⟩) k2 r (fun s1 hr => ?_) ?_
  rw [hk2] at hr
  refine Ok.seq (Ok.region (OkOps.y (.c (.tl 1004 (List.map dispatch_step.cs s1))) (OkOps.y (.c (.tl 1004 (List.map dispatch_step.cs s1))) (OkOps.nil (Ok.ret ?_)))))
  obtain rfl := Option.some.inj hr
  exact ⟨_, rfl, .inr rfl, trivial⟩
  clear hk2
  refine Ok.seq (Ok.region (OkOps.y (.agg [cI t.Root, cI t.Next, .d (.sl (List.map Node.cs t.Nodes))]) (OkOps.y (aI id) ?_)))
  obtain ⟨x3, hx3, hr⟩ := bind_some hr
  refine OkOps.q (triCl (tau []) (.s (.c (.d (.sl (List.map (eInt .i64) x3))))) [] (vw_Path_c _ _ hx3) rfl ⟨.inl rfl, .inl rfl, trivial⟩ trivial entry43 trivial) (OkOps.q (triLen (enc := (eInt .i64)) x3 rfl rfl trivial rfl) (OkOps.y (aI 0) (OkOps.nil (Ok.block (Ok.loopK (fun (s4 : (List dispatch_step) × Bool × Int) => ⟨[(2, .s (.c (.loc 0 0))), (5, .s (.c (.tl 1007 (List.map dispatch_step.cs s4.1)))), (6, .s (aB s4.2.1)), (13, .s (.c (.d (.sl (List.map (eInt .i64) x3))))), (14, .s (aI (x3.length : Int))), (15, .s (aI s4.2.2))], [(0, .blk [cI t.Root, cI t.Next, .d (.sl (List.map Node.cs t.Nodes))] 57), (1007, .tail 8)], 0⟩) hr (Conv.trans (Conv.nil 5 1009 8 0 rfl rfl) (Conv.mk (tau [(1007, 1009)]) ⟨⟨_, rfl, .inl rfl⟩, ⟨_, rfl, .inl rfl⟩, ⟨_, rfl, .inl rfl⟩, ⟨_, rfl, .inl rfl⟩, ⟨_, rfl, .inl rfl⟩, ⟨_, rfl, .inl rfl⟩, trivial⟩ ⟨rfl, rfl, trivial⟩ rfl rfl rfl rfl)) ?_)))))
  clear hr
  intro again5 s4 hr
  unfold dp_steps_L1 at hr
  refine Ok.seq (Ok.region (OkOps.y (aB (decide (s4.2.2 < (x3.length : Int)))) (OkOps.nil (Ok.seq ?_))))
  refine Ok.cond (b := decide (s4.2.2 < (x3.length : Int))) rfl (fun h6 => ?_) (fun h6 => ?_)
  have hr := selT h6 hr
  refine Ok.skip (Ok.seq (Ok.block (Ok.seq (Ok.region ?_))))
  obtain ⟨x7, hx7, hr⟩ := bind_some hr
  refine OkOps.q (triIdx (enc := (eInt .i64)) (L := x3) (row := [dI x7]) hx7 rfl rfl rfl rfl (fun _ => rfl) trivial rfl) (OkOps.y (aI x7) (OkOps.y (aI x7) (OkOps.nil (Ok.seq (Ok.region (OkOps.y (.agg [cI t.Root, cI t.Next, .d (.sl (List.map Node.cs t.Nodes))]) (OkOps.y (aI x7) ?_)))))))
  obtain ⟨x8, hx8, hr⟩ := bind_some hr
  refine OkOps.q (triCl (tau []) (.tup [.agg [cI x8.1.ID, cI x8.1.Parent, cI x8.1.Kind, cS x8.1.Key, .d (.sl (List.map Attr.cs x8.1.Attrs)), .d (.sl (List.map Action.cs x8.1.Actions)), .d (.sl (List.map (eInt .i64) x8.1.Kids))], aB x8.2]) [] (vw_Find_c _ _ hx8) rfl ⟨.inl rfl, .inl rfl, trivial⟩ trivial entry39 trivial) (OkOps.q (triMv (v := .tup [.agg [cI x8.1.ID, cI x8.1.Parent, cI x8.1.Kind, cS x8.1.Key, .d (.sl (List.map Attr.cs x8.1.Attrs)), .d (.sl (List.map Action.cs x8.1.Actions)), .d (.sl (List.map (eInt .i64) x8.1.Kids))], aB x8.2]) rfl rfl) (OkOps.y (.agg [cI x8.1.ID, cI x8.1.Parent, cI x8.1.Kind, cS x8.1.Key, .d (.sl (List.map Attr.cs x8.1.Attrs)), .d (.sl (List.map Action.cs x8.1.Actions)), .d (.sl (List.map (eInt .i64) x8.1.Kids))]) (OkOps.y (aB x8.2) (OkOps.m 0 (triAlloc (j := 1) (cs := [cI 0, cI 0, cI 0, cS ByteArray.empty, .d (.v (.slice none 0 0)), .d (.v (.slice none 0 0)), .d (.v (.slice none 0 0))]) rfl rfl rfl rfl) (OkOps.w (triStore (cs' := [cI x8.1.ID, cI x8.1.Parent, cI x8.1.Kind, cS x8.1.Key, .d (.sl (List.map Attr.cs x8.1.Attrs)), .d (.sl (List.map Action.cs x8.1.Actions)), .d (.sl (List.map (eInt .i64) x8.1.Kids))]) rfl rfl rfl rfl rfl rfl rfl rfl rfl) (OkOps.y (aB x8.2) (OkOps.nil (Ok.seq (Ok.region (OkOps.y (aB s4.2.1) (OkOps.y (aB s4.2.1) (OkOps.q (triQG (x := .c (.loc 1 4)) rfl rfl trivial rfl) (OkOps.q (triQG (x := .c (.d (.sl (List.map Attr.cs x8.1.Attrs)))) rfl rfl ⟨fun h => h, trivial⟩ rfl) ?_)))))))))))))
  obtain ⟨x9, hx9, hr⟩ := bind_some hr
  refine OkOps.q (triCallG (x := aB x9) (fun hg => vw_Flag_c _ _ (gO_t hx9 hg)) rfl rfl ⟨.inl rfl, .inl rfl, trivial⟩ ⟨fun h => h, trivial⟩ entry87 rfl rfl rfl) ?_
  refine OkOps.q (triOr rfl rfl (fun h => by rw [h]; rfl) rfl) ?_
  refine OkOps.y (aB (s4.2.1 || x9)) (OkOps.nil (Ok.region (OkOps.y (.c (.tl 1007 (List.map dispatch_step.cs s4.1))) (OkOps.y (.agg [cI x8.1.ID, cI x8.1.Parent, cI x8.1.Kind, cS x8.1.Key, .d (.sl (List.map Attr.cs x8.1.Attrs)), .d (.sl (List.map Action.cs x8.1.Actions)), .d (.sl (List.map (eInt .i64) x8.1.Kids))]) (OkOps.y (aB (s4.2.1 || x9)) (OkOps.y (.agg [cI x8.1.ID, cI x8.1.Parent, cI x8.1.Kind, cS x8.1.Key, .d (.sl (List.map Attr.cs x8.1.Attrs)), .d (.sl (List.map Action.cs x8.1.Actions)), .d (.sl (List.map (eInt .i64) x8.1.Kids)), cB_ (s4.2.1 || x9)]) (OkOps.m 0 (triBST (sz := 8) (enc := dispatch_step.cs) (j := 2) ([(dispatch_step.mk x8.1 (s4.2.1 || x9))]) rfl rfl rfl rfl rfl rfl rfl rfl (fun _ => rfl) trivial rfl rfl) ?_)))))))
  obtain ⟨x10, hx10, hr⟩ := bind_some hr
  refine OkOps.m2 0 (triApp (enc := dispatch_step.cs) (L := s4.1) (X := [(dispatch_step.mk x8.1 (s4.2.1 || x9))]) (j := 1007) (j' := 3) hx10 rfl rfl rfl rfl rfl rfl (fun _ => rfl) (fun _ => rfl) (by decide) trivial rfl rfl) (OkOps.y (.c (.tl 3 (List.map dispatch_step.cs x10))) (OkOps.nil (Ok.region (OkOps.y (aI (IntKind.i64.wrap (s4.2.2 + 1))) (OkOps.y (aI (IntKind.i64.wrap (s4.2.2 + 1))) (OkOps.nil ?_))))))
  exact ⟨(x10, s4.2.1 || x9, IntKind.i64.wrap (s4.2.2 + 1)), hr, (Conv.mk (tau [(1007, 3)]) ⟨⟨_, rfl, .inl rfl⟩, ⟨_, rfl, .inl rfl⟩, ⟨_, rfl, .inl rfl⟩, ⟨_, rfl, .inl rfl⟩, ⟨_, rfl, .inl rfl⟩, ⟨_, rfl, .inl rfl⟩, trivial⟩ ⟨rfl, rfl, trivial⟩ rfl rfl rfl rfl)⟩
  have hr := selF h6 hr
  refine Ok.exit ?_
  exact ⟨s4.1, hr, (Conv.mk (tau [(1004, 1007)]) ⟨⟨_, rfl, .inl rfl⟩, trivial⟩ ⟨rfl, trivial⟩ rfl rfl rfl rfl)⟩
theorem dp_Disabled_c (t : Tree) (id : Int) {r : Bool} (hr : dp_Disabled t id = some r) : Con Tryd.prog 42 [.agg [cI t.Root, cI t.Next, .d (.sl (List.map Node.cs t.Nodes))], aI id] [] (.s (aB r)) [] := by
  unfold dp_Disabled at hr
  refine Con.of_ok 21 0 [.tmp 4] [(0, .s (.agg [cI t.Root, cI t.Next, .d (.sl (List.map Node.cs t.Nodes))])), (1, .s (aI id))] Tryd.func42 rfl rfl rfl rfl rfl rfl rfl rfl fun w g M ρ _ => (Ok.seq (Ok.region (OkOps.m 0 (triBox (j := 0) (cs := [cI t.Root, cI t.Next, .d (.sl (List.map Node.cs t.Nodes))]) rfl rfl rfl rfl rfl) (OkOps.y (aB false) (OkOps.nil (Ok.seq (Ok.region (OkOps.y (.agg [cI t.Root, cI t.Next, .d (.sl (List.map Node.cs t.Nodes))]) (OkOps.y (aI id) ?_)))))))))
  obtain ⟨x1, hx1, hr⟩ := bind_some hr
  refine OkOps.q (triCl (tau []) (.s (.c (.d (.sl (List.map dispatch_step.cs x1))))) [] (dp_steps_c _ _ hx1) rfl ⟨.inl rfl, .inl rfl, trivial⟩ trivial entry67 trivial) (OkOps.y (.c (.d (.sl (List.map dispatch_step.cs x1)))) (OkOps.nil (Ok.seq (Ok.region (OkOps.y (.c (.d (.sl (List.map dispatch_step.cs x1)))) (OkOps.q (triLen (enc := dispatch_step.cs) x1 rfl rfl trivial rfl) (OkOps.y (aB (decide ((x1.length : Int) > 0))) (OkOps.y (aB (decide ((x1.length : Int) > 0))) (OkOps.q (triQG (x := .c (.d (.sl (List.map dispatch_step.cs x1)))) rfl rfl trivial rfl) (OkOps.q (triQG (x := .c (.d (.sl (List.map dispatch_step.cs x1)))) rfl rfl trivial rfl) (OkOps.q (triLenG (enc := dispatch_step.cs) x1 rfl rfl rfl ⟨fun h => h, trivial⟩ rfl) (OkOps.q (triQG (x := aI (IntKind.i64.wrap ((x1.length : Int) - 1))) rfl rfl ⟨fun h => h, trivial⟩ rfl) ?_))))))))))))
  obtain ⟨x2, hx2, hr⟩ := bind_some hr
  refine OkOps.q (triIdxG (enc := dispatch_step.cs) (L := x1) (row := [dI x2.node.ID, dI x2.node.Parent, dI x2.node.Kind, dS x2.node.Key, .sl (List.map Attr.cs x2.node.Attrs), .sl (List.map Action.cs x2.node.Actions), .sl (List.map (eInt .i64) x2.node.Kids), dB x2.disabled]) (gO_t hx2) rfl rfl rfl rfl rfl (fun _ => rfl) ⟨fun h => h, ⟨fun h => h, trivial⟩⟩ rfl) (OkOps.q (triQG (x := .c (.pt [dB x2.disabled])) rfl rfl ⟨fun h => h, trivial⟩ rfl) (OkOps.q (triQG (x := aB x2.disabled) rfl rfl ⟨fun h => h, trivial⟩ rfl) (OkOps.q (triAnd rfl rfl (fun h => h) rfl) (OkOps.y (aB ((decide ((x1.length : Int) > 0)) && x2.disabled)) (OkOps.nil (Ok.ret ?_))))))
  obtain rfl := Option.some.inj hr
  exact ⟨_, rfl, .inl rfl, trivial⟩
end Go.Proofs.YtobiohcdpfpefaaDoor
end
section
set_option maxRecDepth 100000
namespace Go.Proofs.YtobiohcdpfpefaaDoor
open Go Go.E2
theorem slices_Index_Sl_int_int_c (p_s : (List Int)) (v : Int) {r : Int} (hr : slices_Index_Sl_int_int p_s v = some r) : Con Tryd.prog 82 [.c (.d (.sl (List.map (eInt .i64) p_s))), aI v] [] (.s (aI r)) [] := by
  unfold slices_Index_Sl_int_int at hr
  refine Con.of_ok 19 0 [.tmp 4] [(0, .s (.c (.d (.sl (List.map (eInt .i64) p_s))))), (1, .s (aI v))] Tryd.func82 rfl rfl rfl rfl rfl rfl rfl rfl fun w g M ρ _ => (Ok.seq (Ok.region (OkOps.y (aI 0) (OkOps.nil ?_))))
  obtain ⟨k2, hk2, hr⟩ := jn_some hr
  refine Ok.join (fun (s1 : Unit) => ⟨[], [], 0⟩) k2 r (fun s1 hr => ?_) ?_
  rw [hk2] at hr
  refine Ok.seq (Ok.region (OkOps.y (aI (-1)) (OkOps.nil (Ok.ret ?_))))
  obtain rfl := Option.some.inj hr
  exact ⟨_, rfl, .inl rfl, trivial⟩
  clear hk2
  refine Ok.seq (Ok.region (OkOps.y (.c (.d (.sl (List.map (eInt .i64) p_s)))) (OkOps.q (triLen (enc := (eInt .i64)) p_s rfl rfl trivial rfl) (OkOps.y (aI 0) (OkOps.nil (Ok.block (Ok.loopK (fun (s3 : Int) => ⟨[(0, .s (.c (.d (.sl (List.map (eInt .i64) p_s))))), (1, .s (aI v)), (7, .s (aI (p_s.length : Int))), (8, .s (aI s3))], [], 0⟩) hr (Conv.mk (tau []) ⟨⟨_, rfl, .inl rfl⟩, ⟨_, rfl, .inl rfl⟩, ⟨_, rfl, .inl rfl⟩, ⟨_, rfl, .inl rfl⟩, trivial⟩ trivial rfl rfl rfl rfl) ?_)))))))
  clear hr
  intro again4 s3 hr
  unfold slices_Index_Sl_int_int_L1 at hr
  refine Ok.seq (Ok.region (OkOps.y (aB (decide (s3 < (p_s.length : Int)))) (OkOps.nil (Ok.seq ?_))))
  refine Ok.cond (b := decide (s3 < (p_s.length : Int))) rfl (fun h5 => ?_) (fun h5 => ?_)
  have hr := selT h5 hr
  refine Ok.skip (Ok.seq (Ok.block (Ok.seq (Ok.region (OkOps.y (aI s3) (OkOps.y (aI s3) (OkOps.nil (Ok.seq (Ok.region (OkOps.y (aI v) (OkOps.y (.c (.d (.sl (List.map (eInt .i64) p_s)))) (OkOps.y (aI s3) ?_))))))))))))
  obtain ⟨x6, hx6, hr⟩ := bind_some hr
  refine OkOps.q (triIdx (enc := (eInt .i64)) (L := p_s) (row := [dI x6]) hx6 rfl rfl rfl rfl (fun _ => rfl) trivial rfl) (OkOps.y (aI x6) (OkOps.y (aB (v == x6)) (OkOps.nil ?_)))
  refine Ok.cond (b := v == x6) rfl (fun h7 => ?_) (fun h7 => ?_)
  have hr := selT h7 hr
  refine Ok.seq (Ok.region (OkOps.y (aI s3) (OkOps.y (aI s3) (OkOps.nil (Ok.ret ?_)))))
  obtain rfl := Option.some.inj hr
  exact ⟨_, rfl, .inl rfl, trivial⟩
  have hr := selF h7 hr
  refine Ok.skip (Ok.region (OkOps.y (aI (IntKind.i64.wrap (s3 + 1))) (OkOps.y (aI (IntKind.i64.wrap (s3 + 1))) (OkOps.nil ?_))))
  exact ⟨IntKind.i64.wrap (s3 + 1), hr, (Conv.mk (tau []) ⟨⟨_, rfl, .inl rfl⟩, ⟨_, rfl, .inl rfl⟩, ⟨_, rfl, .inl rfl⟩, ⟨_, rfl, .inl rfl⟩, trivial⟩ trivial rfl rfl rfl rfl)⟩
  have hr := selF h5 hr
  refine Ok.exit ?_
  exact ⟨(), hr, (Conv.mk (tau []) trivial trivial rfl rfl rfl rfl)⟩
theorem slices_Contains_Sl_int_int_c (p_s : (List Int)) (v : Int) {r : Bool} (hr : slices_Contains_Sl_int_int p_s v = some r) : Con Tryd.prog 65 [.c (.d (.sl (List.map (eInt .i64) p_s))), aI v] [] (.s (aB r)) [] := by
  unfold slices_Contains_Sl_int_int at hr
  refine Con.of_ok 9 0 [.tmp 4] [(0, .s (.c (.d (.sl (List.map (eInt .i64) p_s))))), (1, .s (aI v))] Tryd.func65 rfl rfl rfl rfl rfl rfl rfl rfl fun w g M ρ _ => (Ok.seq (Ok.region (OkOps.y (aB false) (OkOps.nil (Ok.seq (Ok.region (OkOps.y (.c (.d (.sl (List.map (eInt .i64) p_s)))) (OkOps.y (aI v) ?_))))))))
  obtain ⟨x1, hx1, hr⟩ := bind_some hr
  refine OkOps.q (triCl (tau []) (.s (aI x1)) [] (slices_Index_Sl_int_int_c _ _ hx1) rfl ⟨.inl rfl, .inl rfl, trivial⟩ trivial entry82 trivial) (OkOps.y (aB (decide (x1 ≥ 0))) (OkOps.y (aB (decide (x1 ≥ 0))) (OkOps.nil (Ok.ret ?_))))
  obtain rfl := Option.some.inj hr
  exact ⟨_, rfl, .inl rfl, trivial⟩
theorem ht_Shown_c (t : Tree) (st : (List Styled)) (id : Int) {r : Bool} (hr : ht_Shown t st id = some r) : Con Tryd.prog 41 [.agg [cI t.Root, cI t.Next, .d (.sl (List.map Node.cs t.Nodes))], .c (.d (.sl (List.map Styled.cs st))), aI id] [] (.s (aB r)) [] := by
  unfold ht_Shown at hr
  refine Con.of_ok 30 0 [.tmp 6] [(0, .s (.agg [cI t.Root, cI t.Next, .d (.sl (List.map Node.cs t.Nodes))])), (1, .s (.c (.d (.sl (List.map Styled.cs st))))), (2, .s (aI id))] Tryd.func41 rfl rfl rfl rfl rfl rfl rfl rfl fun w g M ρ _ => (Ok.seq (Ok.region (OkOps.m 0 (triBox (j := 0) (cs := [cI t.Root, cI t.Next, .d (.sl (List.map Node.cs t.Nodes))]) rfl rfl rfl rfl rfl) (OkOps.y (aB false) (OkOps.nil (Ok.seq (Ok.seq (Ok.region (OkOps.y (.agg [cI t.Root, cI t.Next, .d (.sl (List.map Node.cs t.Nodes))]) (OkOps.y (.c (.d (.sl (List.map Styled.cs st)))) ?_))))))))))
  obtain ⟨x1, hx1, hr⟩ := bind_some hr
  refine OkOps.q (triCl (tau []) (.s (.c (.d (.sl (List.map (eInt .i64) x1))))) [] (widgetry_layout_Shown_c _ _ hx1) rfl ⟨.inl rfl, .inl rfl, trivial⟩ trivial entry66 trivial) (OkOps.y (aI id) ?_)
  obtain ⟨x2, hx2, hr⟩ := bind_some hr
  refine OkOps.q (triCl (tau []) (.s (aB x2)) [] (slices_Contains_Sl_int_int_c _ _ hx2) rfl ⟨.inl rfl, .inl rfl, trivial⟩ trivial entry65 trivial) (OkOps.y (aB (!x2)) (OkOps.nil ?_))
  refine Ok.cond (b := !x2) rfl (fun h3 => ?_) (fun h3 => ?_)
  have hr := selT h3 hr
  refine Ok.seq (Ok.region (OkOps.y (aB false) (OkOps.nil (Ok.ret ?_))))
  obtain rfl := Option.some.inj hr
  exact ⟨_, rfl, .inl rfl, trivial⟩
  have hr := selF h3 hr
  refine Ok.skip ?_
  obtain ⟨k5, hk5, hr⟩ := jn_some hr
  refine Ok.join (fun (s4 : Unit) => ⟨[], [], 0⟩) k5 r (fun s4 hr => ?_) ?_
  rw [hk5] at hr
  refine Ok.seq (Ok.region (OkOps.y (aB false) (OkOps.nil (Ok.ret ?_))))
  obtain rfl := Option.some.inj hr
  exact ⟨_, rfl, .inl rfl, trivial⟩
  clear hk5
  refine Ok.seq (Ok.region (OkOps.y (.c (.d (.sl (List.map Styled.cs st)))) (OkOps.q (triLen (enc := Styled.cs) st rfl rfl trivial rfl) (OkOps.y (aI 0) (OkOps.nil (Ok.block (Ok.loopK (fun (s6 : Int) => ⟨[(2, .s (aI id)), (15, .s (.c (.d (.sl (List.map Styled.cs st))))), (16, .s (aI (st.length : Int))), (17, .s (aI s6))], [], 0⟩) hr (Conv.mk (tau []) ⟨⟨_, rfl, .inl rfl⟩, ⟨_, rfl, .inl rfl⟩, ⟨_, rfl, .inl rfl⟩, ⟨_, rfl, .inl rfl⟩, trivial⟩ trivial rfl rfl rfl rfl) ?_)))))))
  clear hr
  intro again7 s6 hr
  unfold ht_Shown_L1 at hr
  refine Ok.seq (Ok.region (OkOps.y (aB (decide (s6 < (st.length : Int)))) (OkOps.nil (Ok.seq ?_))))
  refine Ok.cond (b := decide (s6 < (st.length : Int))) rfl (fun h8 => ?_) (fun h8 => ?_)
  have hr := selT h8 hr
  refine Ok.skip (Ok.seq (Ok.block (Ok.seq (Ok.region ?_))))
  obtain ⟨x9, hx9, hr⟩ := bind_some hr
  refine OkOps.q (triIdx (enc := Styled.cs) (L := st) (row := [dI x9.ID, dI (x9.Style 0), dI (x9.Style 1), dI (x9.Style 2), dI (x9.Style 3), dI (x9.Style 4), dI (x9.Style 5), dI (x9.Style 6), dI (x9.Style 7), dI (x9.Style 8), dI (x9.Style 9), dI (x9.Style 10), dI (x9.Style 11), dI (x9.Style 12), dI (x9.Style 13), dI (x9.Style 14), dI (x9.Style 15), dI (x9.Style 16), dI (x9.Style 17), dI (x9.Style 18), dI (x9.Style 19), dI (x9.Style 20), dI (x9.Style 21)]) hx9 rfl rfl rfl rfl (fun _ => rfl) trivial rfl) (OkOps.y (.agg [cI x9.ID, cI (x9.Style 0), cI (x9.Style 1), cI (x9.Style 2), cI (x9.Style 3), cI (x9.Style 4), cI (x9.Style 5), cI (x9.Style 6), cI (x9.Style 7), cI (x9.Style 8), cI (x9.Style 9), cI (x9.Style 10), cI (x9.Style 11), cI (x9.Style 12), cI (x9.Style 13), cI (x9.Style 14), cI (x9.Style 15), cI (x9.Style 16), cI (x9.Style 17), cI (x9.Style 18), cI (x9.Style 19), cI (x9.Style 20), cI (x9.Style 21)]) (OkOps.m 0 (triAlloc (j := 1) (cs := [cI 0, cI 0, cI 0, cI 0, cI 0, cI 0, cI 0, cI 0, cI 0, cI 0, cI 0, cI 0, cI 0, cI 0, cI 0, cI 0, cI 0, cI 0, cI 0, cI 0, cI 0, cI 0, cI 0]) rfl rfl rfl rfl) (OkOps.w (triStore (cs' := [cI x9.ID, cI (x9.Style 0), cI (x9.Style 1), cI (x9.Style 2), cI (x9.Style 3), cI (x9.Style 4), cI (x9.Style 5), cI (x9.Style 6), cI (x9.Style 7), cI (x9.Style 8), cI (x9.Style 9), cI (x9.Style 10), cI (x9.Style 11), cI (x9.Style 12), cI (x9.Style 13), cI (x9.Style 14), cI (x9.Style 15), cI (x9.Style 16), cI (x9.Style 17), cI (x9.Style 18), cI (x9.Style 19), cI (x9.Style 20), cI (x9.Style 21)]) rfl rfl rfl rfl rfl rfl rfl rfl (by kernel_rfl)) (OkOps.nil (Ok.seq (Ok.region (OkOps.y (.c (.loc 1 0)) (OkOps.y (aI x9.ID) (OkOps.y (aI id) (OkOps.y (aB (x9.ID == id)) (OkOps.nil ?_)))))))))))
  refine Ok.cond (b := x9.ID == id) rfl (fun h10 => ?_) (fun h10 => ?_)
  have hr := selT h10 hr
  refine Ok.seq (Ok.region (OkOps.y (.c (.loc 1 1)) (OkOps.y (.c (.loc 1 22)) (OkOps.y (aI (x9.Style 21)) (OkOps.y (aB ((x9.Style 21) == 0)) (OkOps.y (aB ((x9.Style 21) == 0)) (OkOps.nil (Ok.ret ?_))))))))
  obtain rfl := Option.some.inj hr
  exact ⟨_, rfl, .inl rfl, trivial⟩
  have hr := selF h10 hr
  refine Ok.skip (Ok.region (OkOps.y (aI (IntKind.i64.wrap (s6 + 1))) (OkOps.y (aI (IntKind.i64.wrap (s6 + 1))) (OkOps.nil ?_))))
  exact ⟨IntKind.i64.wrap (s6 + 1), hr, (Conv.mk (tau []) ⟨⟨_, rfl, .inl rfl⟩, ⟨_, rfl, .inl rfl⟩, ⟨_, rfl, .inl rfl⟩, ⟨_, rfl, .inl rfl⟩, trivial⟩ trivial rfl rfl rfl rfl)⟩
  have hr := selF h8 hr
  refine Ok.exit ?_
  exact ⟨(), hr, (Conv.mk (tau []) trivial trivial rfl rfl rfl rfl)⟩
end Go.Proofs.YtobiohcdpfpefaaDoor
end
section
set_option maxRecDepth 100000
namespace Go.Proofs.YtobiohcdpfpefaaDoor
open Go Go.E2
theorem sc_Collect_c (t : Tree) (st : (List Styled)) {r : (List Shortcut)} (hr : sc_Collect t st = some r) : Con Tryd.prog 21 [.agg [cI t.Root, cI t.Next, .d (.sl (List.map Node.cs t.Nodes))], .c (.d (.sl (List.map Styled.cs st)))] [] (.s (.c (.d (.sl (List.map Shortcut.cs r))))) [] := by
  unfold sc_Collect at hr
  refine Con.of_ok 96 0 [.tmp 4] [(0, .s (.agg [cI t.Root, cI t.Next, .d (.sl (List.map Node.cs t.Nodes))])), (1, .s (.c (.d (.sl (List.map Styled.cs st)))))] Tryd.func21 rfl rfl rfl rfl rfl rfl rfl rfl fun w g M ρ _ => (Ok.seq (Ok.region (OkOps.m 0 (triBox (j := 0) (cs := [cI t.Root, cI t.Next, .d (.sl (List.map Node.cs t.Nodes))]) rfl rfl rfl rfl rfl) (OkOps.y (.c (.d (.v (.slice none 0 0)))) (OkOps.nil (Ok.seq (Ok.region (OkOps.y (.c (.d (.v (.slice none 0 0)))) (OkOps.nil ?_)))))))))
  obtain ⟨k2, hk2, hr⟩ := jn_some hr
  refine Ok.join (fun (s1 : (List Shortcut)) => ⟨[(5, .s (.c (.tl 1035 (List.map Shortcut.cs s1))))], [(1035, .tail 3)], 0⟩) k2 r (fun s1 hr => ?_) ?_
  rw [hk2] at hr
  refine Ok.seq (Ok.region (OkOps.y (.c (.tl 1035 (List.map Shortcut.cs s1))) (OkOps.y (.c (.tl 1035 (List.map Shortcut.cs s1))) (OkOps.nil (Ok.ret ?_)))))
  obtain rfl := Option.some.inj hr
  exact ⟨_, rfl, .inr rfl, trivial⟩
  clear hk2
  refine Ok.seq (Ok.region (OkOps.y (.agg [cI t.Root, cI t.Next, .d (.sl (List.map Node.cs t.Nodes))]) ?_))
  obtain ⟨x3, hx3, hr⟩ := bind_some hr
  refine OkOps.q (triCl (tau []) (.s (.c (.d (.sl (List.map (eInt .i64) x3))))) [] (vw_Order_c _ hx3) rfl ⟨.inl rfl, trivial⟩ trivial entry38 trivial) (OkOps.q (triLen (enc := (eInt .i64)) x3 rfl rfl trivial rfl) (OkOps.y (aI 0) (OkOps.nil (Ok.block (Ok.loopK (fun (s4 : (List Shortcut) × Int) => ⟨[(1, .s (.c (.d (.sl (List.map Styled.cs st))))), (2, .s (.c (.loc 0 0))), (5, .s (.c (.tl 1041 (List.map Shortcut.cs s4.1)))), (20, .s (.c (.d (.sl (List.map (eInt .i64) x3))))), (21, .s (aI (x3.length : Int))), (22, .s (aI s4.2))], [(0, .blk [cI t.Root, cI t.Next, .d (.sl (List.map Node.cs t.Nodes))] 57), (1041, .tail 3)], 0⟩) hr (Conv.trans (Conv.nil 5 1070 3 0 rfl rfl) (Conv.mk (tau [(1041, 1070)]) ⟨⟨_, rfl, .inl rfl⟩, ⟨_, rfl, .inl rfl⟩, ⟨_, rfl, .inl rfl⟩, ⟨_, rfl, .inl rfl⟩, ⟨_, rfl, .inl rfl⟩, ⟨_, rfl, .inl rfl⟩, trivial⟩ ⟨rfl, rfl, trivial⟩ rfl rfl rfl rfl)) ?_)))))
  clear hr
  intro again5 s4 hr
  unfold sc_Collect_L2 at hr
  refine Ok.seq (Ok.region (OkOps.y (aB (decide (s4.2 < (x3.length : Int)))) (OkOps.nil (Ok.seq ?_))))
  refine Ok.cond (b := decide (s4.2 < (x3.length : Int))) rfl (fun h6 => ?_) (fun h6 => ?_)
  have hr := selT h6 hr
  refine Ok.skip ?_
  obtain ⟨k8, hk8, hr⟩ := jn_some hr
  refine Ok.join (fun (s7 : (List Shortcut)) => ⟨[(1, .s (.c (.d (.sl (List.map Styled.cs st))))), (2, .s (.c (.loc 0 0))), (5, .s (.c (.tl 1071 (List.map Shortcut.cs s7)))), (20, .s (.c (.d (.sl (List.map (eInt .i64) x3))))), (21, .s (aI (x3.length : Int))), (22, .s (aI s4.2))], [(0, .blk [cI t.Root, cI t.Next, .d (.sl (List.map Node.cs t.Nodes))] 57), (1071, .tail 3)], 0⟩) k8 r (fun s7 hr => ?_) ?_
  rw [hk8] at hr
  refine Ok.region (OkOps.y (aI (IntKind.i64.wrap (s4.2 + 1))) (OkOps.y (aI (IntKind.i64.wrap (s4.2 + 1))) (OkOps.nil ?_)))
  exact ⟨(s7, IntKind.i64.wrap (s4.2 + 1)), hr, (Conv.mk (tau [(1041, 1071)]) ⟨⟨_, rfl, .inl rfl⟩, ⟨_, rfl, .inl rfl⟩, ⟨_, rfl, .inl rfl⟩, ⟨_, rfl, .inl rfl⟩, ⟨_, rfl, .inl rfl⟩, ⟨_, rfl, .inl rfl⟩, trivial⟩ ⟨rfl, rfl, trivial⟩ rfl rfl rfl rfl)⟩
  clear hk8
  refine Ok.block (Ok.seq (Ok.region ?_))
  obtain ⟨x9, hx9, hr⟩ := bind_some hr
  refine OkOps.q (triIdx (enc := (eInt .i64)) (L := x3) (row := [dI x9]) hx9 rfl rfl rfl rfl (fun _ => rfl) trivial rfl) (OkOps.y (aI x9) (OkOps.y (aI x9) (OkOps.nil (Ok.seq (Ok.region (OkOps.y (.agg [cI t.Root, cI t.Next, .d (.sl (List.map Node.cs t.Nodes))]) (OkOps.y (aI x9) ?_)))))))
  obtain ⟨x10, hx10, hr⟩ := bind_some hr
  refine OkOps.q (triCl (tau []) (.tup [.agg [cI x10.1.ID, cI x10.1.Parent, cI x10.1.Kind, cS x10.1.Key, .d (.sl (List.map Attr.cs x10.1.Attrs)), .d (.sl (List.map Action.cs x10.1.Actions)), .d (.sl (List.map (eInt .i64) x10.1.Kids))], aB x10.2]) [] (vw_Find_c _ _ hx10) rfl ⟨.inl rfl, .inl rfl, trivial⟩ trivial entry39 trivial) (OkOps.q (triMv (v := .tup [.agg [cI x10.1.ID, cI x10.1.Parent, cI x10.1.Kind, cS x10.1.Key, .d (.sl (List.map Attr.cs x10.1.Attrs)), .d (.sl (List.map Action.cs x10.1.Actions)), .d (.sl (List.map (eInt .i64) x10.1.Kids))], aB x10.2]) rfl rfl) (OkOps.y (.agg [cI x10.1.ID, cI x10.1.Parent, cI x10.1.Kind, cS x10.1.Key, .d (.sl (List.map Attr.cs x10.1.Attrs)), .d (.sl (List.map Action.cs x10.1.Actions)), .d (.sl (List.map (eInt .i64) x10.1.Kids))]) (OkOps.y (aB x10.2) (OkOps.m 0 (triAlloc (j := 1) (cs := [cI 0, cI 0, cI 0, cS ByteArray.empty, .d (.v (.slice none 0 0)), .d (.v (.slice none 0 0)), .d (.v (.slice none 0 0))]) rfl rfl rfl rfl) (OkOps.w (triStore (cs' := [cI x10.1.ID, cI x10.1.Parent, cI x10.1.Kind, cS x10.1.Key, .d (.sl (List.map Attr.cs x10.1.Attrs)), .d (.sl (List.map Action.cs x10.1.Actions)), .d (.sl (List.map (eInt .i64) x10.1.Kids))]) rfl rfl rfl rfl rfl rfl rfl rfl rfl) (OkOps.y (aB x10.2) (OkOps.nil (Ok.seq (Ok.region (OkOps.y (.c (.loc 1 4)) (OkOps.y (.c (.d (.sl (List.map Attr.cs x10.1.Attrs)))) ?_)))))))))))
  obtain ⟨x11, hx11, hr⟩ := bind_some hr
  refine OkOps.q (triCl (tau []) (.tup [.agg [cI x11.1.Kind, cI x11.1.N, cS x11.1.S, .d (.sl (List.map AValue.cs x11.1.L))], aB x11.2]) [] (vw_Attr_c _ _ hx11) rfl ⟨.inl rfl, .inl rfl, trivial⟩ trivial entry40 trivial) (OkOps.q (triMv (v := .tup [.agg [cI x11.1.Kind, cI x11.1.N, cS x11.1.S, .d (.sl (List.map AValue.cs x11.1.L))], aB x11.2]) rfl rfl) (OkOps.y (.agg [cI x11.1.Kind, cI x11.1.N, cS x11.1.S, .d (.sl (List.map AValue.cs x11.1.L))]) (OkOps.y (aB x11.2) (OkOps.m 0 (triAlloc (j := 2) (cs := [cI 0, cI 0, cS ByteArray.empty, .d (.v (.slice none 0 0))]) rfl rfl rfl rfl) (OkOps.w (triStore (cs' := [cI x11.1.Kind, cI x11.1.N, cS x11.1.S, .d (.sl (List.map AValue.cs x11.1.L))]) rfl rfl rfl rfl rfl rfl rfl rfl rfl) (OkOps.y (aB x11.2) (OkOps.nil (Ok.seq (Ok.seq (Ok.region (OkOps.y (aB x11.2) (OkOps.y (aB (!x11.2)) (OkOps.y (aB (!x11.2)) (OkOps.q (triQG (x := .c (.loc 2 0)) rfl rfl trivial rfl) (OkOps.q (triQG (x := aI x11.1.Kind) rfl rfl ⟨fun h => h, trivial⟩ rfl) ?_)))))))))))))))
  refine OkOps.q (triQG (x := aB (x11.1.Kind != 3)) rfl rfl ⟨fun h => h, trivial⟩ rfl) ?_
  refine OkOps.q (triOr rfl rfl (fun h => by rw [h]; rfl) rfl) ?_
  refine OkOps.y (aB ((!x11.2) || (x11.1.Kind != 3))) (OkOps.q (triQG (x := .agg [cI t.Root, cI t.Next, .d (.sl (List.map Node.cs t.Nodes))]) rfl rfl trivial rfl) (OkOps.q (triQG (x := .c (.d (.sl (List.map Styled.cs st)))) rfl rfl trivial rfl) (OkOps.q (triQG (x := aI x9) rfl rfl trivial rfl) ?_)))
  obtain ⟨x12, hx12, hr⟩ := bind_some hr
  refine OkOps.q (triCallG (x := aB x12) (fun hg => ht_Shown_c _ _ _ (gO_t hx12 hg)) rfl rfl ⟨.inl rfl, .inl rfl, .inl rfl, trivial⟩ ⟨fun h => h, ⟨fun h => h, ⟨fun h => h, trivial⟩⟩⟩ entry41 rfl rfl rfl) (OkOps.q (triQG (x := aB (!x12)) rfl rfl ⟨fun h => h, trivial⟩ rfl) ?_)
  refine OkOps.q (triOr rfl rfl (fun h => by rw [h]; rfl) rfl) ?_
  refine OkOps.y (aB (((!x11.2) || (x11.1.Kind != 3)) || (!x12))) (OkOps.q (triQG (x := .agg [cI t.Root, cI t.Next, .d (.sl (List.map Node.cs t.Nodes))]) rfl rfl trivial rfl) (OkOps.q (triQG (x := aI x9) rfl rfl trivial rfl) ?_))
  obtain ⟨x13, hx13, hr⟩ := bind_some hr
  refine OkOps.q (triCallG (x := aB x13) (fun hg => dp_Disabled_c _ _ (gO_t hx13 hg)) rfl rfl ⟨.inl rfl, .inl rfl, trivial⟩ ⟨fun h => h, ⟨fun h => h, trivial⟩⟩ entry42 rfl rfl rfl) ?_
  refine OkOps.q (triOr rfl rfl (fun h => by rw [h]; rfl) rfl) ?_
  refine OkOps.nil ?_
  refine Ok.cond (b := (((!x11.2) || (x11.1.Kind != 3)) || (!x12)) || x13) rfl (fun h14 => ?_) (fun h14 => ?_)
  have hr := selT h14 hr
  refine Ok.exit ?_
  exact ⟨s4.1, hr, (Conv.mk (tau [(1071, 1041)]) ⟨⟨_, rfl, .inl rfl⟩, ⟨_, rfl, .inl rfl⟩, ⟨_, rfl, .inl rfl⟩, ⟨_, rfl, .inl rfl⟩, ⟨_, rfl, .inl rfl⟩, ⟨_, rfl, .inl rfl⟩, trivial⟩ ⟨rfl, rfl, trivial⟩ rfl rfl rfl rfl)⟩
  have hr := selF h14 hr
  refine Ok.skip (Ok.seq (Ok.region (OkOps.y (.c (.loc 2 2)) (OkOps.y (aS x11.1.S) ?_))))
  obtain ⟨x15, hx15, hr⟩ := bind_some hr
  refine OkOps.q (triCl (tau []) (.tup [.c (.d (.sl (List.map Chord.cs x15.1))), aI x15.2]) [] (sc_Parse_c _ hx15) rfl ⟨.inl rfl, trivial⟩ trivial entry9 trivial) (OkOps.q (triMv (v := .tup [.c (.d (.sl (List.map Chord.cs x15.1))), aI x15.2]) rfl rfl) (OkOps.y (.c (.d (.sl (List.map Chord.cs x15.1)))) (OkOps.y (aI x15.2) (OkOps.y (.c (.d (.sl (List.map Chord.cs x15.1)))) (OkOps.y (aI x15.2) (OkOps.nil (Ok.seq (Ok.seq (Ok.region (OkOps.y (aI x15.2) (OkOps.y (aB (x15.2 != 0)) (OkOps.nil ?_))))))))))))
  refine Ok.cond (b := x15.2 != 0) rfl (fun h16 => ?_) (fun h16 => ?_)
  have hr := selT h16 hr
  refine Ok.exit ?_
  exact ⟨s4.1, hr, (Conv.mk (tau [(1071, 1041)]) ⟨⟨_, rfl, .inl rfl⟩, ⟨_, rfl, .inl rfl⟩, ⟨_, rfl, .inl rfl⟩, ⟨_, rfl, .inl rfl⟩, ⟨_, rfl, .inl rfl⟩, ⟨_, rfl, .inl rfl⟩, trivial⟩ ⟨rfl, rfl, trivial⟩ rfl rfl rfl rfl)⟩
  have hr := selF h16 hr
  refine Ok.skip (Ok.seq (Ok.region (OkOps.y (aI x9) (OkOps.y (.c (.loc 0 0)) (OkOps.y (aI t.Root) (OkOps.y (.c (.d (.sl (List.map Chord.cs x15.1)))) (OkOps.y (.agg [cI x9, cI t.Root, .d (.sl (List.map Chord.cs x15.1))]) (OkOps.m 0 (triAlloc (j := 3) (cs := [cI 0, cI 0, .d (.v (.slice none 0 0))]) rfl rfl rfl rfl) (OkOps.w (triStore (cs' := [cI x9, cI t.Root, .d (.sl (List.map Chord.cs x15.1))]) rfl rfl rfl rfl rfl rfl rfl rfl rfl) (OkOps.nil ?_))))))))))
  obtain ⟨k18, hk18, hr⟩ := jn_some hr
  refine Ok.join (fun (s17 : Int) => ⟨[(1, .s (.c (.d (.sl (List.map Styled.cs st))))), (2, .s (.c (.loc 0 0))), (5, .s (.c (.tl 1041 (List.map Shortcut.cs s4.1)))), (14, .s (.c (.loc 3 0))), (20, .s (.c (.d (.sl (List.map (eInt .i64) x3))))), (21, .s (aI (x3.length : Int))), (22, .s (aI s4.2))], [(0, .blk [cI t.Root, cI t.Next, .d (.sl (List.map Node.cs t.Nodes))] 57), (3, .blk [cI x9, cI s17, .d (.sl (List.map Chord.cs x15.1))] 71), (1041, .tail 3)], 0⟩) k18 r (fun s17 hr => ?_) ?_
  rw [hk18] at hr
  refine Ok.region (OkOps.y (.c (.tl 1041 (List.map Shortcut.cs s4.1))) (OkOps.y (.agg [cI x9, cI s17, .d (.sl (List.map Chord.cs x15.1))]) (OkOps.m 0 (triBST (sz := 3) (enc := Shortcut.cs) (j := 4) ([(Shortcut.mk x9 s17 x15.1)]) rfl rfl rfl rfl rfl rfl rfl rfl (fun _ => rfl) trivial rfl rfl) ?_)))
  obtain ⟨x19, hx19, hr⟩ := bind_some hr
  refine OkOps.m2 0 (triApp (enc := Shortcut.cs) (L := s4.1) (X := [(Shortcut.mk x9 s17 x15.1)]) (j := 1041) (j' := 5) hx19 rfl rfl rfl rfl rfl rfl (fun _ => rfl) (fun _ => rfl) (by decide) trivial rfl rfl) (OkOps.y (.c (.tl 5 (List.map Shortcut.cs x19))) (OkOps.nil ?_))
  exact ⟨x19, hr, (Conv.mk (tau [(1071, 5)]) ⟨⟨_, rfl, .inl rfl⟩, ⟨_, rfl, .inl rfl⟩, ⟨_, rfl, .inl rfl⟩, ⟨_, rfl, .inl rfl⟩, ⟨_, rfl, .inl rfl⟩, ⟨_, rfl, .inl rfl⟩, trivial⟩ ⟨rfl, rfl, trivial⟩ rfl rfl rfl rfl)⟩
  clear hk18
  refine Ok.seq (Ok.region (OkOps.y (.agg [cI t.Root, cI t.Next, .d (.sl (List.map Node.cs t.Nodes))]) (OkOps.y (aI x9) ?_)))
  obtain ⟨x20, hx20, hr⟩ := bind_some hr
  refine OkOps.q (triCl (tau []) (.s (.c (.d (.sl (List.map (eInt .i64) x20))))) [] (vw_Path_c _ _ hx20) rfl ⟨.inl rfl, .inl rfl, trivial⟩ trivial entry43 trivial) (OkOps.q (triLen (enc := (eInt .i64)) x20 rfl rfl trivial rfl) (OkOps.y (aI 0) (OkOps.nil (Ok.block (Ok.loopK (fun (s21 : Int × Int) => ⟨[(1, .s (.c (.d (.sl (List.map Styled.cs st))))), (2, .s (.c (.loc 0 0))), (5, .s (.c (.tl 1041 (List.map Shortcut.cs s4.1)))), (14, .s (.c (.loc 3 0))), (20, .s (.c (.d (.sl (List.map (eInt .i64) x3))))), (21, .s (aI (x3.length : Int))), (22, .s (aI s4.2)), (72, .s (.c (.d (.sl (List.map (eInt .i64) x20))))), (73, .s (aI (x20.length : Int))), (74, .s (aI s21.1))], [(0, .blk [cI t.Root, cI t.Next, .d (.sl (List.map Node.cs t.Nodes))] 57), (3, .blk [cI x9, cI s21.2, .d (.sl (List.map Chord.cs x15.1))] 71), (1041, .tail 3)], 0⟩) hr (Conv.mk (tau []) ⟨⟨_, rfl, .inl rfl⟩, ⟨_, rfl, .inl rfl⟩, ⟨_, rfl, .inl rfl⟩, ⟨_, rfl, .inl rfl⟩, ⟨_, rfl, .inl rfl⟩, ⟨_, rfl, .inl rfl⟩, ⟨_, rfl, .inl rfl⟩, ⟨_, rfl, .inl rfl⟩, ⟨_, rfl, .inl rfl⟩, ⟨_, rfl, .inl rfl⟩, trivial⟩ ⟨rfl, rfl, rfl, trivial⟩ rfl rfl rfl rfl) ?_)))))
  clear hr
  intro again22 s21 hr
  unfold sc_Collect_L1 at hr
  refine Ok.seq (Ok.region (OkOps.y (aB (decide (s21.1 < (x20.length : Int)))) (OkOps.nil (Ok.seq ?_))))
  refine Ok.cond (b := decide (s21.1 < (x20.length : Int))) rfl (fun h23 => ?_) (fun h23 => ?_)
  have hr := selT h23 hr
  refine Ok.skip ?_
  obtain ⟨k25, hk25, hr⟩ := jn_some hr
  refine Ok.join (fun (s24 : Int) => ⟨[(1, .s (.c (.d (.sl (List.map Styled.cs st))))), (2, .s (.c (.loc 0 0))), (5, .s (.c (.tl 1041 (List.map Shortcut.cs s4.1)))), (14, .s (.c (.loc 3 0))), (20, .s (.c (.d (.sl (List.map (eInt .i64) x3))))), (21, .s (aI (x3.length : Int))), (22, .s (aI s4.2)), (72, .s (.c (.d (.sl (List.map (eInt .i64) x20))))), (73, .s (aI (x20.length : Int))), (74, .s (aI s21.1))], [(0, .blk [cI t.Root, cI t.Next, .d (.sl (List.map Node.cs t.Nodes))] 57), (3, .blk [cI x9, cI s24, .d (.sl (List.map Chord.cs x15.1))] 71), (1041, .tail 3)], 0⟩) k25 r (fun s24 hr => ?_) ?_
  rw [hk25] at hr
  refine Ok.region (OkOps.y (aI (IntKind.i64.wrap (s21.1 + 1))) (OkOps.y (aI (IntKind.i64.wrap (s21.1 + 1))) (OkOps.nil ?_)))
  exact ⟨(IntKind.i64.wrap (s21.1 + 1), s24), hr, (Conv.mk (tau []) ⟨⟨_, rfl, .inl rfl⟩, ⟨_, rfl, .inl rfl⟩, ⟨_, rfl, .inl rfl⟩, ⟨_, rfl, .inl rfl⟩, ⟨_, rfl, .inl rfl⟩, ⟨_, rfl, .inl rfl⟩, ⟨_, rfl, .inl rfl⟩, ⟨_, rfl, .inl rfl⟩, ⟨_, rfl, .inl rfl⟩, ⟨_, rfl, .inl rfl⟩, trivial⟩ ⟨rfl, rfl, rfl, trivial⟩ rfl rfl rfl rfl)⟩
  clear hk25
  refine Ok.block (Ok.seq (Ok.region ?_))
  obtain ⟨x26, hx26, hr⟩ := bind_some hr
  refine OkOps.q (triIdx (enc := (eInt .i64)) (L := x20) (row := [dI x26]) hx26 rfl rfl rfl rfl (fun _ => rfl) trivial rfl) (OkOps.y (aI x26) (OkOps.y (aI x26) (OkOps.nil (Ok.seq (Ok.region (OkOps.y (.agg [cI t.Root, cI t.Next, .d (.sl (List.map Node.cs t.Nodes))]) (OkOps.y (aI x26) ?_)))))))
  obtain ⟨x27, hx27, hr⟩ := bind_some hr
  refine OkOps.q (triCl (tau []) (.tup [.agg [cI x27.1.ID, cI x27.1.Parent, cI x27.1.Kind, cS x27.1.Key, .d (.sl (List.map Attr.cs x27.1.Attrs)), .d (.sl (List.map Action.cs x27.1.Actions)), .d (.sl (List.map (eInt .i64) x27.1.Kids))], aB x27.2]) [] (vw_Find_c _ _ hx27) rfl ⟨.inl rfl, .inl rfl, trivial⟩ trivial entry39 trivial) (OkOps.q (triMv (v := .tup [.agg [cI x27.1.ID, cI x27.1.Parent, cI x27.1.Kind, cS x27.1.Key, .d (.sl (List.map Attr.cs x27.1.Attrs)), .d (.sl (List.map Action.cs x27.1.Actions)), .d (.sl (List.map (eInt .i64) x27.1.Kids))], aB x27.2]) rfl rfl) (OkOps.y (.agg [cI x27.1.ID, cI x27.1.Parent, cI x27.1.Kind, cS x27.1.Key, .d (.sl (List.map Attr.cs x27.1.Attrs)), .d (.sl (List.map Action.cs x27.1.Actions)), .d (.sl (List.map (eInt .i64) x27.1.Kids))]) (OkOps.y (aB x27.2) (OkOps.m 0 (triAlloc (j := 6) (cs := [cI 0, cI 0, cI 0, cS ByteArray.empty, .d (.v (.slice none 0 0)), .d (.v (.slice none 0 0)), .d (.v (.slice none 0 0))]) rfl rfl rfl rfl) (OkOps.w (triStore (cs' := [cI x27.1.ID, cI x27.1.Parent, cI x27.1.Kind, cS x27.1.Key, .d (.sl (List.map Attr.cs x27.1.Attrs)), .d (.sl (List.map Action.cs x27.1.Actions)), .d (.sl (List.map (eInt .i64) x27.1.Kids))]) rfl rfl rfl rfl rfl rfl rfl rfl rfl) (OkOps.y (aB x27.2) (OkOps.nil (Ok.seq (Ok.region (OkOps.y (.c (.loc 6 2)) (OkOps.y (aI x27.1.Kind) (OkOps.y (aB (x27.1.Kind == 12)) (OkOps.nil ?_)))))))))))))
  refine Ok.cond (b := x27.1.Kind == 12) rfl (fun h28 => ?_) (fun h28 => ?_)
  have hr := selT h28 hr
  refine Ok.region (OkOps.y (aI x26) (OkOps.y (.c (.loc 3 1)) (OkOps.w (triStore (cs' := [cI x9, cI x26, .d (.sl (List.map Chord.cs x15.1))]) rfl rfl rfl rfl rfl rfl rfl rfl rfl) (OkOps.nil ?_))))
  exact ⟨x26, hr, (Conv.mk (tau []) ⟨⟨_, rfl, .inl rfl⟩, ⟨_, rfl, .inl rfl⟩, ⟨_, rfl, .inl rfl⟩, ⟨_, rfl, .inl rfl⟩, ⟨_, rfl, .inl rfl⟩, ⟨_, rfl, .inl rfl⟩, ⟨_, rfl, .inl rfl⟩, ⟨_, rfl, .inl rfl⟩, ⟨_, rfl, .inl rfl⟩, ⟨_, rfl, .inl rfl⟩, trivial⟩ ⟨rfl, rfl, rfl, trivial⟩ rfl rfl rfl rfl)⟩
  have hr := selF h28 hr
  refine Ok.skip ?_
  exact ⟨s21.2, hr, (Conv.mk (tau []) ⟨⟨_, rfl, .inl rfl⟩, ⟨_, rfl, .inl rfl⟩, ⟨_, rfl, .inl rfl⟩, ⟨_, rfl, .inl rfl⟩, ⟨_, rfl, .inl rfl⟩, ⟨_, rfl, .inl rfl⟩, ⟨_, rfl, .inl rfl⟩, ⟨_, rfl, .inl rfl⟩, ⟨_, rfl, .inl rfl⟩, ⟨_, rfl, .inl rfl⟩, trivial⟩ ⟨rfl, rfl, rfl, trivial⟩ rfl rfl rfl rfl)⟩
  have hr := selF h23 hr
  refine Ok.exit ?_
  exact ⟨s21.2, hr, (Conv.mk (tau []) ⟨⟨_, rfl, .inl rfl⟩, ⟨_, rfl, .inl rfl⟩, ⟨_, rfl, .inl rfl⟩, ⟨_, rfl, .inl rfl⟩, ⟨_, rfl, .inl rfl⟩, ⟨_, rfl, .inl rfl⟩, ⟨_, rfl, .inl rfl⟩, trivial⟩ ⟨rfl, rfl, rfl, trivial⟩ rfl rfl rfl rfl)⟩
  have hr := selF h6 hr
  refine Ok.exit ?_
  exact ⟨s4.1, hr, (Conv.mk (tau [(1035, 1041)]) ⟨⟨_, rfl, .inl rfl⟩, trivial⟩ ⟨rfl, trivial⟩ rfl rfl rfl rfl)⟩
end Go.Proofs.YtobiohcdpfpefaaDoor
end
section
set_option maxRecDepth 100000
namespace Go.Proofs.YtobiohcdpfpefaaDoor
open Go Go.E2
theorem r14_build_B_c (self0 : View → Int → Tree → Option Tree) (hself0 : ∀ (v : View) (parent : Int) (t : Tree) {r : Tree}, self0 v parent t = some r → Con Tryd.prog 37 [.agg [cI v.Kind, cS v.Key, .d (.sl (List.map Attr.cs v.Attrs)), .d (.sl (List.map Action.cs v.Actions)), .d (.sl (List.map View.cs v.Kids))], aI parent, .agg [cI t.Root, cI t.Next, .own 0]] [(0, .vec 7 (List.map Node.cs t.Nodes))] (.s (.agg [cI r.Root, cI r.Next, .own 2000])) [(0, .dead), (2000, .vec 7 (List.map Node.cs r.Nodes))]) (v : View) (parent : Int) (t : Tree) {r : Tree} (hr : r14_build_B self0 v parent t = some r) : Con Tryd.prog 37 [.agg [cI v.Kind, cS v.Key, .d (.sl (List.map Attr.cs v.Attrs)), .d (.sl (List.map Action.cs v.Actions)), .d (.sl (List.map View.cs v.Kids))], aI parent, .agg [cI t.Root, cI t.Next, .own 0]] [(0, .vec 7 (List.map Node.cs t.Nodes))] (.s (.agg [cI r.Root, cI r.Next, .own 2000])) [(0, .dead), (2000, .vec 7 (List.map Node.cs r.Nodes))] := by
  unfold r14_build_B at hr
  refine Con.of_ok 63 0 [.cell 6 57] [(0, .s (.agg [cI v.Kind, cS v.Key, .d (.sl (List.map Attr.cs v.Attrs)), .d (.sl (List.map Action.cs v.Actions)), .d (.sl (List.map View.cs v.Kids))])), (1, .s (aI parent)), (2, .s (.agg [cI t.Root, cI t.Next, .own 0]))] Tryd.func37 rfl rfl rfl rfl rfl rfl rfl rfl fun w g M ρ _ => (Ok.seq (Ok.region (OkOps.m 0 (triBox (j := 1) (cs := [cI v.Kind, cS v.Key, .d (.sl (List.map Attr.cs v.Attrs)), .d (.sl (List.map Action.cs v.Actions)), .d (.sl (List.map View.cs v.Kids))]) rfl rfl rfl rfl rfl) (OkOps.m 0 (triBox (j := 2) (cs := [cI t.Root, cI t.Next, .own 0]) rfl rfl rfl rfl rfl) (OkOps.m 0 (triAlloc (j := 3) (cs := [cI 0, cI 0, .d (.v (.slice none 0 0))]) rfl rfl rfl rfl) (OkOps.nil (Ok.seq (Ok.region (OkOps.y (.c (.loc 2 1)) (OkOps.y (aI t.Next) (OkOps.y (aI t.Next) (OkOps.nil (Ok.seq (Ok.region (OkOps.y (.c (.loc 2 2)) ?_)))))))))))))))
  refine OkOps.y (.c (.own 0)) (OkOps.q (triLenV (enc := Node.cs) t.Nodes rfl rfl rfl rfl) (OkOps.y (aI (t.Nodes.length : Int)) (OkOps.nil (Ok.seq (Ok.region (OkOps.y (.c (.loc 2 2)) (OkOps.y (.c (.own 0)) (OkOps.y (aI t.Next) (OkOps.y (aI parent) (OkOps.y (.c (.loc 1 0)) (OkOps.y (aI v.Kind) (OkOps.y (.c (.loc 1 1)) (OkOps.y (aS v.Key) (OkOps.y (.c (.loc 1 2)) (OkOps.y (.c (.d (.sl (List.map Attr.cs v.Attrs)))) ?_)))))))))))))))
  refine OkOps.y (.c (.loc 1 3)) (OkOps.y (.c (.d (.sl (List.map Action.cs v.Actions)))) (OkOps.y (.agg [cI t.Next, cI parent, cI v.Kind, cS v.Key, .d (.sl (List.map Attr.cs v.Attrs)), .d (.sl (List.map Action.cs v.Actions)), .d (.v (.slice none 0 0))]) (OkOps.m 0 (triBST (sz := 7) (enc := Node.cs) (j := 4) ([(Node.mk t.Next parent v.Kind v.Key v.Attrs v.Actions ([] : (List Int)))]) rfl rfl rfl rfl rfl rfl rfl rfl (fun _ => rfl) trivial rfl rfl) ?_)))
  obtain ⟨x1, hx1, hr⟩ := bind_some hr
  refine OkOps.m2 0 (triAppV (enc := Node.cs) (L := t.Nodes) (X := [(Node.mk t.Next parent v.Kind v.Key v.Attrs v.Actions ([] : (List Int)))]) (j := 0) (j' := 5) hx1 rfl rfl rfl rfl rfl rfl (fun _ => rfl) (fun _ => rfl) trivial rfl rfl) (OkOps.y (.c (.loc 2 2)) (OkOps.w (triStoreF (cs' := [cI t.Root, cI t.Next, .own 5]) rfl rfl rfl rfl rfl rfl rfl rfl) (OkOps.nil (Ok.seq (Ok.region (OkOps.y (.c (.loc 2 1)) (OkOps.y (aI t.Next) (OkOps.y (aI (IntKind.i64.wrap (t.Next + 1))) (OkOps.y (.c (.loc 2 1)) (OkOps.w (triStore (cs' := [cI t.Root, cI (IntKind.i64.wrap (t.Next + 1)), .own 5]) rfl rfl rfl rfl rfl rfl rfl rfl rfl) (OkOps.nil (Ok.seq (Ok.region (OkOps.y (.c (.d (.v (.slice none 0 0)))) (OkOps.nil ?_)))))))))))))))
  obtain ⟨k3, hk3, hr⟩ := jn_some hr
  refine Ok.join (fun (s2 : (List Int) × Int × Int × (List Node)) => ⟨[(5, .s (.c (.loc 2 0))), (6, .s (.c (.loc 3 0))), (8, .s (aI (t.Nodes.length : Int))), (9, .s (.c (.tl 1007 (List.map (eInt .i64) s2.1))))], [(0, .dead), (2, .blk [cI s2.2.1, cI s2.2.2.1, .own 1008] 57), (3, .blk [cI 0, cI 0, .d (.v (.slice none 0 0))] 57), (1007, .tail 1), (1008, .vec 7 (List.map Node.cs s2.2.2.2))], 0⟩) k3 r (fun s2 hr => ?_) ?_
  rw [hk3] at hr
  refine Ok.seq (Ok.region (OkOps.y (.c (.loc 2 2)) (OkOps.y (.c (.own 1008)) (OkOps.y (aI (t.Nodes.length : Int)) (OkOps.y (.c (.tl 1007 (List.map (eInt .i64) s2.1))) ?_)))))
  obtain ⟨x4, hx4, hr⟩ := bind_some hr
  refine OkOps.q (triIdxV (enc := Node.cs) (L := s2.2.2.2) hx4 rfl rfl rfl rfl trivial rfl) (OkOps.q (triFldV (o := 6) (enc := Node.cs) (L := s2.2.2.2) rfl rfl rfl (by have := (ixO_spec hx4).2; omega) rfl) ?_)
  obtain ⟨x5, hx5, hr⟩ := bind_some hr
  refine OkOps.w (triStoreVF (n := 1) (enc := Node.cs) (L := s2.2.2.2) (z := (Node.mk x5.ID x5.Parent x5.Kind x5.Key x5.Attrs x5.Actions s2.1)) hx5 rfl rfl rfl rfl rfl rfl rfl rfl (by decide) (fun _ => rfl) rfl) (OkOps.nil (Ok.seq (Ok.region (OkOps.y (.agg [cI s2.2.1, cI s2.2.2.1, .own 1008]) (OkOps.w (triStoreF (cs' := [cI s2.2.1, cI s2.2.2.1, .own 1008]) rfl rfl rfl rfl rfl rfl rfl rfl) (OkOps.nil (Ok.conv (T := ⟨[(6, .s (.c (.loc 3 0)))], [(0, .dead), (3, .blk [cI s2.2.1, cI s2.2.2.1, .own 2000] 57), (2000, .vec 7 (List.map Node.cs (List.set s2.2.2.2 x4 (Node.mk x5.ID x5.Parent x5.Kind x5.Key x5.Attrs x5.Actions s2.1))))], 0⟩) (Conv.mk (tau [(2000, 1008)]) ⟨⟨_, rfl, .inl rfl⟩, trivial⟩ ⟨rfl, rfl, trivial⟩ rfl rfl rfl rfl) (Ok.ret ?_))))))))
  obtain rfl := Option.some.inj hr
  exact ⟨_, rfl, .inl rfl, ⟨(fun h => by cases h), rfl, trivial⟩⟩
  clear hk3
  refine Ok.seq (Ok.region (OkOps.y (aI 0) (OkOps.nil (Ok.block (Ok.loopK (fun (s6 : (List Int) × Int × Int × Int × (List Node)) => ⟨[(3, .s (.c (.loc 1 0))), (5, .s (.c (.loc 2 0))), (6, .s (.c (.loc 3 0))), (7, .s (aI t.Next)), (8, .s (aI (t.Nodes.length : Int))), (9, .s (.c (.tl 1012 (List.map (eInt .i64) s6.1)))), (10, .s (aI s6.2.1))], [(0, .dead), (1, .blk [cI v.Kind, cS v.Key, .d (.sl (List.map Attr.cs v.Attrs)), .d (.sl (List.map Action.cs v.Actions)), .d (.sl (List.map View.cs v.Kids))] 54), (2, .blk [cI s6.2.2.1, cI s6.2.2.2.1, .own 1013] 57), (3, .blk [cI 0, cI 0, .d (.v (.slice none 0 0))] 57), (1012, .tail 1), (1013, .vec 7 (List.map Node.cs s6.2.2.2.2))], 0⟩) hr (Conv.trans (Conv.nil 9 1016 1 0 rfl rfl) (Conv.mk (tau [(1012, 1016), (1013, 5)]) ⟨⟨_, rfl, .inl rfl⟩, ⟨_, rfl, .inl rfl⟩, ⟨_, rfl, .inl rfl⟩, ⟨_, rfl, .inl rfl⟩, ⟨_, rfl, .inl rfl⟩, ⟨_, rfl, .inl rfl⟩, ⟨_, rfl, .inl rfl⟩, trivial⟩ ⟨rfl, rfl, rfl, rfl, rfl, trivial⟩ rfl rfl rfl rfl)) ?_)))))
  clear hr
  intro again7 s6 hr
  unfold r14_build_L1 at hr
  refine Ok.seq (Ok.seq (Ok.region (OkOps.y (aI s6.2.1) (OkOps.y (.c (.loc 1 4)) (OkOps.y (.c (.d (.sl (List.map View.cs v.Kids)))) (OkOps.q (triLen (enc := View.cs) v.Kids rfl rfl trivial rfl) (OkOps.y (aB (decide (s6.2.1 < (v.Kids.length : Int)))) (OkOps.nil ?_))))))))
  refine Ok.cond (b := decide (s6.2.1 < (v.Kids.length : Int))) rfl (fun h8 => ?_) (fun h8 => ?_)
  have hr := selT h8 hr
  refine Ok.skip (Ok.seq (Ok.block (Ok.seq (Ok.region (OkOps.y (.c (.tl 1012 (List.map (eInt .i64) s6.1))) (OkOps.y (.c (.loc 2 1)) (OkOps.y (aI s6.2.2.2.1) (OkOps.m 0 (triBST (sz := 1) (enc := (eInt .i64)) (j := 6) ([s6.2.2.2.1]) rfl rfl rfl rfl rfl rfl rfl rfl (fun _ => rfl) trivial rfl rfl) ?_))))))))
  obtain ⟨x9, hx9, hr⟩ := bind_some hr
  refine OkOps.m2 0 (triApp (enc := (eInt .i64)) (L := s6.1) (X := [s6.2.2.2.1]) (j := 1012) (j' := 7) hx9 rfl rfl rfl rfl rfl rfl (fun _ => rfl) (fun _ => rfl) (by decide) trivial rfl rfl) (OkOps.y (.c (.tl 7 (List.map (eInt .i64) x9))) (OkOps.nil (Ok.regionD (by kernel_rfl) (OkD.x (.c (.loc 1 4)) rfl trivial rfl (OkD.x (.c (.d (.sl (List.map View.cs v.Kids)))) rfl trivial rfl (OkD.x (aI s6.2.1) rfl trivial rfl ?_))))))
  obtain ⟨x10, hx10, hr⟩ := bind_some hr
  refine OkD.q (triIdx (enc := View.cs) (L := v.Kids) (row := [dI x10.Kind, dS x10.Key, .sl (List.map Attr.cs x10.Attrs), .sl (List.map Action.cs x10.Actions), .sl (List.map View.cs x10.Kids)]) hx10 (View.cs_eq _) rfl rfl rfl (fun x => by rw [View.cs_eq]; rfl) trivial rfl) ?_
  refine OkD.x (.agg [cI x10.Kind, cS x10.Key, .d (.sl (List.map Attr.cs x10.Attrs)), .d (.sl (List.map Action.cs x10.Actions)), .d (.sl (List.map View.cs x10.Kids))]) rfl trivial rfl (OkD.x (aI t.Next) rfl trivial rfl (OkD.x (.agg [cI s6.2.2.1, cI s6.2.2.2.1, .own 1013]) rfl trivial rfl ?_))
  obtain ⟨x11, hx11, hr⟩ := bind_some hr
  refine OkD.m2 0 (triCall (tau [(0, 1013), (2000, 8)]) (.s (.agg [cI x11.Root, cI x11.Next, .own 8])) [(1013, .dead), (8, .vec 7 (List.map Node.cs x11.Nodes))] (hself0 _ _ _ hx11) rfl ⟨.inl rfl, .inl rfl, .inl rfl, trivial⟩ trivial entry37 ⟨rfl, trivial⟩ rfl rfl rfl rfl ⟨rfl, trivial⟩ rfl rfl rfl) (OkD.w (triStoreF (cs' := [cI x11.Root, cI x11.Next, .own 8]) rfl rfl rfl rfl rfl rfl rfl rfl) (OkD.nil (by kernel_rfl) (Ok.region (OkOps.y (aI s6.2.1) (OkOps.y (aI (IntKind.i64.wrap (s6.2.1 + 1))) (OkOps.y (aI (IntKind.i64.wrap (s6.2.1 + 1))) (OkOps.nil ?_)))))))
  exact ⟨(x9, IntKind.i64.wrap (s6.2.1 + 1), x11.Root, x11.Next, x11.Nodes), hr, (Conv.mk (tau [(1012, 7), (1013, 8)]) ⟨⟨_, rfl, .inl rfl⟩, ⟨_, rfl, .inl rfl⟩, ⟨_, rfl, .inl rfl⟩, ⟨_, rfl, .inl rfl⟩, ⟨_, rfl, .inl rfl⟩, ⟨_, rfl, .inl rfl⟩, ⟨_, rfl, .inl rfl⟩, trivial⟩ ⟨rfl, rfl, rfl, rfl, rfl, trivial⟩ rfl rfl rfl rfl)⟩
  have hr := selF h8 hr
  refine Ok.exit ?_
  exact ⟨(s6.1, s6.2.2.1, s6.2.2.2.1, s6.2.2.2.2), hr, (Conv.mk (tau [(1007, 1012), (1008, 1013)]) ⟨⟨_, rfl, .inl rfl⟩, ⟨_, rfl, .inl rfl⟩, ⟨_, rfl, .inl rfl⟩, ⟨_, rfl, .inl rfl⟩, trivial⟩ ⟨rfl, rfl, rfl, rfl, trivial⟩ rfl rfl rfl rfl)⟩
theorem r14_build_all : ∀ n : Nat, (∀ (v : View) (parent : Int) (t : Tree) {r : Tree}, r14_build n v parent t = some r → Con Tryd.prog 37 [.agg [cI v.Kind, cS v.Key, .d (.sl (List.map Attr.cs v.Attrs)), .d (.sl (List.map Action.cs v.Actions)), .d (.sl (List.map View.cs v.Kids))], aI parent, .agg [cI t.Root, cI t.Next, .own 0]] [(0, .vec 7 (List.map Node.cs t.Nodes))] (.s (.agg [cI r.Root, cI r.Next, .own 2000])) [(0, .dead), (2000, .vec 7 (List.map Node.cs r.Nodes))]) ∧ True := by
  intro n
  induction n with
  | zero => exact ⟨(by intros; rename_i hr; cases hr), trivial⟩
  | succ n ih => exact ⟨(by intros; rename_i hr; exact r14_build_B_c _ ih.1 _ _ _ hr), trivial⟩
theorem r14_build_c (n : Nat) (v : View) (parent : Int) (t : Tree) {r : Tree} (hr : r14_build n v parent t = some r) : Con Tryd.prog 37 [.agg [cI v.Kind, cS v.Key, .d (.sl (List.map Attr.cs v.Attrs)), .d (.sl (List.map Action.cs v.Actions)), .d (.sl (List.map View.cs v.Kids))], aI parent, .agg [cI t.Root, cI t.Next, .own 0]] [(0, .vec 7 (List.map Node.cs t.Nodes))] (.s (.agg [cI r.Root, cI r.Next, .own 2000])) [(0, .dead), (2000, .vec 7 (List.map Node.cs r.Nodes))] := (r14_build_all n).1 v parent t hr
theorem r14_Build_c (v : View) (next : Int) {r : Tree × Int} (hr : r14_Build v next = some r) : Con Tryd.prog 19 [.agg [cI v.Kind, cS v.Key, .d (.sl (List.map Attr.cs v.Attrs)), .d (.sl (List.map Action.cs v.Actions)), .d (.sl (List.map View.cs v.Kids))], aI next] [] (.tup [.agg [cI r.1.Root, cI r.1.Next, .d (.sl (List.map Node.cs r.1.Nodes))], aI r.2]) [] := by
  unfold r14_Build at hr
  refine Con.of_ok 27 0 [.cell 4 57, .tmp 5] [(0, .s (.agg [cI v.Kind, cS v.Key, .d (.sl (List.map Attr.cs v.Attrs)), .d (.sl (List.map Action.cs v.Actions)), .d (.sl (List.map View.cs v.Kids))])), (1, .s (aI next))] Tryd.func19 rfl rfl rfl rfl rfl rfl rfl rfl fun w g M ρ _ => (Ok.seq (Ok.region (OkOps.m 0 (triBox (j := 0) (cs := [cI v.Kind, cS v.Key, .d (.sl (List.map Attr.cs v.Attrs)), .d (.sl (List.map Action.cs v.Actions)), .d (.sl (List.map View.cs v.Kids))]) rfl rfl rfl rfl rfl) (OkOps.m 0 (triAlloc (j := 1) (cs := [cI 0, cI 0, .d (.v (.slice none 0 0))]) rfl rfl rfl rfl) (OkOps.y (aI 0) (OkOps.nil (Ok.seq (Ok.seq (Ok.region (OkOps.y (.agg [cI v.Kind, cS v.Key, .d (.sl (List.map Attr.cs v.Attrs)), .d (.sl (List.map Action.cs v.Actions)), .d (.sl (List.map View.cs v.Kids))]) ?_))))))))))
  obtain ⟨x1, hx1, hr⟩ := bind_some hr
  refine OkOps.q (triCl (tau []) (.s (aI x1)) [] (r14_Validate_c _ hx1) rfl ⟨.inl rfl, trivial⟩ trivial entry36 trivial) (OkOps.y (aI x1) (OkOps.nil (Ok.seq (Ok.region (OkOps.y (aI x1) (OkOps.y (aB (x1 != 0)) (OkOps.nil ?_)))))))
  refine Ok.cond (b := x1 != 0) rfl (fun h2 => ?_) (fun h2 => ?_)
  have hr := selT h2 hr
  refine Ok.seq (Ok.region (OkOps.y (.agg [cI 0, cI 0, .d (.v (.slice none 0 0))]) (OkOps.y (aI x1) (OkOps.w (triStore (cs' := [cI 0, cI 0, .d (.v (.slice none 0 0))]) rfl rfl rfl rfl rfl rfl rfl rfl rfl) (OkOps.y (aI x1) (OkOps.nil (Ok.ret ?_)))))))
  obtain rfl := Option.some.inj hr
  exact ⟨_, rfl, .inr rfl, trivial⟩
  have hr := selF h2 hr
  refine Ok.skip (Ok.seq (Ok.seq (Ok.region (OkOps.y (aI next) (OkOps.y (aB (decide (next < 1))) (OkOps.y (aB (decide (next < 1))) (OkOps.q (triQG (x := aI next) rfl rfl trivial rfl) (OkOps.q (triQG (x := aB (decide (next > 1099511627376))) rfl rfl ⟨fun h => h, trivial⟩ rfl) ?_))))))))
  refine OkOps.q (triOr rfl rfl (fun h => by rw [h]; rfl) rfl) ?_
  refine OkOps.nil ?_
  refine Ok.cond (b := (decide (next < 1)) || (decide (next > 1099511627376))) rfl (fun h3 => ?_) (fun h3 => ?_)
  have hr := selT h3 hr
  refine Ok.seq (Ok.region (OkOps.y (.agg [cI 0, cI 0, .d (.v (.slice none 0 0))]) (OkOps.w (triStore (cs' := [cI 0, cI 0, .d (.v (.slice none 0 0))]) rfl rfl rfl rfl rfl rfl rfl rfl rfl) (OkOps.y (aI 1) (OkOps.nil (Ok.ret ?_))))))
  obtain rfl := Option.some.inj hr
  exact ⟨_, rfl, .inr rfl, trivial⟩
  have hr := selF h3 hr
  refine Ok.skip (Ok.seq (Ok.region (OkOps.y (aI next) (OkOps.y (aI next) (OkOps.y (.agg [cI next, cI next, .d (.v (.slice none 0 0))]) (OkOps.m 0 (triAlloc (j := 2) (cs := [cI 0, cI 0, .d (.v (.slice none 0 0))]) rfl rfl rfl rfl) (OkOps.w (triStore (cs' := [cI next, cI next, .d (.v (.slice none 0 0))]) rfl rfl rfl rfl rfl rfl rfl rfl rfl) (OkOps.nil (Ok.seq (Ok.region (OkOps.y (.agg [cI v.Kind, cS v.Key, .d (.sl (List.map Attr.cs v.Attrs)), .d (.sl (List.map Action.cs v.Actions)), .d (.sl (List.map View.cs v.Kids))]) (OkOps.y (.agg [cI next, cI next, .d (.v (.slice none 0 0))]) (OkOps.conv (Conv.nilAg 25 2 3 (.vec 7 (List.map Node.cs ([] : (List Node)))) (.own 3) [cI next, cI next, .d (.v (.slice none 0 0))] [cI next, cI next, .own 3] 0 rfl rfl rfl rfl (nil_vec Node.cs 7 3) (fun _ _ h => h.symm)) ?_)))))))))))))
  obtain ⟨x4, hx4, hr⟩ := bind_some hr
  refine OkOps.m2 0 (triCall (tau [(0, 3), (2000, 4)]) (.s (.agg [cI x4.Root, cI x4.Next, .own 4])) [(3, .dead), (4, .vec 7 (List.map Node.cs x4.Nodes))] (r14_build_c _ _ _ _ hx4) rfl ⟨.inl rfl, .inl rfl, .inl rfl, trivial⟩ trivial entry37 ⟨rfl, trivial⟩ rfl rfl rfl rfl ⟨rfl, trivial⟩ rfl rfl rfl) (OkOps.w (triStoreF (cs' := [cI x4.Root, cI x4.Next, .own 4]) rfl rfl rfl rfl rfl rfl rfl rfl) (OkOps.y (aI 0) (OkOps.nil (Ok.conv (Conv.freezeV (enc := Node.cs) (L := x4.Nodes) [(26, .s (.agg [cI x4.Root, cI x4.Next, .d (.sl (List.map Node.cs x4.Nodes))]))] [(1, .blk [cI x4.Root, cI x4.Next, .d (.sl (List.map Node.cs x4.Nodes))] 57)] 4 0 rfl (fun _ => rfl) ⟨⟨_, rfl, rfl⟩, trivial⟩ ⟨⟨_, _, rfl, rfl⟩, trivial⟩) (Ok.ret ?_)))))
  obtain rfl := Option.some.inj hr
  exact ⟨_, rfl, .inl rfl, trivial⟩
end Go.Proofs.YtobiohcdpfpefaaDoor
end
section
set_option maxRecDepth 100000
namespace Go.Proofs.YtobiohcdpfpefaaDoor
open Go Go.E2
theorem l32_ShortcutScopes_c (depth : Int) (dialog : Bool) (disabled : Bool) (hidden : Bool) {r : Bool} (hr : l32_ShortcutScopes depth dialog disabled hidden = some r) : Con Tryd.prog 6 [.c (.d (.v (.int .u8 depth))), aB dialog, aB disabled, aB hidden] [] (.s (aB r)) [] := by
  unfold l32_ShortcutScopes at hr
  refine Con.of_ok 118 0 [.tmp 8] [(0, .s (.c (.d (.v (.int .u8 depth))))), (1, .s (aB dialog)), (2, .s (aB disabled)), (3, .s (aB hidden))] Tryd.func6 rfl rfl rfl rfl rfl rfl rfl rfl fun w g M ρ _ => (Ok.seq (Ok.region (OkOps.y (aB false) (OkOps.nil (Ok.seq (Ok.region (OkOps.y (.c (.d (.v (.int .u8 depth)))) (OkOps.y (.c (.d (.v (.int .u8 (depth.tmod 5))))) (OkOps.y (aI (IntKind.i64.wrap (depth.tmod 5))) (OkOps.y (aI (IntKind.i64.wrap (depth.tmod 5))) (OkOps.nil (Ok.seq (Ok.region (OkOps.y (.agg [cI 3, cI 0, cS (ByteArray.mk #[99, 116, 114, 108, 43, 115]), .d (.v (.slice none 0 0))]) (OkOps.y (.agg [cS (ByteArray.mk #[115, 104, 111, 114, 116, 99, 117, 116]), cI 3, cI 0, cS (ByteArray.mk #[99, 116, 114, 108, 43, 115]), .d (.v (.slice none 0 0))]) ?_)))))))))))))))
  refine OkOps.m 0 (triBST (sz := 5) (enc := Attr.cs) (j := 0) ([(Attr.mk (ByteArray.mk #[115, 104, 111, 114, 116, 99, 117, 116]) (AValue.mk 3 0 (ByteArray.mk #[99, 116, 114, 108, 43, 115]) ([] : (List AValue))))]) rfl rfl rfl rfl rfl rfl rfl rfl (fun _ => rfl) trivial rfl rfl) (OkOps.y (.c (.tl 0 (List.map Attr.cs ([(Attr.mk (ByteArray.mk #[115, 104, 111, 114, 116, 99, 117, 116]) (AValue.mk 3 0 (ByteArray.mk #[99, 116, 114, 108, 43, 115]) ([] : (List AValue))))])))) (OkOps.nil (Ok.seq (Ok.region (OkOps.y (.c (.tl 0 (List.map Attr.cs ([(Attr.mk (ByteArray.mk #[115, 104, 111, 114, 116, 99, 117, 116]) (AValue.mk 3 0 (ByteArray.mk #[99, 116, 114, 108, 43, 115]) ([] : (List AValue))))])))) (OkOps.y (.agg [cI 3, cS ByteArray.empty, .tl 0 (List.map Attr.cs ([(Attr.mk (ByteArray.mk #[115, 104, 111, 114, 116, 99, 117, 116]) (AValue.mk 3 0 (ByteArray.mk #[99, 116, 114, 108, 43, 115]) ([] : (List AValue))))])), .d (.v (.slice none 0 0)), .d (.v (.slice none 0 0))]) (OkOps.m 0 (triAlloc (j := 1) (cs := [cI 0, cS ByteArray.empty, .d (.v (.slice none 0 0)), .d (.v (.slice none 0 0)), .d (.v (.slice none 0 0))]) rfl rfl rfl rfl) (OkOps.w (triStore (cs' := [cI 3, cS ByteArray.empty, .tl 0 (List.map Attr.cs ([(Attr.mk (ByteArray.mk #[115, 104, 111, 114, 116, 99, 117, 116]) (AValue.mk 3 0 (ByteArray.mk #[99, 116, 114, 108, 43, 115]) ([] : (List AValue))))])), .d (.v (.slice none 0 0)), .d (.v (.slice none 0 0))]) rfl rfl rfl rfl rfl rfl rfl rfl rfl) (OkOps.nil ?_)))))))))
  obtain ⟨k2, hk2, hr⟩ := jn_some hr
  refine Ok.join (fun (s1 : (List Attr)) => ⟨[(1, .s (aB dialog)), (2, .s (aB disabled)), (3, .s (aB hidden)), (9, .s (aI (IntKind.i64.wrap (depth.tmod 5)))), (10, .s (.c (.tl 0 (List.map Attr.cs ([(Attr.mk (ByteArray.mk #[115, 104, 111, 114, 116, 99, 117, 116]) (AValue.mk 3 0 (ByteArray.mk #[99, 116, 114, 108, 43, 115]) ([] : (List AValue))))]))))), (11, .s (.c (.loc 1 0)))], [(0, .tail 5), (1, .blk [cI 3, cS ByteArray.empty, .d (.sl (List.map Attr.cs s1)), .d (.sl (List.map Action.cs ([] : (List Action)))), .d (.sl (List.map View.cs ([] : (List View))))] 54)], 0⟩) k2 r (fun s1 hr => ?_) ?_
  rw [hk2] at hr
  obtain ⟨k4, hk4, hr⟩ := jn_some hr
  refine Ok.join (fun (s3 : (List Attr)) => ⟨[(1, .s (aB dialog)), (2, .s (aB disabled)), (3, .s (aB hidden)), (9, .s (aI (IntKind.i64.wrap (depth.tmod 5)))), (11, .s (.c (.loc 1 0)))], [(1, .blk [cI 3, cS ByteArray.empty, .d (.sl (List.map Attr.cs s3)), .d (.sl (List.map Action.cs ([] : (List Action)))), .d (.sl (List.map View.cs ([] : (List View))))] 54)], 0⟩) k4 r (fun s3 hr => ?_) ?_
  rw [hk4] at hr
  obtain ⟨k6, hk6, hr⟩ := jn_some hr
  refine Ok.join (fun (s5 : Int × (List Attr) × (List Action) × (List View)) => ⟨[(1, .s (aB dialog)), (2, .s (aB disabled)), (3, .s (aB hidden)), (9, .s (aI (IntKind.i64.wrap (depth.tmod 5)))), (11, .s (.c (.loc 1 0)))], [(1, .blk [cI s5.1, cS ByteArray.empty, .d (.sl (List.map Attr.cs s5.2.1)), .d (.sl (List.map Action.cs s5.2.2.1)), .d (.sl (List.map View.cs s5.2.2.2))] 54)], 0⟩) k6 r (fun s5 hr => ?_) ?_
  rw [hk6] at hr
  refine Ok.seq (Ok.region (OkOps.y (.agg [cI s5.1, cS ByteArray.empty, .d (.sl (List.map Attr.cs s5.2.1)), .d (.sl (List.map Action.cs s5.2.2.1)), .d (.sl (List.map View.cs s5.2.2.2))]) ?_))
  obtain ⟨x7, hx7, hr⟩ := bind_some hr
  refine OkOps.q (triCl (tau []) (.tup [.agg [cI x7.1.Root, cI x7.1.Next, .d (.sl (List.map Node.cs x7.1.Nodes))], aI x7.2]) [] (r14_Build_c _ _ hx7) rfl ⟨.inl rfl, .inl rfl, trivial⟩ trivial entry19 trivial) (OkOps.q (triMv (v := .tup [.agg [cI x7.1.Root, cI x7.1.Next, .d (.sl (List.map Node.cs x7.1.Nodes))], aI x7.2]) rfl rfl) (OkOps.y (.agg [cI x7.1.Root, cI x7.1.Next, .d (.sl (List.map Node.cs x7.1.Nodes))]) (OkOps.y (aI x7.2) (OkOps.m 0 (triAlloc (j := 2) (cs := [cI 0, cI 0, .d (.v (.slice none 0 0))]) rfl rfl rfl rfl) (OkOps.w (triStore (cs' := [cI x7.1.Root, cI x7.1.Next, .d (.sl (List.map Node.cs x7.1.Nodes))]) rfl rfl rfl rfl rfl rfl rfl rfl rfl) (OkOps.y (aI x7.2) (OkOps.nil (Ok.seq (Ok.seq (Ok.region (OkOps.y (aI x7.2) (OkOps.y (aB (x7.2 != 0)) (OkOps.nil ?_)))))))))))))
  refine Ok.cond (b := x7.2 != 0) rfl (fun h8 => ?_) (fun h8 => ?_)
  have hr := selT h8 hr
  refine Ok.seq (Ok.region (OkOps.y (aB false) (OkOps.nil (Ok.ret ?_))))
  obtain rfl := Option.some.inj hr
  exact ⟨_, rfl, .inl rfl, trivial⟩
  have hr := selF h8 hr
  refine Ok.skip (Ok.seq (Ok.region (OkOps.y (.c (.d (.v (.slice none 0 0)))) (OkOps.nil ?_))))
  obtain ⟨k10, hk10, hr⟩ := jn_some hr
  refine Ok.join (fun (s9 : (List Styled)) => ⟨[(1, .s (aB dialog)), (2, .s (aB disabled)), (3, .s (aB hidden)), (9, .s (aI (IntKind.i64.wrap (depth.tmod 5)))), (13, .s (.c (.loc 2 0))), (15, .s (.c (.tl 1006 (List.map Styled.cs s9))))], [(2, .blk [cI x7.1.Root, cI x7.1.Next, .d (.sl (List.map Node.cs x7.1.Nodes))] 57), (1006, .tail 23)], 0⟩) k10 r (fun s9 hr => ?_) ?_
  rw [hk10] at hr
  refine Ok.seq (Ok.region (OkOps.y (.agg [cI x7.1.Root, cI x7.1.Next, .d (.sl (List.map Node.cs x7.1.Nodes))]) (OkOps.y (.c (.tl 1006 (List.map Styled.cs s9))) ?_)))
  obtain ⟨x11, hx11, hr⟩ := bind_some hr
  refine OkOps.q (triCl (tau []) (.s (.c (.d (.sl (List.map Shortcut.cs x11))))) [] (sc_Collect_c _ _ hx11) rfl ⟨.inl rfl, .inr rfl, trivial⟩ trivial entry21 trivial) (OkOps.y (.c (.d (.sl (List.map Shortcut.cs x11)))) (OkOps.nil (Ok.seq (Ok.seq (Ok.region (OkOps.y (aB hidden) (OkOps.y (aB hidden) (OkOps.q (triQG (x := aB disabled) rfl rfl trivial rfl) ?_))))))))
  refine OkOps.q (triOr rfl rfl (fun h => by rw [h]; rfl) rfl) ?_
  refine OkOps.nil ?_
  refine Ok.cond (b := hidden || disabled) rfl (fun h12 => ?_) (fun h12 => ?_)
  have hr := selT h12 hr
  refine Ok.seq (Ok.region (OkOps.y (.c (.d (.sl (List.map Shortcut.cs x11)))) (OkOps.q (triLen (enc := Shortcut.cs) x11 rfl rfl trivial rfl) (OkOps.y (aB ((x11.length : Int) == 0)) (OkOps.y (aB ((x11.length : Int) == 0)) ?_)))))
  obtain ⟨x13, hx13, hr⟩ := bind_some hr
  refine OkOps.q (triCallG (x := aB x13) (fun hg => l32_awake_c  (gO_t hx13 hg)) rfl rfl trivial trivial entry16 rfl rfl rfl) (OkOps.q (triAnd rfl rfl (fun h => h) rfl) (OkOps.y (aB (((x11.length : Int) == 0) && x13)) (OkOps.nil (Ok.ret ?_))))
  obtain rfl := Option.some.inj hr
  exact ⟨_, rfl, .inl rfl, trivial⟩
  have hr := selF h12 hr
  refine Ok.skip (Ok.seq (Ok.region (OkOps.y (aI 1) (OkOps.nil ?_))))
  obtain ⟨k15, hk15, hr⟩ := jn_some hr
  refine Ok.join (fun (s14 : Int) => ⟨[(9, .s (aI (IntKind.i64.wrap (depth.tmod 5)))), (17, .s (.c (.d (.sl (List.map Shortcut.cs x11))))), (18, .s (aI s14))], [], 0⟩) k15 r (fun s14 hr => ?_) ?_
  rw [hk15] at hr
  refine Ok.seq (Ok.region (OkOps.y (.c (.d (.sl (List.map Shortcut.cs x11)))) (OkOps.q (triLen (enc := Shortcut.cs) x11 rfl rfl trivial rfl) (OkOps.y (aB ((x11.length : Int) == 1)) (OkOps.y (aB ((x11.length : Int) == 1)) (OkOps.q (triQG (x := .c (.d (.sl (List.map Shortcut.cs x11)))) rfl rfl trivial rfl) ?_))))))
  obtain ⟨x16, hx16, hr⟩ := bind_some hr
  refine OkOps.q (triIdxG (enc := Shortcut.cs) (L := x11) (row := [dI x16.Node, dI x16.Scope, .sl (List.map Chord.cs x16.Keys)]) (gO_t hx16) rfl rfl rfl rfl rfl (fun _ => rfl) ⟨fun h => h, trivial⟩ rfl) (OkOps.q (triQG (x := .c (.pt [dI x16.Node, dI x16.Scope, .sl (List.map Chord.cs x16.Keys)])) rfl rfl ⟨fun h => h, trivial⟩ rfl) (OkOps.q (triQG (x := aI x16.Node) rfl rfl ⟨fun h => h, trivial⟩ rfl) (OkOps.q (triQG (x := aI (IntKind.i64.wrap (depth.tmod 5))) rfl rfl trivial rfl) (OkOps.q (triQG (x := aI (IntKind.i64.wrap ((IntKind.i64.wrap (depth.tmod 5)) + 1))) rfl rfl ⟨fun h => h, trivial⟩ rfl) (OkOps.q (triQG (x := aB (x16.Node == (IntKind.i64.wrap ((IntKind.i64.wrap (depth.tmod 5)) + 1)))) rfl rfl ⟨fun h => h, ⟨fun h => h, trivial⟩⟩ rfl) (OkOps.q (triAnd rfl rfl (fun h => h) rfl) (OkOps.y (aB (((x11.length : Int) == 1) && (x16.Node == (IntKind.i64.wrap ((IntKind.i64.wrap (depth.tmod 5)) + 1))))) (OkOps.q (triQG (x := .c (.d (.sl (List.map Shortcut.cs x11)))) rfl rfl trivial rfl) ?_))))))))
  obtain ⟨x17, hx17, hr⟩ := bind_some hr
  refine OkOps.q (triIdxG (enc := Shortcut.cs) (L := x11) (row := [dI x17.Node, dI x17.Scope, .sl (List.map Chord.cs x17.Keys)]) (gO_t hx17) rfl rfl rfl rfl rfl (fun _ => rfl) ⟨fun h => h, trivial⟩ rfl) (OkOps.q (triQG (x := .c (.pt [dI x17.Scope, .sl (List.map Chord.cs x17.Keys)])) rfl rfl ⟨fun h => h, trivial⟩ rfl) (OkOps.q (triQG (x := aI x17.Scope) rfl rfl ⟨fun h => h, trivial⟩ rfl) (OkOps.q (triQG (x := aI s14) rfl rfl trivial rfl) (OkOps.q (triQG (x := aB (x17.Scope == s14)) rfl rfl ⟨fun h => h, ⟨fun h => h, trivial⟩⟩ rfl) (OkOps.q (triAnd rfl rfl (fun h => h) rfl) (OkOps.y (aB ((((x11.length : Int) == 1) && (x16.Node == (IntKind.i64.wrap ((IntKind.i64.wrap (depth.tmod 5)) + 1)))) && (x17.Scope == s14))) ?_))))))
  obtain ⟨x18, hx18, hr⟩ := bind_some hr
  refine OkOps.q (triCallG (x := aB x18) (fun hg => l32_awake_c  (gO_t hx18 hg)) rfl rfl trivial trivial entry16 rfl rfl rfl) (OkOps.q (triAnd rfl rfl (fun h => h) rfl) (OkOps.y (aB (((((x11.length : Int) == 1) && (x16.Node == (IntKind.i64.wrap ((IntKind.i64.wrap (depth.tmod 5)) + 1)))) && (x17.Scope == s14)) && x18)) (OkOps.nil (Ok.ret ?_))))
  obtain rfl := Option.some.inj hr
  exact ⟨_, rfl, .inl rfl, trivial⟩
  clear hk15
  refine Ok.seq (Ok.region (OkOps.y (aB dialog) (OkOps.y (aB dialog) (OkOps.q (triQG (x := aI (IntKind.i64.wrap (depth.tmod 5))) rfl rfl trivial rfl) (OkOps.q (triQG (x := aB (decide ((IntKind.i64.wrap (depth.tmod 5)) > 0))) rfl rfl ⟨fun h => h, trivial⟩ rfl) (OkOps.q (triAnd rfl rfl (fun h => h) rfl) (OkOps.nil ?_)))))))
  refine Ok.cond (b := dialog && (decide ((IntKind.i64.wrap (depth.tmod 5)) > 0))) rfl (fun h19 => ?_) (fun h19 => ?_)
  have hr := selT h19 hr
  refine Ok.region (OkOps.y (aI (IntKind.i64.wrap (depth.tmod 5))) (OkOps.y (aI (IntKind.i64.wrap (depth.tmod 5))) (OkOps.nil ?_)))
  exact ⟨IntKind.i64.wrap (depth.tmod 5), hr, (Conv.mk (tau []) ⟨⟨_, rfl, .inl rfl⟩, ⟨_, rfl, .inl rfl⟩, ⟨_, rfl, .inl rfl⟩, trivial⟩ trivial rfl rfl rfl rfl)⟩
  have hr := selF h19 hr
  refine Ok.skip ?_
  exact ⟨1, hr, (Conv.mk (tau []) ⟨⟨_, rfl, .inl rfl⟩, ⟨_, rfl, .inl rfl⟩, ⟨_, rfl, .inl rfl⟩, trivial⟩ trivial rfl rfl rfl rfl)⟩
  clear hk10
  refine Ok.seq (Ok.region (OkOps.y (aI 0) (OkOps.nil (Ok.block (Ok.loopK (fun (s20 : (List Styled) × Int) => ⟨[(1, .s (aB dialog)), (2, .s (aB disabled)), (3, .s (aB hidden)), (9, .s (aI (IntKind.i64.wrap (depth.tmod 5)))), (13, .s (.c (.loc 2 0))), (15, .s (.c (.tl 1009 (List.map Styled.cs s20.1)))), (16, .s (aI s20.2))], [(2, .blk [cI x7.1.Root, cI x7.1.Next, .d (.sl (List.map Node.cs x7.1.Nodes))] 57), (1009, .tail 23)], 0⟩) hr (Conv.trans (Conv.nil 15 1011 23 0 rfl rfl) (Conv.mk (tau [(1009, 1011)]) ⟨⟨_, rfl, .inl rfl⟩, ⟨_, rfl, .inl rfl⟩, ⟨_, rfl, .inl rfl⟩, ⟨_, rfl, .inl rfl⟩, ⟨_, rfl, .inl rfl⟩, ⟨_, rfl, .inl rfl⟩, ⟨_, rfl, .inl rfl⟩, trivial⟩ ⟨rfl, rfl, trivial⟩ rfl rfl rfl rfl)) ?_)))))
  clear hr
  intro again21 s20 hr
  unfold l32_ShortcutScopes_L1 at hr
  refine Ok.seq (Ok.seq (Ok.region (OkOps.y (aI s20.2) (OkOps.y (.c (.loc 2 2)) (OkOps.y (.c (.d (.sl (List.map Node.cs x7.1.Nodes)))) (OkOps.q (triLen (enc := Node.cs) x7.1.Nodes rfl rfl trivial rfl) (OkOps.y (aB (decide (s20.2 < (x7.1.Nodes.length : Int)))) (OkOps.nil ?_))))))))
  refine Ok.cond (b := decide (s20.2 < (x7.1.Nodes.length : Int))) rfl (fun h22 => ?_) (fun h22 => ?_)
  have hr := selT h22 hr
  refine Ok.skip (Ok.seq (Ok.block (Ok.regionD (by kernel_rfl) (OkD.x (.c (.tl 1009 (List.map Styled.cs s20.1))) rfl trivial rfl (OkD.x (.c (.loc 2 2)) rfl trivial rfl (OkD.x (.c (.d (.sl (List.map Node.cs x7.1.Nodes)))) rfl trivial rfl (OkD.x (aI s20.2) rfl trivial rfl ?_)))))))
  obtain ⟨x23, hx23, hr⟩ := bind_some hr
  refine OkD.q (triIdx (enc := Node.cs) (L := x7.1.Nodes) (row := [dI x23.ID, dI x23.Parent, dI x23.Kind, dS x23.Key, .sl (List.map Attr.cs x23.Attrs), .sl (List.map Action.cs x23.Actions), .sl (List.map (eInt .i64) x23.Kids)]) hx23 rfl rfl rfl rfl (fun _ => rfl) trivial rfl) (OkD.x (.c (.pt [dI x23.ID, dI x23.Parent, dI x23.Kind, dS x23.Key, .sl (List.map Attr.cs x23.Attrs), .sl (List.map Action.cs x23.Actions), .sl (List.map (eInt .i64) x23.Kids)])) rfl trivial rfl (OkD.x (aI x23.ID) rfl trivial rfl ?_))
  obtain ⟨x24, hx24, hr⟩ := bind_some hr
  refine OkD.q (triCl (tau []) (.s (.agg [cI (x24 0), cI (x24 1), cI (x24 2), cI (x24 3), cI (x24 4), cI (x24 5), cI (x24 6), cI (x24 7), cI (x24 8), cI (x24 9), cI (x24 10), cI (x24 11), cI (x24 12), cI (x24 13), cI (x24 14), cI (x24 15), cI (x24 16), cI (x24 17), cI (x24 18), cI (x24 19), cI (x24 20), cI (x24 21)])) [] (r17_Initial_c  hx24) rfl trivial trivial entry20 trivial) (OkD.q (triQ (x := .agg [cI x23.ID, cI (x24 0), cI (x24 1), cI (x24 2), cI (x24 3), cI (x24 4), cI (x24 5), cI (x24 6), cI (x24 7), cI (x24 8), cI (x24 9), cI (x24 10), cI (x24 11), cI (x24 12), cI (x24 13), cI (x24 14), cI (x24 15), cI (x24 16), cI (x24 17), cI (x24 18), cI (x24 19), cI (x24 20), cI (x24 21)]) (by kernel_rfl) trivial rfl) (OkD.m 0 (triBST (sz := 23) (enc := Styled.cs) (j := 3) ([(Styled.mk x23.ID x24)]) (cs := [cI x23.ID, cI (x24 0), cI (x24 1), cI (x24 2), cI (x24 3), cI (x24 4), cI (x24 5), cI (x24 6), cI (x24 7), cI (x24 8), cI (x24 9), cI (x24 10), cI (x24 11), cI (x24 12), cI (x24 13), cI (x24 14), cI (x24 15), cI (x24 16), cI (x24 17), cI (x24 18), cI (x24 19), cI (x24 20), cI (x24 21)]) rfl rfl rfl rfl (by kernel_rfl) rfl rfl rfl (fun _ => rfl) trivial rfl rfl) ?_))
  obtain ⟨x25, hx25, hr⟩ := bind_some hr
  refine OkD.m2 0 (triApp (enc := Styled.cs) (L := s20.1) (X := [(Styled.mk x23.ID x24)]) (j := 1009) (j' := 4) hx25 rfl rfl rfl rfl rfl rfl (fun _ => rfl) (fun _ => rfl) (by decide) trivial rfl rfl) (OkD.x (.c (.tl 4 (List.map Styled.cs x25))) rfl trivial rfl (OkD.nil (by kernel_rfl) (Ok.region (OkOps.y (aI s20.2) (OkOps.y (aI (IntKind.i64.wrap (s20.2 + 1))) (OkOps.y (aI (IntKind.i64.wrap (s20.2 + 1))) (OkOps.nil ?_)))))))
  exact ⟨(x25, IntKind.i64.wrap (s20.2 + 1)), hr, (Conv.mk (tau [(1009, 4)]) ⟨⟨_, rfl, .inl rfl⟩, ⟨_, rfl, .inl rfl⟩, ⟨_, rfl, .inl rfl⟩, ⟨_, rfl, .inl rfl⟩, ⟨_, rfl, .inl rfl⟩, ⟨_, rfl, .inl rfl⟩, ⟨_, rfl, .inl rfl⟩, trivial⟩ ⟨rfl, rfl, trivial⟩ rfl rfl rfl rfl)⟩
  have hr := selF h22 hr
  refine Ok.exit ?_
  exact ⟨s20.1, hr, (Conv.mk (tau [(1006, 1009)]) ⟨⟨_, rfl, .inl rfl⟩, ⟨_, rfl, .inl rfl⟩, ⟨_, rfl, .inl rfl⟩, ⟨_, rfl, .inl rfl⟩, ⟨_, rfl, .inl rfl⟩, ⟨_, rfl, .inl rfl⟩, trivial⟩ ⟨rfl, rfl, trivial⟩ rfl rfl rfl rfl)⟩
  clear hk6
  refine Ok.seq (Ok.region (OkOps.y (aI 0) (OkOps.nil (Ok.block (Ok.loopK (fun (s26 : Int × Int × (List Attr) × (List Action) × (List View)) => ⟨[(1, .s (aB dialog)), (2, .s (aB disabled)), (3, .s (aB hidden)), (9, .s (aI (IntKind.i64.wrap (depth.tmod 5)))), (11, .s (.c (.loc 1 0))), (12, .s (aI s26.1))], [(1, .blk [cI s26.2.1, cS ByteArray.empty, .d (.sl (List.map Attr.cs s26.2.2.1)), .d (.sl (List.map Action.cs s26.2.2.2.1)), .d (.sl (List.map View.cs s26.2.2.2.2))] 54)], 0⟩) hr (Conv.mk (tau []) ⟨⟨_, rfl, .inl rfl⟩, ⟨_, rfl, .inl rfl⟩, ⟨_, rfl, .inl rfl⟩, ⟨_, rfl, .inl rfl⟩, ⟨_, rfl, .inl rfl⟩, ⟨_, rfl, .inl rfl⟩, trivial⟩ ⟨rfl, trivial⟩ rfl rfl rfl rfl) ?_)))))
  clear hr
  intro again27 s26 hr
  unfold l32_ShortcutScopes_L2 at hr
  refine Ok.seq (Ok.seq (Ok.region (OkOps.y (aI s26.1) (OkOps.y (aI (IntKind.i64.wrap (depth.tmod 5))) (OkOps.y (aB (decide (s26.1 < (IntKind.i64.wrap (depth.tmod 5))))) (OkOps.nil ?_))))))
  refine Ok.cond (b := decide (s26.1 < (IntKind.i64.wrap (depth.tmod 5)))) rfl (fun h28 => ?_) (fun h28 => ?_)
  have hr := selT h28 hr
  refine Ok.skip ?_
  obtain ⟨k30, hk30, hr⟩ := jn_some hr
  refine Ok.join (fun (s29 : Int) => ⟨[(1, .s (aB dialog)), (2, .s (aB disabled)), (3, .s (aB hidden)), (9, .s (aI (IntKind.i64.wrap (depth.tmod 5)))), (11, .s (.c (.loc 1 0))), (12, .s (aI s26.1))], [(1, .blk [cI s29, cS ByteArray.empty, .d (.v (.slice none 0 0)), .d (.v (.slice none 0 0)), .tl 5 (List.map View.cs ([(View.mk s26.2.1 ByteArray.empty s26.2.2.1 s26.2.2.2.1 s26.2.2.2.2)]))] 54), (5, .tail 5)], 0⟩) k30 r (fun s29 hr => ?_) ?_
  rw [hk30] at hr
  refine Ok.region (OkOps.y (aI s26.1) (OkOps.y (aI (IntKind.i64.wrap (s26.1 + 1))) (OkOps.y (aI (IntKind.i64.wrap (s26.1 + 1))) (OkOps.nil ?_))))
  exact ⟨(IntKind.i64.wrap (s26.1 + 1), s29, ([] : (List Attr)), ([] : (List Action)), [(View.mk s26.2.1 ByteArray.empty s26.2.2.1 s26.2.2.2.1 s26.2.2.2.2)]), hr, (Conv.trans (Conv.norm 1 [cI s29, cS ByteArray.empty, .d (.v (.slice none 0 0)), .d (.v (.slice none 0 0)), .tl 5 (List.map View.cs ([(View.mk s26.2.1 ByteArray.empty s26.2.2.1 s26.2.2.2.1 s26.2.2.2.2)]))] [cI s29, cS ByteArray.empty, .d (.sl (List.map Attr.cs ([] : (List Attr)))), .d (.sl (List.map Action.cs ([] : (List Action)))), .d (.sl (List.map View.cs ([(View.mk s26.2.1 ByteArray.empty s26.2.2.1 s26.2.2.2.1 s26.2.2.2.2)])))] 54 0 rfl rfl) (Conv.mk (tau []) ⟨⟨_, rfl, .inl rfl⟩, ⟨_, rfl, .inl rfl⟩, ⟨_, rfl, .inl rfl⟩, ⟨_, rfl, .inl rfl⟩, ⟨_, rfl, .inl rfl⟩, ⟨_, rfl, .inl rfl⟩, trivial⟩ ⟨rfl, trivial⟩ rfl rfl rfl rfl))⟩
  clear hk30
  refine Ok.block (Ok.seq (Ok.region (OkOps.y (.agg [cI s26.2.1, cS ByteArray.empty, .d (.sl (List.map Attr.cs s26.2.2.1)), .d (.sl (List.map Action.cs s26.2.2.2.1)), .d (.sl (List.map View.cs s26.2.2.2.2))]) ?_)))
  refine OkOps.m 0 (triBST (sz := 5) (enc := View.cs) (j := 5) ([(View.mk s26.2.1 ByteArray.empty s26.2.2.1 s26.2.2.2.1 s26.2.2.2.2)]) rfl rfl rfl rfl rfl (rows := [[dI s26.2.1, dS ByteArray.empty, .sl (List.map Attr.cs s26.2.2.1), .sl (List.map Action.cs s26.2.2.2.1), .sl (List.map View.cs s26.2.2.2.2)]]) (by simp only [List.map, View.cs_eq]) rfl rfl (fun x => by rw [View.cs_eq]; rfl) trivial rfl rfl) ?_
  refine OkOps.y (.agg [cI 1, cS ByteArray.empty, .d (.v (.slice none 0 0)), .d (.v (.slice none 0 0)), .tl 5 (List.map View.cs ([(View.mk s26.2.1 ByteArray.empty s26.2.2.1 s26.2.2.2.1 s26.2.2.2.2)]))]) (OkOps.w (triStore (cs' := [cI 1, cS ByteArray.empty, .d (.v (.slice none 0 0)), .d (.v (.slice none 0 0)), .tl 5 (List.map View.cs ([(View.mk s26.2.1 ByteArray.empty s26.2.2.1 s26.2.2.2.1 s26.2.2.2.2)]))]) rfl rfl rfl rfl rfl rfl rfl rfl rfl) (OkOps.nil (Ok.seq (Ok.region (OkOps.y (aB dialog) (OkOps.nil ?_))))))
  refine Ok.cond (b := dialog) rfl (fun h31 => ?_) (fun h31 => ?_)
  have hr := selT h31 hr
  refine Ok.region (OkOps.y (.c (.loc 1 0)) (OkOps.w (triStore (cs' := [cI 12, cS ByteArray.empty, .d (.v (.slice none 0 0)), .d (.v (.slice none 0 0)), .tl 5 (List.map View.cs ([(View.mk s26.2.1 ByteArray.empty s26.2.2.1 s26.2.2.2.1 s26.2.2.2.2)]))]) rfl rfl rfl rfl rfl rfl rfl rfl rfl) (OkOps.nil ?_)))
  exact ⟨12, hr, (Conv.mk (tau []) ⟨⟨_, rfl, .inl rfl⟩, ⟨_, rfl, .inl rfl⟩, ⟨_, rfl, .inl rfl⟩, ⟨_, rfl, .inl rfl⟩, ⟨_, rfl, .inl rfl⟩, ⟨_, rfl, .inl rfl⟩, trivial⟩ ⟨rfl, rfl, trivial⟩ rfl rfl rfl rfl)⟩
  have hr := selF h31 hr
  refine Ok.skip ?_
  exact ⟨1, hr, (Conv.mk (tau []) ⟨⟨_, rfl, .inl rfl⟩, ⟨_, rfl, .inl rfl⟩, ⟨_, rfl, .inl rfl⟩, ⟨_, rfl, .inl rfl⟩, ⟨_, rfl, .inl rfl⟩, ⟨_, rfl, .inl rfl⟩, trivial⟩ ⟨rfl, rfl, trivial⟩ rfl rfl rfl rfl)⟩
  have hr := selF h28 hr
  refine Ok.exit ?_
  exact ⟨(s26.2.1, s26.2.2.1, s26.2.2.2.1, s26.2.2.2.2), hr, (Conv.mk (tau []) ⟨⟨_, rfl, .inl rfl⟩, ⟨_, rfl, .inl rfl⟩, ⟨_, rfl, .inl rfl⟩, ⟨_, rfl, .inl rfl⟩, ⟨_, rfl, .inl rfl⟩, trivial⟩ ⟨rfl, trivial⟩ rfl rfl rfl rfl)⟩
  clear hk4
  refine Ok.seq (Ok.region (OkOps.y (aB hidden) (OkOps.nil ?_)))
  refine Ok.cond (b := hidden) rfl (fun h32 => ?_) (fun h32 => ?_)
  have hr := selT h32 hr
  refine Ok.region (OkOps.y (.agg [cI 2, cI 1, cS ByteArray.empty, .d (.v (.slice none 0 0))]) (OkOps.y (.agg [cS (ByteArray.mk #[104, 105, 100, 100, 101, 110]), cI 2, cI 1, cS ByteArray.empty, .d (.v (.slice none 0 0))]) (OkOps.m 0 (triBST (sz := 5) (enc := Attr.cs) (j := 6) ([(Attr.mk (ByteArray.mk #[104, 105, 100, 100, 101, 110]) (AValue.mk 2 1 ByteArray.empty ([] : (List AValue))))]) rfl rfl rfl rfl rfl rfl rfl rfl (fun _ => rfl) trivial rfl rfl) (OkOps.y (.c (.tl 0 (List.map Attr.cs ([(Attr.mk (ByteArray.mk #[115, 104, 111, 114, 116, 99, 117, 116]) (AValue.mk 3 0 (ByteArray.mk #[99, 116, 114, 108, 43, 115]) ([] : (List AValue))))])))) ?_))))
  obtain ⟨x33, hx33, hr⟩ := bind_some hr
  refine OkOps.m2 0 (triApp (enc := Attr.cs) (L := [(Attr.mk (ByteArray.mk #[104, 105, 100, 100, 101, 110]) (AValue.mk 2 1 ByteArray.empty ([] : (List AValue))))]) (X := [(Attr.mk (ByteArray.mk #[115, 104, 111, 114, 116, 99, 117, 116]) (AValue.mk 3 0 (ByteArray.mk #[99, 116, 114, 108, 43, 115]) ([] : (List AValue))))]) (j := 6) (j' := 7) hx33 rfl rfl rfl rfl rfl rfl (fun _ => rfl) (fun _ => rfl) (by decide) trivial rfl rfl) (OkOps.y (.c (.loc 1 2)) (OkOps.w (triStore (cs' := [cI 3, cS ByteArray.empty, .tl 7 (List.map Attr.cs x33), .d (.sl (List.map Action.cs ([] : (List Action)))), .d (.sl (List.map View.cs ([] : (List View))))]) rfl rfl rfl rfl rfl rfl rfl rfl rfl) (OkOps.nil ?_)))
  exact ⟨x33, hr, (Conv.trans (Conv.norm 1 [cI 3, cS ByteArray.empty, .tl 7 (List.map Attr.cs x33), .d (.sl (List.map Action.cs ([] : (List Action)))), .d (.sl (List.map View.cs ([] : (List View))))] [cI 3, cS ByteArray.empty, .d (.sl (List.map Attr.cs x33)), .d (.sl (List.map Action.cs ([] : (List Action)))), .d (.sl (List.map View.cs ([] : (List View))))] 54 0 rfl rfl) (Conv.mk (tau []) ⟨⟨_, rfl, .inl rfl⟩, ⟨_, rfl, .inl rfl⟩, ⟨_, rfl, .inl rfl⟩, ⟨_, rfl, .inl rfl⟩, ⟨_, rfl, .inl rfl⟩, trivial⟩ ⟨rfl, trivial⟩ rfl rfl rfl rfl))⟩
  have hr := selF h32 hr
  refine Ok.skip ?_
  exact ⟨s1, hr, (Conv.mk (tau []) ⟨⟨_, rfl, .inl rfl⟩, ⟨_, rfl, .inl rfl⟩, ⟨_, rfl, .inl rfl⟩, ⟨_, rfl, .inl rfl⟩, ⟨_, rfl, .inl rfl⟩, trivial⟩ ⟨rfl, trivial⟩ rfl rfl rfl rfl)⟩
  clear hk2
  refine Ok.seq (Ok.region (OkOps.y (aB disabled) (OkOps.nil ?_)))
  refine Ok.cond (b := disabled) rfl (fun h34 => ?_) (fun h34 => ?_)
  have hr := selT h34 hr
  refine Ok.region (OkOps.y (.agg [cI 2, cI 1, cS ByteArray.empty, .d (.v (.slice none 0 0))]) (OkOps.y (.agg [cS (ByteArray.mk #[100, 105, 115, 97, 98, 108, 101, 100]), cI 2, cI 1, cS ByteArray.empty, .d (.v (.slice none 0 0))]) (OkOps.m 0 (triBST (sz := 5) (enc := Attr.cs) (j := 8) ([(Attr.mk (ByteArray.mk #[100, 105, 115, 97, 98, 108, 101, 100]) (AValue.mk 2 1 ByteArray.empty ([] : (List AValue))))]) rfl rfl rfl rfl rfl rfl rfl rfl (fun _ => rfl) trivial rfl rfl) (OkOps.y (.c (.tl 0 (List.map Attr.cs ([(Attr.mk (ByteArray.mk #[115, 104, 111, 114, 116, 99, 117, 116]) (AValue.mk 3 0 (ByteArray.mk #[99, 116, 114, 108, 43, 115]) ([] : (List AValue))))])))) ?_))))
  obtain ⟨x35, hx35, hr⟩ := bind_some hr
  refine OkOps.m2 0 (triApp (enc := Attr.cs) (L := [(Attr.mk (ByteArray.mk #[100, 105, 115, 97, 98, 108, 101, 100]) (AValue.mk 2 1 ByteArray.empty ([] : (List AValue))))]) (X := [(Attr.mk (ByteArray.mk #[115, 104, 111, 114, 116, 99, 117, 116]) (AValue.mk 3 0 (ByteArray.mk #[99, 116, 114, 108, 43, 115]) ([] : (List AValue))))]) (j := 8) (j' := 9) hx35 rfl rfl rfl rfl rfl rfl (fun _ => rfl) (fun _ => rfl) (by decide) trivial rfl rfl) (OkOps.y (.c (.loc 1 2)) (OkOps.w (triStore (cs' := [cI 3, cS ByteArray.empty, .tl 9 (List.map Attr.cs x35), .d (.v (.slice none 0 0)), .d (.v (.slice none 0 0))]) rfl rfl rfl rfl rfl rfl rfl rfl rfl) (OkOps.nil ?_)))
  exact ⟨x35, hr, (Conv.trans (Conv.norm 1 [cI 3, cS ByteArray.empty, .tl 9 (List.map Attr.cs x35), .d (.v (.slice none 0 0)), .d (.v (.slice none 0 0))] [cI 3, cS ByteArray.empty, .d (.sl (List.map Attr.cs x35)), .d (.sl (List.map Action.cs ([] : (List Action)))), .d (.sl (List.map View.cs ([] : (List View))))] 54 0 rfl rfl) (Conv.mk (tau []) ⟨⟨_, rfl, .inl rfl⟩, ⟨_, rfl, .inl rfl⟩, ⟨_, rfl, .inl rfl⟩, ⟨_, rfl, .inl rfl⟩, ⟨_, rfl, .inl rfl⟩, ⟨_, rfl, .inl rfl⟩, trivial⟩ ⟨rfl, rfl, trivial⟩ rfl rfl rfl rfl))⟩
  have hr := selF h34 hr
  refine Ok.skip ?_
  exact ⟨[(Attr.mk (ByteArray.mk #[115, 104, 111, 114, 116, 99, 117, 116]) (AValue.mk 3 0 (ByteArray.mk #[99, 116, 114, 108, 43, 115]) ([] : (List AValue))))], hr, (Conv.trans (Conv.norm 1 [cI 3, cS ByteArray.empty, .tl 0 (List.map Attr.cs ([(Attr.mk (ByteArray.mk #[115, 104, 111, 114, 116, 99, 117, 116]) (AValue.mk 3 0 (ByteArray.mk #[99, 116, 114, 108, 43, 115]) ([] : (List AValue))))])), .d (.v (.slice none 0 0)), .d (.v (.slice none 0 0))] [cI 3, cS ByteArray.empty, .d (.sl (List.map Attr.cs ([(Attr.mk (ByteArray.mk #[115, 104, 111, 114, 116, 99, 117, 116]) (AValue.mk 3 0 (ByteArray.mk #[99, 116, 114, 108, 43, 115]) ([] : (List AValue))))]))), .d (.sl (List.map Action.cs ([] : (List Action)))), .d (.sl (List.map View.cs ([] : (List View))))] 54 0 rfl rfl) (Conv.mk (tau []) ⟨⟨_, rfl, .inl rfl⟩, ⟨_, rfl, .inl rfl⟩, ⟨_, rfl, .inl rfl⟩, ⟨_, rfl, .inl rfl⟩, ⟨_, rfl, .inl rfl⟩, ⟨_, rfl, .inl rfl⟩, trivial⟩ ⟨rfl, rfl, trivial⟩ rfl rfl rfl rfl))⟩
end Go.Proofs.YtobiohcdpfpefaaDoor
end
section
namespace Go.E2
open Go
@[simp] theorem sel_true {α : Type} (a b : α) : sel true a b = a := rfl
@[simp] theorem sel_false {α : Type} (a b : α) : sel false a b = b := rfl
@[simp] theorem gO_true {α : Type} [Inhabited α] (o : Option α) : gO true o = o := rfl
@[simp] theorem gO_false {α : Type} [Inhabited α] (o : Option α) : gO false o = some default := rfl
@[simp] theorem bind_some' {α β : Type} (x : α) (k : α → Option β) : (some x).bind k = k x := rfl
@[simp] theorem jn_eq {S R : Type} (k : S → Option R) (b : (S → Option R) → Option R) : jn k b = b k := rfl
end Go.E2
end
section
namespace Go.E2
open Go
instance : LawfulBEq ByteArray where
  eq_of_beq := by
    intro a b h
    have h' : (a.data == b.data) = true := h
    have := eq_of_beq h'
    cases a; cases b; simp_all
  rfl := by
    intro a
    show (a.data == a.data) = true
    exact beq_self_eq_true _
end Go.E2
end
section
set_option maxRecDepth 100000
namespace Go.Proofs.YtobiohcdpfpefaaDoor
open Go Go.E2
def okT : Option Bool → Bool
  | some b => b
  | none => false
theorem okT_spec {x : Option Bool} (h : okT x = true) : x = some true := by
  cases x with
  | none => cases h
  | some b => cases b with
    | true => rfl
    | false => cases h
theorem scopes_all : ((List.range 5).all fun d => [true, false].all fun a => [true, false].all fun b => [true, false].all fun c => okT (l32_ShortcutScopes d a b c)) = true := by kernel_rfl
theorem scopes_same {d e : Int} (a b c : Bool) (h : d.tmod 5 = e.tmod 5) : l32_ShortcutScopes d a b c = l32_ShortcutScopes e a b c := by
  have h1 : l32_ShortcutScopes_L2 d = l32_ShortcutScopes_L2 e := by unfold l32_ShortcutScopes_L2; rw [h]
  unfold l32_ShortcutScopes
  simp only [h, h1]
theorem scopes_true (d : Int) (a b c : Bool) (hd : (Lit.int .u8 d).wf = true) : l32_ShortcutScopes d a b c = some true := by
  have h0 : 0 ≤ d ∧ d < 256 := by
    simp only [Lit.wf, Bool.and_eq_true, decide_eq_true_eq] at hd
    have : IntKind.u8.max = 255 := by decide
    have : IntKind.u8.min = 0 := by decide
    omega
  have e1 : d.tmod 5 = (((d % 5).toNat : Nat) : Int).tmod 5 := by rw [Int.tmod_eq_emod_of_nonneg h0.1, Int.tmod_eq_emod_of_nonneg (by omega)]; omega
  rw [scopes_same a b c e1]
  have g1 := List.all_eq_true.1 scopes_all (d % 5).toNat (List.mem_range.2 (by omega))
  have hb : ∀ x : Bool, x ∈ [true, false] := fun x => by cases x <;> simp
  exact okT_spec (List.all_eq_true.1 (List.all_eq_true.1 (List.all_eq_true.1 g1 a (hb a)) b (hb b)) c (hb c))
end Go.Proofs.YtobiohcdpfpefaaDoor
end

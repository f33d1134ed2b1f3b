/-
  Part 5 of the texts under the law AccessibleScrolls: the calculus, the plain functions, their walks, plain facts.
-/
import Derived.Test.YtfoigppmcelgfaaGreatDoorAccessibleScrollsB4
import Derived.Test.YtfoigppmcelgfaaGreatDoorProg
import Derived.KernelRfl
section
set_option maxRecDepth 100000
namespace Go.Proofs.YtfoigppmcelgfaaGreatDoor
open Go Go.E2
theorem ht_Shown_c (t : Tree) (st : (List Styled)) (id : Int) {r : Bool} (hr : ht_Shown t st id = some r) : Con Tryz.prog 38 [.agg [cI t.Root, cI t.Next, .d (.sl (List.map Node.cs t.Nodes))], .c (.d (.sl (List.map Styled.cs st))), aI id] [] (.s (aB r)) [] := by
  unfold ht_Shown at hr
  refine Con.of_ok 30 0 [.tmp 6] [(0, .s (.agg [cI t.Root, cI t.Next, .d (.sl (List.map Node.cs t.Nodes))])), (1, .s (.c (.d (.sl (List.map Styled.cs st))))), (2, .s (aI id))] Tryz.func38 rfl rfl rfl rfl rfl rfl rfl rfl fun w g M ρ _ => (Ok.seq (Ok.region (OkOps.m 0 (triBox (j := 0) (cs := [cI t.Root, cI t.Next, .d (.sl (List.map Node.cs t.Nodes))]) rfl rfl rfl rfl rfl) (OkOps.y (aB false) (OkOps.nil (Ok.seq (Ok.seq (Ok.region (OkOps.y (.agg [cI t.Root, cI t.Next, .d (.sl (List.map Node.cs t.Nodes))]) (OkOps.y (.c (.d (.sl (List.map Styled.cs st)))) ?_))))))))))
  obtain ⟨x1, hx1, hr⟩ := bind_some hr
  refine OkOps.q (triCl (tau []) (.s (.c (.d (.sl (List.map (eInt .i64) x1))))) [] (widgetry_layout_Shown_c _ _ hx1) rfl ⟨.inl rfl, .inl rfl, trivial⟩ trivial entry78 trivial) (OkOps.y (aI id) ?_)
  obtain ⟨x2, hx2, hr⟩ := bind_some hr
  refine OkOps.q (triCl (tau []) (.s (aB x2)) [] (slices_Contains_Sl_int_int_c _ _ hx2) rfl ⟨.inl rfl, .inl rfl, trivial⟩ trivial entry39 trivial) (OkOps.y (aB (!x2)) (OkOps.nil ?_))
  refine Ok.cond (b := !x2) rfl (fun h3 => ?_) (fun h3 => ?_)
  have hr := selT h3 hr
  refine Ok.seq (Ok.region (OkOps.y (aB false) (OkOps.nil (Ok.ret ?_))))
  obtain rfl := Option.some.inj hr
  exact ⟨_, rfl, .inl rfl, trivial⟩
  have hr := selF h3 hr
  refine Ok.skip ?_
  obtain ⟨k5, hk5, hr⟩ := jn_some hr
  refine Ok.join (fun (s4 : Unit) => ⟨[], [], 0⟩) k5 r (fun s4 hr => ?_) ?_
  rw [hk5] at hr
  refine Ok.seq (Ok.region (OkOps.y (aB false) (OkOps.nil (Ok.ret ?_))))
  obtain rfl := Option.some.inj hr
  exact ⟨_, rfl, .inl rfl, trivial⟩
  clear hk5
  refine Ok.seq (Ok.region (OkOps.y (.c (.d (.sl (List.map Styled.cs st)))) (OkOps.q (triLen (enc := Styled.cs) st rfl rfl trivial rfl) (OkOps.y (aI 0) (OkOps.nil (Ok.block (Ok.loopK (fun (s6 : Int) => ⟨[(2, .s (aI id)), (15, .s (.c (.d (.sl (List.map Styled.cs st))))), (16, .s (aI (st.length : Int))), (17, .s (aI s6))], [], 0⟩) hr (Conv.mk (tau []) ⟨⟨_, rfl, .inl rfl⟩, ⟨_, rfl, .inl rfl⟩, ⟨_, rfl, .inl rfl⟩, ⟨_, rfl, .inl rfl⟩, trivial⟩ trivial rfl rfl rfl rfl) ?_)))))))
  clear hr
  intro again7 s6 hr
  unfold ht_Shown_L1 at hr
  refine Ok.seq (Ok.region (OkOps.y (aB (decide (s6 < (st.length : Int)))) (OkOps.nil (Ok.seq ?_))))
  refine Ok.cond (b := decide (s6 < (st.length : Int))) rfl (fun h8 => ?_) (fun h8 => ?_)
  have hr := selT h8 hr
  refine Ok.skip (Ok.seq (Ok.block (Ok.seq (Ok.region ?_))))
  obtain ⟨x9, hx9, hr⟩ := bind_some hr
  refine OkOps.q (triIdx (enc := Styled.cs) (L := st) (row := [dI x9.ID, dI (x9.Style 0), dI (x9.Style 1), dI (x9.Style 2), dI (x9.Style 3), dI (x9.Style 4), dI (x9.Style 5), dI (x9.Style 6), dI (x9.Style 7), dI (x9.Style 8), dI (x9.Style 9), dI (x9.Style 10), dI (x9.Style 11), dI (x9.Style 12), dI (x9.Style 13), dI (x9.Style 14), dI (x9.Style 15), dI (x9.Style 16), dI (x9.Style 17), dI (x9.Style 18), dI (x9.Style 19), dI (x9.Style 20), dI (x9.Style 21)]) hx9 rfl rfl rfl rfl (fun _ => rfl) trivial rfl) (OkOps.y (.agg [cI x9.ID, cI (x9.Style 0), cI (x9.Style 1), cI (x9.Style 2), cI (x9.Style 3), cI (x9.Style 4), cI (x9.Style 5), cI (x9.Style 6), cI (x9.Style 7), cI (x9.Style 8), cI (x9.Style 9), cI (x9.Style 10), cI (x9.Style 11), cI (x9.Style 12), cI (x9.Style 13), cI (x9.Style 14), cI (x9.Style 15), cI (x9.Style 16), cI (x9.Style 17), cI (x9.Style 18), cI (x9.Style 19), cI (x9.Style 20), cI (x9.Style 21)]) (OkOps.m 0 (triAlloc (j := 1) (cs := [cI 0, cI 0, cI 0, cI 0, cI 0, cI 0, cI 0, cI 0, cI 0, cI 0, cI 0, cI 0, cI 0, cI 0, cI 0, cI 0, cI 0, cI 0, cI 0, cI 0, cI 0, cI 0, cI 0]) rfl rfl rfl rfl) (OkOps.w (triStore (cs' := [cI x9.ID, cI (x9.Style 0), cI (x9.Style 1), cI (x9.Style 2), cI (x9.Style 3), cI (x9.Style 4), cI (x9.Style 5), cI (x9.Style 6), cI (x9.Style 7), cI (x9.Style 8), cI (x9.Style 9), cI (x9.Style 10), cI (x9.Style 11), cI (x9.Style 12), cI (x9.Style 13), cI (x9.Style 14), cI (x9.Style 15), cI (x9.Style 16), cI (x9.Style 17), cI (x9.Style 18), cI (x9.Style 19), cI (x9.Style 20), cI (x9.Style 21)]) rfl rfl rfl rfl rfl rfl rfl rfl (by kernel_rfl)) (OkOps.nil (Ok.seq (Ok.region (OkOps.y (.c (.loc 1 0)) (OkOps.y (aI x9.ID) (OkOps.y (aI id) (OkOps.y (aB (x9.ID == id)) (OkOps.nil ?_)))))))))))
  refine Ok.cond (b := x9.ID == id) rfl (fun h10 => ?_) (fun h10 => ?_)
  have hr := selT h10 hr
  refine Ok.seq (Ok.region (OkOps.y (.c (.loc 1 1)) (OkOps.y (.c (.loc 1 22)) (OkOps.y (aI (x9.Style 21)) (OkOps.y (aB ((x9.Style 21) == 0)) (OkOps.y (aB ((x9.Style 21) == 0)) (OkOps.nil (Ok.ret ?_))))))))
  obtain rfl := Option.some.inj hr
  exact ⟨_, rfl, .inl rfl, trivial⟩
  have hr := selF h10 hr
  refine Ok.skip (Ok.region (OkOps.y (aI (IntKind.i64.wrap (s6 + 1))) (OkOps.y (aI (IntKind.i64.wrap (s6 + 1))) (OkOps.nil ?_))))
  exact ⟨IntKind.i64.wrap (s6 + 1), hr, (Conv.mk (tau []) ⟨⟨_, rfl, .inl rfl⟩, ⟨_, rfl, .inl rfl⟩, ⟨_, rfl, .inl rfl⟩, ⟨_, rfl, .inl rfl⟩, trivial⟩ trivial rfl rfl rfl rfl)⟩
  have hr := selF h8 hr
  refine Ok.exit ?_
  exact ⟨(), hr, (Conv.mk (tau []) trivial trivial rfl rfl rfl rfl)⟩
theorem fo_Pressable_c (t : Tree) (id : Int) {r : Bool} (hr : fo_Pressable t id = some r) : Con Tryz.prog 42 [.agg [cI t.Root, cI t.Next, .d (.sl (List.map Node.cs t.Nodes))], aI id] [] (.s (aB r)) [] := by
  unfold fo_Pressable at hr
  refine Con.of_ok 18 0 [.tmp 4] [(0, .s (.agg [cI t.Root, cI t.Next, .d (.sl (List.map Node.cs t.Nodes))])), (1, .s (aI id))] Tryz.func42 rfl rfl rfl rfl rfl rfl rfl rfl fun w g M ρ _ => (Ok.seq (Ok.region (OkOps.m 0 (triBox (j := 0) (cs := [cI t.Root, cI t.Next, .d (.sl (List.map Node.cs t.Nodes))]) rfl rfl rfl rfl rfl) (OkOps.y (aB false) (OkOps.nil (Ok.seq (Ok.region (OkOps.y (.agg [cI t.Root, cI t.Next, .d (.sl (List.map Node.cs t.Nodes))]) (OkOps.y (aI id) ?_)))))))))
  obtain ⟨x1, hx1, hr⟩ := bind_some hr
  refine OkOps.q (triCl (tau []) (.tup [.agg [cI x1.1.ID, cI x1.1.Parent, cI x1.1.Kind, cS x1.1.Key, .d (.sl (List.map Attr.cs x1.1.Attrs)), .d (.sl (List.map Action.cs x1.1.Actions)), .d (.sl (List.map (eInt .i64) x1.1.Kids))], aB x1.2]) [] (vw_Find_c _ _ hx1) rfl ⟨.inl rfl, .inl rfl, trivial⟩ trivial entry36 trivial) (OkOps.q (triMv (v := .tup [.agg [cI x1.1.ID, cI x1.1.Parent, cI x1.1.Kind, cS x1.1.Key, .d (.sl (List.map Attr.cs x1.1.Attrs)), .d (.sl (List.map Action.cs x1.1.Actions)), .d (.sl (List.map (eInt .i64) x1.1.Kids))], aB x1.2]) rfl rfl) (OkOps.y (.agg [cI x1.1.ID, cI x1.1.Parent, cI x1.1.Kind, cS x1.1.Key, .d (.sl (List.map Attr.cs x1.1.Attrs)), .d (.sl (List.map Action.cs x1.1.Actions)), .d (.sl (List.map (eInt .i64) x1.1.Kids))]) (OkOps.y (aB x1.2) (OkOps.m 0 (triAlloc (j := 1) (cs := [cI 0, cI 0, cI 0, cS ByteArray.empty, .d (.v (.slice none 0 0)), .d (.v (.slice none 0 0)), .d (.v (.slice none 0 0))]) rfl rfl rfl rfl) (OkOps.w (triStore (cs' := [cI x1.1.ID, cI x1.1.Parent, cI x1.1.Kind, cS x1.1.Key, .d (.sl (List.map Attr.cs x1.1.Attrs)), .d (.sl (List.map Action.cs x1.1.Actions)), .d (.sl (List.map (eInt .i64) x1.1.Kids))]) rfl rfl rfl rfl rfl rfl rfl rfl rfl) (OkOps.y (aB x1.2) (OkOps.nil (Ok.seq (Ok.region (OkOps.y (aB x1.2) (OkOps.y (aB x1.2) (OkOps.q (triQG (x := .agg [cI x1.1.ID, cI x1.1.Parent, cI x1.1.Kind, cS x1.1.Key, .d (.sl (List.map Attr.cs x1.1.Attrs)), .d (.sl (List.map Action.cs x1.1.Actions)), .d (.sl (List.map (eInt .i64) x1.1.Kids))]) rfl rfl trivial rfl) ?_))))))))))))
  obtain ⟨x2, hx2, hr⟩ := bind_some hr
  refine OkOps.q (triCallG (x := aB x2) (fun hg => fo_pressable_c _ (gO_t hx2 hg)) rfl rfl ⟨.inl rfl, trivial⟩ ⟨fun h => h, trivial⟩ entry81 rfl rfl rfl) (OkOps.q (triAnd rfl rfl (fun h => h) rfl) (OkOps.y (aB (x1.2 && x2)) (OkOps.nil (Ok.ret ?_))))
  obtain rfl := Option.some.inj hr
  exact ⟨_, rfl, .inl rfl, trivial⟩
theorem ac_box_c (boxes : (List Box)) (id : Int) {r : Rect × Bool} (hr : ac_box boxes id = some r) : Con Tryz.prog 46 [.c (.d (.sl (List.map Box.cs boxes))), aI id] [] (.tup [.agg [cI r.1.X, cI r.1.Y, cI r.1.W, cI r.1.H], aB r.2]) [] := by
  unfold ac_box at hr
  refine Con.of_ok 22 0 [.cell 4 35, .tmp 5] [(0, .s (.c (.d (.sl (List.map Box.cs boxes))))), (1, .s (aI id))] Tryz.func46 rfl rfl rfl rfl rfl rfl rfl rfl fun w g M ρ _ => (Ok.seq (Ok.region (OkOps.m 0 (triAlloc (j := 0) (cs := [cI 0, cI 0, cI 0, cI 0]) rfl rfl rfl rfl) (OkOps.y (aB false) (OkOps.nil ?_)))))
  obtain ⟨k2, hk2, hr⟩ := jn_some hr
  refine Ok.join (fun (s1 : Unit) => ⟨[(4, .s (.c (.loc 0 0)))], [(0, .blk [cI 0, cI 0, cI 0, cI 0] 35)], 0⟩) k2 r (fun s1 hr => ?_) ?_
  rw [hk2] at hr
  refine Ok.seq (Ok.region (OkOps.y (.agg [cI 0, cI 0, cI 0, cI 0]) (OkOps.w (triStore (cs' := [cI 0, cI 0, cI 0, cI 0]) rfl rfl rfl rfl rfl rfl rfl rfl rfl) (OkOps.y (aB false) (OkOps.nil (Ok.ret ?_))))))
  obtain rfl := Option.some.inj hr
  exact ⟨_, rfl, .inl rfl, trivial⟩
  clear hk2
  refine Ok.seq (Ok.region (OkOps.y (.c (.d (.sl (List.map Box.cs boxes)))) (OkOps.q (triLen (enc := Box.cs) boxes rfl rfl trivial rfl) (OkOps.y (aI 0) (OkOps.nil (Ok.block (Ok.loopK (fun (s3 : Int) => ⟨[(1, .s (aI id)), (4, .s (.c (.loc 0 0))), (8, .s (.c (.d (.sl (List.map Box.cs boxes))))), (9, .s (aI (boxes.length : Int))), (10, .s (aI s3))], [(0, .blk [cI 0, cI 0, cI 0, cI 0] 35)], 0⟩) hr (Conv.mk (tau []) ⟨⟨_, rfl, .inl rfl⟩, ⟨_, rfl, .inl rfl⟩, ⟨_, rfl, .inl rfl⟩, ⟨_, rfl, .inl rfl⟩, ⟨_, rfl, .inl rfl⟩, trivial⟩ ⟨rfl, trivial⟩ rfl rfl rfl rfl) ?_)))))))
  clear hr
  intro again4 s3 hr
  unfold ac_box_L1 at hr
  refine Ok.seq (Ok.region (OkOps.y (aB (decide (s3 < (boxes.length : Int)))) (OkOps.nil (Ok.seq ?_))))
  refine Ok.cond (b := decide (s3 < (boxes.length : Int))) rfl (fun h5 => ?_) (fun h5 => ?_)
  have hr := selT h5 hr
  refine Ok.skip (Ok.seq (Ok.block (Ok.seq (Ok.region ?_))))
  obtain ⟨x6, hx6, hr⟩ := bind_some hr
  refine OkOps.q (triIdx (enc := Box.cs) (L := boxes) (row := [dI x6.ID, dI x6.Rect.X, dI x6.Rect.Y, dI x6.Rect.W, dI x6.Rect.H, dI x6.Baseline, .sl (List.map Line.cs x6.Lines)]) hx6 rfl rfl rfl rfl (fun _ => rfl) trivial rfl) (OkOps.y (.agg [cI x6.ID, cI x6.Rect.X, cI x6.Rect.Y, cI x6.Rect.W, cI x6.Rect.H, cI x6.Baseline, .d (.sl (List.map Line.cs x6.Lines))]) (OkOps.m 0 (triAlloc (j := 1) (cs := [cI 0, cI 0, cI 0, cI 0, cI 0, cI 0, .d (.v (.slice none 0 0))]) rfl rfl rfl rfl) (OkOps.w (triStore (cs' := [cI x6.ID, cI x6.Rect.X, cI x6.Rect.Y, cI x6.Rect.W, cI x6.Rect.H, cI x6.Baseline, .d (.sl (List.map Line.cs x6.Lines))]) rfl rfl rfl rfl rfl rfl rfl rfl rfl) (OkOps.nil (Ok.seq (Ok.region (OkOps.y (.c (.loc 1 0)) (OkOps.y (aI x6.ID) (OkOps.y (aI id) (OkOps.y (aB (x6.ID == id)) (OkOps.nil ?_)))))))))))
  refine Ok.cond (b := x6.ID == id) rfl (fun h7 => ?_) (fun h7 => ?_)
  have hr := selT h7 hr
  refine Ok.seq (Ok.region (OkOps.y (.c (.loc 1 1)) (OkOps.y (.agg [cI x6.Rect.X, cI x6.Rect.Y, cI x6.Rect.W, cI x6.Rect.H]) (OkOps.w (triStore (cs' := [cI x6.Rect.X, cI x6.Rect.Y, cI x6.Rect.W, cI x6.Rect.H]) rfl rfl rfl rfl rfl rfl rfl rfl rfl) (OkOps.y (aB true) (OkOps.nil (Ok.ret ?_)))))))
  obtain rfl := Option.some.inj hr
  exact ⟨_, rfl, .inl rfl, trivial⟩
  have hr := selF h7 hr
  refine Ok.skip (Ok.region (OkOps.y (aI (IntKind.i64.wrap (s3 + 1))) (OkOps.y (aI (IntKind.i64.wrap (s3 + 1))) (OkOps.nil ?_))))
  exact ⟨IntKind.i64.wrap (s3 + 1), hr, (Conv.mk (tau []) ⟨⟨_, rfl, .inl rfl⟩, ⟨_, rfl, .inl rfl⟩, ⟨_, rfl, .inl rfl⟩, ⟨_, rfl, .inl rfl⟩, ⟨_, rfl, .inl rfl⟩, trivial⟩ ⟨rfl, trivial⟩ rfl rfl rfl rfl)⟩
  have hr := selF h5 hr
  refine Ok.exit ?_
  exact ⟨(), hr, (Conv.mk (tau []) ⟨⟨_, rfl, .inl rfl⟩, trivial⟩ ⟨rfl, trivial⟩ rfl rfl rfl rfl)⟩
theorem ac_Extent_c (t : Tree) (boxes : (List Box)) (id : Int) {r : Int} (hr : ac_Extent t boxes id = some r) : Con Tryz.prog 12 [.agg [cI t.Root, cI t.Next, .d (.sl (List.map Node.cs t.Nodes))], .c (.d (.sl (List.map Box.cs boxes))), aI id] [] (.s (aI r)) [] := by
  unfold ac_Extent at hr
  refine Con.of_ok 43 0 [.tmp 6] [(0, .s (.agg [cI t.Root, cI t.Next, .d (.sl (List.map Node.cs t.Nodes))])), (1, .s (.c (.d (.sl (List.map Box.cs boxes))))), (2, .s (aI id))] Tryz.func12 rfl rfl rfl rfl rfl rfl rfl rfl fun w g M ρ _ => (Ok.seq (Ok.region (OkOps.m 0 (triBox (j := 0) (cs := [cI t.Root, cI t.Next, .d (.sl (List.map Node.cs t.Nodes))]) rfl rfl rfl rfl rfl) (OkOps.y (aI 0) (OkOps.nil (Ok.seq (Ok.region (OkOps.y (.agg [cI t.Root, cI t.Next, .d (.sl (List.map Node.cs t.Nodes))]) (OkOps.y (aI id) ?_)))))))))
  obtain ⟨x1, hx1, hr⟩ := bind_some hr
  refine OkOps.q (triCl (tau []) (.tup [.agg [cI x1.1.ID, cI x1.1.Parent, cI x1.1.Kind, cS x1.1.Key, .d (.sl (List.map Attr.cs x1.1.Attrs)), .d (.sl (List.map Action.cs x1.1.Actions)), .d (.sl (List.map (eInt .i64) x1.1.Kids))], aB x1.2]) [] (vw_Find_c _ _ hx1) rfl ⟨.inl rfl, .inl rfl, trivial⟩ trivial entry36 trivial) (OkOps.q (triMv (v := .tup [.agg [cI x1.1.ID, cI x1.1.Parent, cI x1.1.Kind, cS x1.1.Key, .d (.sl (List.map Attr.cs x1.1.Attrs)), .d (.sl (List.map Action.cs x1.1.Actions)), .d (.sl (List.map (eInt .i64) x1.1.Kids))], aB x1.2]) rfl rfl) (OkOps.y (.agg [cI x1.1.ID, cI x1.1.Parent, cI x1.1.Kind, cS x1.1.Key, .d (.sl (List.map Attr.cs x1.1.Attrs)), .d (.sl (List.map Action.cs x1.1.Actions)), .d (.sl (List.map (eInt .i64) x1.1.Kids))]) (OkOps.y (aB x1.2) (OkOps.m 0 (triAlloc (j := 1) (cs := [cI 0, cI 0, cI 0, cS ByteArray.empty, .d (.v (.slice none 0 0)), .d (.v (.slice none 0 0)), .d (.v (.slice none 0 0))]) rfl rfl rfl rfl) (OkOps.w (triStore (cs' := [cI x1.1.ID, cI x1.1.Parent, cI x1.1.Kind, cS x1.1.Key, .d (.sl (List.map Attr.cs x1.1.Attrs)), .d (.sl (List.map Action.cs x1.1.Actions)), .d (.sl (List.map (eInt .i64) x1.1.Kids))]) rfl rfl rfl rfl rfl rfl rfl rfl rfl) (OkOps.y (aB x1.2) (OkOps.nil (Ok.seq (Ok.region (OkOps.y (aI 0) (OkOps.nil ?_)))))))))))
  obtain ⟨k3, hk3, hr⟩ := jn_some hr
  refine Ok.join (fun (s2 : Int) => ⟨[(9, .s (aI s2))], [], 0⟩) k3 r (fun s2 hr => ?_) ?_
  rw [hk3] at hr
  refine Ok.seq (Ok.region (OkOps.y (aI s2) (OkOps.y (aI s2) (OkOps.nil (Ok.ret ?_)))))
  obtain rfl := Option.some.inj hr
  exact ⟨_, rfl, .inl rfl, trivial⟩
  clear hk3
  refine Ok.seq (Ok.region (OkOps.y (.c (.loc 1 6)) (OkOps.y (.c (.d (.sl (List.map (eInt .i64) x1.1.Kids)))) (OkOps.q (triLen (enc := (eInt .i64)) x1.1.Kids rfl rfl trivial rfl) (OkOps.y (aI 0) (OkOps.nil (Ok.block (Ok.loopK (fun (s4 : Int × Int) => ⟨[(1, .s (.c (.d (.sl (List.map Box.cs boxes))))), (9, .s (aI s4.1)), (21, .s (.c (.d (.sl (List.map (eInt .i64) x1.1.Kids))))), (22, .s (aI (x1.1.Kids.length : Int))), (23, .s (aI s4.2))], [], 0⟩) hr (Conv.mk (tau []) ⟨⟨_, rfl, .inl rfl⟩, ⟨_, rfl, .inl rfl⟩, ⟨_, rfl, .inl rfl⟩, ⟨_, rfl, .inl rfl⟩, ⟨_, rfl, .inl rfl⟩, trivial⟩ trivial rfl rfl rfl rfl) ?_))))))))
  clear hr
  intro again5 s4 hr
  unfold ac_Extent_L1 at hr
  refine Ok.seq (Ok.region (OkOps.y (aB (decide (s4.2 < (x1.1.Kids.length : Int)))) (OkOps.nil (Ok.seq ?_))))
  refine Ok.cond (b := decide (s4.2 < (x1.1.Kids.length : Int))) rfl (fun h6 => ?_) (fun h6 => ?_)
  have hr := selT h6 hr
  refine Ok.skip ?_
  obtain ⟨k8, hk8, hr⟩ := jn_some hr
  refine Ok.join (fun (s7 : Int) => ⟨[(1, .s (.c (.d (.sl (List.map Box.cs boxes))))), (9, .s (aI s7)), (21, .s (.c (.d (.sl (List.map (eInt .i64) x1.1.Kids))))), (22, .s (aI (x1.1.Kids.length : Int))), (23, .s (aI s4.2))], [], 0⟩) k8 r (fun s7 hr => ?_) ?_
  rw [hk8] at hr
  refine Ok.region (OkOps.y (aI (IntKind.i64.wrap (s4.2 + 1))) (OkOps.y (aI (IntKind.i64.wrap (s4.2 + 1))) (OkOps.nil ?_)))
  exact ⟨(s7, IntKind.i64.wrap (s4.2 + 1)), hr, (Conv.mk (tau []) ⟨⟨_, rfl, .inl rfl⟩, ⟨_, rfl, .inl rfl⟩, ⟨_, rfl, .inl rfl⟩, ⟨_, rfl, .inl rfl⟩, ⟨_, rfl, .inl rfl⟩, trivial⟩ trivial rfl rfl rfl rfl)⟩
  clear hk8
  refine Ok.block (Ok.seq (Ok.region ?_))
  obtain ⟨x9, hx9, hr⟩ := bind_some hr
  refine OkOps.q (triIdx (enc := (eInt .i64)) (L := x1.1.Kids) (row := [dI x9]) hx9 rfl rfl rfl rfl (fun _ => rfl) trivial rfl) (OkOps.y (aI x9) (OkOps.y (aI x9) (OkOps.nil (Ok.seq (Ok.region (OkOps.y (.c (.d (.sl (List.map Box.cs boxes)))) (OkOps.y (aI x9) ?_)))))))
  obtain ⟨x10, hx10, hr⟩ := bind_some hr
  refine OkOps.q (triCl (tau []) (.tup [.agg [cI x10.1.X, cI x10.1.Y, cI x10.1.W, cI x10.1.H], aB x10.2]) [] (ac_box_c _ _ hx10) rfl ⟨.inl rfl, .inl rfl, trivial⟩ trivial entry46 trivial) (OkOps.q (triMv (v := .tup [.agg [cI x10.1.X, cI x10.1.Y, cI x10.1.W, cI x10.1.H], aB x10.2]) rfl rfl) (OkOps.y (.agg [cI x10.1.X, cI x10.1.Y, cI x10.1.W, cI x10.1.H]) (OkOps.y (aB x10.2) (OkOps.m 0 (triAlloc (j := 2) (cs := [cI 0, cI 0, cI 0, cI 0]) rfl rfl rfl rfl) (OkOps.w (triStore (cs' := [cI x10.1.X, cI x10.1.Y, cI x10.1.W, cI x10.1.H]) rfl rfl rfl rfl rfl rfl rfl rfl rfl) (OkOps.y (aB x10.2) (OkOps.nil (Ok.seq (Ok.region (OkOps.y (aB x10.2) (OkOps.nil ?_)))))))))))
  refine Ok.cond (b := x10.2) rfl (fun h11 => ?_) (fun h11 => ?_)
  have hr := selT h11 hr
  refine Ok.region (OkOps.y (aI s4.1) (OkOps.y (.c (.loc 2 1)) (OkOps.y (aI x10.1.Y) (OkOps.y (.c (.loc 2 3)) (OkOps.y (aI x10.1.H) (OkOps.y (aI (IntKind.i64.wrap (x10.1.Y + x10.1.H))) (OkOps.y (aI (mxI s4.1 (IntKind.i64.wrap (x10.1.Y + x10.1.H)))) (OkOps.y (aI (mxI s4.1 (IntKind.i64.wrap (x10.1.Y + x10.1.H)))) (OkOps.nil ?_)))))))))
  exact ⟨mxI s4.1 (IntKind.i64.wrap (x10.1.Y + x10.1.H)), hr, (Conv.mk (tau []) ⟨⟨_, rfl, .inl rfl⟩, ⟨_, rfl, .inl rfl⟩, ⟨_, rfl, .inl rfl⟩, ⟨_, rfl, .inl rfl⟩, ⟨_, rfl, .inl rfl⟩, trivial⟩ trivial rfl rfl rfl rfl)⟩
  have hr := selF h11 hr
  refine Ok.skip ?_
  exact ⟨s4.1, hr, (Conv.mk (tau []) ⟨⟨_, rfl, .inl rfl⟩, ⟨_, rfl, .inl rfl⟩, ⟨_, rfl, .inl rfl⟩, ⟨_, rfl, .inl rfl⟩, ⟨_, rfl, .inl rfl⟩, trivial⟩ trivial rfl rfl rfl rfl)⟩
  have hr := selF h6 hr
  refine Ok.exit ?_
  exact ⟨s4.1, hr, (Conv.mk (tau []) ⟨⟨_, rfl, .inl rfl⟩, trivial⟩ trivial rfl rfl rfl rfl)⟩
theorem ac_offset_c (l : (List Offset)) (id : Int) {r : Int} (hr : ac_offset l id = some r) : Con Tryz.prog 47 [.c (.d (.sl (List.map Offset.cs l))), aI id] [] (.s (aI r)) [] := by
  unfold ac_offset at hr
  refine Con.of_ok 20 0 [.tmp 4] [(0, .s (.c (.d (.sl (List.map Offset.cs l))))), (1, .s (aI id))] Tryz.func47 rfl rfl rfl rfl rfl rfl rfl rfl fun w g M ρ _ => (Ok.seq (Ok.region (OkOps.y (aI 0) (OkOps.nil ?_))))
  obtain ⟨k2, hk2, hr⟩ := jn_some hr
  refine Ok.join (fun (s1 : Unit) => ⟨[], [], 0⟩) k2 r (fun s1 hr => ?_) ?_
  rw [hk2] at hr
  refine Ok.seq (Ok.region (OkOps.y (aI 0) (OkOps.nil (Ok.ret ?_))))
  obtain rfl := Option.some.inj hr
  exact ⟨_, rfl, .inl rfl, trivial⟩
  clear hk2
  refine Ok.seq (Ok.region (OkOps.y (.c (.d (.sl (List.map Offset.cs l)))) (OkOps.q (triLen (enc := Offset.cs) l rfl rfl trivial rfl) (OkOps.y (aI 0) (OkOps.nil (Ok.block (Ok.loopK (fun (s3 : Int) => ⟨[(1, .s (aI id)), (7, .s (.c (.d (.sl (List.map Offset.cs l))))), (8, .s (aI (l.length : Int))), (9, .s (aI s3))], [], 0⟩) hr (Conv.mk (tau []) ⟨⟨_, rfl, .inl rfl⟩, ⟨_, rfl, .inl rfl⟩, ⟨_, rfl, .inl rfl⟩, ⟨_, rfl, .inl rfl⟩, trivial⟩ trivial rfl rfl rfl rfl) ?_)))))))
  clear hr
  intro again4 s3 hr
  unfold ac_offset_L1 at hr
  refine Ok.seq (Ok.region (OkOps.y (aB (decide (s3 < (l.length : Int)))) (OkOps.nil (Ok.seq ?_))))
  refine Ok.cond (b := decide (s3 < (l.length : Int))) rfl (fun h5 => ?_) (fun h5 => ?_)
  have hr := selT h5 hr
  refine Ok.skip (Ok.seq (Ok.block (Ok.seq (Ok.region ?_))))
  obtain ⟨x6, hx6, hr⟩ := bind_some hr
  refine OkOps.q (triIdx (enc := Offset.cs) (L := l) (row := [dI x6.ID, dI x6.Y]) hx6 rfl rfl rfl rfl (fun _ => rfl) trivial rfl) (OkOps.y (.agg [cI x6.ID, cI x6.Y]) (OkOps.m 0 (triAlloc (j := 0) (cs := [cI 0, cI 0]) rfl rfl rfl rfl) (OkOps.w (triStore (cs' := [cI x6.ID, cI x6.Y]) rfl rfl rfl rfl rfl rfl rfl rfl rfl) (OkOps.nil (Ok.seq (Ok.region (OkOps.y (.c (.loc 0 0)) (OkOps.y (aI x6.ID) (OkOps.y (aI id) (OkOps.y (aB (x6.ID == id)) (OkOps.nil ?_)))))))))))
  refine Ok.cond (b := x6.ID == id) rfl (fun h7 => ?_) (fun h7 => ?_)
  have hr := selT h7 hr
  refine Ok.seq (Ok.region (OkOps.y (.c (.loc 0 1)) (OkOps.y (aI x6.Y) (OkOps.y (aI x6.Y) (OkOps.nil (Ok.ret ?_))))))
  obtain rfl := Option.some.inj hr
  exact ⟨_, rfl, .inl rfl, trivial⟩
  have hr := selF h7 hr
  refine Ok.skip (Ok.region (OkOps.y (aI (IntKind.i64.wrap (s3 + 1))) (OkOps.y (aI (IntKind.i64.wrap (s3 + 1))) (OkOps.nil ?_))))
  exact ⟨IntKind.i64.wrap (s3 + 1), hr, (Conv.mk (tau []) ⟨⟨_, rfl, .inl rfl⟩, ⟨_, rfl, .inl rfl⟩, ⟨_, rfl, .inl rfl⟩, ⟨_, rfl, .inl rfl⟩, trivial⟩ trivial rfl rfl rfl rfl)⟩
  have hr := selF h5 hr
  refine Ok.exit ?_
  exact ⟨(), hr, (Conv.mk (tau []) trivial trivial rfl rfl rfl rfl)⟩
theorem ac_Actions_1_c (act : Int) (on : Bool) (c0 : Int) {r : Int} (hr : ac_Actions_1 act on c0 = some r) : Con Tryz.prog 41 [aI act, aB on, .c (.loc 0 0)] [(0, .blk [cI c0] 3)] (.tup []) [(0, .blk [cI r] 3)] := by
  unfold ac_Actions_1 at hr
  refine Con.of_ok 9 0 [] [(0, .s (aI act)), (1, .s (aB on)), (2, .s (.c (.loc 0 0)))] Tryz.func41 rfl rfl rfl rfl rfl rfl rfl rfl fun w g M ρ _ => (Ok.seq (Ok.region (OkOps.y (aB on) (OkOps.nil ?_))))
  refine Ok.cond (b := on) rfl (fun h1 => ?_) (fun h1 => ?_)
  have hr := selT h1 hr
  refine Ok.region (OkOps.y (aI c0) (OkOps.y (aI act) (OkOps.y (aI (bOr .i64 c0 act)) (OkOps.w (triStore (cs' := [cI (bOr .i64 c0 act)]) rfl rfl rfl rfl rfl rfl rfl rfl rfl) (OkOps.nil ?_)))))
  obtain rfl := Option.some.inj hr
  exact ⟨_, rfl, .inl rfl, ⟨rfl, trivial⟩⟩
  have hr := selF h1 hr
  refine Ok.skip ?_
  obtain rfl := Option.some.inj hr
  exact ⟨_, rfl, .inl rfl, ⟨rfl, trivial⟩⟩
theorem ac_Actions_2_c (a : Action) {r : Bool} (hr : ac_Actions_2 a = some r) : Con Tryz.prog 49 [.agg [cS a.Event, cS a.Instance, cS a.Handler, .d (.sl (List.map AValue.cs a.Args))]] [] (.s (aB r)) [] := by
  unfold ac_Actions_2 at hr
  refine Con.of_ok 6 0 [.tmp 2] [(0, .s (.agg [cS a.Event, cS a.Instance, cS a.Handler, .d (.sl (List.map AValue.cs a.Args))]))] Tryz.func49 rfl rfl rfl rfl rfl rfl rfl rfl fun w g M ρ _ => (Ok.seq (Ok.region (OkOps.m 0 (triBox (j := 0) (cs := [cS a.Event, cS a.Instance, cS a.Handler, .d (.sl (List.map AValue.cs a.Args))]) rfl rfl rfl rfl rfl) (OkOps.y (aB false) (OkOps.nil (Ok.seq (Ok.region (OkOps.y (.c (.loc 0 0)) (OkOps.y (aS a.Event) (OkOps.y (aB (a.Event.toList == (ByteArray.mk #[100, 105, 115, 109, 105, 115, 115]).toList)) (OkOps.y (aB (a.Event.toList == (ByteArray.mk #[100, 105, 115, 109, 105, 115, 115]).toList)) (OkOps.nil (Ok.ret ?_)))))))))))))
  obtain rfl := Option.some.inj hr
  exact ⟨_, rfl, .inl rfl, trivial⟩
theorem sl_IndexFunc_dis_c (p_s : (List Action)) {r : Int} (hr : sl_IndexFunc_dis p_s = some r) : Con Tryz.prog 85 [.c (.d (.sl (List.map Action.cs p_s))), .c (.fn 49 [])] [] (.s (aI r)) [] := by
  unfold sl_IndexFunc_dis at hr
  refine Con.of_ok 19 0 [.tmp 4] [(0, .s (.c (.d (.sl (List.map Action.cs p_s))))), (1, .s (.c (.fn 49 [])))] Tryz.func85 rfl rfl rfl rfl rfl rfl rfl rfl fun w g M ρ _ => (Ok.seq (Ok.region (OkOps.y (aI 0) (OkOps.nil ?_))))
  obtain ⟨k2, hk2, hr⟩ := jn_some hr
  refine Ok.join (fun (s1 : Unit) => ⟨[], [], 0⟩) k2 r (fun s1 hr => ?_) ?_
  rw [hk2] at hr
  refine Ok.seq (Ok.region (OkOps.y (aI (-1)) (OkOps.nil (Ok.ret ?_))))
  obtain rfl := Option.some.inj hr
  exact ⟨_, rfl, .inl rfl, trivial⟩
  clear hk2
  refine Ok.seq (Ok.region (OkOps.y (.c (.d (.sl (List.map Action.cs p_s)))) (OkOps.q (triLen (enc := Action.cs) p_s rfl rfl trivial rfl) (OkOps.y (aI 0) (OkOps.nil (Ok.block (Ok.loopK (fun (s3 : Int) => ⟨[(0, .s (.c (.d (.sl (List.map Action.cs p_s))))), (1, .s (.c (.fn 49 []))), (7, .s (aI (p_s.length : Int))), (8, .s (aI s3))], [], 0⟩) hr (Conv.mk (tau []) ⟨⟨_, rfl, .inl rfl⟩, ⟨_, rfl, .inl rfl⟩, ⟨_, rfl, .inl rfl⟩, ⟨_, rfl, .inl rfl⟩, trivial⟩ trivial rfl rfl rfl rfl) ?_)))))))
  clear hr
  intro again4 s3 hr
  unfold sl_IndexFunc_dis_L1 at hr
  refine Ok.seq (Ok.region (OkOps.y (aB (decide (s3 < (p_s.length : Int)))) (OkOps.nil (Ok.seq ?_))))
  refine Ok.cond (b := decide (s3 < (p_s.length : Int))) rfl (fun h5 => ?_) (fun h5 => ?_)
  have hr := selT h5 hr
  refine Ok.skip (Ok.seq (Ok.block (Ok.seq (Ok.region (OkOps.y (aI s3) (OkOps.y (aI s3) (OkOps.nil (Ok.seq (Ok.region (OkOps.y (.c (.fn 49 [])) (OkOps.y (.c (.d (.sl (List.map Action.cs p_s)))) (OkOps.y (aI s3) ?_))))))))))))
  obtain ⟨x6, hx6, hr⟩ := bind_some hr
  refine OkOps.q (triIdx (enc := Action.cs) (L := p_s) (row := [dS x6.Event, dS x6.Instance, dS x6.Handler, .sl (List.map AValue.cs x6.Args)]) hx6 rfl rfl rfl rfl (fun _ => rfl) trivial rfl) (OkOps.y (.agg [cS x6.Event, cS x6.Instance, cS x6.Handler, .d (.sl (List.map AValue.cs x6.Args))]) ?_)
  obtain ⟨x7, hx7, hr⟩ := bind_some hr
  refine OkOps.q (triCallF (caps := []) (tau []) (.s (aB x7)) [] rfl (ac_Actions_2_c _ hx7) rfl ⟨.inl rfl, trivial⟩ trivial entry49 trivial rfl rfl rfl rfl trivial rfl rfl rfl) (OkOps.nil ?_)
  refine Ok.cond (b := x7) rfl (fun h8 => ?_) (fun h8 => ?_)
  have hr := selT h8 hr
  refine Ok.seq (Ok.region (OkOps.y (aI s3) (OkOps.y (aI s3) (OkOps.nil (Ok.ret ?_)))))
  obtain rfl := Option.some.inj hr
  exact ⟨_, rfl, .inl rfl, trivial⟩
  have hr := selF h8 hr
  refine Ok.skip (Ok.region (OkOps.y (aI (IntKind.i64.wrap (s3 + 1))) (OkOps.y (aI (IntKind.i64.wrap (s3 + 1))) (OkOps.nil ?_))))
  exact ⟨IntKind.i64.wrap (s3 + 1), hr, (Conv.mk (tau []) ⟨⟨_, rfl, .inl rfl⟩, ⟨_, rfl, .inl rfl⟩, ⟨_, rfl, .inl rfl⟩, ⟨_, rfl, .inl rfl⟩, trivial⟩ trivial rfl rfl rfl rfl)⟩
  have hr := selF h5 hr
  refine Ok.exit ?_
  exact ⟨(), hr, (Conv.mk (tau []) trivial trivial rfl rfl rfl rfl)⟩
theorem sl_ContainsFunc_dis_c (p_s : (List Action)) {r : Bool} (hr : sl_ContainsFunc_dis p_s = some r) : Con Tryz.prog 48 [.c (.d (.sl (List.map Action.cs p_s))), .c (.fn 49 [])] [] (.s (aB r)) [] := by
  unfold sl_ContainsFunc_dis at hr
  refine Con.of_ok 9 0 [.tmp 4] [(0, .s (.c (.d (.sl (List.map Action.cs p_s))))), (1, .s (.c (.fn 49 [])))] Tryz.func48 rfl rfl rfl rfl rfl rfl rfl rfl fun w g M ρ _ => (Ok.seq (Ok.region (OkOps.y (aB false) (OkOps.nil (Ok.seq (Ok.region (OkOps.y (.c (.d (.sl (List.map Action.cs p_s)))) (OkOps.y (.c (.fn 49 [])) ?_))))))))
  obtain ⟨x1, hx1, hr⟩ := bind_some hr
  refine OkOps.q (triCl (tau []) (.s (aI x1)) [] (sl_IndexFunc_dis_c _ hx1) rfl ⟨.inl rfl, .inl rfl, trivial⟩ trivial entry85 trivial) (OkOps.y (aB (decide (x1 ≥ 0))) (OkOps.y (aB (decide (x1 ≥ 0))) (OkOps.nil (Ok.ret ?_))))
  obtain rfl := Option.some.inj hr
  exact ⟨_, rfl, .inl rfl, trivial⟩
theorem ac_Actions_c (t : Tree) (st : (List Styled)) (boxes : (List Box)) (offsets : (List Offset)) (id : Int) {r : Int} (hr : ac_Actions t st boxes offsets id = some r) : Con Tryz.prog 10 [.agg [cI t.Root, cI t.Next, .d (.sl (List.map Node.cs t.Nodes))], .c (.d (.sl (List.map Styled.cs st))), .c (.d (.sl (List.map Box.cs boxes))), .c (.d (.sl (List.map Offset.cs offsets))), aI id] [] (.s (aI r)) [] := by
  unfold ac_Actions at hr
  refine Con.of_ok 133 0 [.tmp 10] [(0, .s (.agg [cI t.Root, cI t.Next, .d (.sl (List.map Node.cs t.Nodes))])), (1, .s (.c (.d (.sl (List.map Styled.cs st))))), (2, .s (.c (.d (.sl (List.map Box.cs boxes))))), (3, .s (.c (.d (.sl (List.map Offset.cs offsets))))), (4, .s (aI id))] Tryz.func10 rfl rfl rfl rfl rfl rfl rfl rfl fun w g M ρ _ => (Ok.seq (Ok.region (OkOps.m 0 (triBox (j := 0) (cs := [cI t.Root, cI t.Next, .d (.sl (List.map Node.cs t.Nodes))]) rfl rfl rfl rfl rfl) (OkOps.y (aI 0) (OkOps.nil (Ok.seq (Ok.region (OkOps.y (.agg [cI t.Root, cI t.Next, .d (.sl (List.map Node.cs t.Nodes))]) (OkOps.y (aI id) ?_)))))))))
  obtain ⟨x1, hx1, hr⟩ := bind_some hr
  refine OkOps.q (triCl (tau []) (.tup [.agg [cI x1.1.ID, cI x1.1.Parent, cI x1.1.Kind, cS x1.1.Key, .d (.sl (List.map Attr.cs x1.1.Attrs)), .d (.sl (List.map Action.cs x1.1.Actions)), .d (.sl (List.map (eInt .i64) x1.1.Kids))], aB x1.2]) [] (vw_Find_c _ _ hx1) rfl ⟨.inl rfl, .inl rfl, trivial⟩ trivial entry36 trivial) (OkOps.q (triMv (v := .tup [.agg [cI x1.1.ID, cI x1.1.Parent, cI x1.1.Kind, cS x1.1.Key, .d (.sl (List.map Attr.cs x1.1.Attrs)), .d (.sl (List.map Action.cs x1.1.Actions)), .d (.sl (List.map (eInt .i64) x1.1.Kids))], aB x1.2]) rfl rfl) (OkOps.y (.agg [cI x1.1.ID, cI x1.1.Parent, cI x1.1.Kind, cS x1.1.Key, .d (.sl (List.map Attr.cs x1.1.Attrs)), .d (.sl (List.map Action.cs x1.1.Actions)), .d (.sl (List.map (eInt .i64) x1.1.Kids))]) (OkOps.y (aB x1.2) (OkOps.m 0 (triAlloc (j := 1) (cs := [cI 0, cI 0, cI 0, cS ByteArray.empty, .d (.v (.slice none 0 0)), .d (.v (.slice none 0 0)), .d (.v (.slice none 0 0))]) rfl rfl rfl rfl) (OkOps.w (triStore (cs' := [cI x1.1.ID, cI x1.1.Parent, cI x1.1.Kind, cS x1.1.Key, .d (.sl (List.map Attr.cs x1.1.Attrs)), .d (.sl (List.map Action.cs x1.1.Actions)), .d (.sl (List.map (eInt .i64) x1.1.Kids))]) rfl rfl rfl rfl rfl rfl rfl rfl rfl) (OkOps.y (aB x1.2) (OkOps.nil (Ok.seq (Ok.seq (Ok.regionD (by kernel_rfl) (OkD.x (aB x1.2) rfl trivial rfl (OkD.x (aB (!x1.2)) rfl trivial rfl (OkD.x (aB (!x1.2)) rfl trivial rfl (OkD.q (triQG (x := .agg [cI t.Root, cI t.Next, .d (.sl (List.map Node.cs t.Nodes))]) rfl rfl trivial rfl) (OkD.q (triQG (x := aI id) rfl rfl trivial rfl) ?_)))))))))))))))
  obtain ⟨x2, hx2, hr⟩ := bind_some hr
  refine OkD.q (triCallG (x := aB x2) (fun hg => dp_Disabled_c _ _ (gO_t hx2 hg)) rfl rfl ⟨.inl rfl, .inl rfl, trivial⟩ ⟨fun h => h, ⟨fun h => h, trivial⟩⟩ entry37 rfl rfl rfl) ?_
  refine OkD.q (triOr rfl rfl (fun h => by rw [h]; rfl) rfl) ?_
  refine OkD.x (aB ((!x1.2) || x2)) rfl trivial rfl (OkD.q (triQG (x := .agg [cI t.Root, cI t.Next, .d (.sl (List.map Node.cs t.Nodes))]) rfl rfl trivial rfl) (OkD.q (triQG (x := .c (.d (.sl (List.map Styled.cs st)))) rfl rfl trivial rfl) (OkD.q (triQG (x := aI id) rfl rfl trivial rfl) ?_)))
  obtain ⟨x3, hx3, hr⟩ := bind_some hr
  refine OkD.q (triCallG (x := aB x3) (fun hg => ht_Shown_c _ _ _ (gO_t hx3 hg)) rfl rfl ⟨.inl rfl, .inl rfl, .inl rfl, trivial⟩ ⟨fun h => h, ⟨fun h => h, ⟨fun h => h, trivial⟩⟩⟩ entry38 rfl rfl rfl) (OkD.q (triQG (x := aB (!x3)) rfl rfl ⟨fun h => h, trivial⟩ rfl) ?_)
  refine OkD.q (triOr rfl rfl (fun h => by rw [h]; rfl) rfl) ?_
  refine OkD.x (aB (((!x1.2) || x2) || (!x3))) rfl trivial rfl (OkD.q (triQG (x := .agg [cI t.Root, cI t.Next, .d (.sl (List.map Node.cs t.Nodes))]) rfl rfl trivial rfl) (OkD.q (triQG (x := aI id) rfl rfl trivial rfl) ?_))
  obtain ⟨x4, hx4, hr⟩ := bind_some hr
  refine OkD.q (triCallG (x := .c (.d (.sl (List.map (eInt .i64) x4)))) (fun hg => vw_Path_c _ _ (gO_t hx4 hg)) rfl rfl ⟨.inl rfl, .inl rfl, trivial⟩ ⟨fun h => h, ⟨fun h => h, trivial⟩⟩ entry40 rfl rfl rfl) (OkD.q (triQG (x := .agg [cI t.Root, cI t.Next, .d (.sl (List.map Node.cs t.Nodes))]) rfl rfl trivial rfl) (OkD.q (triQG (x := .c (.d (.sl (List.map Styled.cs st)))) rfl rfl trivial rfl) ?_))
  obtain ⟨x5, hx5, hr⟩ := bind_some hr
  refine OkD.q (triCallG (x := aI x5) (fun hg => fo_Scope_c _ _ (gO_t hx5 hg)) rfl rfl ⟨.inl rfl, .inl rfl, trivial⟩ ⟨fun h => h, ⟨fun h => h, trivial⟩⟩ entry18 rfl rfl rfl) ?_
  obtain ⟨x6, hx6, hr⟩ := bind_some hr
  refine OkD.q (triCallG (x := aB x6) (fun hg => slices_Contains_Sl_int_int_c _ _ (gO_t hx6 hg)) rfl rfl ⟨.inl rfl, .inl rfl, trivial⟩ ⟨fun h => h, ⟨fun h => h, trivial⟩⟩ entry39 rfl rfl rfl) (OkD.q (triQG (x := aB (!x6)) rfl rfl ⟨fun h => h, trivial⟩ rfl) ?_)
  refine OkD.q (triOr rfl rfl (fun h => by rw [h]; rfl) rfl) ?_
  refine OkD.nil (by kernel_rfl) ?_
  refine Ok.cond (b := (((!x1.2) || x2) || (!x3)) || (!x6)) rfl (fun h7 => ?_) (fun h7 => ?_)
  have hr := selT h7 hr
  refine Ok.seq (Ok.region (OkOps.y (aI 0) (OkOps.nil (Ok.ret ?_))))
  obtain rfl := Option.some.inj hr
  exact ⟨_, rfl, .inl rfl, trivial⟩
  have hr := selF h7 hr
  refine Ok.skip (Ok.seq (Ok.region (OkOps.m 0 (triAlloc (j := 2) (cs := [cI 0]) rfl rfl rfl rfl) (OkOps.w (triStore (cs' := [cI 0]) rfl rfl rfl rfl rfl rfl rfl rfl rfl) (OkOps.nil (Ok.seq (Ok.region (OkOps.q (triMkF [(2, 0)] rfl trivial rfl) (OkOps.y (.c (.fn 41 [(2, 0)])) (OkOps.nil (Ok.seq (Ok.region (OkOps.y (.c (.fn 41 [(2, 0)])) (OkOps.y (.agg [cI t.Root, cI t.Next, .d (.sl (List.map Node.cs t.Nodes))]) (OkOps.y (aI id) ?_)))))))))))))))
  obtain ⟨x8, hx8, hr⟩ := bind_some hr
  refine OkOps.q (triCl (tau []) (.s (aB x8)) [] (fo_Pressable_c _ _ hx8) rfl ⟨.inl rfl, .inl rfl, trivial⟩ trivial entry42 trivial) ?_
  obtain ⟨x9, hx9, hr⟩ := bind_some hr
  refine OkOps.m 0 (triCallF (caps := [(2, 0)]) (tau [(0, 2)]) (.tup []) [(2, .blk [cI x9] 3)] rfl (ac_Actions_1_c _ _ _ hx9) rfl ⟨.inl rfl, .inl rfl, .inl rfl, trivial⟩ trivial entry41 ⟨rfl, trivial⟩ rfl rfl rfl rfl trivial rfl rfl rfl) (OkOps.nil (Ok.seq (Ok.region (OkOps.y (.c (.fn 41 [(2, 0)])) (OkOps.y (.agg [cI t.Root, cI t.Next, .d (.sl (List.map Node.cs t.Nodes))]) (OkOps.y (.c (.d (.sl (List.map Styled.cs st)))) ?_))))))
  obtain ⟨x10, hx10, hr⟩ := bind_some hr
  refine OkOps.m 0 (triCall (tau [(2000, 3)]) (.s (.c (.own 3))) [(3, .vec 1 (List.map (eInt .i64) x10))] (fo_Candidates_c _ _ hx10) rfl ⟨.inl rfl, .inl rfl, trivial⟩ trivial entry43 trivial rfl rfl rfl rfl ⟨rfl, trivial⟩ rfl rfl rfl) (OkOps.y (aI id) ?_)
  obtain ⟨x11, hx11, hr⟩ := bind_some hr
  refine OkOps.q (triLoan (slices_Contains_Sl_int_int_c _ _ hx11) rfl ⟨.inr ⟨_, _, _, rfl, rfl, rfl⟩, .inl (.inl rfl), trivial⟩ trivial entry39 rfl rfl rfl) ?_
  obtain ⟨x12, hx12, hr⟩ := bind_some hr
  refine OkOps.m 0 (triCallF (caps := [(2, 0)]) (tau [(0, 2)]) (.tup []) [(2, .blk [cI x12] 3)] rfl (ac_Actions_1_c _ _ _ hx12) rfl ⟨.inl rfl, .inl rfl, .inl rfl, trivial⟩ trivial entry41 ⟨rfl, trivial⟩ rfl rfl rfl rfl trivial rfl rfl rfl) (OkOps.nil ?_)
  obtain ⟨k14, hk14, hr⟩ := jn_some hr
  refine Ok.join (fun (s13 : Int) => ⟨[(13, .s (.c (.loc 2 0)))], [(2, .blk [cI s13] 3)], 0⟩) k14 r (fun s13 hr => ?_) ?_
  rw [hk14] at hr
  refine Ok.seq (Ok.region (OkOps.y (aI s13) (OkOps.y (aI s13) (OkOps.nil (Ok.ret ?_)))))
  obtain rfl := Option.some.inj hr
  exact ⟨_, rfl, .inl rfl, trivial⟩
  clear hk14
  refine Ok.seq (Ok.region (OkOps.y (.c (.loc 1 2)) (OkOps.y (aI x1.1.Kind) (OkOps.nil (Ok.block (Ok.seq (Ok.region (OkOps.y (aB (x1.1.Kind == 13)) (OkOps.y (aB (x1.1.Kind == 13)) (OkOps.nil ?_))))))))))
  refine Ok.cond (b := x1.1.Kind == 13) rfl (fun h15 => ?_) (fun h15 => ?_)
  have hr := selT h15 hr
  refine Ok.seq (Ok.region (OkOps.y (.c (.loc 1 4)) (OkOps.y (.c (.d (.sl (List.map Attr.cs x1.1.Attrs)))) ?_)))
  obtain ⟨x16, hx16, hr⟩ := bind_some hr
  refine OkOps.q (triCl (tau []) (.s (aI x16)) [] (vw_Number_c _ _ _ hx16) rfl ⟨.inl rfl, .inl rfl, .inl rfl, trivial⟩ trivial entry44 trivial) (OkOps.y (aI x16) (OkOps.nil (Ok.seq (Ok.region (OkOps.y (.c (.fn 41 [(2, 0)])) (OkOps.y (aI x16) (OkOps.y (.c (.loc 1 4)) (OkOps.y (.c (.d (.sl (List.map Attr.cs x1.1.Attrs)))) ?_))))))))
  obtain ⟨x17, hx17, hr⟩ := bind_some hr
  refine OkOps.q (triCl (tau []) (.s (aI x17)) [] (vw_Number_c _ _ _ hx17) rfl ⟨.inl rfl, .inl rfl, .inl rfl, trivial⟩ trivial entry44 trivial) (OkOps.y (aB (decide (x16 < x17))) ?_)
  obtain ⟨x18, hx18, hr⟩ := bind_some hr
  refine OkOps.m 0 (triCallF (caps := [(2, 0)]) (tau [(0, 2)]) (.tup []) [(2, .blk [cI x18] 3)] rfl (ac_Actions_1_c _ _ _ hx18) rfl ⟨.inl rfl, .inl rfl, .inl rfl, trivial⟩ trivial entry41 ⟨rfl, trivial⟩ rfl rfl rfl rfl trivial rfl rfl rfl) (OkOps.nil (Ok.region (OkOps.y (.c (.fn 41 [(2, 0)])) (OkOps.y (aI x16) (OkOps.y (.c (.loc 1 4)) (OkOps.y (.c (.d (.sl (List.map Attr.cs x1.1.Attrs)))) ?_))))))
  obtain ⟨x19, hx19, hr⟩ := bind_some hr
  refine OkOps.q (triCl (tau []) (.s (aI x19)) [] (vw_Number_c _ _ _ hx19) rfl ⟨.inl rfl, .inl rfl, .inl rfl, trivial⟩ trivial entry44 trivial) (OkOps.y (aB (decide (x16 > x19))) ?_)
  obtain ⟨x20, hx20, hr⟩ := bind_some hr
  refine OkOps.m 0 (triCallF (caps := [(2, 0)]) (tau [(0, 2)]) (.tup []) [(2, .blk [cI x20] 3)] rfl (ac_Actions_1_c _ _ _ hx20) rfl ⟨.inl rfl, .inl rfl, .inl rfl, trivial⟩ trivial entry41 ⟨rfl, trivial⟩ rfl rfl rfl rfl trivial rfl rfl rfl) (OkOps.nil ?_)
  exact ⟨x20, hr, (Conv.mk (tau []) ⟨⟨_, rfl, .inl rfl⟩, trivial⟩ ⟨rfl, trivial⟩ rfl rfl rfl rfl)⟩
  have hr := selF h15 hr
  refine Ok.seq (Ok.region (OkOps.y (aB (x1.1.Kind == 4)) (OkOps.y (aB (x1.1.Kind == 4)) (OkOps.nil ?_))))
  refine Ok.cond (b := x1.1.Kind == 4) rfl (fun h21 => ?_) (fun h21 => ?_)
  have hr := selT h21 hr
  refine Ok.seq (Ok.region (OkOps.y (.c (.fn 41 [(2, 0)])) ?_))
  obtain ⟨x22, hx22, hr⟩ := bind_some hr
  refine OkOps.m 0 (triCallF (caps := [(2, 0)]) (tau [(0, 2)]) (.tup []) [(2, .blk [cI x22] 3)] rfl (ac_Actions_1_c _ _ _ hx22) rfl ⟨.inl rfl, .inl rfl, .inl rfl, trivial⟩ trivial entry41 ⟨rfl, trivial⟩ rfl rfl rfl rfl trivial rfl rfl rfl) (OkOps.nil (Ok.region (OkOps.y (.c (.fn 41 [(2, 0)])) (OkOps.y (.c (.loc 1 4)) (OkOps.y (.c (.d (.sl (List.map Attr.cs x1.1.Attrs)))) ?_)))))
  obtain ⟨x23, hx23, hr⟩ := bind_some hr
  refine OkOps.q (triCl (tau []) (.s (aB x23)) [] (vw_Flag_c _ _ hx23) rfl ⟨.inl rfl, .inl rfl, trivial⟩ trivial entry45 trivial) (OkOps.y (aB (!x23)) ?_)
  obtain ⟨x24, hx24, hr⟩ := bind_some hr
  refine OkOps.m 0 (triCallF (caps := [(2, 0)]) (tau [(0, 2)]) (.tup []) [(2, .blk [cI x24] 3)] rfl (ac_Actions_1_c _ _ _ hx24) rfl ⟨.inl rfl, .inl rfl, .inl rfl, trivial⟩ trivial entry41 ⟨rfl, trivial⟩ rfl rfl rfl rfl trivial rfl rfl rfl) (OkOps.nil ?_)
  exact ⟨x24, hr, (Conv.mk (tau []) ⟨⟨_, rfl, .inl rfl⟩, trivial⟩ ⟨rfl, trivial⟩ rfl rfl rfl rfl)⟩
  have hr := selF h21 hr
  refine Ok.seq (Ok.region (OkOps.y (aB (x1.1.Kind == 8)) (OkOps.y (aB (x1.1.Kind == 8)) (OkOps.nil ?_))))
  refine Ok.cond (b := x1.1.Kind == 8) rfl (fun h25 => ?_) (fun h25 => ?_)
  have hr := selT h25 hr
  refine Ok.seq (Ok.region (OkOps.y (.c (.d (.sl (List.map Box.cs boxes)))) (OkOps.y (aI id) ?_)))
  obtain ⟨x26, hx26, hr⟩ := bind_some hr
  refine OkOps.q (triCl (tau []) (.tup [.agg [cI x26.1.X, cI x26.1.Y, cI x26.1.W, cI x26.1.H], aB x26.2]) [] (ac_box_c _ _ hx26) rfl ⟨.inl rfl, .inl rfl, trivial⟩ trivial entry46 trivial) (OkOps.q (triMv (v := .tup [.agg [cI x26.1.X, cI x26.1.Y, cI x26.1.W, cI x26.1.H], aB x26.2]) rfl rfl) (OkOps.y (.agg [cI x26.1.X, cI x26.1.Y, cI x26.1.W, cI x26.1.H]) (OkOps.y (aB x26.2) (OkOps.m 0 (triAlloc (j := 4) (cs := [cI 0, cI 0, cI 0, cI 0]) rfl rfl rfl rfl) (OkOps.w (triStore (cs' := [cI x26.1.X, cI x26.1.Y, cI x26.1.W, cI x26.1.H]) rfl rfl rfl rfl rfl rfl rfl rfl rfl) (OkOps.y (aB x26.2) (OkOps.nil (Ok.seq (Ok.region (OkOps.y (.c (.d (.sl (List.map Offset.cs offsets)))) (OkOps.y (aI id) ?_)))))))))))
  obtain ⟨x27, hx27, hr⟩ := bind_some hr
  refine OkOps.q (triCl (tau []) (.s (aI x27)) [] (ac_offset_c _ _ hx27) rfl ⟨.inl rfl, .inl rfl, trivial⟩ trivial entry47 trivial) (OkOps.y (aI x27) (OkOps.nil (Ok.seq (Ok.region (OkOps.y (.c (.fn 41 [(2, 0)])) (OkOps.y (aB x26.2) (OkOps.y (aB x26.2) (OkOps.q (triQG (x := aI x27) rfl rfl trivial rfl) (OkOps.q (triQG (x := aB (decide (x27 > 0))) rfl rfl ⟨fun h => h, trivial⟩ rfl) (OkOps.q (triAnd rfl rfl (fun h => h) rfl) ?_))))))))))
  obtain ⟨x28, hx28, hr⟩ := bind_some hr
  refine OkOps.m 0 (triCallF (caps := [(2, 0)]) (tau [(0, 2)]) (.tup []) [(2, .blk [cI x28] 3)] rfl (ac_Actions_1_c _ _ _ hx28) rfl ⟨.inl rfl, .inl rfl, .inl rfl, trivial⟩ trivial entry41 ⟨rfl, trivial⟩ rfl rfl rfl rfl trivial rfl rfl rfl) (OkOps.nil (Ok.regionD (by kernel_rfl) (OkD.x (.c (.fn 41 [(2, 0)])) rfl trivial rfl (OkD.x (aB x26.2) rfl trivial rfl (OkD.x (aB x26.2) rfl trivial rfl (OkD.q (triQG (x := aI x27) rfl rfl trivial rfl) (OkD.q (triQG (x := .agg [cI t.Root, cI t.Next, .d (.sl (List.map Node.cs t.Nodes))]) rfl rfl trivial rfl) (OkD.q (triQG (x := .c (.d (.sl (List.map Box.cs boxes)))) rfl rfl trivial rfl) (OkD.q (triQG (x := aI id) rfl rfl trivial rfl) ?_)))))))))
  obtain ⟨x29, hx29, hr⟩ := bind_some hr
  refine OkD.q (triCallG (x := aI x29) (fun hg => ac_Extent_c _ _ _ (gO_t hx29 hg)) rfl rfl ⟨.inl rfl, .inl rfl, .inl rfl, trivial⟩ ⟨fun h => h, ⟨fun h => h, ⟨fun h => h, trivial⟩⟩⟩ entry12 rfl rfl rfl) (OkD.q (triQG (x := .c (.loc 4 3)) rfl rfl trivial rfl) (OkD.q (triQG (x := aI x26.1.H) rfl rfl ⟨fun h => h, trivial⟩ rfl) (OkD.q (triQG (x := aI (IntKind.i64.wrap (x29 - x26.1.H))) rfl rfl ⟨fun h => h, ⟨fun h => h, trivial⟩⟩ rfl) (OkD.q (triQG (x := aB (decide (x27 < (IntKind.i64.wrap (x29 - x26.1.H))))) rfl rfl ⟨fun h => h, ⟨fun h => h, trivial⟩⟩ rfl) (OkD.q (triAnd rfl rfl (fun h => h) rfl) ?_)))))
  obtain ⟨x30, hx30, hr⟩ := bind_some hr
  refine OkD.m 0 (triCallF (caps := [(2, 0)]) (tau [(0, 2)]) (.tup []) [(2, .blk [cI x30] 3)] rfl (ac_Actions_1_c _ _ _ hx30) rfl ⟨.inl rfl, .inl rfl, .inl rfl, trivial⟩ trivial entry41 ⟨rfl, trivial⟩ rfl rfl rfl rfl trivial rfl rfl rfl) (OkD.nil (by kernel_rfl) ?_)
  exact ⟨x30, hr, (Conv.mk (tau []) ⟨⟨_, rfl, .inl rfl⟩, trivial⟩ ⟨rfl, trivial⟩ rfl rfl rfl rfl)⟩
  have hr := selF h25 hr
  refine Ok.seq (Ok.region (OkOps.y (aB (x1.1.Kind == 12)) (OkOps.y (aB (x1.1.Kind == 12)) (OkOps.nil ?_))))
  refine Ok.cond (b := x1.1.Kind == 12) rfl (fun h31 => ?_) (fun h31 => ?_)
  have hr := selT h31 hr
  refine Ok.region (OkOps.y (.c (.fn 41 [(2, 0)])) (OkOps.y (.c (.loc 1 5)) (OkOps.y (.c (.d (.sl (List.map Action.cs x1.1.Actions)))) ?_)))
  obtain ⟨x32, hx32, hr⟩ := bind_some hr
  refine OkOps.q (triCl (tau []) (.s (aB x32)) [] (sl_ContainsFunc_dis_c _ hx32) rfl ⟨.inl rfl, .inl rfl, trivial⟩ trivial entry48 trivial) ?_
  obtain ⟨x33, hx33, hr⟩ := bind_some hr
  refine OkOps.m 0 (triCallF (caps := [(2, 0)]) (tau [(0, 2)]) (.tup []) [(2, .blk [cI x33] 3)] rfl (ac_Actions_1_c _ _ _ hx33) rfl ⟨.inl rfl, .inl rfl, .inl rfl, trivial⟩ trivial entry41 ⟨rfl, trivial⟩ rfl rfl rfl rfl trivial rfl rfl rfl) (OkOps.nil ?_)
  exact ⟨x33, hr, (Conv.mk (tau []) ⟨⟨_, rfl, .inl rfl⟩, trivial⟩ ⟨rfl, trivial⟩ rfl rfl rfl rfl)⟩
  have hr := selF h31 hr
  refine Ok.skip ?_
  exact ⟨x12, hr, (Conv.mk (tau []) ⟨⟨_, rfl, .inl rfl⟩, trivial⟩ ⟨rfl, trivial⟩ rfl rfl rfl rfl)⟩
theorem ac_roles_c  {r : (List Str)} (hr : ac_roles  = some r) : Con Tryz.prog 150 [] [] (.s (.c (.d (.sl (List.map eStr r))))) [] := by
  unfold ac_roles at hr
  refine Con.of_ok 2 0 [.tmp 0] [] Tryz.func150 rfl rfl rfl rfl rfl rfl rfl rfl fun w g M ρ _ => (Ok.seq (Ok.region (OkOps.y (.c (.d (.v (.slice none 0 0)))) (OkOps.nil (Ok.seq (Ok.region (OkOps.m 0 (triBST (sz := 1) (enc := eStr) (j := 0) ([(ByteArray.mk #[110, 111, 110, 101]), (ByteArray.mk #[119, 105, 110, 100, 111, 119]), (ByteArray.mk #[103, 114, 111, 117, 112]), (ByteArray.mk #[116, 101, 120, 116]), (ByteArray.mk #[98, 117, 116, 116, 111, 110]), (ByteArray.mk #[116, 101, 120, 116, 98, 111, 120]), (ByteArray.mk #[105, 109, 97, 103, 101]), (ByteArray.mk #[99, 104, 101, 99, 107, 98, 111, 120]), (ByteArray.mk #[108, 105, 110, 107]), (ByteArray.mk #[115, 99, 114, 111, 108, 108]), (ByteArray.mk #[104, 101, 97, 100, 105, 110, 103]), (ByteArray.mk #[108, 105, 115, 116]), (ByteArray.mk #[105, 116, 101, 109]), (ByteArray.mk #[100, 105, 97, 108, 111, 103]), (ByteArray.mk #[115, 108, 105, 100, 101, 114]), (ByteArray.mk #[115, 116, 97, 116, 117, 115])]) rfl rfl rfl rfl rfl rfl rfl rfl (fun _ => rfl) trivial rfl rfl) (OkOps.y (.c (.tl 0 (List.map eStr ([(ByteArray.mk #[110, 111, 110, 101]), (ByteArray.mk #[119, 105, 110, 100, 111, 119]), (ByteArray.mk #[103, 114, 111, 117, 112]), (ByteArray.mk #[116, 101, 120, 116]), (ByteArray.mk #[98, 117, 116, 116, 111, 110]), (ByteArray.mk #[116, 101, 120, 116, 98, 111, 120]), (ByteArray.mk #[105, 109, 97, 103, 101]), (ByteArray.mk #[99, 104, 101, 99, 107, 98, 111, 120]), (ByteArray.mk #[108, 105, 110, 107]), (ByteArray.mk #[115, 99, 114, 111, 108, 108]), (ByteArray.mk #[104, 101, 97, 100, 105, 110, 103]), (ByteArray.mk #[108, 105, 115, 116]), (ByteArray.mk #[105, 116, 101, 109]), (ByteArray.mk #[100, 105, 97, 108, 111, 103]), (ByteArray.mk #[115, 108, 105, 100, 101, 114]), (ByteArray.mk #[115, 116, 97, 116, 117, 115])])))) (OkOps.nil (Ok.ret ?_))))))))))
  obtain rfl := Option.some.inj hr
  exact ⟨_, rfl, .inr rfl, trivial⟩
theorem ac_natural_c (p_n : Node) (pressable : Bool) {r : Int} (hr : ac_natural p_n pressable = some r) : Con Tryz.prog 148 [.agg [cI p_n.ID, cI p_n.Parent, cI p_n.Kind, cS p_n.Key, .d (.sl (List.map Attr.cs p_n.Attrs)), .d (.sl (List.map Action.cs p_n.Actions)), .d (.sl (List.map (eInt .i64) p_n.Kids))], aB pressable] [] (.s (aI r)) [] := by
  unfold ac_natural at hr
  refine Con.of_ok 54 0 [.tmp 4] [(0, .s (.agg [cI p_n.ID, cI p_n.Parent, cI p_n.Kind, cS p_n.Key, .d (.sl (List.map Attr.cs p_n.Attrs)), .d (.sl (List.map Action.cs p_n.Actions)), .d (.sl (List.map (eInt .i64) p_n.Kids))])), (1, .s (aB pressable))] Tryz.func148 rfl rfl rfl rfl rfl rfl rfl rfl fun w g M ρ _ => (Ok.seq (Ok.region (OkOps.m 0 (triBox (j := 0) (cs := [cI p_n.ID, cI p_n.Parent, cI p_n.Kind, cS p_n.Key, .d (.sl (List.map Attr.cs p_n.Attrs)), .d (.sl (List.map Action.cs p_n.Actions)), .d (.sl (List.map (eInt .i64) p_n.Kids))]) rfl rfl rfl rfl rfl) (OkOps.y (aI 0) (OkOps.nil (Ok.seq (Ok.region (OkOps.y (.c (.loc 0 4)) (OkOps.y (.c (.d (.sl (List.map Attr.cs p_n.Attrs)))) ?_)))))))))
  obtain ⟨x1, hx1, hr⟩ := bind_some hr
  refine OkOps.q (triCl (tau []) (.s (aS x1)) [] (vw_Text_c _ _ hx1) rfl ⟨.inl rfl, .inl rfl, trivial⟩ trivial entry107 trivial) (OkOps.y (aB (!(x1.toList == (ByteArray.mk #[]).toList))) (OkOps.y (aB (!(x1.toList == (ByteArray.mk #[]).toList))) (OkOps.nil ?_)))
  obtain ⟨k3, hk3, hr⟩ := jn_some hr
  refine Ok.join (fun (s2 : Unit) => ⟨[], [], 0⟩) k3 r (fun s2 hr => ?_) ?_
  rw [hk3] at hr
  refine Ok.seq (Ok.region (OkOps.y (aI 0) (OkOps.nil (Ok.ret ?_))))
  obtain rfl := Option.some.inj hr
  exact ⟨_, rfl, .inl rfl, trivial⟩
  clear hk3
  refine Ok.seq (Ok.region (OkOps.y (.c (.loc 0 2)) (OkOps.y (aI p_n.Kind) (OkOps.nil (Ok.block (Ok.seq (Ok.region (OkOps.y (aB (p_n.Kind == 2)) (OkOps.y (aB (p_n.Kind == 2)) (OkOps.nil ?_))))))))))
  refine Ok.cond (b := p_n.Kind == 2) rfl (fun h4 => ?_) (fun h4 => ?_)
  have hr := selT h4 hr
  refine Ok.seq (Ok.region (OkOps.y (aI 3) (OkOps.nil (Ok.ret ?_))))
  obtain rfl := Option.some.inj hr
  exact ⟨_, rfl, .inl rfl, trivial⟩
  have hr := selF h4 hr
  refine Ok.seq (Ok.region (OkOps.y (aB (p_n.Kind == 3)) (OkOps.y (aB (p_n.Kind == 3)) (OkOps.nil ?_))))
  refine Ok.cond (b := p_n.Kind == 3) rfl (fun h5 => ?_) (fun h5 => ?_)
  have hr := selT h5 hr
  refine Ok.seq (Ok.region (OkOps.y (aI 4) (OkOps.nil (Ok.ret ?_))))
  obtain rfl := Option.some.inj hr
  exact ⟨_, rfl, .inl rfl, trivial⟩
  have hr := selF h5 hr
  refine Ok.seq (Ok.region (OkOps.y (aB (p_n.Kind == 4)) (OkOps.y (aB (p_n.Kind == 4)) (OkOps.nil ?_))))
  refine Ok.cond (b := p_n.Kind == 4) rfl (fun h6 => ?_) (fun h6 => ?_)
  have hr := selT h6 hr
  refine Ok.seq (Ok.region (OkOps.y (aI 5) (OkOps.nil (Ok.ret ?_))))
  obtain rfl := Option.some.inj hr
  exact ⟨_, rfl, .inl rfl, trivial⟩
  have hr := selF h6 hr
  refine Ok.seq (Ok.region (OkOps.y (aB (p_n.Kind == 6)) (OkOps.y (aB (p_n.Kind == 6)) (OkOps.nil ?_))))
  refine Ok.cond (b := p_n.Kind == 6) rfl (fun h7 => ?_) (fun h7 => ?_)
  have hr := selT h7 hr
  refine Ok.seq (Ok.region (OkOps.y (aI 7) (OkOps.nil (Ok.ret ?_))))
  obtain rfl := Option.some.inj hr
  exact ⟨_, rfl, .inl rfl, trivial⟩
  have hr := selF h7 hr
  refine Ok.seq (Ok.region (OkOps.y (aB (p_n.Kind == 7)) (OkOps.y (aB (p_n.Kind == 7)) (OkOps.nil ?_))))
  refine Ok.cond (b := p_n.Kind == 7) rfl (fun h8 => ?_) (fun h8 => ?_)
  have hr := selT h8 hr
  refine Ok.seq (Ok.region (OkOps.y (aI 8) (OkOps.nil (Ok.ret ?_))))
  obtain rfl := Option.some.inj hr
  exact ⟨_, rfl, .inl rfl, trivial⟩
  have hr := selF h8 hr
  refine Ok.seq (Ok.region (OkOps.y (aB (p_n.Kind == 8)) (OkOps.y (aB (p_n.Kind == 8)) (OkOps.nil ?_))))
  refine Ok.cond (b := p_n.Kind == 8) rfl (fun h9 => ?_) (fun h9 => ?_)
  have hr := selT h9 hr
  refine Ok.seq (Ok.region (OkOps.y (aI 9) (OkOps.nil (Ok.ret ?_))))
  obtain rfl := Option.some.inj hr
  exact ⟨_, rfl, .inl rfl, trivial⟩
  have hr := selF h9 hr
  refine Ok.seq (Ok.region (OkOps.y (aB (p_n.Kind == 9)) (OkOps.y (aB (p_n.Kind == 9)) (OkOps.nil ?_))))
  refine Ok.cond (b := p_n.Kind == 9) rfl (fun h10 => ?_) (fun h10 => ?_)
  have hr := selT h10 hr
  refine Ok.seq (Ok.region (OkOps.y (aI 10) (OkOps.nil (Ok.ret ?_))))
  obtain rfl := Option.some.inj hr
  exact ⟨_, rfl, .inl rfl, trivial⟩
  have hr := selF h10 hr
  refine Ok.seq (Ok.region (OkOps.y (aB (p_n.Kind == 10)) (OkOps.y (aB (p_n.Kind == 10)) (OkOps.nil ?_))))
  refine Ok.cond (b := p_n.Kind == 10) rfl (fun h11 => ?_) (fun h11 => ?_)
  have hr := selT h11 hr
  refine Ok.seq (Ok.region (OkOps.y (aI 11) (OkOps.nil (Ok.ret ?_))))
  obtain rfl := Option.some.inj hr
  exact ⟨_, rfl, .inl rfl, trivial⟩
  have hr := selF h11 hr
  refine Ok.seq (Ok.region (OkOps.y (aB (p_n.Kind == 11)) (OkOps.y (aB (p_n.Kind == 11)) (OkOps.nil ?_))))
  refine Ok.cond (b := p_n.Kind == 11) rfl (fun h12 => ?_) (fun h12 => ?_)
  have hr := selT h12 hr
  refine Ok.seq (Ok.region (OkOps.y (aI 12) (OkOps.nil (Ok.ret ?_))))
  obtain rfl := Option.some.inj hr
  exact ⟨_, rfl, .inl rfl, trivial⟩
  have hr := selF h12 hr
  refine Ok.seq (Ok.region (OkOps.y (aB (p_n.Kind == 12)) (OkOps.y (aB (p_n.Kind == 12)) (OkOps.nil ?_))))
  refine Ok.cond (b := p_n.Kind == 12) rfl (fun h13 => ?_) (fun h13 => ?_)
  have hr := selT h13 hr
  refine Ok.seq (Ok.region (OkOps.y (aI 13) (OkOps.nil (Ok.ret ?_))))
  obtain rfl := Option.some.inj hr
  exact ⟨_, rfl, .inl rfl, trivial⟩
  have hr := selF h13 hr
  refine Ok.seq (Ok.region (OkOps.y (aB (p_n.Kind == 13)) (OkOps.y (aB (p_n.Kind == 13)) (OkOps.nil ?_))))
  refine Ok.cond (b := p_n.Kind == 13) rfl (fun h14 => ?_) (fun h14 => ?_)
  have hr := selT h14 hr
  refine Ok.seq (Ok.region (OkOps.y (aI 14) (OkOps.nil (Ok.ret ?_))))
  obtain rfl := Option.some.inj hr
  exact ⟨_, rfl, .inl rfl, trivial⟩
  have hr := selF h14 hr
  refine Ok.seq (Ok.region (OkOps.y (aB (p_n.Kind == 5)) (OkOps.y (aB (p_n.Kind == 5)) (OkOps.nil ?_))))
  refine Ok.cond (b := p_n.Kind == 5) rfl (fun h15 => ?_) (fun h15 => ?_)
  have hr := selT h15 hr
  refine Ok.seq (Ok.region (OkOps.y (aB (!(x1.toList == (ByteArray.mk #[]).toList))) (OkOps.nil ?_)))
  refine Ok.cond (b := !(x1.toList == (ByteArray.mk #[]).toList)) rfl (fun h16 => ?_) (fun h16 => ?_)
  have hr := selT h16 hr
  refine Ok.seq (Ok.region (OkOps.y (aI 6) (OkOps.nil (Ok.ret ?_))))
  obtain rfl := Option.some.inj hr
  exact ⟨_, rfl, .inl rfl, trivial⟩
  have hr := selF h16 hr
  refine Ok.skip ?_
  exact ⟨(), hr, (Conv.mk (tau []) trivial trivial rfl rfl rfl rfl)⟩
  have hr := selF h15 hr
  refine Ok.seq (Ok.region (OkOps.y (aB (p_n.Kind == 1)) (OkOps.y (aB (p_n.Kind == 1)) (OkOps.nil ?_))))
  refine Ok.cond (b := p_n.Kind == 1) rfl (fun h17 => ?_) (fun h17 => ?_)
  have hr := selT h17 hr
  refine Ok.seq (Ok.region (OkOps.y (.c (.loc 0 4)) (OkOps.y (.c (.d (.sl (List.map Attr.cs p_n.Attrs)))) ?_)))
  obtain ⟨x18, hx18, hr⟩ := bind_some hr
  refine OkOps.q (triCl (tau []) (.s (aS x18)) [] (vw_Text_c _ _ hx18) rfl ⟨.inl rfl, .inl rfl, trivial⟩ trivial entry107 trivial) (OkOps.y (aS x18) (OkOps.nil (Ok.block (Ok.seq (Ok.region (OkOps.y (aB pressable) (OkOps.y (aB pressable) (OkOps.nil ?_))))))))
  refine Ok.cond (b := pressable) rfl (fun h19 => ?_) (fun h19 => ?_)
  have hr := selT h19 hr
  refine Ok.seq (Ok.region (OkOps.y (aI 4) (OkOps.nil (Ok.ret ?_))))
  obtain rfl := Option.some.inj hr
  exact ⟨_, rfl, .inl rfl, trivial⟩
  have hr := selF h19 hr
  refine Ok.seq (Ok.region (OkOps.y (aS x18) (OkOps.y (aB (x18.toList == (ByteArray.mk #[112, 111, 108, 105, 116, 101]).toList)) (OkOps.y (aB (x18.toList == (ByteArray.mk #[112, 111, 108, 105, 116, 101]).toList)) (OkOps.q (triQG (x := aS x18) rfl rfl trivial rfl) (OkOps.q (triQG (x := aB (x18.toList == (ByteArray.mk #[97, 115, 115, 101, 114, 116, 105, 118, 101]).toList)) rfl rfl ⟨fun h => h, trivial⟩ rfl) ?_))))))
  refine OkOps.q (triOr rfl rfl (fun h => by rw [h]; rfl) rfl) ?_
  refine OkOps.y (aB ((x18.toList == (ByteArray.mk #[112, 111, 108, 105, 116, 101]).toList) || (x18.toList == (ByteArray.mk #[97, 115, 115, 101, 114, 116, 105, 118, 101]).toList))) (OkOps.nil ?_)
  refine Ok.cond (b := (x18.toList == (ByteArray.mk #[112, 111, 108, 105, 116, 101]).toList) || (x18.toList == (ByteArray.mk #[97, 115, 115, 101, 114, 116, 105, 118, 101]).toList)) rfl (fun h20 => ?_) (fun h20 => ?_)
  have hr := selT h20 hr
  refine Ok.seq (Ok.region (OkOps.y (aI 15) (OkOps.nil (Ok.ret ?_))))
  obtain rfl := Option.some.inj hr
  exact ⟨_, rfl, .inl rfl, trivial⟩
  have hr := selF h20 hr
  refine Ok.seq (Ok.region (OkOps.y (aB (!(x1.toList == (ByteArray.mk #[]).toList))) (OkOps.y (aB (!(x1.toList == (ByteArray.mk #[]).toList))) (OkOps.nil ?_))))
  refine Ok.cond (b := !(x1.toList == (ByteArray.mk #[]).toList)) rfl (fun h21 => ?_) (fun h21 => ?_)
  have hr := selT h21 hr
  refine Ok.seq (Ok.region (OkOps.y (aI 2) (OkOps.nil (Ok.ret ?_))))
  obtain rfl := Option.some.inj hr
  exact ⟨_, rfl, .inl rfl, trivial⟩
  have hr := selF h21 hr
  refine Ok.skip ?_
  exact ⟨(), hr, (Conv.mk (tau []) trivial trivial rfl rfl rfl rfl)⟩
  have hr := selF h17 hr
  refine Ok.skip ?_
  exact ⟨(), hr, (Conv.mk (tau []) trivial trivial rfl rfl rfl rfl)⟩
theorem slices_Index_Sl_string_string_c (p_s : (List Str)) (v : Str) {r : Int} (hr : slices_Index_Sl_string_string p_s v = some r) : Con Tryz.prog 149 [.c (.d (.sl (List.map eStr p_s))), aS v] [] (.s (aI r)) [] := by
  unfold slices_Index_Sl_string_string at hr
  refine Con.of_ok 19 0 [.tmp 4] [(0, .s (.c (.d (.sl (List.map eStr p_s))))), (1, .s (aS v))] Tryz.func149 rfl rfl rfl rfl rfl rfl rfl rfl fun w g M ρ _ => (Ok.seq (Ok.region (OkOps.y (aI 0) (OkOps.nil ?_))))
  obtain ⟨k2, hk2, hr⟩ := jn_some hr
  refine Ok.join (fun (s1 : Unit) => ⟨[], [], 0⟩) k2 r (fun s1 hr => ?_) ?_
  rw [hk2] at hr
  refine Ok.seq (Ok.region (OkOps.y (aI (-1)) (OkOps.nil (Ok.ret ?_))))
  obtain rfl := Option.some.inj hr
  exact ⟨_, rfl, .inl rfl, trivial⟩
  clear hk2
  refine Ok.seq (Ok.region (OkOps.y (.c (.d (.sl (List.map eStr p_s)))) (OkOps.q (triLen (enc := eStr) p_s rfl rfl trivial rfl) (OkOps.y (aI 0) (OkOps.nil (Ok.block (Ok.loopK (fun (s3 : Int) => ⟨[(0, .s (.c (.d (.sl (List.map eStr p_s))))), (1, .s (aS v)), (7, .s (aI (p_s.length : Int))), (8, .s (aI s3))], [], 0⟩) hr (Conv.mk (tau []) ⟨⟨_, rfl, .inl rfl⟩, ⟨_, rfl, .inl rfl⟩, ⟨_, rfl, .inl rfl⟩, ⟨_, rfl, .inl rfl⟩, trivial⟩ trivial rfl rfl rfl rfl) ?_)))))))
  clear hr
  intro again4 s3 hr
  unfold slices_Index_Sl_string_string_L1 at hr
  refine Ok.seq (Ok.region (OkOps.y (aB (decide (s3 < (p_s.length : Int)))) (OkOps.nil (Ok.seq ?_))))
  refine Ok.cond (b := decide (s3 < (p_s.length : Int))) rfl (fun h5 => ?_) (fun h5 => ?_)
  have hr := selT h5 hr
  refine Ok.skip (Ok.seq (Ok.block (Ok.seq (Ok.region (OkOps.y (aI s3) (OkOps.y (aI s3) (OkOps.nil (Ok.seq (Ok.region (OkOps.y (aS v) (OkOps.y (.c (.d (.sl (List.map eStr p_s)))) (OkOps.y (aI s3) ?_))))))))))))
  obtain ⟨x6, hx6, hr⟩ := bind_some hr
  refine OkOps.q (triIdx (enc := eStr) (L := p_s) (row := [dS x6]) hx6 rfl rfl rfl rfl (fun _ => rfl) trivial rfl) (OkOps.y (aS x6) (OkOps.y (aB (v.toList == x6.toList)) (OkOps.nil ?_)))
  refine Ok.cond (b := v.toList == x6.toList) rfl (fun h7 => ?_) (fun h7 => ?_)
  have hr := selT h7 hr
  refine Ok.seq (Ok.region (OkOps.y (aI s3) (OkOps.y (aI s3) (OkOps.nil (Ok.ret ?_)))))
  obtain rfl := Option.some.inj hr
  exact ⟨_, rfl, .inl rfl, trivial⟩
  have hr := selF h7 hr
  refine Ok.skip (Ok.region (OkOps.y (aI (IntKind.i64.wrap (s3 + 1))) (OkOps.y (aI (IntKind.i64.wrap (s3 + 1))) (OkOps.nil ?_))))
  exact ⟨IntKind.i64.wrap (s3 + 1), hr, (Conv.mk (tau []) ⟨⟨_, rfl, .inl rfl⟩, ⟨_, rfl, .inl rfl⟩, ⟨_, rfl, .inl rfl⟩, ⟨_, rfl, .inl rfl⟩, trivial⟩ trivial rfl rfl rfl rfl)⟩
  have hr := selF h5 hr
  refine Ok.exit ?_
  exact ⟨(), hr, (Conv.mk (tau []) trivial trivial rfl rfl rfl rfl)⟩
theorem ac_Role_c (t : Tree) (id : Int) {r : Int} (hr : ac_Role t id = some r) : Con Tryz.prog 109 [.agg [cI t.Root, cI t.Next, .d (.sl (List.map Node.cs t.Nodes))], aI id] [] (.s (aI r)) [] := by
  unfold ac_Role at hr
  refine Con.of_ok 58 0 [.tmp 4] [(0, .s (.agg [cI t.Root, cI t.Next, .d (.sl (List.map Node.cs t.Nodes))])), (1, .s (aI id))] Tryz.func109 rfl rfl rfl rfl rfl rfl rfl rfl fun w g M ρ _ => (Ok.seq (Ok.region (OkOps.m 0 (triBox (j := 0) (cs := [cI t.Root, cI t.Next, .d (.sl (List.map Node.cs t.Nodes))]) rfl rfl rfl rfl rfl) (OkOps.y (aI 0) (OkOps.nil (Ok.seq (Ok.region (OkOps.y (.agg [cI t.Root, cI t.Next, .d (.sl (List.map Node.cs t.Nodes))]) (OkOps.y (aI id) ?_)))))))))
  obtain ⟨x1, hx1, hr⟩ := bind_some hr
  refine OkOps.q (triCl (tau []) (.tup [.agg [cI x1.1.ID, cI x1.1.Parent, cI x1.1.Kind, cS x1.1.Key, .d (.sl (List.map Attr.cs x1.1.Attrs)), .d (.sl (List.map Action.cs x1.1.Actions)), .d (.sl (List.map (eInt .i64) x1.1.Kids))], aB x1.2]) [] (vw_Find_c _ _ hx1) rfl ⟨.inl rfl, .inl rfl, trivial⟩ trivial entry36 trivial) (OkOps.q (triMv (v := .tup [.agg [cI x1.1.ID, cI x1.1.Parent, cI x1.1.Kind, cS x1.1.Key, .d (.sl (List.map Attr.cs x1.1.Attrs)), .d (.sl (List.map Action.cs x1.1.Actions)), .d (.sl (List.map (eInt .i64) x1.1.Kids))], aB x1.2]) rfl rfl) (OkOps.y (.agg [cI x1.1.ID, cI x1.1.Parent, cI x1.1.Kind, cS x1.1.Key, .d (.sl (List.map Attr.cs x1.1.Attrs)), .d (.sl (List.map Action.cs x1.1.Actions)), .d (.sl (List.map (eInt .i64) x1.1.Kids))]) (OkOps.y (aB x1.2) (OkOps.m 0 (triAlloc (j := 1) (cs := [cI 0, cI 0, cI 0, cS ByteArray.empty, .d (.v (.slice none 0 0)), .d (.v (.slice none 0 0)), .d (.v (.slice none 0 0))]) rfl rfl rfl rfl) (OkOps.w (triStore (cs' := [cI x1.1.ID, cI x1.1.Parent, cI x1.1.Kind, cS x1.1.Key, .d (.sl (List.map Attr.cs x1.1.Attrs)), .d (.sl (List.map Action.cs x1.1.Actions)), .d (.sl (List.map (eInt .i64) x1.1.Kids))]) rfl rfl rfl rfl rfl rfl rfl rfl rfl) (OkOps.y (aB x1.2) (OkOps.nil (Ok.seq (Ok.seq (Ok.region (OkOps.y (aB x1.2) (OkOps.y (aB (!x1.2)) (OkOps.nil ?_)))))))))))))
  refine Ok.cond (b := !x1.2) rfl (fun h2 => ?_) (fun h2 => ?_)
  have hr := selT h2 hr
  refine Ok.seq (Ok.region (OkOps.y (aI 0) (OkOps.nil (Ok.ret ?_))))
  obtain rfl := Option.some.inj hr
  exact ⟨_, rfl, .inl rfl, trivial⟩
  have hr := selF h2 hr
  refine Ok.skip (Ok.seq (Ok.region (OkOps.y (.agg [cI t.Root, cI t.Next, .d (.sl (List.map Node.cs t.Nodes))]) (OkOps.y (aI id) ?_))))
  obtain ⟨x3, hx3, hr⟩ := bind_some hr
  refine OkOps.q (triCl (tau []) (.s (aB x3)) [] (fo_Pressable_c _ _ hx3) rfl ⟨.inl rfl, .inl rfl, trivial⟩ trivial entry42 trivial) (OkOps.y (aB x3) (OkOps.nil (Ok.seq (Ok.region (OkOps.y (.agg [cI x1.1.ID, cI x1.1.Parent, cI x1.1.Kind, cS x1.1.Key, .d (.sl (List.map Attr.cs x1.1.Attrs)), .d (.sl (List.map Action.cs x1.1.Actions)), .d (.sl (List.map (eInt .i64) x1.1.Kids))]) (OkOps.y (aB x3) ?_))))))
  obtain ⟨x4, hx4, hr⟩ := bind_some hr
  refine OkOps.q (triCl (tau []) (.s (aI x4)) [] (ac_natural_c _ _ hx4) rfl ⟨.inl rfl, .inl rfl, trivial⟩ trivial entry148 trivial) (OkOps.y (aI x4) (OkOps.nil ?_))
  obtain ⟨k6, hk6, hr⟩ := jn_some hr
  refine Ok.join (fun (s5 : Int) => ⟨[(1, .s (aI id)), (2, .s (.c (.loc 0 0))), (5, .s (.c (.loc 1 0))), (7, .s (aB x3)), (8, .s (aI s5))], [(0, .blk [cI t.Root, cI t.Next, .d (.sl (List.map Node.cs t.Nodes))] 30), (1, .blk [cI x1.1.ID, cI x1.1.Parent, cI x1.1.Kind, cS x1.1.Key, .d (.sl (List.map Attr.cs x1.1.Attrs)), .d (.sl (List.map Action.cs x1.1.Actions)), .d (.sl (List.map (eInt .i64) x1.1.Kids))] 61)], 0⟩) k6 r (fun s5 hr => ?_) ?_
  rw [hk6] at hr
  refine Ok.seq (Ok.block (Ok.seq (Ok.region (OkOps.y (aI s5) (OkOps.y (aB (s5 != 0)) (OkOps.y (aB (s5 != 0)) (OkOps.nil ?_)))))))
  refine Ok.cond (b := s5 != 0) rfl (fun h7 => ?_) (fun h7 => ?_)
  have hr := selT h7 hr
  refine Ok.seq (Ok.region (OkOps.y (aI s5) (OkOps.y (aI s5) (OkOps.nil (Ok.ret ?_)))))
  obtain rfl := Option.some.inj hr
  exact ⟨_, rfl, .inl rfl, trivial⟩
  have hr := selF h7 hr
  refine Ok.seq (Ok.region (OkOps.y (aI id) (OkOps.y (.c (.loc 0 0)) (OkOps.y (aI t.Root) (OkOps.y (aB (id == t.Root)) (OkOps.y (aB (id == t.Root)) (OkOps.nil ?_)))))))
  refine Ok.cond (b := id == t.Root) rfl (fun h8 => ?_) (fun h8 => ?_)
  have hr := selT h8 hr
  refine Ok.seq (Ok.region (OkOps.y (aI 1) (OkOps.nil (Ok.ret ?_))))
  obtain rfl := Option.some.inj hr
  exact ⟨_, rfl, .inl rfl, trivial⟩
  have hr := selF h8 hr
  refine Ok.seq (Ok.region (OkOps.y (aB x3) (OkOps.y (aB x3) (OkOps.q (triQG (x := .c (.loc 1 2)) rfl rfl trivial rfl) (OkOps.q (triQG (x := aI x1.1.Kind) rfl rfl ⟨fun h => h, trivial⟩ rfl) (OkOps.q (triQG (x := aB (x1.1.Kind == 4)) rfl rfl ⟨fun h => h, trivial⟩ rfl) ?_))))))
  refine OkOps.q (triOr rfl rfl (fun h => by rw [h]; rfl) rfl) ?_
  refine OkOps.y (aB (x3 || (x1.1.Kind == 4))) (OkOps.q (triQG (x := .c (.loc 1 2)) rfl rfl trivial rfl) (OkOps.q (triQG (x := aI x1.1.Kind) rfl rfl ⟨fun h => h, trivial⟩ rfl) (OkOps.q (triQG (x := aB (x1.1.Kind == 13)) rfl rfl ⟨fun h => h, trivial⟩ rfl) ?_)))
  refine OkOps.q (triOr rfl rfl (fun h => by rw [h]; rfl) rfl) ?_
  refine OkOps.y (aB ((x3 || (x1.1.Kind == 4)) || (x1.1.Kind == 13))) (OkOps.q (triQG (x := .c (.loc 1 4)) rfl rfl trivial rfl) (OkOps.q (triQG (x := .c (.d (.sl (List.map Attr.cs x1.1.Attrs)))) rfl rfl ⟨fun h => h, trivial⟩ rfl) ?_))
  obtain ⟨x9, hx9, hr⟩ := bind_some hr
  refine OkOps.q (triCallG (x := aB x9) (fun hg => vw_Flag_c _ _ (gO_t hx9 hg)) rfl rfl ⟨.inl rfl, .inl rfl, trivial⟩ ⟨fun h => h, trivial⟩ entry45 rfl rfl rfl) ?_
  refine OkOps.q (triOr rfl rfl (fun h => by rw [h]; rfl) rfl) ?_
  refine OkOps.y (aB (((x3 || (x1.1.Kind == 4)) || (x1.1.Kind == 13)) || x9)) (OkOps.nil ?_)
  refine Ok.cond (b := ((x3 || (x1.1.Kind == 4)) || (x1.1.Kind == 13)) || x9) rfl (fun h10 => ?_) (fun h10 => ?_)
  have hr := selT h10 hr
  refine Ok.seq (Ok.region (OkOps.y (aI 2) (OkOps.nil (Ok.ret ?_))))
  obtain rfl := Option.some.inj hr
  exact ⟨_, rfl, .inl rfl, trivial⟩
  have hr := selF h10 hr
  refine Ok.skip (Ok.seq (Ok.region (OkOps.y (aI 0) (OkOps.nil (Ok.ret ?_)))))
  obtain rfl := Option.some.inj hr
  exact ⟨_, rfl, .inl rfl, trivial⟩
  clear hk6
  refine Ok.seq (Ok.regionD (by kernel_rfl) ?_)
  obtain ⟨x11, hx11, hr⟩ := bind_some hr
  refine OkD.q (triCl (tau []) (.s (.c (.d (.sl (List.map eStr x11))))) [] (ac_roles_c  hx11) rfl trivial trivial entry150 trivial) (OkD.x (.c (.loc 1 4)) rfl trivial rfl (OkD.x (.c (.d (.sl (List.map Attr.cs x1.1.Attrs)))) rfl trivial rfl ?_))
  obtain ⟨x12, hx12, hr⟩ := bind_some hr
  refine OkD.q (triCl (tau []) (.s (aS x12)) [] (vw_Text_c _ _ hx12) rfl ⟨.inl rfl, .inl rfl, trivial⟩ trivial entry107 trivial) ?_
  obtain ⟨x13, hx13, hr⟩ := bind_some hr
  refine OkD.q (triCl (tau []) (.s (aI x13)) [] (slices_Index_Sl_string_string_c _ _ hx13) rfl ⟨.inl rfl, .inl rfl, trivial⟩ trivial entry149 trivial) (OkD.x (aI x13) rfl trivial rfl (OkD.nil (by kernel_rfl) (Ok.seq (Ok.region (OkOps.y (aI x13) (OkOps.y (aB (decide (x13 ≥ 0))) (OkOps.nil ?_)))))))
  refine Ok.cond (b := decide (x13 ≥ 0)) rfl (fun h14 => ?_) (fun h14 => ?_)
  have hr := selT h14 hr
  refine Ok.region (OkOps.y (aI x13) (OkOps.y (aI x13) (OkOps.nil ?_)))
  exact ⟨x13, hr, (Conv.mk (tau []) ⟨⟨_, rfl, .inl rfl⟩, ⟨_, rfl, .inl rfl⟩, ⟨_, rfl, .inl rfl⟩, ⟨_, rfl, .inl rfl⟩, ⟨_, rfl, .inl rfl⟩, trivial⟩ ⟨rfl, rfl, trivial⟩ rfl rfl rfl rfl)⟩
  have hr := selF h14 hr
  refine Ok.skip ?_
  exact ⟨x4, hr, (Conv.mk (tau []) ⟨⟨_, rfl, .inl rfl⟩, ⟨_, rfl, .inl rfl⟩, ⟨_, rfl, .inl rfl⟩, ⟨_, rfl, .inl rfl⟩, ⟨_, rfl, .inl rfl⟩, trivial⟩ ⟨rfl, rfl, trivial⟩ rfl rfl rfl rfl)⟩
theorem ac_closed_c (role : Int) {r : Bool} (hr : ac_closed role = some r) : Con Tryz.prog 162 [aI role] [] (.s (aB r)) [] := by
  unfold ac_closed at hr
  refine Con.of_ok 12 0 [.tmp 2] [(0, .s (aI role))] Tryz.func162 rfl rfl rfl rfl rfl rfl rfl rfl fun w g M ρ _ => (Ok.seq (Ok.region (OkOps.y (aB false) (OkOps.nil (Ok.seq (Ok.seq (Ok.region (OkOps.y (aI role) (OkOps.nil (Ok.block ?_))))))))))
  obtain ⟨k2, hk2, hr⟩ := jn_some hr
  refine Ok.join (fun (s1 : Bool) => ⟨[(4, .s (aB s1))], [], 0⟩) k2 r (fun s1 hr => ?_) ?_
  rw [hk2] at hr
  refine Ok.cond (b := s1) rfl (fun h3 => ?_) (fun h3 => ?_)
  have hr := selT h3 hr
  refine Ok.seq (Ok.region (OkOps.y (aB true) (OkOps.nil (Ok.ret ?_))))
  obtain rfl := Option.some.inj hr
  exact ⟨_, rfl, .inl rfl, trivial⟩
  have hr := selF h3 hr
  refine Ok.skip (Ok.seq (Ok.region (OkOps.y (aB false) (OkOps.nil (Ok.ret ?_)))))
  obtain rfl := Option.some.inj hr
  exact ⟨_, rfl, .inl rfl, trivial⟩
  clear hk2
  refine Ok.seq (Ok.region (OkOps.y (aB (role == 3)) (OkOps.y (aB (role == 3)) (OkOps.nil ?_))))
  refine Ok.cond (b := role == 3) rfl (fun h4 => ?_) (fun h4 => ?_)
  have hr := selT h4 hr
  refine Ok.skip ?_
  exact ⟨role == 3, hr, (Conv.mk (tau []) ⟨⟨_, rfl, .inl rfl⟩, trivial⟩ trivial rfl rfl rfl rfl)⟩
  have hr := selF h4 hr
  refine Ok.seq (Ok.region (OkOps.y (aB (role == 4)) (OkOps.y (aB (role == 4)) (OkOps.nil ?_))))
  refine Ok.cond (b := role == 4) rfl (fun h5 => ?_) (fun h5 => ?_)
  have hr := selT h5 hr
  refine Ok.skip ?_
  exact ⟨role == 4, hr, (Conv.mk (tau []) ⟨⟨_, rfl, .inl rfl⟩, trivial⟩ trivial rfl rfl rfl rfl)⟩
  have hr := selF h5 hr
  refine Ok.seq (Ok.region (OkOps.y (aB (role == 5)) (OkOps.y (aB (role == 5)) (OkOps.nil ?_))))
  refine Ok.cond (b := role == 5) rfl (fun h6 => ?_) (fun h6 => ?_)
  have hr := selT h6 hr
  refine Ok.skip ?_
  exact ⟨role == 5, hr, (Conv.mk (tau []) ⟨⟨_, rfl, .inl rfl⟩, trivial⟩ trivial rfl rfl rfl rfl)⟩
  have hr := selF h6 hr
  refine Ok.seq (Ok.region (OkOps.y (aB (role == 6)) (OkOps.y (aB (role == 6)) (OkOps.nil ?_))))
  refine Ok.cond (b := role == 6) rfl (fun h7 => ?_) (fun h7 => ?_)
  have hr := selT h7 hr
  refine Ok.skip ?_
  exact ⟨role == 6, hr, (Conv.mk (tau []) ⟨⟨_, rfl, .inl rfl⟩, trivial⟩ trivial rfl rfl rfl rfl)⟩
  have hr := selF h7 hr
  refine Ok.seq (Ok.region (OkOps.y (aB (role == 7)) (OkOps.y (aB (role == 7)) (OkOps.nil ?_))))
  refine Ok.cond (b := role == 7) rfl (fun h8 => ?_) (fun h8 => ?_)
  have hr := selT h8 hr
  refine Ok.skip ?_
  exact ⟨role == 7, hr, (Conv.mk (tau []) ⟨⟨_, rfl, .inl rfl⟩, trivial⟩ trivial rfl rfl rfl rfl)⟩
  have hr := selF h8 hr
  refine Ok.seq (Ok.region (OkOps.y (aB (role == 8)) (OkOps.y (aB (role == 8)) (OkOps.nil ?_))))
  refine Ok.cond (b := role == 8) rfl (fun h9 => ?_) (fun h9 => ?_)
  have hr := selT h9 hr
  refine Ok.skip ?_
  exact ⟨role == 8, hr, (Conv.mk (tau []) ⟨⟨_, rfl, .inl rfl⟩, trivial⟩ trivial rfl rfl rfl rfl)⟩
  have hr := selF h9 hr
  refine Ok.region (OkOps.y (aB (role == 14)) (OkOps.y (aB (role == 14)) (OkOps.nil ?_)))
  exact ⟨role == 14, hr, (Conv.mk (tau []) ⟨⟨_, rfl, .inl rfl⟩, trivial⟩ trivial rfl rfl rfl rfl)⟩
theorem fo_CandidatesS_c (t : Tree) (st : (List Styled)) {r : (List Int)} (hr : fo_CandidatesS t st = some r) : Con Tryz.prog 43 [.agg [cI t.Root, cI t.Next, .d (.sl (List.map Node.cs t.Nodes))], .c (.d (.sl (List.map Styled.cs st)))] [] (.s (.c (.d (.sl (List.map (eInt .i64) r))))) [] := by
  unfold fo_CandidatesS at hr
  refine Con.of_ok 34 0 [.tmp 4] [(0, .s (.agg [cI t.Root, cI t.Next, .d (.sl (List.map Node.cs t.Nodes))])), (1, .s (.c (.d (.sl (List.map Styled.cs st)))))] Tryz.func43 rfl rfl rfl rfl rfl rfl rfl rfl fun w g M ρ _ => (Ok.seq (Ok.region (OkOps.m 0 (triBox (j := 0) (cs := [cI t.Root, cI t.Next, .d (.sl (List.map Node.cs t.Nodes))]) rfl rfl rfl rfl rfl) (OkOps.y (.c (.d (.v (.slice none 0 0)))) (OkOps.nil (Ok.seq (Ok.region (OkOps.y (.agg [cI t.Root, cI t.Next, .d (.sl (List.map Node.cs t.Nodes))]) (OkOps.y (.c (.d (.sl (List.map Styled.cs st)))) ?_)))))))))
  obtain ⟨x1, hx1, hr⟩ := bind_some hr
  refine OkOps.q (triCl (tau []) (.s (.agg [.d (.sl (List.map (eInt .i64) x1.order)), .d (.mp true (encM (kInt .i64) Node.cs x1.nodes)), .d (.mp false (encM (kInt .i64) eBool x1.visible)), .d (.mp false (encM (kInt .i64) eBool x1.disabled))])) [] (fo_look_c _ _ hx1) rfl ⟨.inl rfl, .inl rfl, trivial⟩ trivial entry58 trivial) (OkOps.m 0 (triAlloc (j := 1) (cs := [.d (.v (.slice none 0 0)), .d (.v (.map none)), .d (.v (.map none)), .d (.v (.map none))]) rfl rfl rfl rfl) (OkOps.w (triStore (cs' := [.d (.sl (List.map (eInt .i64) x1.order)), .d (.mp true (encM (kInt .i64) Node.cs x1.nodes)), .d (.mp false (encM (kInt .i64) eBool x1.visible)), .d (.mp false (encM (kInt .i64) eBool x1.disabled))]) rfl rfl rfl rfl rfl rfl rfl rfl rfl) (OkOps.nil (Ok.seq (Ok.seq (Ok.region (OkOps.y (.c (.loc 1 0)) (OkOps.y (.c (.d (.sl (List.map (eInt .i64) x1.order)))) (OkOps.q (triLen (enc := (eInt .i64)) x1.order rfl rfl trivial rfl) (OkOps.y (aB ((x1.order.length : Int) == 0)) (OkOps.nil ?_)))))))))))
  refine Ok.cond (b := (x1.order.length : Int) == 0) rfl (fun h2 => ?_) (fun h2 => ?_)
  have hr := selT h2 hr
  refine Ok.seq (Ok.region (OkOps.y (.c (.d (.v (.slice none 0 0)))) (OkOps.nil (Ok.ret ?_))))
  obtain rfl := Option.some.inj hr
  exact ⟨_, rfl, .inr rfl, trivial⟩
  have hr := selF h2 hr
  refine Ok.skip (Ok.seq (Ok.region (OkOps.y (.c (.d (.v (.slice none 0 0)))) (OkOps.conv (Conv.nilV (enc := (eInt .i64)) 6 2 1 0 rfl rfl) (OkOps.nil ?_)))))
  obtain ⟨k4, hk4, hr⟩ := jn_some hr
  refine Ok.join (fun (s3 : (List Int)) => ⟨[(6, .s (.c (.own 1006)))], [(1006, .vec 1 (List.map (eInt .i64) s3))], 0⟩) k4 r (fun s3 hr => ?_) ?_
  rw [hk4] at hr
  refine Ok.seq (Ok.region (OkOps.y (.c (.own 1006)) (OkOps.y (.c (.own 1006)) (OkOps.nil (Ok.conv (Conv.freeze (enc := (eInt .i64)) (L := s3) [4, 6, 33] 1006 3 1 0 ⟨rfl, rfl, rfl, trivial⟩ rfl (fun _ => rfl) rfl) (Ok.ret ?_))))))
  obtain rfl := Option.some.inj hr
  exact ⟨_, rfl, .inr rfl, trivial⟩
  clear hk4
  refine Ok.seq (Ok.regionD (by kernel_rfl) (OkD.x (.agg [.d (.sl (List.map (eInt .i64) x1.order)), .d (.mp true (encM (kInt .i64) Node.cs x1.nodes)), .d (.mp false (encM (kInt .i64) eBool x1.visible)), .d (.mp false (encM (kInt .i64) eBool x1.disabled))]) rfl trivial rfl (OkD.x (.agg [.d (.sl (List.map (eInt .i64) x1.order)), .d (.mp true (encM (kInt .i64) Node.cs x1.nodes)), .d (.mp false (encM (kInt .i64) eBool x1.visible)), .d (.mp false (encM (kInt .i64) eBool x1.disabled))]) rfl trivial rfl ?_)))
  obtain ⟨x5, hx5, hr⟩ := bind_some hr
  refine OkD.q (triCl (tau []) (.s (aI x5)) [] (fo_sight_scope_c _ hx5) rfl ⟨.inl rfl, trivial⟩ trivial entry59 trivial) ?_
  obtain ⟨x6, hx6, hr⟩ := bind_some hr
  refine OkD.q (triCl (tau []) (.s (.c (.d (.sl (List.map (eInt .i64) x6))))) [] (fo_sight_below_c _ _ _ hx6) rfl ⟨.inl rfl, .inl rfl, trivial⟩ trivial entry82 trivial) (OkD.q (triLen (enc := (eInt .i64)) x6 rfl rfl trivial rfl) (OkD.x (aI 0) rfl trivial rfl (OkD.nil (by kernel_rfl) (Ok.block (Ok.loopK (fun (s7 : (List Int) × Int) => ⟨[(5, .s (.c (.loc 1 0))), (6, .s (.c (.own 1009))), (19, .s (.c (.d (.sl (List.map (eInt .i64) x6))))), (20, .s (aI (x6.length : Int))), (21, .s (aI s7.2))], [(1, .blk [.d (.sl (List.map (eInt .i64) x1.order)), .d (.mp true (encM (kInt .i64) Node.cs x1.nodes)), .d (.mp false (encM (kInt .i64) eBool x1.visible)), .d (.mp false (encM (kInt .i64) eBool x1.disabled))] 105), (1009, .vec 1 (List.map (eInt .i64) s7.1))], 0⟩) hr (Conv.mk (tau [(1009, 2)]) ⟨⟨_, rfl, .inl rfl⟩, ⟨_, rfl, .inl rfl⟩, ⟨_, rfl, .inl rfl⟩, ⟨_, rfl, .inl rfl⟩, ⟨_, rfl, .inl rfl⟩, trivial⟩ ⟨rfl, rfl, trivial⟩ rfl rfl rfl rfl) ?_)))))
  clear hr
  intro again8 s7 hr
  unfold fo_CandidatesS_L1 at hr
  refine Ok.seq (Ok.region (OkOps.y (aB (decide (s7.2 < (x6.length : Int)))) (OkOps.nil (Ok.seq ?_))))
  refine Ok.cond (b := decide (s7.2 < (x6.length : Int))) rfl (fun h9 => ?_) (fun h9 => ?_)
  have hr := selT h9 hr
  refine Ok.skip ?_
  obtain ⟨k11, hk11, hr⟩ := jn_some hr
  refine Ok.join (fun (s10 : (List Int)) => ⟨[(5, .s (.c (.loc 1 0))), (6, .s (.c (.own 1012))), (19, .s (.c (.d (.sl (List.map (eInt .i64) x6))))), (20, .s (aI (x6.length : Int))), (21, .s (aI s7.2))], [(1, .blk [.d (.sl (List.map (eInt .i64) x1.order)), .d (.mp true (encM (kInt .i64) Node.cs x1.nodes)), .d (.mp false (encM (kInt .i64) eBool x1.visible)), .d (.mp false (encM (kInt .i64) eBool x1.disabled))] 105), (1012, .vec 1 (List.map (eInt .i64) s10))], 0⟩) k11 r (fun s10 hr => ?_) ?_
  rw [hk11] at hr
  refine Ok.region (OkOps.y (aI (IntKind.i64.wrap (s7.2 + 1))) (OkOps.y (aI (IntKind.i64.wrap (s7.2 + 1))) (OkOps.nil ?_)))
  exact ⟨(s10, IntKind.i64.wrap (s7.2 + 1)), hr, (Conv.mk (tau [(1009, 1012)]) ⟨⟨_, rfl, .inl rfl⟩, ⟨_, rfl, .inl rfl⟩, ⟨_, rfl, .inl rfl⟩, ⟨_, rfl, .inl rfl⟩, ⟨_, rfl, .inl rfl⟩, trivial⟩ ⟨rfl, rfl, trivial⟩ rfl rfl rfl rfl)⟩
  clear hk11
  refine Ok.block (Ok.seq (Ok.region ?_))
  obtain ⟨x12, hx12, hr⟩ := bind_some hr
  refine OkOps.q (triIdx (enc := (eInt .i64)) (L := x6) (row := [dI x12]) hx12 rfl rfl rfl rfl (fun _ => rfl) trivial rfl) (OkOps.y (aI x12) (OkOps.y (aI x12) (OkOps.nil (Ok.seq (Ok.region (OkOps.y (.agg [.d (.sl (List.map (eInt .i64) x1.order)), .d (.mp true (encM (kInt .i64) Node.cs x1.nodes)), .d (.mp false (encM (kInt .i64) eBool x1.visible)), .d (.mp false (encM (kInt .i64) eBool x1.disabled))]) (OkOps.y (aI x12) ?_)))))))
  obtain ⟨x13, hx13, hr⟩ := bind_some hr
  refine OkOps.q (triCl (tau []) (.s (aB x13)) [] (fo_sight_focusable_c _ _ hx13) rfl ⟨.inl rfl, .inl rfl, trivial⟩ trivial entry83 trivial) (OkOps.nil ?_)
  refine Ok.cond (b := x13) rfl (fun h14 => ?_) (fun h14 => ?_)
  have hr := selT h14 hr
  refine Ok.region (OkOps.y (.c (.own 1009)) (OkOps.y (aI x12) (OkOps.m 0 (triBST (sz := 1) (enc := (eInt .i64)) (j := 4) ([x12]) rfl rfl rfl rfl rfl rfl rfl rfl (fun _ => rfl) trivial rfl rfl) ?_)))
  obtain ⟨x15, hx15, hr⟩ := bind_some hr
  refine OkOps.m2 0 (triAppV (enc := (eInt .i64)) (L := s7.1) (X := [x12]) (j := 1009) (j' := 5) hx15 rfl rfl rfl rfl rfl rfl (fun _ => rfl) (fun _ => rfl) trivial rfl rfl) (OkOps.y (.c (.own 5)) (OkOps.nil ?_))
  exact ⟨x15, hr, (Conv.mk (tau [(1012, 5)]) ⟨⟨_, rfl, .inl rfl⟩, ⟨_, rfl, .inl rfl⟩, ⟨_, rfl, .inl rfl⟩, ⟨_, rfl, .inl rfl⟩, ⟨_, rfl, .inl rfl⟩, trivial⟩ ⟨rfl, rfl, trivial⟩ rfl rfl rfl rfl)⟩
  have hr := selF h14 hr
  refine Ok.skip ?_
  exact ⟨s7.1, hr, (Conv.mk (tau [(1012, 1009)]) ⟨⟨_, rfl, .inl rfl⟩, ⟨_, rfl, .inl rfl⟩, ⟨_, rfl, .inl rfl⟩, ⟨_, rfl, .inl rfl⟩, ⟨_, rfl, .inl rfl⟩, trivial⟩ ⟨rfl, rfl, trivial⟩ rfl rfl rfl rfl)⟩
  have hr := selF h9 hr
  refine Ok.exit ?_
  exact ⟨s7.1, hr, (Conv.mk (tau [(1006, 1009)]) ⟨⟨_, rfl, .inl rfl⟩, trivial⟩ ⟨rfl, trivial⟩ rfl rfl rfl rfl)⟩
theorem ac_visible_c (t : Tree) (st : (List Styled)) {r : (List (Int × Bool))} (hr : ac_visible t st = some r) : Con Tryz.prog 122 [.agg [cI t.Root, cI t.Next, .d (.sl (List.map Node.cs t.Nodes))], .c (.d (.sl (List.map Styled.cs st)))] [] (.s (.c (.d (.mp false (encM (kInt .i64) eBool r))))) [] := by
  unfold ac_visible at hr
  refine Con.of_ok 43 0 [.tmp 4] [(0, .s (.agg [cI t.Root, cI t.Next, .d (.sl (List.map Node.cs t.Nodes))])), (1, .s (.c (.d (.sl (List.map Styled.cs st)))))] Tryz.func122 rfl rfl rfl rfl rfl rfl rfl rfl fun w g M ρ _ => (Ok.seq (Ok.region (OkOps.m 0 (triBox (j := 0) (cs := [cI t.Root, cI t.Next, .d (.sl (List.map Node.cs t.Nodes))]) rfl rfl rfl rfl rfl) (OkOps.y (.c (.d (.v (.map none)))) (OkOps.nil (Ok.seq (Ok.region (OkOps.m 0 (triMkM (j := 1) false rfl rfl) (OkOps.y (.c (.own 1)) (OkOps.nil ?_))))))))))
  obtain ⟨k2, hk2, hr⟩ := jn_some hr
  refine Ok.join (fun (s1 : (List (Int × Bool))) => ⟨[(1, .s (.c (.d (.sl (List.map Styled.cs st))))), (5, .s (.c (.own 1)))], [(1, .mp false (encM (kInt .i64) eBool s1))], 0⟩) k2 r (fun s1 hr => ?_) ?_
  rw [hk2] at hr
  obtain ⟨k4, hk4, hr⟩ := jn_some hr
  refine Ok.join (fun (s3 : (List (Int × Bool))) => ⟨[(5, .s (.c (.own 1)))], [(1, .mp false (encM (kInt .i64) eBool s3))], 0⟩) k4 r (fun s3 hr => ?_) ?_
  rw [hk4] at hr
  refine Ok.seq (Ok.region (OkOps.y (.c (.own 1)) (OkOps.y (.c (.own 1)) (OkOps.nil (Ok.conv (Conv.freezeM [(4, .s (.c (.d (.mp false (encM (kInt .i64) eBool s3))))), (5, .s (.c (.d (.mp false (encM (kInt .i64) eBool s3))))), (42, .s (.c (.d (.mp false (encM (kInt .i64) eBool s3)))))] [] 1 0 rfl ⟨⟨_, rfl, rfl⟩, ⟨_, rfl, rfl⟩, ⟨_, rfl, rfl⟩, trivial⟩ trivial) (Ok.ret ?_))))))
  obtain rfl := Option.some.inj hr
  exact ⟨_, rfl, .inl rfl, trivial⟩
  clear hk4
  refine Ok.seq (Ok.region (OkOps.y (.c (.d (.sl (List.map Styled.cs st)))) (OkOps.q (triLen (enc := Styled.cs) st rfl rfl trivial rfl) (OkOps.y (aI 0) (OkOps.nil (Ok.block (Ok.loopK (fun (s5 : Int × (List (Int × Bool))) => ⟨[(5, .s (.c (.own 1))), (22, .s (.c (.d (.sl (List.map Styled.cs st))))), (23, .s (aI (st.length : Int))), (24, .s (aI s5.1))], [(1, .mp false (encM (kInt .i64) eBool s5.2))], 0⟩) hr (Conv.mk (tau []) ⟨⟨_, rfl, .inl rfl⟩, ⟨_, rfl, .inl rfl⟩, ⟨_, rfl, .inl rfl⟩, ⟨_, rfl, .inl rfl⟩, trivial⟩ ⟨rfl, trivial⟩ rfl rfl rfl rfl) ?_)))))))
  clear hr
  intro again6 s5 hr
  unfold ac_visible_L1 at hr
  refine Ok.seq (Ok.region (OkOps.y (aB (decide (s5.1 < (st.length : Int)))) (OkOps.nil (Ok.seq ?_))))
  refine Ok.cond (b := decide (s5.1 < (st.length : Int))) rfl (fun h7 => ?_) (fun h7 => ?_)
  have hr := selT h7 hr
  refine Ok.skip (Ok.seq (Ok.block (Ok.seq (Ok.region ?_))))
  obtain ⟨x8, hx8, hr⟩ := bind_some hr
  refine OkOps.q (triIdx (enc := Styled.cs) (L := st) (row := [dI x8.ID, dI (x8.Style 0), dI (x8.Style 1), dI (x8.Style 2), dI (x8.Style 3), dI (x8.Style 4), dI (x8.Style 5), dI (x8.Style 6), dI (x8.Style 7), dI (x8.Style 8), dI (x8.Style 9), dI (x8.Style 10), dI (x8.Style 11), dI (x8.Style 12), dI (x8.Style 13), dI (x8.Style 14), dI (x8.Style 15), dI (x8.Style 16), dI (x8.Style 17), dI (x8.Style 18), dI (x8.Style 19), dI (x8.Style 20), dI (x8.Style 21)]) hx8 rfl rfl rfl rfl (fun _ => rfl) trivial rfl) (OkOps.y (.agg [cI x8.ID, cI (x8.Style 0), cI (x8.Style 1), cI (x8.Style 2), cI (x8.Style 3), cI (x8.Style 4), cI (x8.Style 5), cI (x8.Style 6), cI (x8.Style 7), cI (x8.Style 8), cI (x8.Style 9), cI (x8.Style 10), cI (x8.Style 11), cI (x8.Style 12), cI (x8.Style 13), cI (x8.Style 14), cI (x8.Style 15), cI (x8.Style 16), cI (x8.Style 17), cI (x8.Style 18), cI (x8.Style 19), cI (x8.Style 20), cI (x8.Style 21)]) (OkOps.m 0 (triAlloc (j := 2) (cs := [cI 0, cI 0, cI 0, cI 0, cI 0, cI 0, cI 0, cI 0, cI 0, cI 0, cI 0, cI 0, cI 0, cI 0, cI 0, cI 0, cI 0, cI 0, cI 0, cI 0, cI 0, cI 0, cI 0]) rfl rfl rfl rfl) (OkOps.w (triStore (cs' := [cI x8.ID, cI (x8.Style 0), cI (x8.Style 1), cI (x8.Style 2), cI (x8.Style 3), cI (x8.Style 4), cI (x8.Style 5), cI (x8.Style 6), cI (x8.Style 7), cI (x8.Style 8), cI (x8.Style 9), cI (x8.Style 10), cI (x8.Style 11), cI (x8.Style 12), cI (x8.Style 13), cI (x8.Style 14), cI (x8.Style 15), cI (x8.Style 16), cI (x8.Style 17), cI (x8.Style 18), cI (x8.Style 19), cI (x8.Style 20), cI (x8.Style 21)]) rfl rfl rfl rfl rfl rfl rfl rfl (by kernel_rfl)) (OkOps.nil (Ok.region (OkOps.y (.c (.own 1)) (OkOps.y (.c (.loc 2 0)) (OkOps.y (aI x8.ID) (OkOps.y (.c (.own 1)) (OkOps.y (.c (.loc 2 0)) (OkOps.y (aI x8.ID) ?_)))))))))))
  obtain ⟨x9, hx9, hr⟩ := bind_some hr
  refine OkOps.q (triLook (agg := false) (ek := (kInt .i64)) (ev := eBool) (L := s5.2) (r := aB x9.1) hx9 rfl rfl rfl (keyInt Tryz.underlying3) rfl rfl (fun _ _ => rfl) rfl trivial rfl) (OkOps.y (aB x9.1) (OkOps.q (triQG (x := .c (.loc 2 1)) rfl rfl trivial rfl) (OkOps.q (triQG (x := .c (.loc 2 22)) rfl rfl ⟨fun h => h, trivial⟩ rfl) (OkOps.q (triQG (x := aI (x8.Style 21)) rfl rfl ⟨fun h => h, trivial⟩ rfl) (OkOps.q (triQG (x := aB ((x8.Style 21) == 0)) rfl rfl ⟨fun h => h, trivial⟩ rfl) (OkOps.q (triAnd rfl rfl (fun h => h) rfl) (OkOps.w (triMapUp (ek := (kInt .i64)) (ev := eBool) (L := s5.2) (z := x9.1 && ((x8.Style 21) == 0)) rfl rfl rfl rfl rfl rfl (keyInt Tryz.underlying3) (fun _ _ => rfl) rfl trivial) (OkOps.nil (Ok.region (OkOps.y (aI (IntKind.i64.wrap (s5.1 + 1))) (OkOps.y (aI (IntKind.i64.wrap (s5.1 + 1))) (OkOps.nil ?_))))))))))))
  exact ⟨(IntKind.i64.wrap (s5.1 + 1), msetL s5.2 x8.ID (x9.1 && ((x8.Style 21) == 0))), hr, (Conv.mk (tau []) ⟨⟨_, rfl, .inl rfl⟩, ⟨_, rfl, .inl rfl⟩, ⟨_, rfl, .inl rfl⟩, ⟨_, rfl, .inl rfl⟩, trivial⟩ ⟨rfl, trivial⟩ rfl rfl rfl rfl)⟩
  have hr := selF h7 hr
  refine Ok.exit ?_
  exact ⟨s5.2, hr, (Conv.mk (tau []) ⟨⟨_, rfl, .inl rfl⟩, trivial⟩ ⟨rfl, trivial⟩ rfl rfl rfl rfl)⟩
  clear hk2
  refine Ok.seq (Ok.region (OkOps.y (.agg [cI t.Root, cI t.Next, .d (.sl (List.map Node.cs t.Nodes))]) (OkOps.y (.c (.d (.sl (List.map Styled.cs st)))) ?_)))
  obtain ⟨x10, hx10, hr⟩ := bind_some hr
  refine OkOps.q (triCl (tau []) (.s (.c (.d (.sl (List.map (eInt .i64) x10))))) [] (widgetry_layout_Shown_c _ _ hx10) rfl ⟨.inl rfl, .inl rfl, trivial⟩ trivial entry78 trivial) (OkOps.q (triLen (enc := (eInt .i64)) x10 rfl rfl trivial rfl) (OkOps.y (aI 0) (OkOps.nil (Ok.block (Ok.loopK (fun (s11 : Int × (List (Int × Bool))) => ⟨[(1, .s (.c (.d (.sl (List.map Styled.cs st))))), (5, .s (.c (.own 1))), (13, .s (.c (.d (.sl (List.map (eInt .i64) x10))))), (14, .s (aI (x10.length : Int))), (15, .s (aI s11.1))], [(1, .mp false (encM (kInt .i64) eBool s11.2))], 0⟩) hr (Conv.mk (tau []) ⟨⟨_, rfl, .inl rfl⟩, ⟨_, rfl, .inl rfl⟩, ⟨_, rfl, .inl rfl⟩, ⟨_, rfl, .inl rfl⟩, ⟨_, rfl, .inl rfl⟩, trivial⟩ ⟨rfl, trivial⟩ rfl rfl rfl rfl) ?_)))))
  clear hr
  intro again12 s11 hr
  unfold ac_visible_L2 at hr
  refine Ok.seq (Ok.region (OkOps.y (aB (decide (s11.1 < (x10.length : Int)))) (OkOps.nil (Ok.seq ?_))))
  refine Ok.cond (b := decide (s11.1 < (x10.length : Int))) rfl (fun h13 => ?_) (fun h13 => ?_)
  have hr := selT h13 hr
  refine Ok.skip (Ok.seq (Ok.block (Ok.seq (Ok.region ?_))))
  obtain ⟨x14, hx14, hr⟩ := bind_some hr
  refine OkOps.q (triIdx (enc := (eInt .i64)) (L := x10) (row := [dI x14]) hx14 rfl rfl rfl rfl (fun _ => rfl) trivial rfl) (OkOps.y (aI x14) (OkOps.y (aI x14) (OkOps.nil (Ok.region (OkOps.y (.c (.own 1)) (OkOps.y (aI x14) (OkOps.w (triMapUp (ek := (kInt .i64)) (ev := eBool) (L := s11.2) (z := true) rfl rfl rfl rfl rfl rfl (keyInt Tryz.underlying3) (fun _ _ => rfl) rfl trivial) (OkOps.nil (Ok.region (OkOps.y (aI (IntKind.i64.wrap (s11.1 + 1))) (OkOps.y (aI (IntKind.i64.wrap (s11.1 + 1))) (OkOps.nil ?_))))))))))))
  exact ⟨(IntKind.i64.wrap (s11.1 + 1), msetL s11.2 x14 true), hr, (Conv.mk (tau []) ⟨⟨_, rfl, .inl rfl⟩, ⟨_, rfl, .inl rfl⟩, ⟨_, rfl, .inl rfl⟩, ⟨_, rfl, .inl rfl⟩, ⟨_, rfl, .inl rfl⟩, trivial⟩ ⟨rfl, trivial⟩ rfl rfl rfl rfl)⟩
  have hr := selF h13 hr
  refine Ok.exit ?_
  exact ⟨s11.2, hr, (Conv.mk (tau []) ⟨⟨_, rfl, .inl rfl⟩, ⟨_, rfl, .inl rfl⟩, trivial⟩ ⟨rfl, trivial⟩ rfl rfl rfl rfl)⟩
theorem ac_walker_walk_B_c (self0 : accessible_walker → Int → Int → Bool → Bool → Option accessible_walker) (hself0 : ∀ (p_w : accessible_walker) (id : Int) (parent : Int) (excluded : Bool) (shut : Bool) {r : accessible_walker}, self0 p_w id parent excluded shut = some r → Con Tryz.prog 123 [.c (.loc 0 0), aI id, aI parent, aB excluded, aB shut] [(0, .blk [cI p_w.t.Root, cI p_w.t.Next, .d (.sl (List.map Node.cs p_w.t.Nodes)), .d (.mp true (encM (kInt .i64) Node.cs p_w.nodes)), .d (.mp false (encM (kInt .i64) eBool p_w.visible)), .d (.sl (List.map (eInt .i64) p_w.candidates)), .tl 1 (List.map (eInt .i64) p_w.ids), .tl 2 (List.map (eInt .i64) p_w.parents)] 175), (1, .tail 1), (2, .tail 1)] (.tup []) [(0, .blk [cI r.t.Root, cI r.t.Next, .d (.sl (List.map Node.cs r.t.Nodes)), .d (.mp true (encM (kInt .i64) Node.cs r.nodes)), .d (.mp false (encM (kInt .i64) eBool r.visible)), .d (.sl (List.map (eInt .i64) r.candidates)), .tl 3000 (List.map (eInt .i64) r.ids), .tl 3001 (List.map (eInt .i64) r.parents)] 175), (1, .dead), (2, .dead), (3000, .tail 1), (3001, .tail 1)]) (p_w : accessible_walker) (id : Int) (parent : Int) (excluded : Bool) (shut : Bool) {r : accessible_walker} (hr : ac_walker_walk_B self0 p_w id parent excluded shut = some r) : Con Tryz.prog 123 [.c (.loc 0 0), aI id, aI parent, aB excluded, aB shut] [(0, .blk [cI p_w.t.Root, cI p_w.t.Next, .d (.sl (List.map Node.cs p_w.t.Nodes)), .d (.mp true (encM (kInt .i64) Node.cs p_w.nodes)), .d (.mp false (encM (kInt .i64) eBool p_w.visible)), .d (.sl (List.map (eInt .i64) p_w.candidates)), .tl 1 (List.map (eInt .i64) p_w.ids), .tl 2 (List.map (eInt .i64) p_w.parents)] 175), (1, .tail 1), (2, .tail 1)] (.tup []) [(0, .blk [cI r.t.Root, cI r.t.Next, .d (.sl (List.map Node.cs r.t.Nodes)), .d (.mp true (encM (kInt .i64) Node.cs r.nodes)), .d (.mp false (encM (kInt .i64) eBool r.visible)), .d (.sl (List.map (eInt .i64) r.candidates)), .tl 3000 (List.map (eInt .i64) r.ids), .tl 3001 (List.map (eInt .i64) r.parents)] 175), (1, .dead), (2, .dead), (3000, .tail 1), (3001, .tail 1)] := by
  unfold ac_walker_walk_B at hr
  refine Con.of_ok 113 0 [] [(0, .s (.c (.loc 0 0))), (1, .s (aI id)), (2, .s (aI parent)), (3, .s (aB excluded)), (4, .s (aB shut))] Tryz.func123 rfl rfl rfl rfl rfl rfl rfl rfl fun w g M ρ _ => (Ok.seq (Ok.region (OkOps.y (.c (.loc 0 0)) (OkOps.y (.c (.loc 0 0)) (OkOps.y (.c (.loc 0 3)) (OkOps.y (.c (.d (.mp true (encM (kInt .i64) Node.cs p_w.nodes)))) (OkOps.y (aI id) ?_)))))))
  obtain ⟨x1, hx1, hr⟩ := bind_some hr
  refine OkOps.q (triLook (agg := true) (ek := (kInt .i64)) (ev := Node.cs) (L := p_w.nodes) (r := .agg [cI x1.1.ID, cI x1.1.Parent, cI x1.1.Kind, cS x1.1.Key, .d (.sl (List.map Attr.cs x1.1.Attrs)), .d (.sl (List.map Action.cs x1.1.Actions)), .d (.sl (List.map (eInt .i64) x1.1.Kids))]) hx1 rfl rfl rfl (keyInt Tryz.underlying3) rfl rfl (fun h => by cases h) rfl trivial rfl) ?_
  refine OkOps.m 0 (triAlloc (j := 3) (cs := [cI 0, cI 0, cI 0, cS ByteArray.empty, .d (.v (.slice none 0 0)), .d (.v (.slice none 0 0)), .d (.v (.slice none 0 0))]) rfl rfl rfl rfl) (OkOps.w (triStore (cs' := [cI x1.1.ID, cI x1.1.Parent, cI x1.1.Kind, cS x1.1.Key, .d (.sl (List.map Attr.cs x1.1.Attrs)), .d (.sl (List.map Action.cs x1.1.Actions)), .d (.sl (List.map (eInt .i64) x1.1.Kids))]) rfl rfl rfl rfl rfl rfl rfl rfl rfl) (OkOps.nil (Ok.seq (Ok.region (OkOps.y (aB excluded) (OkOps.y (aB excluded) (OkOps.q (triQG (x := .c (.loc 3 4)) rfl rfl trivial rfl) (OkOps.q (triQG (x := .c (.d (.sl (List.map Attr.cs x1.1.Attrs)))) rfl rfl ⟨fun h => h, trivial⟩ rfl) ?_))))))))
  obtain ⟨x2, hx2, hr⟩ := bind_some hr
  refine OkOps.q (triCallG (x := aB x2) (fun hg => vw_Flag_c _ _ (gO_t hx2 hg)) rfl rfl ⟨.inl rfl, .inl rfl, trivial⟩ ⟨fun h => h, trivial⟩ entry45 rfl rfl rfl) ?_
  refine OkOps.q (triOr rfl rfl (fun h => by rw [h]; rfl) rfl) ?_
  refine OkOps.y (aB (excluded || x2)) (OkOps.nil (Ok.seq (Ok.region (OkOps.y (aI id) (OkOps.y (.c (.loc 0 0)) (OkOps.y (.c (.loc 0 0)) (OkOps.y (.c (.loc 0 0)) (OkOps.y (.c (.loc 0 0)) (OkOps.y (aI p_w.t.Root) (OkOps.y (aB (id == p_w.t.Root)) (OkOps.y (aB (id == p_w.t.Root)) (OkOps.nil (Ok.seq (Ok.region (OkOps.y (.c (.loc 0 0)) ?_)))))))))))))))
  refine OkOps.y (.c (.loc 0 0)) (OkOps.y (.c (.loc 0 0)) (OkOps.y (.agg [cI p_w.t.Root, cI p_w.t.Next, .d (.sl (List.map Node.cs p_w.t.Nodes))]) (OkOps.y (aI id) ?_)))
  obtain ⟨x3, hx3, hr⟩ := bind_some hr
  refine OkOps.q (triCl (tau []) (.s (aI x3)) [] (ac_Role_c _ _ hx3) rfl ⟨.inl rfl, .inl rfl, trivial⟩ trivial entry109 trivial) (OkOps.y (aI x3) (OkOps.nil ?_))
  obtain ⟨k5, hk5, hr⟩ := jn_some hr
  refine Ok.join (fun (s4 : Int × Bool × (List Int) × (List Int)) => ⟨[(0, .s (.c (.loc 0 0))), (2, .s (aI s4.1)), (3, .s (aB (excluded || x2))), (4, .s (aB s4.2.1)), (10, .s (.c (.loc 3 0)))], [(0, .blk [cI p_w.t.Root, cI p_w.t.Next, .d (.sl (List.map Node.cs p_w.t.Nodes)), .d (.mp true (encM (kInt .i64) Node.cs p_w.nodes)), .d (.mp false (encM (kInt .i64) eBool p_w.visible)), .d (.sl (List.map (eInt .i64) p_w.candidates)), .tl 1000 (List.map (eInt .i64) s4.2.2.1), .tl 1001 (List.map (eInt .i64) s4.2.2.2)] 175), (1, .dead), (2, .dead), (3, .blk [cI x1.1.ID, cI x1.1.Parent, cI x1.1.Kind, cS x1.1.Key, .d (.sl (List.map Attr.cs x1.1.Attrs)), .d (.sl (List.map Action.cs x1.1.Actions)), .d (.sl (List.map (eInt .i64) x1.1.Kids))] 61), (1000, .tail 1), (1001, .tail 1)], 0⟩) k5 r (fun s4 hr => ?_) ?_
  rw [hk5] at hr
  refine Ok.seq (Ok.region (OkOps.y (.c (.loc 3 6)) (OkOps.y (.c (.d (.sl (List.map (eInt .i64) x1.1.Kids)))) (OkOps.q (triLen (enc := (eInt .i64)) x1.1.Kids rfl rfl trivial rfl) (OkOps.y (aI 0) (OkOps.nil (Ok.block (Ok.loopK (fun (s6 : Int × Int × Int × (List Node) × (List (Int × Node)) × (List (Int × Bool)) × (List Int) × (List Int) × (List Int)) => ⟨[(0, .s (.c (.loc 0 0))), (2, .s (aI s4.1)), (3, .s (aB (excluded || x2))), (4, .s (aB s4.2.1)), (100, .s (.c (.d (.sl (List.map (eInt .i64) x1.1.Kids))))), (101, .s (aI (x1.1.Kids.length : Int))), (102, .s (aI s6.1))], [(0, .blk [cI s6.2.1, cI s6.2.2.1, .d (.sl (List.map Node.cs s6.2.2.2.1)), .d (.mp true (encM (kInt .i64) Node.cs s6.2.2.2.2.1)), .d (.mp false (encM (kInt .i64) eBool s6.2.2.2.2.2.1)), .d (.sl (List.map (eInt .i64) s6.2.2.2.2.2.2.1)), .tl 1004 (List.map (eInt .i64) s6.2.2.2.2.2.2.2.1), .tl 1005 (List.map (eInt .i64) s6.2.2.2.2.2.2.2.2)] 175), (1, .dead), (2, .dead), (1004, .tail 1), (1005, .tail 1)], 0⟩) hr (Conv.mk (tau [(1004, 1000), (1005, 1001)]) ⟨⟨_, rfl, .inl rfl⟩, ⟨_, rfl, .inl rfl⟩, ⟨_, rfl, .inl rfl⟩, ⟨_, rfl, .inl rfl⟩, ⟨_, rfl, .inl rfl⟩, ⟨_, rfl, .inl rfl⟩, ⟨_, rfl, .inl rfl⟩, trivial⟩ ⟨rfl, rfl, rfl, trivial⟩ rfl rfl rfl rfl) ?_))))))))
  clear hr
  intro again7 s6 hr
  unfold ac_walker_walk_L1 at hr
  refine Ok.seq (Ok.region (OkOps.y (aB (decide (s6.1 < (x1.1.Kids.length : Int)))) (OkOps.nil (Ok.seq ?_))))
  refine Ok.cond (b := decide (s6.1 < (x1.1.Kids.length : Int))) rfl (fun h8 => ?_) (fun h8 => ?_)
  have hr := selT h8 hr
  refine Ok.skip (Ok.seq (Ok.block (Ok.seq (Ok.region ?_))))
  obtain ⟨x9, hx9, hr⟩ := bind_some hr
  refine OkOps.q (triIdx (enc := (eInt .i64)) (L := x1.1.Kids) (row := [dI x9]) hx9 rfl rfl rfl rfl (fun _ => rfl) trivial rfl) (OkOps.y (aI x9) (OkOps.y (aI x9) (OkOps.nil (Ok.region (OkOps.y (.c (.loc 0 0)) (OkOps.y (aI x9) (OkOps.y (aI s4.1) (OkOps.y (aB (excluded || x2)) (OkOps.y (aB s4.2.1) ?_)))))))))
  obtain ⟨x10, hx10, hr⟩ := bind_some hr
  refine OkOps.wq [(0, .blk [cI x10.t.Root, cI x10.t.Next, .d (.sl (List.map Node.cs x10.t.Nodes)), .d (.mp true (encM (kInt .i64) Node.cs x10.nodes)), .d (.mp false (encM (kInt .i64) eBool x10.visible)), .d (.sl (List.map (eInt .i64) x10.candidates)), .tl 4 (List.map (eInt .i64) x10.ids), .tl 5 (List.map (eInt .i64) x10.parents)] 175), (1004, .dead), (1005, .dead), (4, .tail 1), (5, .tail 1)] (triCall (tau [(0, 0), (1, 1004), (2, 1005), (3000, 4), (3001, 5)]) (.tup []) [(0, .blk [cI x10.t.Root, cI x10.t.Next, .d (.sl (List.map Node.cs x10.t.Nodes)), .d (.mp true (encM (kInt .i64) Node.cs x10.nodes)), .d (.mp false (encM (kInt .i64) eBool x10.visible)), .d (.sl (List.map (eInt .i64) x10.candidates)), .tl 4 (List.map (eInt .i64) x10.ids), .tl 5 (List.map (eInt .i64) x10.parents)] 175), (1004, .dead), (1005, .dead), (4, .tail 1), (5, .tail 1)] (hself0 _ _ _ _ _ hx10) rfl ⟨.inl rfl, .inl rfl, .inl rfl, .inl rfl, .inl rfl, trivial⟩ trivial entry123 ⟨rfl, rfl, rfl, trivial⟩ rfl rfl rfl rfl ⟨rfl, rfl, trivial⟩ rfl rfl rfl) (OkOps.nil (Ok.region (OkOps.y (aI (IntKind.i64.wrap (s6.1 + 1))) (OkOps.y (aI (IntKind.i64.wrap (s6.1 + 1))) (OkOps.nil ?_)))))
  exact ⟨(IntKind.i64.wrap (s6.1 + 1), x10.t.Root, x10.t.Next, x10.t.Nodes, x10.nodes, x10.visible, x10.candidates, x10.ids, x10.parents), hr, (Conv.mk (tau [(1004, 4), (1005, 5)]) ⟨⟨_, rfl, .inl rfl⟩, ⟨_, rfl, .inl rfl⟩, ⟨_, rfl, .inl rfl⟩, ⟨_, rfl, .inl rfl⟩, ⟨_, rfl, .inl rfl⟩, ⟨_, rfl, .inl rfl⟩, ⟨_, rfl, .inl rfl⟩, trivial⟩ ⟨rfl, rfl, rfl, trivial⟩ rfl rfl rfl rfl)⟩
  have hr := selF h8 hr
  refine Ok.conv (T := ⟨[], [(0, .blk [cI s6.2.1, cI s6.2.2.1, .d (.sl (List.map Node.cs s6.2.2.2.1)), .d (.mp true (encM (kInt .i64) Node.cs s6.2.2.2.2.1)), .d (.mp false (encM (kInt .i64) eBool s6.2.2.2.2.2.1)), .d (.sl (List.map (eInt .i64) s6.2.2.2.2.2.2.1)), .tl 3000 (List.map (eInt .i64) s6.2.2.2.2.2.2.2.1), .tl 3001 (List.map (eInt .i64) s6.2.2.2.2.2.2.2.2)] 175), (1, .dead), (2, .dead), (3000, .tail 1), (3001, .tail 1)], 0⟩) (Conv.mk (tau [(3000, 1004), (3001, 1005)]) trivial ⟨rfl, rfl, rfl, trivial⟩ rfl rfl rfl rfl) (Ok.exit ?_)
  obtain rfl := Option.some.inj hr
  exact ⟨_, rfl, .inl rfl, ⟨rfl, (fun h => by cases h), (fun h => by cases h), rfl, rfl, trivial⟩⟩
  clear hk5
  refine Ok.seq (Ok.region (OkOps.y (aB (id == p_w.t.Root)) (OkOps.y (aB (id == p_w.t.Root)) (OkOps.q (triQG (x := .c (.loc 0 0)) rfl rfl trivial rfl) (OkOps.q (triQG (x := .c (.loc 0 0)) rfl rfl ⟨fun h => h, trivial⟩ rfl) (OkOps.q (triQG (x := .c (.loc 0 4)) rfl rfl ⟨fun h => h, trivial⟩ rfl) (OkOps.q (triQG (x := .c (.d (.mp false (encM (kInt .i64) eBool p_w.visible)))) rfl rfl ⟨fun h => h, trivial⟩ rfl) (OkOps.q (triQG (x := aI id) rfl rfl trivial rfl) ?_))))))))
  obtain ⟨x11, hx11, hr⟩ := bind_some hr
  refine OkOps.q (triLookG (agg := false) (ek := (kInt .i64)) (ev := eBool) (L := p_w.visible) (r := aB x11.1) (gO_t hx11) rfl rfl rfl rfl (keyInt Tryz.underlying3) rfl rfl (fun _ _ => rfl) rfl ⟨fun h => h, ⟨fun h => h, trivial⟩⟩ rfl) (OkOps.q (triQG (x := aB x11.1) rfl rfl ⟨fun h => h, trivial⟩ rfl) (OkOps.q (triQG (x := aI x3) rfl rfl trivial rfl) (OkOps.q (triQG (x := aB (x3 != 0)) rfl rfl ⟨fun h => h, trivial⟩ rfl) ?_)))
  refine OkOps.q (triAndG rfl rfl rfl (fun h => h) (fun h h2 => by rw [h, h2]; rfl) rfl) ?_
  refine OkOps.q (triQG (x := aB (x11.1 && (x3 != 0))) rfl rfl ⟨fun h => h, trivial⟩ rfl) (OkOps.q (triQG (x := aB (excluded || x2)) rfl rfl trivial rfl) (OkOps.q (triQG (x := aB (!(excluded || x2))) rfl rfl ⟨fun h => h, trivial⟩ rfl) ?_))
  refine OkOps.q (triAndG rfl rfl rfl (fun h => h) (fun h h2 => by rw [h, h2]; rfl) rfl) ?_
  refine OkOps.q (triQG (x := aB ((x11.1 && (x3 != 0)) && (!(excluded || x2)))) rfl rfl ⟨fun h => h, trivial⟩ rfl) (OkOps.q (triQG (x := aB shut) rfl rfl trivial rfl) (OkOps.q (triQG (x := aB (!shut)) rfl rfl ⟨fun h => h, trivial⟩ rfl) (OkOps.q (triQG (x := aB (!shut)) rfl rfl ⟨fun h => h, trivial⟩ rfl) (OkOps.q (triQG (x := .c (.loc 0 0)) rfl rfl trivial rfl) (OkOps.q (triQG (x := .c (.loc 0 0)) rfl rfl ⟨fun h => h, trivial⟩ rfl) (OkOps.q (triQG (x := .c (.loc 0 5)) rfl rfl ⟨fun h => h, trivial⟩ rfl) (OkOps.q (triQG (x := .c (.d (.sl (List.map (eInt .i64) p_w.candidates)))) rfl rfl ⟨fun h => h, trivial⟩ rfl) (OkOps.q (triQG (x := aI id) rfl rfl trivial rfl) ?_))))))))
  obtain ⟨x12, hx12, hr⟩ := bind_some hr
  refine OkOps.q (triCallG (x := aB x12) (fun hg => slices_Contains_Sl_int_int_c _ _ (gO_t hx12 hg)) rfl rfl ⟨.inl rfl, .inl rfl, trivial⟩ ⟨fun h => h, ⟨fun h => h, trivial⟩⟩ entry39 rfl rfl rfl) ?_
  refine OkOps.q (triOrG rfl rfl rfl (fun h => h) (fun h h2 => by rw [h, h2]; rfl) rfl) ?_
  refine OkOps.q (triAndG rfl rfl rfl (fun h => h) (fun h h2 => by rw [h, h2]; rfl) rfl) ?_
  refine OkOps.q (triOr rfl rfl (fun h => by rw [h]; rfl) rfl) ?_
  refine OkOps.nil ?_
  refine Ok.cond (b := (id == p_w.t.Root) || (((x11.1 && (x3 != 0)) && (!(excluded || x2))) && ((!shut) || x12))) rfl (fun h13 => ?_) (fun h13 => ?_)
  have hr := selT h13 hr
  refine Ok.seq (Ok.regionD (by kernel_rfl) (OkD.x (.c (.loc 0 0)) rfl trivial rfl (OkD.x (.c (.loc 0 0)) rfl trivial rfl (OkD.x (.c (.loc 0 0)) rfl trivial rfl (OkD.x (.c (.loc 0 0)) rfl trivial rfl (OkD.x (.c (.loc 0 6)) rfl trivial rfl (OkD.x (.c (.tl 1 (List.map (eInt .i64) p_w.ids))) rfl trivial rfl (OkD.x (aI id) rfl trivial rfl (OkD.m 0 (triBST (sz := 1) (enc := (eInt .i64)) (j := 6) ([id]) rfl rfl rfl rfl rfl rfl rfl rfl (fun _ => rfl) trivial rfl rfl) ?_)))))))))
  obtain ⟨x14, hx14, hr⟩ := bind_some hr
  refine OkD.m2 0 (triApp (enc := (eInt .i64)) (L := p_w.ids) (X := [id]) (j := 1) (j' := 7) hx14 rfl rfl rfl rfl rfl rfl (fun _ => rfl) (fun _ => rfl) (by decide) trivial rfl rfl) (OkD.x (.c (.loc 0 0)) rfl trivial rfl (OkD.x (.c (.loc 0 0)) rfl trivial rfl (OkD.x (.c (.loc 0 7)) rfl trivial rfl (OkD.x (.c (.tl 2 (List.map (eInt .i64) p_w.parents))) rfl trivial rfl (OkD.x (aI parent) rfl trivial rfl (OkD.m 0 (triBST (sz := 1) (enc := (eInt .i64)) (j := 8) ([parent]) rfl rfl rfl rfl rfl rfl rfl rfl (fun _ => rfl) trivial rfl rfl) ?_))))))
  obtain ⟨x15, hx15, hr⟩ := bind_some hr
  refine OkD.m2 0 (triApp (enc := (eInt .i64)) (L := p_w.parents) (X := [parent]) (j := 2) (j' := 9) hx15 rfl rfl rfl rfl rfl rfl (fun _ => rfl) (fun _ => rfl) (by decide) trivial rfl rfl) (OkD.x (.c (.loc 0 0)) rfl trivial rfl (OkD.x (.c (.loc 0 6)) rfl trivial rfl (OkD.w (triStore (cs' := [cI p_w.t.Root, cI p_w.t.Next, .d (.sl (List.map Node.cs p_w.t.Nodes)), .d (.mp true (encM (kInt .i64) Node.cs p_w.nodes)), .d (.mp false (encM (kInt .i64) eBool p_w.visible)), .d (.sl (List.map (eInt .i64) p_w.candidates)), .tl 7 (List.map (eInt .i64) x14), .tl 2 (List.map (eInt .i64) p_w.parents)]) rfl rfl rfl rfl rfl rfl rfl rfl rfl) (OkD.x (.c (.loc 0 0)) rfl trivial rfl (OkD.x (.c (.loc 0 7)) rfl trivial rfl (OkD.w (triStore (cs' := [cI p_w.t.Root, cI p_w.t.Next, .d (.sl (List.map Node.cs p_w.t.Nodes)), .d (.mp true (encM (kInt .i64) Node.cs p_w.nodes)), .d (.mp false (encM (kInt .i64) eBool p_w.visible)), .d (.sl (List.map (eInt .i64) p_w.candidates)), .tl 7 (List.map (eInt .i64) x14), .tl 9 (List.map (eInt .i64) x15)]) rfl rfl rfl rfl rfl rfl rfl rfl rfl) (OkD.nil (by kernel_rfl) (Ok.region (OkOps.y (aI id) (OkOps.y (aB shut) (OkOps.y (aB shut) (OkOps.q (triQG (x := aB (id == p_w.t.Root)) rfl rfl trivial rfl) (OkOps.q (triQG (x := aB (!(id == p_w.t.Root))) rfl rfl ⟨fun h => h, trivial⟩ rfl) (OkOps.q (triQG (x := aB (!(id == p_w.t.Root))) rfl rfl ⟨fun h => h, trivial⟩ rfl) (OkOps.q (triQG (x := aI x3) rfl rfl trivial rfl) ?_)))))))))))))))
  obtain ⟨x16, hx16, hr⟩ := bind_some hr
  refine OkOps.q (triCallG (x := aB x16) (fun hg => ac_closed_c _ (gO_t hx16 hg)) rfl rfl ⟨.inl rfl, trivial⟩ ⟨fun h => h, trivial⟩ entry162 rfl rfl rfl) ?_
  refine OkOps.q (triAndG rfl rfl rfl (fun h => h) (fun h h2 => by rw [h, h2]; rfl) rfl) ?_
  refine OkOps.q (triOr rfl rfl (fun h => by rw [h]; rfl) rfl) ?_
  refine OkOps.y (aI id) (OkOps.y (aB (shut || ((!(id == p_w.t.Root)) && x16))) (OkOps.nil ?_))
  exact ⟨(id, shut || ((!(id == p_w.t.Root)) && x16), x14, x15), hr, (Conv.mk (tau [(1000, 7), (1001, 9)]) ⟨⟨_, rfl, .inl rfl⟩, ⟨_, rfl, .inl rfl⟩, ⟨_, rfl, .inl rfl⟩, ⟨_, rfl, .inl rfl⟩, ⟨_, rfl, .inl rfl⟩, trivial⟩ ⟨rfl, rfl, rfl, rfl, trivial⟩ rfl rfl rfl rfl)⟩
  have hr := selF h13 hr
  refine Ok.skip ?_
  exact ⟨(parent, shut, p_w.ids, p_w.parents), hr, (Conv.mk (tau [(1000, 1), (1001, 2)]) ⟨⟨_, rfl, .inl rfl⟩, ⟨_, rfl, .inl rfl⟩, ⟨_, rfl, .inl rfl⟩, ⟨_, rfl, .inl rfl⟩, ⟨_, rfl, .inl rfl⟩, trivial⟩ ⟨rfl, rfl, rfl, rfl, trivial⟩ rfl rfl rfl rfl)⟩
theorem ac_walker_walk_all : ∀ n : Nat, (∀ (p_w : accessible_walker) (id : Int) (parent : Int) (excluded : Bool) (shut : Bool) {r : accessible_walker}, ac_walker_walk n p_w id parent excluded shut = some r → Con Tryz.prog 123 [.c (.loc 0 0), aI id, aI parent, aB excluded, aB shut] [(0, .blk [cI p_w.t.Root, cI p_w.t.Next, .d (.sl (List.map Node.cs p_w.t.Nodes)), .d (.mp true (encM (kInt .i64) Node.cs p_w.nodes)), .d (.mp false (encM (kInt .i64) eBool p_w.visible)), .d (.sl (List.map (eInt .i64) p_w.candidates)), .tl 1 (List.map (eInt .i64) p_w.ids), .tl 2 (List.map (eInt .i64) p_w.parents)] 175), (1, .tail 1), (2, .tail 1)] (.tup []) [(0, .blk [cI r.t.Root, cI r.t.Next, .d (.sl (List.map Node.cs r.t.Nodes)), .d (.mp true (encM (kInt .i64) Node.cs r.nodes)), .d (.mp false (encM (kInt .i64) eBool r.visible)), .d (.sl (List.map (eInt .i64) r.candidates)), .tl 3000 (List.map (eInt .i64) r.ids), .tl 3001 (List.map (eInt .i64) r.parents)] 175), (1, .dead), (2, .dead), (3000, .tail 1), (3001, .tail 1)]) ∧ True := by
  intro n
  induction n with
  | zero => exact ⟨(by intros; rename_i hr; cases hr), trivial⟩
  | succ n ih => exact ⟨(by intros; rename_i hr; exact ac_walker_walk_B_c _ ih.1 _ _ _ _ _ hr), trivial⟩
theorem ac_walker_walk_c (n : Nat) (p_w : accessible_walker) (id : Int) (parent : Int) (excluded : Bool) (shut : Bool) {r : accessible_walker} (hr : ac_walker_walk n p_w id parent excluded shut = some r) : Con Tryz.prog 123 [.c (.loc 0 0), aI id, aI parent, aB excluded, aB shut] [(0, .blk [cI p_w.t.Root, cI p_w.t.Next, .d (.sl (List.map Node.cs p_w.t.Nodes)), .d (.mp true (encM (kInt .i64) Node.cs p_w.nodes)), .d (.mp false (encM (kInt .i64) eBool p_w.visible)), .d (.sl (List.map (eInt .i64) p_w.candidates)), .tl 1 (List.map (eInt .i64) p_w.ids), .tl 2 (List.map (eInt .i64) p_w.parents)] 175), (1, .tail 1), (2, .tail 1)] (.tup []) [(0, .blk [cI r.t.Root, cI r.t.Next, .d (.sl (List.map Node.cs r.t.Nodes)), .d (.mp true (encM (kInt .i64) Node.cs r.nodes)), .d (.mp false (encM (kInt .i64) eBool r.visible)), .d (.sl (List.map (eInt .i64) r.candidates)), .tl 3000 (List.map (eInt .i64) r.ids), .tl 3001 (List.map (eInt .i64) r.parents)] 175), (1, .dead), (2, .dead), (3000, .tail 1), (3001, .tail 1)] := (ac_walker_walk_all n).1 p_w id parent excluded shut hr
theorem ac_export_c (t : Tree) (st : (List Styled)) {r : (List Int) × (List Int)} (hr : ac_export t st = some r) : Con Tryz.prog 86 [.agg [cI t.Root, cI t.Next, .d (.sl (List.map Node.cs t.Nodes))], .c (.d (.sl (List.map Styled.cs st)))] [] (.tup [.c (.d (.sl (List.map (eInt .i64) r.1))), .c (.d (.sl (List.map (eInt .i64) r.2)))]) [] := by
  unfold ac_export at hr
  refine Con.of_ok 50 0 [.tmp 4, .tmp 5] [(0, .s (.agg [cI t.Root, cI t.Next, .d (.sl (List.map Node.cs t.Nodes))])), (1, .s (.c (.d (.sl (List.map Styled.cs st)))))] Tryz.func86 rfl rfl rfl rfl rfl rfl rfl rfl fun w g M ρ _ => (Ok.seq (Ok.region (OkOps.m 0 (triBox (j := 0) (cs := [cI t.Root, cI t.Next, .d (.sl (List.map Node.cs t.Nodes))]) rfl rfl rfl rfl rfl) (OkOps.y (.c (.d (.v (.slice none 0 0)))) (OkOps.y (.c (.d (.v (.slice none 0 0)))) (OkOps.nil (Ok.seq (Ok.seq (Ok.region (OkOps.y (.agg [cI t.Root, cI t.Next, .d (.sl (List.map Node.cs t.Nodes))]) ?_))))))))))
  obtain ⟨x1, hx1, hr⟩ := bind_some hr
  refine OkOps.q (triCl (tau []) (.s (.c (.d (.sl (List.map (eInt .i64) x1))))) [] (vw_Order_c _ hx1) rfl ⟨.inl rfl, trivial⟩ trivial entry90 trivial) (OkOps.q (triLen (enc := (eInt .i64)) x1 rfl rfl trivial rfl) (OkOps.y (aB ((x1.length : Int) == 0)) (OkOps.nil ?_)))
  refine Ok.cond (b := (x1.length : Int) == 0) rfl (fun h2 => ?_) (fun h2 => ?_)
  have hr := selT h2 hr
  refine Ok.seq (Ok.region (OkOps.y (.c (.d (.v (.slice none 0 0)))) (OkOps.y (.c (.d (.v (.slice none 0 0)))) (OkOps.nil (Ok.ret ?_)))))
  obtain rfl := Option.some.inj hr
  exact ⟨_, rfl, .inr rfl, trivial⟩
  have hr := selF h2 hr
  refine Ok.skip (Ok.seq (Ok.regionD (by kernel_rfl) (OkD.x (.agg [cI t.Root, cI t.Next, .d (.sl (List.map Node.cs t.Nodes))]) rfl trivial rfl (OkD.m 0 (triMkM (j := 1) true rfl rfl) (OkD.x (.agg [cI t.Root, cI t.Next, .d (.sl (List.map Node.cs t.Nodes))]) rfl trivial rfl (OkD.x (.c (.d (.sl (List.map Styled.cs st)))) rfl trivial rfl ?_))))))
  obtain ⟨x3, hx3, hr⟩ := bind_some hr
  refine OkD.q (triCl (tau []) (.s (.c (.d (.mp false (encM (kInt .i64) eBool x3))))) [] (ac_visible_c _ _ hx3) rfl ⟨.inl rfl, .inl rfl, trivial⟩ trivial entry122 trivial) (OkD.x (.agg [cI t.Root, cI t.Next, .d (.sl (List.map Node.cs t.Nodes))]) rfl trivial rfl (OkD.x (.c (.d (.sl (List.map Styled.cs st)))) rfl trivial rfl ?_))
  obtain ⟨x4, hx4, hr⟩ := bind_some hr
  refine OkD.q (triCl (tau []) (.s (.c (.d (.sl (List.map (eInt .i64) x4))))) [] (fo_CandidatesS_c _ _ hx4) rfl ⟨.inl rfl, .inl rfl, trivial⟩ trivial entry43 trivial) (OkD.q (triBuildF (x := .agg [cI t.Root, cI t.Next, .d (.sl (List.map Node.cs t.Nodes)), .own 1, .d (.mp false (encM (kInt .i64) eBool x3)), .d (.sl (List.map (eInt .i64) x4)), .d (.v (.slice none 0 0)), .d (.v (.slice none 0 0))]) rfl rfl trivial rfl) (OkD.m 0 (triBox (j := 2) (cs := [cI t.Root, cI t.Next, .d (.sl (List.map Node.cs t.Nodes)), .own 1, .d (.mp false (encM (kInt .i64) eBool x3)), .d (.sl (List.map (eInt .i64) x4)), .d (.v (.slice none 0 0)), .d (.v (.slice none 0 0))]) rfl rfl rfl rfl rfl) (OkD.x (.c (.loc 2 0)) rfl trivial rfl (OkD.nil (by kernel_rfl) ?_))))
  obtain ⟨k6, hk6, hr⟩ := jn_some hr
  refine Ok.join (fun (s5 : (List (Int × Node))) => ⟨[(2, .s (.c (.loc 0 0))), (6, .s (.c (.loc 2 0)))], [(0, .blk [cI t.Root, cI t.Next, .d (.sl (List.map Node.cs t.Nodes))] 30), (1, .mp true (encM (kInt .i64) Node.cs s5)), (2, .blk [cI t.Root, cI t.Next, .d (.sl (List.map Node.cs t.Nodes)), .own 1, .d (.mp false (encM (kInt .i64) eBool x3)), .d (.sl (List.map (eInt .i64) x4)), .d (.v (.slice none 0 0)), .d (.v (.slice none 0 0))] 175)], 0⟩) k6 r (fun s5 hr => ?_) ?_
  rw [hk6] at hr
  refine Ok.seq (Ok.region (OkOps.y (.c (.loc 2 0)) (OkOps.y (.c (.loc 0 0)) (OkOps.y (aI t.Root) (OkOps.conv (Conv.nilB 2 6 3 (.tail 1) (.tl 3 (List.map (eInt .i64) ([] : (List Int)))) [cI t.Root, cI t.Next, .d (.sl (List.map Node.cs t.Nodes)), .own 1, .d (.mp false (encM (kInt .i64) eBool x3)), .d (.sl (List.map (eInt .i64) x4)), .d (.v (.slice none 0 0)), .d (.v (.slice none 0 0))] [cI t.Root, cI t.Next, .d (.sl (List.map Node.cs t.Nodes)), .own 1, .d (.mp false (encM (kInt .i64) eBool x3)), .d (.sl (List.map (eInt .i64) x4)), .tl 3 (List.map (eInt .i64) ([] : (List Int))), .d (.v (.slice none 0 0))] 175 0 rfl rfl rfl rfl (nil_tail 1 3) (fun _ _ h => ⟨h.symm, Rep.nil⟩)) (OkOps.conv (Conv.nilB 2 7 4 (.tail 1) (.tl 4 (List.map (eInt .i64) ([] : (List Int)))) [cI t.Root, cI t.Next, .d (.sl (List.map Node.cs t.Nodes)), .own 1, .d (.mp false (encM (kInt .i64) eBool x3)), .d (.sl (List.map (eInt .i64) x4)), .tl 3 (List.map (eInt .i64) ([] : (List Int))), .d (.v (.slice none 0 0))] [cI t.Root, cI t.Next, .d (.sl (List.map Node.cs t.Nodes)), .own 1, .d (.mp false (encM (kInt .i64) eBool x3)), .d (.sl (List.map (eInt .i64) x4)), .tl 3 (List.map (eInt .i64) ([] : (List Int))), .tl 4 (List.map (eInt .i64) ([] : (List Int)))] 175 0 rfl rfl rfl rfl (nil_tail 1 4) (fun _ _ h => ⟨h.symm, Rep.nil⟩)) (OkOps.conv (Conv.freezeM [] [(2, .blk [cI t.Root, cI t.Next, .d (.sl (List.map Node.cs t.Nodes)), .d (.mp true (encM (kInt .i64) Node.cs s5)), .d (.mp false (encM (kInt .i64) eBool x3)), .d (.sl (List.map (eInt .i64) x4)), .tl 3 (List.map (eInt .i64) ([] : (List Int))), .tl 4 (List.map (eInt .i64) ([] : (List Int)))] 175)] 1 0 rfl trivial ⟨⟨_, _, rfl, rfl⟩, trivial⟩) ?_)))))))
  obtain ⟨x7, hx7, hr⟩ := bind_some hr
  refine OkOps.wq [(2, .blk [cI x7.t.Root, cI x7.t.Next, .d (.sl (List.map Node.cs x7.t.Nodes)), .d (.mp true (encM (kInt .i64) Node.cs x7.nodes)), .d (.mp false (encM (kInt .i64) eBool x7.visible)), .d (.sl (List.map (eInt .i64) x7.candidates)), .tl 5 (List.map (eInt .i64) x7.ids), .tl 6 (List.map (eInt .i64) x7.parents)] 175), (3, .dead), (4, .dead), (5, .tail 1), (6, .tail 1)] (triCall (tau [(0, 2), (1, 3), (2, 4), (3000, 5), (3001, 6)]) (.tup []) [(2, .blk [cI x7.t.Root, cI x7.t.Next, .d (.sl (List.map Node.cs x7.t.Nodes)), .d (.mp true (encM (kInt .i64) Node.cs x7.nodes)), .d (.mp false (encM (kInt .i64) eBool x7.visible)), .d (.sl (List.map (eInt .i64) x7.candidates)), .tl 5 (List.map (eInt .i64) x7.ids), .tl 6 (List.map (eInt .i64) x7.parents)] 175), (3, .dead), (4, .dead), (5, .tail 1), (6, .tail 1)] (ac_walker_walk_c _ _ _ _ _ _ hx7) rfl ⟨.inl rfl, .inl rfl, .inl rfl, .inl rfl, .inl rfl, trivial⟩ trivial entry123 ⟨rfl, rfl, rfl, trivial⟩ rfl rfl rfl rfl ⟨rfl, rfl, trivial⟩ rfl rfl rfl) (OkOps.nil (Ok.seq (Ok.regionD (by kernel_rfl) (OkD.x (.c (.loc 2 0)) rfl trivial rfl (OkD.x (.c (.loc 2 0)) rfl trivial rfl (OkD.x (.c (.loc 2 6)) rfl trivial rfl (OkD.x (.c (.tl 5 (List.map (eInt .i64) x7.ids))) rfl trivial rfl (OkD.x (.c (.loc 2 0)) rfl trivial rfl (OkD.x (.c (.loc 2 0)) rfl trivial rfl (OkD.x (.c (.loc 2 7)) rfl trivial rfl (OkD.x (.c (.tl 6 (List.map (eInt .i64) x7.parents))) rfl trivial rfl (OkD.x (.c (.tl 5 (List.map (eInt .i64) x7.ids))) rfl trivial rfl (OkD.x (.c (.tl 6 (List.map (eInt .i64) x7.parents))) rfl trivial rfl (OkD.nil (by kernel_rfl) (Ok.ret ?_)))))))))))))))
  obtain rfl := Option.some.inj hr
  exact ⟨_, rfl, .inr rfl, trivial⟩
  clear hk6
  refine Ok.seq (Ok.region (OkOps.y (.c (.loc 0 2)) (OkOps.y (.c (.d (.sl (List.map Node.cs t.Nodes)))) (OkOps.q (triLen (enc := Node.cs) t.Nodes rfl rfl trivial rfl) (OkOps.y (aI 0) (OkOps.nil (Ok.block (Ok.loopK (fun (s8 : Int × (List (Int × Node))) => ⟨[(2, .s (.c (.loc 0 0))), (6, .s (.c (.loc 2 0))), (24, .s (.c (.d (.sl (List.map Node.cs t.Nodes))))), (25, .s (aI (t.Nodes.length : Int))), (26, .s (aI s8.1))], [(0, .blk [cI t.Root, cI t.Next, .d (.sl (List.map Node.cs t.Nodes))] 30), (1, .mp true (encM (kInt .i64) Node.cs s8.2)), (2, .blk [cI t.Root, cI t.Next, .d (.sl (List.map Node.cs t.Nodes)), .own 1, .d (.mp false (encM (kInt .i64) eBool x3)), .d (.sl (List.map (eInt .i64) x4)), .d (.v (.slice none 0 0)), .d (.v (.slice none 0 0))] 175)], 0⟩) hr (Conv.mk (tau []) ⟨⟨_, rfl, .inl rfl⟩, ⟨_, rfl, .inl rfl⟩, ⟨_, rfl, .inl rfl⟩, ⟨_, rfl, .inl rfl⟩, ⟨_, rfl, .inl rfl⟩, trivial⟩ ⟨rfl, rfl, rfl, trivial⟩ rfl rfl rfl rfl) ?_))))))))
  clear hr
  intro again9 s8 hr
  unfold ac_export_L1 at hr
  refine Ok.seq (Ok.region (OkOps.y (aB (decide (s8.1 < (t.Nodes.length : Int)))) (OkOps.nil (Ok.seq ?_))))
  refine Ok.cond (b := decide (s8.1 < (t.Nodes.length : Int))) rfl (fun h10 => ?_) (fun h10 => ?_)
  have hr := selT h10 hr
  refine Ok.skip (Ok.seq (Ok.block (Ok.seq (Ok.region ?_))))
  obtain ⟨x11, hx11, hr⟩ := bind_some hr
  refine OkOps.q (triIdx (enc := Node.cs) (L := t.Nodes) (row := [dI x11.ID, dI x11.Parent, dI x11.Kind, dS x11.Key, .sl (List.map Attr.cs x11.Attrs), .sl (List.map Action.cs x11.Actions), .sl (List.map (eInt .i64) x11.Kids)]) hx11 rfl rfl rfl rfl (fun _ => rfl) trivial rfl) (OkOps.y (.agg [cI x11.ID, cI x11.Parent, cI x11.Kind, cS x11.Key, .d (.sl (List.map Attr.cs x11.Attrs)), .d (.sl (List.map Action.cs x11.Actions)), .d (.sl (List.map (eInt .i64) x11.Kids))]) (OkOps.m 0 (triAlloc (j := 7) (cs := [cI 0, cI 0, cI 0, cS ByteArray.empty, .d (.v (.slice none 0 0)), .d (.v (.slice none 0 0)), .d (.v (.slice none 0 0))]) rfl rfl rfl rfl) (OkOps.w (triStore (cs' := [cI x11.ID, cI x11.Parent, cI x11.Kind, cS x11.Key, .d (.sl (List.map Attr.cs x11.Attrs)), .d (.sl (List.map Action.cs x11.Actions)), .d (.sl (List.map (eInt .i64) x11.Kids))]) rfl rfl rfl rfl rfl rfl rfl rfl rfl) (OkOps.nil (Ok.regionD (by kernel_rfl) (OkD.x (.c (.loc 2 0)) rfl trivial rfl (OkD.x (.c (.loc 2 0)) rfl trivial rfl (OkD.x (.c (.loc 2 3)) rfl trivial rfl (OkD.x (.c (.own 1)) rfl trivial rfl (OkD.x (.c (.loc 7 0)) rfl trivial rfl (OkD.x (aI x11.ID) rfl trivial rfl (OkD.x (.agg [cI x11.ID, cI x11.Parent, cI x11.Kind, cS x11.Key, .d (.sl (List.map Attr.cs x11.Attrs)), .d (.sl (List.map Action.cs x11.Actions)), .d (.sl (List.map (eInt .i64) x11.Kids))]) rfl trivial rfl ?_))))))))))))
  refine OkD.w (triMapUp (ek := (kInt .i64)) (ev := Node.cs) (L := s8.2) (z := x11) rfl rfl rfl rfl rfl rfl (keyInt Tryz.underlying3) (fun h => by cases h) rfl trivial) ?_
  refine OkD.nil (by kernel_rfl) (Ok.region (OkOps.y (aI (IntKind.i64.wrap (s8.1 + 1))) (OkOps.y (aI (IntKind.i64.wrap (s8.1 + 1))) (OkOps.nil ?_))))
  exact ⟨(IntKind.i64.wrap (s8.1 + 1), msetL s8.2 x11.ID x11), hr, (Conv.mk (tau []) ⟨⟨_, rfl, .inl rfl⟩, ⟨_, rfl, .inl rfl⟩, ⟨_, rfl, .inl rfl⟩, ⟨_, rfl, .inl rfl⟩, ⟨_, rfl, .inl rfl⟩, trivial⟩ ⟨rfl, rfl, rfl, trivial⟩ rfl rfl rfl rfl)⟩
  have hr := selF h10 hr
  refine Ok.exit ?_
  exact ⟨s8.2, hr, (Conv.mk (tau []) ⟨⟨_, rfl, .inl rfl⟩, ⟨_, rfl, .inl rfl⟩, trivial⟩ ⟨rfl, rfl, rfl, trivial⟩ rfl rfl rfl rfl)⟩
theorem ac_Exported_c (t : Tree) (st : (List Styled)) {r : (List Int)} (hr : ac_Exported t st = some r) : Con Tryz.prog 52 [.agg [cI t.Root, cI t.Next, .d (.sl (List.map Node.cs t.Nodes))], .c (.d (.sl (List.map Styled.cs st)))] [] (.s (.c (.d (.sl (List.map (eInt .i64) r))))) [] := by
  unfold ac_Exported at hr
  refine Con.of_ok 14 0 [.tmp 4] [(0, .s (.agg [cI t.Root, cI t.Next, .d (.sl (List.map Node.cs t.Nodes))])), (1, .s (.c (.d (.sl (List.map Styled.cs st)))))] Tryz.func52 rfl rfl rfl rfl rfl rfl rfl rfl fun w g M ρ _ => (Ok.seq (Ok.region (OkOps.m 0 (triBox (j := 0) (cs := [cI t.Root, cI t.Next, .d (.sl (List.map Node.cs t.Nodes))]) rfl rfl rfl rfl rfl) (OkOps.y (.c (.d (.v (.slice none 0 0)))) (OkOps.nil (Ok.seq (Ok.region (OkOps.y (.agg [cI t.Root, cI t.Next, .d (.sl (List.map Node.cs t.Nodes))]) (OkOps.y (.c (.d (.sl (List.map Styled.cs st)))) ?_)))))))))
  obtain ⟨x1, hx1, hr⟩ := bind_some hr
  refine OkOps.q (triCl (tau []) (.tup [.c (.d (.sl (List.map (eInt .i64) x1.1))), .c (.d (.sl (List.map (eInt .i64) x1.2)))]) [] (ac_export_c _ _ hx1) rfl ⟨.inl rfl, .inl rfl, trivial⟩ trivial entry86 trivial) (OkOps.q (triMv (v := .tup [.c (.d (.sl (List.map (eInt .i64) x1.1))), .c (.d (.sl (List.map (eInt .i64) x1.2)))]) rfl rfl) (OkOps.y (.c (.d (.sl (List.map (eInt .i64) x1.1)))) (OkOps.y (.c (.d (.sl (List.map (eInt .i64) x1.2)))) (OkOps.y (.c (.d (.sl (List.map (eInt .i64) x1.1)))) (OkOps.y (.c (.d (.sl (List.map (eInt .i64) x1.2)))) (OkOps.nil (Ok.seq (Ok.region (OkOps.y (.c (.d (.sl (List.map (eInt .i64) x1.1)))) (OkOps.y (.c (.d (.sl (List.map (eInt .i64) x1.1)))) (OkOps.nil (Ok.ret ?_))))))))))))
  obtain rfl := Option.some.inj hr
  exact ⟨_, rfl, .inl rfl, trivial⟩
theorem ac_Parents_c (t : Tree) (st : (List Styled)) {r : (List Int)} (hr : ac_Parents t st = some r) : Con Tryz.prog 53 [.agg [cI t.Root, cI t.Next, .d (.sl (List.map Node.cs t.Nodes))], .c (.d (.sl (List.map Styled.cs st)))] [] (.s (.c (.d (.sl (List.map (eInt .i64) r))))) [] := by
  unfold ac_Parents at hr
  refine Con.of_ok 14 0 [.tmp 4] [(0, .s (.agg [cI t.Root, cI t.Next, .d (.sl (List.map Node.cs t.Nodes))])), (1, .s (.c (.d (.sl (List.map Styled.cs st)))))] Tryz.func53 rfl rfl rfl rfl rfl rfl rfl rfl fun w g M ρ _ => (Ok.seq (Ok.region (OkOps.m 0 (triBox (j := 0) (cs := [cI t.Root, cI t.Next, .d (.sl (List.map Node.cs t.Nodes))]) rfl rfl rfl rfl rfl) (OkOps.y (.c (.d (.v (.slice none 0 0)))) (OkOps.nil (Ok.seq (Ok.region (OkOps.y (.agg [cI t.Root, cI t.Next, .d (.sl (List.map Node.cs t.Nodes))]) (OkOps.y (.c (.d (.sl (List.map Styled.cs st)))) ?_)))))))))
  obtain ⟨x1, hx1, hr⟩ := bind_some hr
  refine OkOps.q (triCl (tau []) (.tup [.c (.d (.sl (List.map (eInt .i64) x1.1))), .c (.d (.sl (List.map (eInt .i64) x1.2)))]) [] (ac_export_c _ _ hx1) rfl ⟨.inl rfl, .inl rfl, trivial⟩ trivial entry86 trivial) (OkOps.q (triMv (v := .tup [.c (.d (.sl (List.map (eInt .i64) x1.1))), .c (.d (.sl (List.map (eInt .i64) x1.2)))]) rfl rfl) (OkOps.y (.c (.d (.sl (List.map (eInt .i64) x1.1)))) (OkOps.y (.c (.d (.sl (List.map (eInt .i64) x1.2)))) (OkOps.y (.c (.d (.sl (List.map (eInt .i64) x1.1)))) (OkOps.y (.c (.d (.sl (List.map (eInt .i64) x1.2)))) (OkOps.nil (Ok.seq (Ok.region (OkOps.y (.c (.d (.sl (List.map (eInt .i64) x1.2)))) (OkOps.y (.c (.d (.sl (List.map (eInt .i64) x1.2)))) (OkOps.nil (Ok.ret ?_))))))))))))
  obtain rfl := Option.some.inj hr
  exact ⟨_, rfl, .inl rfl, trivial⟩
end Go.Proofs.YtfoigppmcelgfaaGreatDoor
end
section
set_option maxRecDepth 100000
namespace Go.Proofs.YtfoigppmcelgfaaGreatDoor
open Go Go.E2
theorem r11_join_B_c (self0 : AType → AType → Option (AType × Bool)) (hself0 : ∀ (a : AType) (b : AType) {r : AType × Bool}, self0 a b = some r → Con Tryz.prog 192 [.agg [cI a.Kind, .d (.sl (List.map AType.cs a.Of))], .agg [cI b.Kind, .d (.sl (List.map AType.cs b.Of))]] [] (.tup [.agg [cI r.1.Kind, .d (.sl (List.map AType.cs r.1.Of))], aB r.2]) []) (a : AType) (b : AType) {r : AType × Bool} (hr : r11_join_B self0 a b = some r) : Con Tryz.prog 192 [.agg [cI a.Kind, .d (.sl (List.map AType.cs a.Of))], .agg [cI b.Kind, .d (.sl (List.map AType.cs b.Of))]] [] (.tup [.agg [cI r.1.Kind, .d (.sl (List.map AType.cs r.1.Of))], aB r.2]) [] := by
  unfold r11_join_B at hr
  refine Con.of_ok 44 0 [.cell 4 196, .tmp 5] [(0, .s (.agg [cI a.Kind, .d (.sl (List.map AType.cs a.Of))])), (1, .s (.agg [cI b.Kind, .d (.sl (List.map AType.cs b.Of))]))] Tryz.func192 rfl rfl rfl rfl rfl rfl rfl rfl fun w g M ρ _ => (Ok.seq (Ok.region (OkOps.m 0 (triBox (j := 0) (cs := [cI a.Kind, .d (.sl (List.map AType.cs a.Of))]) rfl rfl rfl rfl rfl) (OkOps.m 0 (triBox (j := 1) (cs := [cI b.Kind, .d (.sl (List.map AType.cs b.Of))]) rfl rfl rfl rfl rfl) (OkOps.m 0 (triAlloc (j := 2) (cs := [cI 0, .d (.v (.slice none 0 0))]) rfl rfl rfl rfl) (OkOps.y (aB false) (OkOps.nil (Ok.seq (Ok.seq (Ok.region (OkOps.y (.c (.loc 0 0)) (OkOps.y (aI a.Kind) (OkOps.y (.c (.loc 1 0)) (OkOps.y (aI b.Kind) (OkOps.y (aB (a.Kind != b.Kind)) ?_)))))))))))))))
  refine OkOps.nil ?_
  refine Ok.cond (b := a.Kind != b.Kind) rfl (fun h1 => ?_) (fun h1 => ?_)
  have hr := selT h1 hr
  refine Ok.seq (Ok.region (OkOps.y (.agg [cI 0, .d (.v (.slice none 0 0))]) (OkOps.w (triStore (cs' := [cI 0, .d (.v (.slice none 0 0))]) rfl rfl rfl rfl rfl rfl rfl rfl rfl) (OkOps.y (aB false) (OkOps.nil (Ok.ret ?_))))))
  obtain rfl := Option.some.inj hr
  exact ⟨_, rfl, .inr rfl, trivial⟩
  have hr := selF h1 hr
  refine Ok.skip (Ok.seq (Ok.seq (Ok.region (OkOps.y (.c (.loc 0 1)) (OkOps.y (.c (.d (.sl (List.map AType.cs a.Of)))) (OkOps.q (triLen (enc := AType.cs) a.Of rfl rfl trivial rfl) (OkOps.y (aB ((a.Of.length : Int) == 0)) (OkOps.nil ?_))))))))
  refine Ok.cond (b := (a.Of.length : Int) == 0) rfl (fun h2 => ?_) (fun h2 => ?_)
  have hr := selT h2 hr
  refine Ok.seq (Ok.region (OkOps.y (.agg [cI b.Kind, .d (.sl (List.map AType.cs b.Of))]) (OkOps.w (triStore (cs' := [cI b.Kind, .d (.sl (List.map AType.cs b.Of))]) rfl rfl rfl rfl rfl rfl rfl rfl rfl) (OkOps.y (aB true) (OkOps.nil (Ok.ret ?_))))))
  obtain rfl := Option.some.inj hr
  exact ⟨_, rfl, .inl rfl, trivial⟩
  have hr := selF h2 hr
  refine Ok.skip (Ok.seq (Ok.seq (Ok.region (OkOps.y (.c (.loc 1 1)) (OkOps.y (.c (.d (.sl (List.map AType.cs b.Of)))) (OkOps.q (triLen (enc := AType.cs) b.Of rfl rfl trivial rfl) (OkOps.y (aB ((b.Of.length : Int) == 0)) (OkOps.nil ?_))))))))
  refine Ok.cond (b := (b.Of.length : Int) == 0) rfl (fun h3 => ?_) (fun h3 => ?_)
  have hr := selT h3 hr
  refine Ok.seq (Ok.region (OkOps.y (.agg [cI a.Kind, .d (.sl (List.map AType.cs a.Of))]) (OkOps.w (triStore (cs' := [cI a.Kind, .d (.sl (List.map AType.cs a.Of))]) rfl rfl rfl rfl rfl rfl rfl rfl rfl) (OkOps.y (aB true) (OkOps.nil (Ok.ret ?_))))))
  obtain rfl := Option.some.inj hr
  exact ⟨_, rfl, .inl rfl, trivial⟩
  have hr := selF h3 hr
  refine Ok.skip (Ok.seq (Ok.regionD (by kernel_rfl) (OkD.x (.c (.loc 0 1)) rfl trivial rfl (OkD.x (.c (.d (.sl (List.map AType.cs a.Of)))) rfl trivial rfl ?_))))
  obtain ⟨x4, hx4, hr⟩ := bind_some hr
  refine OkD.q (triIdx (enc := AType.cs) (L := a.Of) (row := [dI x4.Kind, .sl (List.map AType.cs x4.Of)]) hx4 (AType.cs_eq _) rfl rfl rfl (fun x => by rw [AType.cs_eq]; rfl) trivial rfl) ?_
  refine OkD.x (.agg [cI x4.Kind, .d (.sl (List.map AType.cs x4.Of))]) rfl trivial rfl (OkD.x (.c (.loc 1 1)) rfl trivial rfl (OkD.x (.c (.d (.sl (List.map AType.cs b.Of)))) rfl trivial rfl ?_))
  obtain ⟨x5, hx5, hr⟩ := bind_some hr
  refine OkD.q (triIdx (enc := AType.cs) (L := b.Of) (row := [dI x5.Kind, .sl (List.map AType.cs x5.Of)]) hx5 (AType.cs_eq _) rfl rfl rfl (fun x => by rw [AType.cs_eq]; rfl) trivial rfl) ?_
  refine OkD.x (.agg [cI x5.Kind, .d (.sl (List.map AType.cs x5.Of))]) rfl trivial rfl ?_
  obtain ⟨x6, hx6, hr⟩ := bind_some hr
  refine OkD.q (triCl (tau []) (.tup [.agg [cI x6.1.Kind, .d (.sl (List.map AType.cs x6.1.Of))], aB x6.2]) [] (hself0 _ _ hx6) rfl ⟨.inl rfl, .inl rfl, trivial⟩ trivial entry192 trivial) (OkD.q (triMv (v := .tup [.agg [cI x6.1.Kind, .d (.sl (List.map AType.cs x6.1.Of))], aB x6.2]) rfl rfl) (OkD.x (.agg [cI x6.1.Kind, .d (.sl (List.map AType.cs x6.1.Of))]) rfl trivial rfl (OkD.x (aB x6.2) rfl trivial rfl (OkD.m 0 (triAlloc (j := 3) (cs := [cI 0, .d (.v (.slice none 0 0))]) rfl rfl rfl rfl) (OkD.w (triStore (cs' := [cI x6.1.Kind, .d (.sl (List.map AType.cs x6.1.Of))]) rfl rfl rfl rfl rfl rfl rfl rfl rfl) (OkD.x (aB x6.2) rfl trivial rfl (OkD.nil (by kernel_rfl) (Ok.seq (Ok.seq (Ok.region (OkOps.y (aB x6.2) (OkOps.y (aB (!x6.2)) (OkOps.nil ?_)))))))))))))
  refine Ok.cond (b := !x6.2) rfl (fun h7 => ?_) (fun h7 => ?_)
  have hr := selT h7 hr
  refine Ok.seq (Ok.region (OkOps.y (.agg [cI 0, .d (.v (.slice none 0 0))]) (OkOps.w (triStore (cs' := [cI 0, .d (.v (.slice none 0 0))]) rfl rfl rfl rfl rfl rfl rfl rfl rfl) (OkOps.y (aB false) (OkOps.nil (Ok.ret ?_))))))
  obtain rfl := Option.some.inj hr
  exact ⟨_, rfl, .inr rfl, trivial⟩
  have hr := selF h7 hr
  refine Ok.skip (Ok.seq (Ok.region (OkOps.y (.c (.loc 0 0)) (OkOps.y (aI a.Kind) (OkOps.y (.agg [cI x6.1.Kind, .d (.sl (List.map AType.cs x6.1.Of))]) ?_)))))
  refine OkOps.m 0 (triBST (sz := 2) (enc := AType.cs) (j := 4) ([x6.1]) rfl rfl rfl rfl rfl (rows := [[dI x6.1.Kind, .sl (List.map AType.cs x6.1.Of)]]) (by simp only [List.map, AType.cs_eq]) rfl rfl (fun x => by rw [AType.cs_eq]; rfl) trivial rfl rfl) ?_
  refine OkOps.y (.agg [cI a.Kind, .tl 4 (List.map AType.cs ([x6.1]))]) (OkOps.w (triStore (cs' := [cI a.Kind, .tl 4 (List.map AType.cs ([x6.1]))]) rfl rfl rfl rfl rfl rfl rfl rfl rfl) (OkOps.y (aB true) (OkOps.nil (Ok.ret ?_))))
  obtain rfl := Option.some.inj hr
  exact ⟨_, rfl, .inr rfl, trivial⟩
theorem r11_join_all : ∀ n : Nat, (∀ (a : AType) (b : AType) {r : AType × Bool}, r11_join n a b = some r → Con Tryz.prog 192 [.agg [cI a.Kind, .d (.sl (List.map AType.cs a.Of))], .agg [cI b.Kind, .d (.sl (List.map AType.cs b.Of))]] [] (.tup [.agg [cI r.1.Kind, .d (.sl (List.map AType.cs r.1.Of))], aB r.2]) []) ∧ True := by
  intro n
  induction n with
  | zero => exact ⟨(by intros; rename_i hr; cases hr), trivial⟩
  | succ n ih => exact ⟨(by intros; rename_i hr; exact r11_join_B_c _ ih.1 _ _ hr), trivial⟩
theorem r11_join_c (n : Nat) (a : AType) (b : AType) {r : AType × Bool} (hr : r11_join n a b = some r) : Con Tryz.prog 192 [.agg [cI a.Kind, .d (.sl (List.map AType.cs a.Of))], .agg [cI b.Kind, .d (.sl (List.map AType.cs b.Of))]] [] (.tup [.agg [cI r.1.Kind, .d (.sl (List.map AType.cs r.1.Of))], aB r.2]) [] := (r11_join_all n).1 a b hr
theorem r11_check_B_c (self0 : AValue → Int → Int → Option (AType × Int × Int)) (hself0 : ∀ (v : AValue) (depth : Int) (met : Int) {r : AType × Int × Int}, self0 v depth met = some r → Con Tryz.prog 180 [.agg [cI v.Kind, cI v.N, cS v.S, .d (.sl (List.map AValue.cs v.L))], aI depth, aI met] [] (.tup [.agg [cI r.1.Kind, .d (.sl (List.map AType.cs r.1.Of))], aI r.2.1, aI r.2.2]) []) (v : AValue) (depth : Int) (met : Int) {r : AType × Int × Int} (hr : r11_check_B self0 v depth met = some r) : Con Tryz.prog 180 [.agg [cI v.Kind, cI v.N, cS v.S, .d (.sl (List.map AValue.cs v.L))], aI depth, aI met] [] (.tup [.agg [cI r.1.Kind, .d (.sl (List.map AType.cs r.1.Of))], aI r.2.1, aI r.2.2]) [] := by
  unfold r11_check_B at hr
  refine Con.of_ok 184 0 [.cell 6 196, .tmp 7, .tmp 8] [(0, .s (.agg [cI v.Kind, cI v.N, cS v.S, .d (.sl (List.map AValue.cs v.L))])), (1, .s (aI depth)), (2, .s (aI met))] Tryz.func180 rfl rfl rfl rfl rfl rfl rfl rfl fun w g M ρ _ => (Ok.seq (Ok.region (OkOps.m 0 (triBox (j := 0) (cs := [cI v.Kind, cI v.N, cS v.S, .d (.sl (List.map AValue.cs v.L))]) rfl rfl rfl rfl rfl) (OkOps.m 0 (triAlloc (j := 1) (cs := [cI 0, .d (.v (.slice none 0 0))]) rfl rfl rfl rfl) (OkOps.y (aI 0) (OkOps.y (aI 0) (OkOps.nil (Ok.seq (Ok.region (OkOps.y (aI met) (OkOps.y (aI (IntKind.i64.wrap (met + 1))) (OkOps.y (aI (IntKind.i64.wrap (met + 1))) (OkOps.nil (Ok.seq (Ok.region ?_)))))))))))))))
  refine OkOps.y (.c (.loc 0 0)) (OkOps.y (aI v.Kind) (OkOps.y (aB (v.Kind == 4)) (OkOps.y (aB (v.Kind == 4)) (OkOps.nil (Ok.seq (Ok.seq (Ok.region (OkOps.y (aB (v.Kind == 4)) (OkOps.y (aB (v.Kind == 4)) (OkOps.q (triQG (x := aI depth) rfl rfl trivial rfl) (OkOps.q (triQG (x := aB (decide (depth > 16))) rfl rfl ⟨fun h => h, trivial⟩ rfl) (OkOps.q (triAnd rfl rfl (fun h => h) rfl) (OkOps.nil ?_)))))))))))))
  refine Ok.cond (b := (v.Kind == 4) && (decide (depth > 16))) rfl (fun h1 => ?_) (fun h1 => ?_)
  have hr := selT h1 hr
  refine Ok.seq (Ok.region (OkOps.y (.agg [cI 0, .d (.v (.slice none 0 0))]) (OkOps.y (aI (IntKind.i64.wrap (met + 1))) (OkOps.w (triStore (cs' := [cI 0, .d (.v (.slice none 0 0))]) rfl rfl rfl rfl rfl rfl rfl rfl rfl) (OkOps.y (aI (IntKind.i64.wrap (met + 1))) (OkOps.y (aI 8) (OkOps.nil (Ok.ret ?_))))))))
  obtain rfl := Option.some.inj hr
  exact ⟨_, rfl, .inr rfl, trivial⟩
  have hr := selF h1 hr
  refine Ok.skip (Ok.seq (Ok.seq (Ok.region (OkOps.y (.c (.loc 0 0)) (OkOps.y (aI v.Kind) (OkOps.y (aB (decide (v.Kind < 1))) (OkOps.y (aB (decide (v.Kind < 1))) (OkOps.q (triQG (x := .c (.loc 0 0)) rfl rfl trivial rfl) (OkOps.q (triQG (x := aI v.Kind) rfl rfl ⟨fun h => h, trivial⟩ rfl) (OkOps.q (triQG (x := aB (decide (v.Kind > 4))) rfl rfl ⟨fun h => h, trivial⟩ rfl) ?_))))))))))
  refine OkOps.q (triOr rfl rfl (fun h => by rw [h]; rfl) rfl) ?_
  refine OkOps.y (aB ((decide (v.Kind < 1)) || (decide (v.Kind > 4)))) (OkOps.q (triQG (x := .c (.loc 0 1)) rfl rfl trivial rfl) (OkOps.q (triQG (x := aI v.N) rfl rfl ⟨fun h => h, trivial⟩ rfl) (OkOps.q (triQG (x := aB (v.N != 0)) rfl rfl ⟨fun h => h, trivial⟩ rfl) (OkOps.q (triQG (x := aB (v.N != 0)) rfl rfl ⟨fun h => h, trivial⟩ rfl) (OkOps.q (triQG (x := .c (.loc 0 0)) rfl rfl trivial rfl) (OkOps.q (triQG (x := aI v.Kind) rfl rfl ⟨fun h => h, trivial⟩ rfl) (OkOps.q (triQG (x := aB (v.Kind != 1)) rfl rfl ⟨fun h => h, trivial⟩ rfl) ?_)))))))
  refine OkOps.q (triAndG rfl rfl rfl (fun h => h) (fun h h2 => by rw [h, h2]; rfl) rfl) ?_
  refine OkOps.q (triQG (x := aB ((v.N != 0) && (v.Kind != 1))) rfl rfl ⟨fun h => h, trivial⟩ rfl) (OkOps.q (triQG (x := .c (.loc 0 0)) rfl rfl trivial rfl) (OkOps.q (triQG (x := aI v.Kind) rfl rfl ⟨fun h => h, trivial⟩ rfl) (OkOps.q (triQG (x := aB (v.Kind != 2)) rfl rfl ⟨fun h => h, trivial⟩ rfl) ?_)))
  refine OkOps.q (triAndG rfl rfl rfl (fun h => h) (fun h h2 => by rw [h, h2]; rfl) rfl) ?_
  refine OkOps.q (triOr rfl rfl (fun h => by rw [h]; rfl) rfl) ?_
  refine OkOps.y (aB (((decide (v.Kind < 1)) || (decide (v.Kind > 4))) || (((v.N != 0) && (v.Kind != 1)) && (v.Kind != 2)))) (OkOps.q (triQG (x := .c (.loc 0 2)) rfl rfl trivial rfl) (OkOps.q (triQG (x := aS v.S) rfl rfl ⟨fun h => h, trivial⟩ rfl) (OkOps.q (triQG (x := aB (!(v.S.toList == (ByteArray.mk #[]).toList))) rfl rfl ⟨fun h => h, trivial⟩ rfl) (OkOps.q (triQG (x := aB (!(v.S.toList == (ByteArray.mk #[]).toList))) rfl rfl ⟨fun h => h, trivial⟩ rfl) (OkOps.q (triQG (x := .c (.loc 0 0)) rfl rfl trivial rfl) (OkOps.q (triQG (x := aI v.Kind) rfl rfl ⟨fun h => h, trivial⟩ rfl) (OkOps.q (triQG (x := aB (v.Kind != 3)) rfl rfl ⟨fun h => h, trivial⟩ rfl) ?_)))))))
  refine OkOps.q (triAndG rfl rfl rfl (fun h => h) (fun h h2 => by rw [h, h2]; rfl) rfl) ?_
  refine OkOps.q (triOr rfl rfl (fun h => by rw [h]; rfl) rfl) ?_
  refine OkOps.y (aB ((((decide (v.Kind < 1)) || (decide (v.Kind > 4))) || (((v.N != 0) && (v.Kind != 1)) && (v.Kind != 2))) || ((!(v.S.toList == (ByteArray.mk #[]).toList)) && (v.Kind != 3)))) (OkOps.q (triQG (x := .c (.loc 0 3)) rfl rfl trivial rfl) (OkOps.q (triQG (x := .c (.d (.sl (List.map AValue.cs v.L)))) rfl rfl ⟨fun h => h, trivial⟩ rfl) (OkOps.q (triLenG (enc := AValue.cs) v.L rfl rfl rfl ⟨fun h => h, trivial⟩ rfl) (OkOps.q (triQG (x := aB (decide ((v.L.length : Int) > 0))) rfl rfl ⟨fun h => h, trivial⟩ rfl) (OkOps.q (triQG (x := aB (decide ((v.L.length : Int) > 0))) rfl rfl ⟨fun h => h, trivial⟩ rfl) (OkOps.q (triQG (x := aB (v.Kind == 4)) rfl rfl trivial rfl) (OkOps.q (triQG (x := aB (!(v.Kind == 4))) rfl rfl ⟨fun h => h, trivial⟩ rfl) ?_)))))))
  refine OkOps.q (triAndG rfl rfl rfl (fun h => h) (fun h h2 => by rw [h, h2]; rfl) rfl) ?_
  refine OkOps.q (triOr rfl rfl (fun h => by rw [h]; rfl) rfl) ?_
  refine OkOps.nil ?_
  refine Ok.cond (b := ((((decide (v.Kind < 1)) || (decide (v.Kind > 4))) || (((v.N != 0) && (v.Kind != 1)) && (v.Kind != 2))) || ((!(v.S.toList == (ByteArray.mk #[]).toList)) && (v.Kind != 3))) || ((decide ((v.L.length : Int) > 0)) && (!(v.Kind == 4)))) rfl (fun h2 => ?_) (fun h2 => ?_)
  have hr := selT h2 hr
  refine Ok.seq (Ok.region (OkOps.y (.agg [cI 0, .d (.v (.slice none 0 0))]) (OkOps.y (aI (IntKind.i64.wrap (met + 1))) (OkOps.w (triStore (cs' := [cI 0, .d (.v (.slice none 0 0))]) rfl rfl rfl rfl rfl rfl rfl rfl rfl) (OkOps.y (aI (IntKind.i64.wrap (met + 1))) (OkOps.y (aI 9) (OkOps.nil (Ok.ret ?_))))))))
  obtain rfl := Option.some.inj hr
  exact ⟨_, rfl, .inr rfl, trivial⟩
  have hr := selF h2 hr
  refine Ok.skip (Ok.seq (Ok.seq (Ok.region (OkOps.y (.c (.loc 0 0)) (OkOps.y (aI v.Kind) (OkOps.y (aB (v.Kind == 1)) (OkOps.y (aB (v.Kind == 1)) (OkOps.q (triQG (x := .c (.loc 0 1)) rfl rfl trivial rfl) (OkOps.q (triQG (x := aI v.N) rfl rfl ⟨fun h => h, trivial⟩ rfl) (OkOps.q (triQG (x := aB (decide (v.N < (-1099511627776)))) rfl rfl ⟨fun h => h, trivial⟩ rfl) (OkOps.q (triQG (x := aB (decide (v.N < (-1099511627776)))) rfl rfl ⟨fun h => h, trivial⟩ rfl) (OkOps.q (triQG (x := .c (.loc 0 1)) rfl rfl trivial rfl) (OkOps.q (triQG (x := aI v.N) rfl rfl ⟨fun h => h, trivial⟩ rfl) (OkOps.q (triQG (x := aB (decide (v.N > 1099511627776))) rfl rfl ⟨fun h => h, trivial⟩ rfl) ?_))))))))))))))
  refine OkOps.q (triOrG rfl rfl rfl (fun h => h) (fun h h2 => by rw [h, h2]; rfl) rfl) ?_
  refine OkOps.q (triAnd rfl rfl (fun h => h) rfl) (OkOps.y (aB ((v.Kind == 1) && ((decide (v.N < (-1099511627776))) || (decide (v.N > 1099511627776))))) (OkOps.q (triQG (x := .c (.loc 0 0)) rfl rfl trivial rfl) (OkOps.q (triQG (x := aI v.Kind) rfl rfl ⟨fun h => h, trivial⟩ rfl) (OkOps.q (triQG (x := aB (v.Kind == 2)) rfl rfl ⟨fun h => h, trivial⟩ rfl) (OkOps.q (triQG (x := aB (v.Kind == 2)) rfl rfl ⟨fun h => h, trivial⟩ rfl) (OkOps.q (triQG (x := .c (.loc 0 1)) rfl rfl trivial rfl) (OkOps.q (triQG (x := aI v.N) rfl rfl ⟨fun h => h, trivial⟩ rfl) (OkOps.q (triQG (x := aB (v.N != 0)) rfl rfl ⟨fun h => h, trivial⟩ rfl) ?_))))))))
  refine OkOps.q (triAndG rfl rfl rfl (fun h => h) (fun h h2 => by rw [h, h2]; rfl) rfl) ?_
  refine OkOps.q (triQG (x := aB ((v.Kind == 2) && (v.N != 0))) rfl rfl ⟨fun h => h, trivial⟩ rfl) (OkOps.q (triQG (x := .c (.loc 0 1)) rfl rfl trivial rfl) (OkOps.q (triQG (x := aI v.N) rfl rfl ⟨fun h => h, trivial⟩ rfl) (OkOps.q (triQG (x := aB (v.N != 1)) rfl rfl ⟨fun h => h, trivial⟩ rfl) ?_)))
  refine OkOps.q (triAndG rfl rfl rfl (fun h => h) (fun h h2 => by rw [h, h2]; rfl) rfl) ?_
  refine OkOps.q (triOr rfl rfl (fun h => by rw [h]; rfl) rfl) ?_
  refine OkOps.nil ?_
  refine Ok.cond (b := ((v.Kind == 1) && ((decide (v.N < (-1099511627776))) || (decide (v.N > 1099511627776)))) || (((v.Kind == 2) && (v.N != 0)) && (v.N != 1))) rfl (fun h3 => ?_) (fun h3 => ?_)
  have hr := selT h3 hr
  refine Ok.seq (Ok.region (OkOps.y (.agg [cI 0, .d (.v (.slice none 0 0))]) (OkOps.y (aI (IntKind.i64.wrap (met + 1))) (OkOps.w (triStore (cs' := [cI 0, .d (.v (.slice none 0 0))]) rfl rfl rfl rfl rfl rfl rfl rfl rfl) (OkOps.y (aI (IntKind.i64.wrap (met + 1))) (OkOps.y (aI 1) (OkOps.nil (Ok.ret ?_))))))))
  obtain rfl := Option.some.inj hr
  exact ⟨_, rfl, .inr rfl, trivial⟩
  have hr := selF h3 hr
  refine Ok.skip (Ok.seq (Ok.seq (Ok.region (OkOps.y (.c (.loc 0 2)) (OkOps.y (aS v.S) (OkOps.y (aI (v.S.size : Int)) (OkOps.y (aB (decide ((v.S.size : Int) > 2000))) (OkOps.y (aB (decide ((v.S.size : Int) > 2000))) (OkOps.q (triQG (x := .c (.loc 0 3)) rfl rfl trivial rfl) (OkOps.q (triQG (x := .c (.d (.sl (List.map AValue.cs v.L)))) rfl rfl ⟨fun h => h, trivial⟩ rfl) (OkOps.q (triLenG (enc := AValue.cs) v.L rfl rfl rfl ⟨fun h => h, trivial⟩ rfl) (OkOps.q (triQG (x := aB (decide ((v.L.length : Int) > 100))) rfl rfl ⟨fun h => h, trivial⟩ rfl) ?_))))))))))))
  refine OkOps.q (triOr rfl rfl (fun h => by rw [h]; rfl) rfl) ?_
  refine OkOps.y (aB ((decide ((v.S.size : Int) > 2000)) || (decide ((v.L.length : Int) > 100)))) (OkOps.q (triQG (x := aI (IntKind.i64.wrap (met + 1))) rfl rfl trivial rfl) (OkOps.q (triQG (x := aB (decide ((IntKind.i64.wrap (met + 1)) > 1000))) rfl rfl ⟨fun h => h, trivial⟩ rfl) ?_))
  refine OkOps.q (triOr rfl rfl (fun h => by rw [h]; rfl) rfl) ?_
  refine OkOps.nil ?_
  refine Ok.cond (b := ((decide ((v.S.size : Int) > 2000)) || (decide ((v.L.length : Int) > 100))) || (decide ((IntKind.i64.wrap (met + 1)) > 1000))) rfl (fun h4 => ?_) (fun h4 => ?_)
  have hr := selT h4 hr
  refine Ok.seq (Ok.region (OkOps.y (.agg [cI 0, .d (.v (.slice none 0 0))]) (OkOps.y (aI (IntKind.i64.wrap (met + 1))) (OkOps.w (triStore (cs' := [cI 0, .d (.v (.slice none 0 0))]) rfl rfl rfl rfl rfl rfl rfl rfl rfl) (OkOps.y (aI (IntKind.i64.wrap (met + 1))) (OkOps.y (aI 2) (OkOps.nil (Ok.ret ?_))))))))
  obtain rfl := Option.some.inj hr
  exact ⟨_, rfl, .inr rfl, trivial⟩
  have hr := selF h4 hr
  refine Ok.skip (Ok.seq (Ok.seq (Ok.region (OkOps.y (.c (.loc 0 2)) (OkOps.y (aS v.S) ?_)))))
  obtain ⟨x5, hx5, hr⟩ := bind_some hr
  refine OkOps.q (triCl (tau []) (.s (aB x5)) [] (r11_UTF8_c _ hx5) rfl ⟨.inl rfl, trivial⟩ trivial entry191 trivial) (OkOps.y (aB (!x5)) (OkOps.nil ?_))
  refine Ok.cond (b := !x5) rfl (fun h6 => ?_) (fun h6 => ?_)
  have hr := selT h6 hr
  refine Ok.seq (Ok.region (OkOps.y (.agg [cI 0, .d (.v (.slice none 0 0))]) (OkOps.y (aI (IntKind.i64.wrap (met + 1))) (OkOps.w (triStore (cs' := [cI 0, .d (.v (.slice none 0 0))]) rfl rfl rfl rfl rfl rfl rfl rfl rfl) (OkOps.y (aI (IntKind.i64.wrap (met + 1))) (OkOps.y (aI 3) (OkOps.nil (Ok.ret ?_))))))))
  obtain rfl := Option.some.inj hr
  exact ⟨_, rfl, .inr rfl, trivial⟩
  have hr := selF h6 hr
  refine Ok.skip (Ok.seq (Ok.region (OkOps.y (.c (.loc 0 0)) (OkOps.y (aI v.Kind) (OkOps.y (.agg [cI v.Kind, .d (.v (.slice none 0 0))]) (OkOps.m 0 (triAlloc (j := 2) (cs := [cI 0, .d (.v (.slice none 0 0))]) rfl rfl rfl rfl) (OkOps.w (triStore (cs' := [cI v.Kind, .d (.v (.slice none 0 0))]) rfl rfl rfl rfl rfl rfl rfl rfl rfl) (OkOps.nil (Ok.seq (Ok.region (OkOps.y (aB true) (OkOps.nil ?_))))))))))))
  obtain ⟨k8, hk8, hr⟩ := jn_some hr
  refine Ok.join (fun (s7 : Int × Bool × (List AType)) => ⟨[(2, .s (aI s7.1)), (6, .s (.c (.loc 1 0))), (10, .s (.c (.loc 2 0))), (11, .s (aB s7.2.1))], [(1, .blk [cI 0, .d (.v (.slice none 0 0))] 196), (2, .blk [cI v.Kind, .tl 1007 (List.map AType.cs s7.2.2)] 196), (1007, .tail 2)], 0⟩) k8 r (fun s7 hr => ?_) ?_
  rw [hk8] at hr
  refine Ok.seq (Ok.seq (Ok.region (OkOps.y (aB s7.2.1) (OkOps.y (aB (!s7.2.1)) (OkOps.nil ?_)))))
  refine Ok.cond (b := !s7.2.1) rfl (fun h9 => ?_) (fun h9 => ?_)
  have hr := selT h9 hr
  refine Ok.seq (Ok.region (OkOps.y (.agg [cI 0, .d (.v (.slice none 0 0))]) (OkOps.y (aI s7.1) (OkOps.w (triStore (cs' := [cI 0, .d (.v (.slice none 0 0))]) rfl rfl rfl rfl rfl rfl rfl rfl rfl) (OkOps.y (aI s7.1) (OkOps.y (aI 5) (OkOps.nil (Ok.ret ?_))))))))
  obtain rfl := Option.some.inj hr
  exact ⟨_, rfl, .inr rfl, trivial⟩
  have hr := selF h9 hr
  refine Ok.skip (Ok.seq (Ok.region (OkOps.y (.agg [cI v.Kind, .tl 1007 (List.map AType.cs s7.2.2)]) (OkOps.y (aI s7.1) (OkOps.w (triStore (cs' := [cI v.Kind, .tl 1007 (List.map AType.cs s7.2.2)]) rfl rfl rfl rfl rfl rfl rfl rfl rfl) (OkOps.y (aI s7.1) (OkOps.y (aI 0) (OkOps.nil (Ok.ret ?_)))))))))
  obtain rfl := Option.some.inj hr
  exact ⟨_, rfl, .inr rfl, trivial⟩
  clear hk8
  refine Ok.seq (Ok.region (OkOps.y (aI 0) (OkOps.nil (Ok.block (Ok.loopK (fun (s10 : Int × Bool × Int × (List AType)) => ⟨[(1, .s (aI depth)), (2, .s (aI s10.1)), (3, .s (.c (.loc 0 0))), (6, .s (.c (.loc 1 0))), (10, .s (.c (.loc 2 0))), (11, .s (aB s10.2.1)), (12, .s (aI s10.2.2.1))], [(0, .blk [cI v.Kind, cI v.N, cS v.S, .d (.sl (List.map AValue.cs v.L))] 53), (1, .blk [cI 0, .d (.v (.slice none 0 0))] 196), (2, .blk [cI v.Kind, .tl 1011 (List.map AType.cs s10.2.2.2)] 196), (1011, .tail 2)], 0⟩) hr (Conv.trans (Conv.nilO 2 1 1014 2 [cI v.Kind, .d (.v (.slice none 0 0))] [cI v.Kind, .tl 1014 (List.map AType.cs ([] : (List AType)))] 196 0 rfl rfl rfl rfl) (Conv.mk (tau [(1011, 1014)]) ⟨⟨_, rfl, .inl rfl⟩, ⟨_, rfl, .inl rfl⟩, ⟨_, rfl, .inl rfl⟩, ⟨_, rfl, .inl rfl⟩, ⟨_, rfl, .inl rfl⟩, ⟨_, rfl, .inl rfl⟩, ⟨_, rfl, .inl rfl⟩, trivial⟩ ⟨rfl, rfl, rfl, rfl, trivial⟩ rfl rfl rfl rfl)) ?_)))))
  clear hr
  intro again11 s10 hr
  unfold r11_check_L1 at hr
  refine Ok.seq (Ok.seq (Ok.region (OkOps.y (aI s10.2.2.1) (OkOps.y (.c (.loc 0 3)) (OkOps.y (.c (.d (.sl (List.map AValue.cs v.L)))) (OkOps.q (triLen (enc := AValue.cs) v.L rfl rfl trivial rfl) (OkOps.y (aB (decide (s10.2.2.1 < (v.L.length : Int)))) (OkOps.nil ?_))))))))
  refine Ok.cond (b := decide (s10.2.2.1 < (v.L.length : Int))) rfl (fun h12 => ?_) (fun h12 => ?_)
  have hr := selT h12 hr
  refine Ok.skip ?_
  obtain ⟨k14, hk14, hr⟩ := jn_some hr
  refine Ok.join (fun (s13 : Int × Bool × (List AType)) => ⟨[(1, .s (aI depth)), (2, .s (aI s13.1)), (3, .s (.c (.loc 0 0))), (6, .s (.c (.loc 1 0))), (10, .s (.c (.loc 2 0))), (11, .s (aB s13.2.1)), (12, .s (aI s10.2.2.1))], [(0, .blk [cI v.Kind, cI v.N, cS v.S, .d (.sl (List.map AValue.cs v.L))] 53), (1, .blk [cI 0, .d (.v (.slice none 0 0))] 196), (2, .blk [cI v.Kind, .tl 1015 (List.map AType.cs s13.2.2)] 196), (1015, .tail 2)], 0⟩) k14 r (fun s13 hr => ?_) ?_
  rw [hk14] at hr
  refine Ok.region (OkOps.y (aI s10.2.2.1) (OkOps.y (aI (IntKind.i64.wrap (s10.2.2.1 + 1))) (OkOps.y (aI (IntKind.i64.wrap (s10.2.2.1 + 1))) (OkOps.nil ?_))))
  exact ⟨(s13.1, s13.2.1, IntKind.i64.wrap (s10.2.2.1 + 1), s13.2.2), hr, (Conv.mk (tau [(1011, 1015)]) ⟨⟨_, rfl, .inl rfl⟩, ⟨_, rfl, .inl rfl⟩, ⟨_, rfl, .inl rfl⟩, ⟨_, rfl, .inl rfl⟩, ⟨_, rfl, .inl rfl⟩, ⟨_, rfl, .inl rfl⟩, ⟨_, rfl, .inl rfl⟩, trivial⟩ ⟨rfl, rfl, rfl, rfl, trivial⟩ rfl rfl rfl rfl)⟩
  clear hk14
  refine Ok.block (Ok.seq (Ok.region (OkOps.y (.c (.loc 0 3)) (OkOps.y (.c (.d (.sl (List.map AValue.cs v.L)))) (OkOps.y (aI s10.2.2.1) ?_)))))
  obtain ⟨x15, hx15, hr⟩ := bind_some hr
  refine OkOps.q (triIdx (enc := AValue.cs) (L := v.L) (row := [dI x15.Kind, dI x15.N, dS x15.S, .sl (List.map AValue.cs x15.L)]) hx15 (AValue.cs_eq _) rfl rfl rfl (fun x => by rw [AValue.cs_eq]; rfl) trivial rfl) ?_
  refine OkOps.y (.agg [cI x15.Kind, cI x15.N, cS x15.S, .d (.sl (List.map AValue.cs x15.L))]) (OkOps.y (aI depth) (OkOps.y (aI (IntKind.i64.wrap (depth + 1))) (OkOps.y (aI s10.1) ?_)))
  obtain ⟨x16, hx16, hr⟩ := bind_some hr
  refine OkOps.q (triCl (tau []) (.tup [.agg [cI x16.1.Kind, .d (.sl (List.map AType.cs x16.1.Of))], aI x16.2.1, aI x16.2.2]) [] (hself0 _ _ _ hx16) rfl ⟨.inl rfl, .inl rfl, .inl rfl, trivial⟩ trivial entry180 trivial) (OkOps.q (triMv (v := .tup [.agg [cI x16.1.Kind, .d (.sl (List.map AType.cs x16.1.Of))], aI x16.2.1, aI x16.2.2]) rfl rfl) (OkOps.y (.agg [cI x16.1.Kind, .d (.sl (List.map AType.cs x16.1.Of))]) (OkOps.y (aI x16.2.1) (OkOps.y (aI x16.2.2) (OkOps.m 0 (triAlloc (j := 3) (cs := [cI 0, .d (.v (.slice none 0 0))]) rfl rfl rfl rfl) (OkOps.w (triStore (cs' := [cI x16.1.Kind, .d (.sl (List.map AType.cs x16.1.Of))]) rfl rfl rfl rfl rfl rfl rfl rfl rfl) (OkOps.y (aI x16.2.1) (OkOps.y (aI x16.2.2) (OkOps.nil (Ok.seq (Ok.region (OkOps.y (aI x16.2.1) (OkOps.y (aI x16.2.1) (OkOps.nil (Ok.seq ?_)))))))))))))))
  refine Ok.seq (Ok.region (OkOps.y (aI x16.2.2) (OkOps.y (aB (x16.2.2 != 0)) (OkOps.nil ?_))))
  refine Ok.cond (b := x16.2.2 != 0) rfl (fun h17 => ?_) (fun h17 => ?_)
  have hr := selT h17 hr
  refine Ok.seq (Ok.region (OkOps.y (.agg [cI 0, .d (.v (.slice none 0 0))]) (OkOps.y (aI x16.2.1) (OkOps.y (aI x16.2.2) (OkOps.w (triStore (cs' := [cI 0, .d (.v (.slice none 0 0))]) rfl rfl rfl rfl rfl rfl rfl rfl rfl) (OkOps.y (aI x16.2.1) (OkOps.y (aI x16.2.2) (OkOps.nil (Ok.ret ?_)))))))))
  obtain rfl := Option.some.inj hr
  exact ⟨_, rfl, .inr rfl, trivial⟩
  have hr := selF h17 hr
  refine Ok.skip (Ok.seq (Ok.seq (Ok.region (OkOps.y (aB s10.2.1) (OkOps.y (aB (!s10.2.1)) (OkOps.nil ?_))))))
  refine Ok.cond (b := !s10.2.1) rfl (fun h18 => ?_) (fun h18 => ?_)
  have hr := selT h18 hr
  refine Ok.exit ?_
  exact ⟨(x16.2.1, s10.2.1, s10.2.2.2), hr, (Conv.mk (tau [(1015, 1011)]) ⟨⟨_, rfl, .inl rfl⟩, ⟨_, rfl, .inl rfl⟩, ⟨_, rfl, .inl rfl⟩, ⟨_, rfl, .inl rfl⟩, ⟨_, rfl, .inl rfl⟩, ⟨_, rfl, .inl rfl⟩, ⟨_, rfl, .inl rfl⟩, trivial⟩ ⟨rfl, rfl, rfl, rfl, trivial⟩ rfl rfl rfl rfl)⟩
  have hr := selF h18 hr
  refine Ok.skip (Ok.seq (Ok.seq (Ok.region (OkOps.y (.c (.loc 2 1)) (OkOps.y (.c (.tl 1011 (List.map AType.cs s10.2.2.2))) (OkOps.q (triLen (enc := AType.cs) s10.2.2.2 rfl rfl trivial rfl) (OkOps.y (aB ((s10.2.2.2.length : Int) == 0)) (OkOps.nil ?_))))))))
  refine Ok.cond (b := (s10.2.2.2.length : Int) == 0) rfl (fun h19 => ?_) (fun h19 => ?_)
  have hr := selT h19 hr
  refine Ok.seq (Ok.region (OkOps.y (.agg [cI x16.1.Kind, .d (.sl (List.map AType.cs x16.1.Of))]) ?_))
  refine OkOps.m 0 (triBST (sz := 2) (enc := AType.cs) (j := 4) ([x16.1]) rfl rfl rfl rfl rfl (rows := [[dI x16.1.Kind, .sl (List.map AType.cs x16.1.Of)]]) (by simp only [List.map, AType.cs_eq]) rfl rfl (fun x => by rw [AType.cs_eq]; rfl) trivial rfl rfl) ?_
  refine OkOps.y (.c (.loc 2 1)) (OkOps.w (triStore (cs' := [cI v.Kind, .tl 4 (List.map AType.cs ([x16.1]))]) rfl rfl rfl rfl rfl rfl rfl rfl rfl) (OkOps.nil (Ok.exit ?_)))
  exact ⟨(x16.2.1, s10.2.1, [x16.1]), hr, (Conv.mk (tau [(1015, 4)]) ⟨⟨_, rfl, .inl rfl⟩, ⟨_, rfl, .inl rfl⟩, ⟨_, rfl, .inl rfl⟩, ⟨_, rfl, .inl rfl⟩, ⟨_, rfl, .inl rfl⟩, ⟨_, rfl, .inl rfl⟩, ⟨_, rfl, .inl rfl⟩, trivial⟩ ⟨rfl, rfl, rfl, rfl, trivial⟩ rfl rfl rfl rfl)⟩
  have hr := selF h19 hr
  refine Ok.skip (Ok.seq (Ok.regionD (by kernel_rfl) (OkD.x (.c (.loc 2 1)) rfl trivial rfl (OkD.x (.c (.tl 1011 (List.map AType.cs s10.2.2.2))) rfl trivial rfl ?_))))
  obtain ⟨x20, hx20, hr⟩ := bind_some hr
  refine OkD.q (triIdx (enc := AType.cs) (L := s10.2.2.2) (row := [dI x20.Kind, .sl (List.map AType.cs x20.Of)]) hx20 (AType.cs_eq _) rfl rfl rfl (fun x => by rw [AType.cs_eq]; rfl) trivial rfl) ?_
  refine OkD.x (.agg [cI x20.Kind, .d (.sl (List.map AType.cs x20.Of))]) rfl trivial rfl (OkD.x (.agg [cI x16.1.Kind, .d (.sl (List.map AType.cs x16.1.Of))]) rfl trivial rfl ?_)
  obtain ⟨x21, hx21, hr⟩ := bind_some hr
  refine OkD.q (triCl (tau []) (.tup [.agg [cI x21.1.Kind, .d (.sl (List.map AType.cs x21.1.Of))], aB x21.2]) [] (r11_join_c _ _ _ hx21) rfl ⟨.inl rfl, .inl rfl, trivial⟩ trivial entry192 trivial) (OkD.q (triMv (v := .tup [.agg [cI x21.1.Kind, .d (.sl (List.map AType.cs x21.1.Of))], aB x21.2]) rfl rfl) (OkD.x (.agg [cI x21.1.Kind, .d (.sl (List.map AType.cs x21.1.Of))]) rfl trivial rfl (OkD.x (aB x21.2) rfl trivial rfl (OkD.m 0 (triAlloc (j := 5) (cs := [cI 0, .d (.v (.slice none 0 0))]) rfl rfl rfl rfl) (OkD.w (triStore (cs' := [cI x21.1.Kind, .d (.sl (List.map AType.cs x21.1.Of))]) rfl rfl rfl rfl rfl rfl rfl rfl rfl) (OkD.x (aB x21.2) rfl trivial rfl (OkD.nil (by kernel_rfl) (Ok.seq (Ok.region (OkOps.y (aB x21.2) (OkOps.y (aB x21.2) (OkOps.nil (Ok.region (OkOps.y (.agg [cI x21.1.Kind, .d (.sl (List.map AType.cs x21.1.Of))]) ?_))))))))))))))
  refine OkOps.m 0 (triBST (sz := 2) (enc := AType.cs) (j := 6) ([x21.1]) rfl rfl rfl rfl rfl (rows := [[dI x21.1.Kind, .sl (List.map AType.cs x21.1.Of)]]) (by simp only [List.map, AType.cs_eq]) rfl rfl (fun x => by rw [AType.cs_eq]; rfl) trivial rfl rfl) ?_
  refine OkOps.y (.c (.loc 2 1)) (OkOps.w (triStore (cs' := [cI v.Kind, .tl 6 (List.map AType.cs ([x21.1]))]) rfl rfl rfl rfl rfl rfl rfl rfl rfl) (OkOps.nil ?_))
  exact ⟨(x16.2.1, x21.2, [x21.1]), hr, (Conv.mk (tau [(1015, 6)]) ⟨⟨_, rfl, .inl rfl⟩, ⟨_, rfl, .inl rfl⟩, ⟨_, rfl, .inl rfl⟩, ⟨_, rfl, .inl rfl⟩, ⟨_, rfl, .inl rfl⟩, ⟨_, rfl, .inl rfl⟩, ⟨_, rfl, .inl rfl⟩, trivial⟩ ⟨rfl, rfl, rfl, rfl, trivial⟩ rfl rfl rfl rfl)⟩
  have hr := selF h12 hr
  refine Ok.exit ?_
  exact ⟨(s10.1, s10.2.1, s10.2.2.2), hr, (Conv.mk (tau [(1007, 1011)]) ⟨⟨_, rfl, .inl rfl⟩, ⟨_, rfl, .inl rfl⟩, ⟨_, rfl, .inl rfl⟩, ⟨_, rfl, .inl rfl⟩, trivial⟩ ⟨rfl, rfl, rfl, trivial⟩ rfl rfl rfl rfl)⟩
theorem r11_check_all : ∀ n : Nat, (∀ (v : AValue) (depth : Int) (met : Int) {r : AType × Int × Int}, r11_check n v depth met = some r → Con Tryz.prog 180 [.agg [cI v.Kind, cI v.N, cS v.S, .d (.sl (List.map AValue.cs v.L))], aI depth, aI met] [] (.tup [.agg [cI r.1.Kind, .d (.sl (List.map AType.cs r.1.Of))], aI r.2.1, aI r.2.2]) []) ∧ True := by
  intro n
  induction n with
  | zero => exact ⟨(by intros; rename_i hr; cases hr), trivial⟩
  | succ n ih => exact ⟨(by intros; rename_i hr; exact r11_check_B_c _ ih.1 _ _ _ hr), trivial⟩
theorem r11_check_c (n : Nat) (v : AValue) (depth : Int) (met : Int) {r : AType × Int × Int} (hr : r11_check n v depth met = some r) : Con Tryz.prog 180 [.agg [cI v.Kind, cI v.N, cS v.S, .d (.sl (List.map AValue.cs v.L))], aI depth, aI met] [] (.tup [.agg [cI r.1.Kind, .d (.sl (List.map AType.cs r.1.Of))], aI r.2.1, aI r.2.2]) [] := (r11_check_all n).1 v depth met hr
theorem r11_TypeOf_c (v : AValue) {r : AType × Int} (hr : r11_TypeOf v = some r) : Con Tryz.prog 153 [.agg [cI v.Kind, cI v.N, cS v.S, .d (.sl (List.map AValue.cs v.L))]] [] (.tup [.agg [cI r.1.Kind, .d (.sl (List.map AType.cs r.1.Of))], aI r.2]) [] := by
  unfold r11_TypeOf at hr
  refine Con.of_ok 15 0 [.cell 2 196, .tmp 3] [(0, .s (.agg [cI v.Kind, cI v.N, cS v.S, .d (.sl (List.map AValue.cs v.L))]))] Tryz.func153 rfl rfl rfl rfl rfl rfl rfl rfl fun w g M ρ _ => (Ok.seq (Ok.region (OkOps.m 0 (triBox (j := 0) (cs := [cI v.Kind, cI v.N, cS v.S, .d (.sl (List.map AValue.cs v.L))]) rfl rfl rfl rfl rfl) (OkOps.m 0 (triAlloc (j := 1) (cs := [cI 0, .d (.v (.slice none 0 0))]) rfl rfl rfl rfl) (OkOps.y (aI 0) (OkOps.nil (Ok.seq (Ok.region (OkOps.y (.agg [cI v.Kind, cI v.N, cS v.S, .d (.sl (List.map AValue.cs v.L))]) ?_)))))))))
  obtain ⟨x1, hx1, hr⟩ := bind_some hr
  refine OkOps.q (triCl (tau []) (.tup [.agg [cI x1.1.Kind, .d (.sl (List.map AType.cs x1.1.Of))], aI x1.2.1, aI x1.2.2]) [] (r11_check_c _ _ _ _ hx1) rfl ⟨.inl rfl, .inl rfl, .inl rfl, trivial⟩ trivial entry180 trivial) (OkOps.q (triMv (v := .tup [.agg [cI x1.1.Kind, .d (.sl (List.map AType.cs x1.1.Of))], aI x1.2.1, aI x1.2.2]) rfl rfl) (OkOps.y (.agg [cI x1.1.Kind, .d (.sl (List.map AType.cs x1.1.Of))]) (OkOps.y (aI x1.2.1) (OkOps.y (aI x1.2.2) (OkOps.m 0 (triAlloc (j := 2) (cs := [cI 0, .d (.v (.slice none 0 0))]) rfl rfl rfl rfl) (OkOps.w (triStore (cs' := [cI x1.1.Kind, .d (.sl (List.map AType.cs x1.1.Of))]) rfl rfl rfl rfl rfl rfl rfl rfl rfl) (OkOps.y (aI x1.2.1) (OkOps.y (aI x1.2.2) (OkOps.nil (Ok.seq (Ok.region (OkOps.y (.agg [cI x1.1.Kind, .d (.sl (List.map AType.cs x1.1.Of))]) (OkOps.y (aI x1.2.2) (OkOps.w (triStore (cs' := [cI x1.1.Kind, .d (.sl (List.map AType.cs x1.1.Of))]) rfl rfl rfl rfl rfl rfl rfl rfl rfl) (OkOps.y (aI x1.2.2) ?_)))))))))))))))
  refine OkOps.nil (Ok.ret ?_)
  obtain rfl := Option.some.inj hr
  exact ⟨_, rfl, .inl rfl, trivial⟩
theorem r11_Check_c (v : AValue) {r : Int} (hr : r11_Check v = some r) : Con Tryz.prog 112 [.agg [cI v.Kind, cI v.N, cS v.S, .d (.sl (List.map AValue.cs v.L))]] [] (.s (aI r)) [] := by
  unfold r11_Check at hr
  refine Con.of_ok 11 0 [.tmp 2] [(0, .s (.agg [cI v.Kind, cI v.N, cS v.S, .d (.sl (List.map AValue.cs v.L))]))] Tryz.func112 rfl rfl rfl rfl rfl rfl rfl rfl fun w g M ρ _ => (Ok.seq (Ok.region (OkOps.m 0 (triBox (j := 0) (cs := [cI v.Kind, cI v.N, cS v.S, .d (.sl (List.map AValue.cs v.L))]) rfl rfl rfl rfl rfl) (OkOps.y (aI 0) (OkOps.nil (Ok.seq (Ok.region (OkOps.y (.agg [cI v.Kind, cI v.N, cS v.S, .d (.sl (List.map AValue.cs v.L))]) ?_))))))))
  obtain ⟨x1, hx1, hr⟩ := bind_some hr
  refine OkOps.q (triCl (tau []) (.tup [.agg [cI x1.1.Kind, .d (.sl (List.map AType.cs x1.1.Of))], aI x1.2]) [] (r11_TypeOf_c _ hx1) rfl ⟨.inl rfl, trivial⟩ trivial entry153 trivial) (OkOps.q (triMv (v := .tup [.agg [cI x1.1.Kind, .d (.sl (List.map AType.cs x1.1.Of))], aI x1.2]) rfl rfl) (OkOps.y (.agg [cI x1.1.Kind, .d (.sl (List.map AType.cs x1.1.Of))]) (OkOps.y (aI x1.2) (OkOps.m 0 (triAlloc (j := 1) (cs := [cI 0, .d (.v (.slice none 0 0))]) rfl rfl rfl rfl) (OkOps.w (triStore (cs' := [cI x1.1.Kind, .d (.sl (List.map AType.cs x1.1.Of))]) rfl rfl rfl rfl rfl rfl rfl rfl rfl) (OkOps.y (aI x1.2) (OkOps.nil (Ok.seq (Ok.region (OkOps.y (aI x1.2) (OkOps.y (aI x1.2) (OkOps.nil (Ok.ret ?_)))))))))))))
  obtain rfl := Option.some.inj hr
  exact ⟨_, rfl, .inl rfl, trivial⟩
end Go.Proofs.YtfoigppmcelgfaaGreatDoor
end
section
set_option maxRecDepth 100000
namespace Go.Proofs.YtfoigppmcelgfaaGreatDoor
open Go Go.E2
theorem r14_validate_B_c (self0 : View → Int → Int → Option (Int × Int)) (hself0 : ∀ (v : View) (depth : Int) (met : Int) {r : Int × Int}, self0 v depth met = some r → Con Tryz.prog 75 [.agg [cI v.Kind, cS v.Key, .d (.sl (List.map Attr.cs v.Attrs)), .d (.sl (List.map Action.cs v.Actions)), .d (.sl (List.map View.cs v.Kids))], aI depth, aI met] [] (.tup [aI r.1, aI r.2]) []) (v : View) (depth : Int) (met : Int) {r : Int × Int} (hr : r14_validate_B self0 v depth met = some r) : Con Tryz.prog 75 [.agg [cI v.Kind, cS v.Key, .d (.sl (List.map Attr.cs v.Attrs)), .d (.sl (List.map Action.cs v.Actions)), .d (.sl (List.map View.cs v.Kids))], aI depth, aI met] [] (.tup [aI r.1, aI r.2]) [] := by
  unfold r14_validate_B at hr
  refine Con.of_ok 230 0 [.tmp 6, .tmp 7] [(0, .s (.agg [cI v.Kind, cS v.Key, .d (.sl (List.map Attr.cs v.Attrs)), .d (.sl (List.map Action.cs v.Actions)), .d (.sl (List.map View.cs v.Kids))])), (1, .s (aI depth)), (2, .s (aI met))] Tryz.func75 rfl rfl rfl rfl rfl rfl rfl rfl fun w g M ρ _ => (Ok.seq (Ok.region (OkOps.m 0 (triBox (j := 0) (cs := [cI v.Kind, cS v.Key, .d (.sl (List.map Attr.cs v.Attrs)), .d (.sl (List.map Action.cs v.Actions)), .d (.sl (List.map View.cs v.Kids))]) rfl rfl rfl rfl rfl) (OkOps.y (aI 0) (OkOps.y (aI 0) (OkOps.nil (Ok.seq (Ok.region (OkOps.y (aI met) (OkOps.y (aI (IntKind.i64.wrap (met + 1))) (OkOps.y (aI (IntKind.i64.wrap (met + 1))) (OkOps.nil (Ok.seq (Ok.seq (Ok.region ?_)))))))))))))))
  refine OkOps.y (aI depth) (OkOps.y (aB (decide (depth > 16))) (OkOps.nil ?_))
  refine Ok.cond (b := decide (depth > 16)) rfl (fun h1 => ?_) (fun h1 => ?_)
  have hr := selT h1 hr
  refine Ok.seq (Ok.region (OkOps.y (aI (IntKind.i64.wrap (met + 1))) (OkOps.y (aI (IntKind.i64.wrap (met + 1))) (OkOps.y (aI 8) (OkOps.nil (Ok.ret ?_))))))
  obtain rfl := Option.some.inj hr
  exact ⟨_, rfl, .inl rfl, trivial⟩
  have hr := selF h1 hr
  refine Ok.skip (Ok.seq (Ok.seq (Ok.region (OkOps.y (aI (IntKind.i64.wrap (met + 1))) (OkOps.y (aB (decide ((IntKind.i64.wrap (met + 1)) > 400))) (OkOps.nil ?_))))))
  refine Ok.cond (b := decide ((IntKind.i64.wrap (met + 1)) > 400)) rfl (fun h2 => ?_) (fun h2 => ?_)
  have hr := selT h2 hr
  refine Ok.seq (Ok.region (OkOps.y (aI (IntKind.i64.wrap (met + 1))) (OkOps.y (aI (IntKind.i64.wrap (met + 1))) (OkOps.y (aI 2) (OkOps.nil (Ok.ret ?_))))))
  obtain rfl := Option.some.inj hr
  exact ⟨_, rfl, .inl rfl, trivial⟩
  have hr := selF h2 hr
  refine Ok.skip (Ok.seq (Ok.seq (Ok.region (OkOps.y (.c (.loc 0 0)) (OkOps.y (aI v.Kind) (OkOps.y (aB (decide (v.Kind < 1))) (OkOps.y (aB (decide (v.Kind < 1))) (OkOps.q (triQG (x := .c (.loc 0 0)) rfl rfl trivial rfl) (OkOps.q (triQG (x := aI v.Kind) rfl rfl ⟨fun h => h, trivial⟩ rfl) (OkOps.q (triQG (x := aB (decide (v.Kind > 13))) rfl rfl ⟨fun h => h, trivial⟩ rfl) ?_))))))))))
  refine OkOps.q (triOr rfl rfl (fun h => by rw [h]; rfl) rfl) ?_
  refine OkOps.nil ?_
  refine Ok.cond (b := (decide (v.Kind < 1)) || (decide (v.Kind > 13))) rfl (fun h3 => ?_) (fun h3 => ?_)
  have hr := selT h3 hr
  refine Ok.seq (Ok.region (OkOps.y (aI (IntKind.i64.wrap (met + 1))) (OkOps.y (aI (IntKind.i64.wrap (met + 1))) (OkOps.y (aI 9) (OkOps.nil (Ok.ret ?_))))))
  obtain rfl := Option.some.inj hr
  exact ⟨_, rfl, .inl rfl, trivial⟩
  have hr := selF h3 hr
  refine Ok.skip (Ok.seq (Ok.seq (Ok.region (OkOps.y (.c (.loc 0 1)) (OkOps.y (aS v.Key) ?_)))))
  obtain ⟨x4, hx4, hr⟩ := bind_some hr
  refine OkOps.q (triCl (tau []) (.s (aB x4)) [] (r14_Key_c _ hx4) rfl ⟨.inl rfl, trivial⟩ trivial entry110 trivial) (OkOps.y (aB (!x4)) (OkOps.nil ?_))
  refine Ok.cond (b := !x4) rfl (fun h5 => ?_) (fun h5 => ?_)
  have hr := selT h5 hr
  refine Ok.seq (Ok.region (OkOps.y (aI (IntKind.i64.wrap (met + 1))) (OkOps.y (aI (IntKind.i64.wrap (met + 1))) (OkOps.y (aI 4) (OkOps.nil (Ok.ret ?_))))))
  obtain rfl := Option.some.inj hr
  exact ⟨_, rfl, .inl rfl, trivial⟩
  have hr := selF h5 hr
  refine Ok.skip (Ok.seq (Ok.seq (Ok.region (OkOps.y (.c (.loc 0 2)) (OkOps.y (.c (.d (.sl (List.map Attr.cs v.Attrs)))) (OkOps.q (triLen (enc := Attr.cs) v.Attrs rfl rfl trivial rfl) (OkOps.y (aB (decide ((v.Attrs.length : Int) > 24))) (OkOps.y (aB (decide ((v.Attrs.length : Int) > 24))) (OkOps.q (triQG (x := .c (.loc 0 3)) rfl rfl trivial rfl) (OkOps.q (triQG (x := .c (.d (.sl (List.map Action.cs v.Actions)))) rfl rfl ⟨fun h => h, trivial⟩ rfl) (OkOps.q (triLenG (enc := Action.cs) v.Actions rfl rfl rfl ⟨fun h => h, trivial⟩ rfl) (OkOps.q (triQG (x := aB (decide ((v.Actions.length : Int) > 24))) rfl rfl ⟨fun h => h, trivial⟩ rfl) ?_))))))))))))
  refine OkOps.q (triOr rfl rfl (fun h => by rw [h]; rfl) rfl) ?_
  refine OkOps.y (aB ((decide ((v.Attrs.length : Int) > 24)) || (decide ((v.Actions.length : Int) > 24)))) (OkOps.q (triQG (x := .c (.loc 0 4)) rfl rfl trivial rfl) (OkOps.q (triQG (x := .c (.d (.sl (List.map View.cs v.Kids)))) rfl rfl ⟨fun h => h, trivial⟩ rfl) (OkOps.q (triLenG (enc := View.cs) v.Kids rfl rfl rfl ⟨fun h => h, trivial⟩ rfl) (OkOps.q (triQG (x := aB (decide ((v.Kids.length : Int) > 100))) rfl rfl ⟨fun h => h, trivial⟩ rfl) ?_))))
  refine OkOps.q (triOr rfl rfl (fun h => by rw [h]; rfl) rfl) ?_
  refine OkOps.nil ?_
  refine Ok.cond (b := ((decide ((v.Attrs.length : Int) > 24)) || (decide ((v.Actions.length : Int) > 24))) || (decide ((v.Kids.length : Int) > 100))) rfl (fun h6 => ?_) (fun h6 => ?_)
  have hr := selT h6 hr
  refine Ok.seq (Ok.region (OkOps.y (aI (IntKind.i64.wrap (met + 1))) (OkOps.y (aI (IntKind.i64.wrap (met + 1))) (OkOps.y (aI 2) (OkOps.nil (Ok.ret ?_))))))
  obtain rfl := Option.some.inj hr
  exact ⟨_, rfl, .inl rfl, trivial⟩
  have hr := selF h6 hr
  refine Ok.skip ?_
  obtain ⟨k8, hk8, hr⟩ := jn_some hr
  refine Ok.join (fun (s7 : Unit) => ⟨[(1, .s (aI depth)), (2, .s (aI (IntKind.i64.wrap (met + 1)))), (3, .s (.c (.loc 0 0)))], [(0, .blk [cI v.Kind, cS v.Key, .d (.sl (List.map Attr.cs v.Attrs)), .d (.sl (List.map Action.cs v.Actions)), .d (.sl (List.map View.cs v.Kids))] 27)], 0⟩) k8 r (fun s7 hr => ?_) ?_
  rw [hk8] at hr
  obtain ⟨k10, hk10, hr⟩ := jn_some hr
  refine Ok.join (fun (s9 : Unit) => ⟨[(1, .s (aI depth)), (2, .s (aI (IntKind.i64.wrap (met + 1)))), (3, .s (.c (.loc 0 0)))], [(0, .blk [cI v.Kind, cS v.Key, .d (.sl (List.map Attr.cs v.Attrs)), .d (.sl (List.map Action.cs v.Actions)), .d (.sl (List.map View.cs v.Kids))] 27)], 0⟩) k10 r (fun s9 hr => ?_) ?_
  rw [hk10] at hr
  obtain ⟨k12, hk12, hr⟩ := jn_some hr
  refine Ok.join (fun (s11 : Unit) => ⟨[(1, .s (aI depth)), (2, .s (aI (IntKind.i64.wrap (met + 1)))), (3, .s (.c (.loc 0 0)))], [(0, .blk [cI v.Kind, cS v.Key, .d (.sl (List.map Attr.cs v.Attrs)), .d (.sl (List.map Action.cs v.Actions)), .d (.sl (List.map View.cs v.Kids))] 27)], 0⟩) k12 r (fun s11 hr => ?_) ?_
  rw [hk12] at hr
  obtain ⟨k14, hk14, hr⟩ := jn_some hr
  refine Ok.join (fun (s13 : Int) => ⟨[(2, .s (aI s13))], [], 0⟩) k14 r (fun s13 hr => ?_) ?_
  rw [hk14] at hr
  refine Ok.seq (Ok.region (OkOps.y (aI s13) (OkOps.y (aI s13) (OkOps.y (aI 0) (OkOps.nil (Ok.ret ?_))))))
  obtain rfl := Option.some.inj hr
  exact ⟨_, rfl, .inl rfl, trivial⟩
  clear hk14
  refine Ok.seq (Ok.region (OkOps.y (aI 0) (OkOps.nil (Ok.block (Ok.loopK (fun (s15 : Int × Int) => ⟨[(1, .s (aI depth)), (2, .s (aI s15.1)), (3, .s (.c (.loc 0 0))), (16, .s (aI s15.2))], [(0, .blk [cI v.Kind, cS v.Key, .d (.sl (List.map Attr.cs v.Attrs)), .d (.sl (List.map Action.cs v.Actions)), .d (.sl (List.map View.cs v.Kids))] 27)], 0⟩) hr (Conv.mk (tau []) ⟨⟨_, rfl, .inl rfl⟩, ⟨_, rfl, .inl rfl⟩, ⟨_, rfl, .inl rfl⟩, ⟨_, rfl, .inl rfl⟩, trivial⟩ ⟨rfl, trivial⟩ rfl rfl rfl rfl) ?_)))))
  clear hr
  intro again16 s15 hr
  unfold r14_validate_L1 at hr
  refine Ok.seq (Ok.seq (Ok.region (OkOps.y (aI s15.2) (OkOps.y (.c (.loc 0 4)) (OkOps.y (.c (.d (.sl (List.map View.cs v.Kids)))) (OkOps.q (triLen (enc := View.cs) v.Kids rfl rfl trivial rfl) (OkOps.y (aB (decide (s15.2 < (v.Kids.length : Int)))) (OkOps.nil ?_))))))))
  refine Ok.cond (b := decide (s15.2 < (v.Kids.length : Int))) rfl (fun h17 => ?_) (fun h17 => ?_)
  have hr := selT h17 hr
  refine Ok.skip (Ok.seq (Ok.block (Ok.seq (Ok.region (OkOps.y (.c (.loc 0 4)) (OkOps.y (.c (.d (.sl (List.map View.cs v.Kids)))) (OkOps.y (aI s15.2) ?_)))))))
  obtain ⟨x18, hx18, hr⟩ := bind_some hr
  refine OkOps.q (triIdx (enc := View.cs) (L := v.Kids) (row := [dI x18.Kind, dS x18.Key, .sl (List.map Attr.cs x18.Attrs), .sl (List.map Action.cs x18.Actions), .sl (List.map View.cs x18.Kids)]) hx18 (View.cs_eq _) rfl rfl rfl (fun x => by rw [View.cs_eq]; rfl) trivial rfl) ?_
  refine OkOps.y (.agg [cI x18.Kind, cS x18.Key, .d (.sl (List.map Attr.cs x18.Attrs)), .d (.sl (List.map Action.cs x18.Actions)), .d (.sl (List.map View.cs x18.Kids))]) (OkOps.y (aI depth) (OkOps.y (aI (IntKind.i64.wrap (depth + 1))) (OkOps.y (aI s15.1) ?_)))
  obtain ⟨x19, hx19, hr⟩ := bind_some hr
  refine OkOps.q (triCl (tau []) (.tup [aI x19.1, aI x19.2]) [] (hself0 _ _ _ hx19) rfl ⟨.inl rfl, .inl rfl, .inl rfl, trivial⟩ trivial entry75 trivial) (OkOps.q (triMv (v := .tup [aI x19.1, aI x19.2]) rfl rfl) (OkOps.y (aI x19.1) (OkOps.y (aI x19.2) (OkOps.y (aI x19.1) (OkOps.y (aI x19.2) (OkOps.nil (Ok.seq (Ok.region (OkOps.y (aI x19.1) (OkOps.y (aI x19.1) (OkOps.nil (Ok.seq (Ok.region (OkOps.y (aI x19.2) (OkOps.y (aB (x19.2 != 0)) ?_)))))))))))))))
  refine OkOps.nil ?_
  refine Ok.cond (b := x19.2 != 0) rfl (fun h20 => ?_) (fun h20 => ?_)
  have hr := selT h20 hr
  refine Ok.seq (Ok.region (OkOps.y (aI x19.1) (OkOps.y (aI x19.2) (OkOps.y (aI x19.1) (OkOps.y (aI x19.2) (OkOps.nil (Ok.ret ?_)))))))
  obtain rfl := Option.some.inj hr
  exact ⟨_, rfl, .inl rfl, trivial⟩
  have hr := selF h20 hr
  refine Ok.skip (Ok.region (OkOps.y (aI s15.2) (OkOps.y (aI (IntKind.i64.wrap (s15.2 + 1))) (OkOps.y (aI (IntKind.i64.wrap (s15.2 + 1))) (OkOps.nil ?_)))))
  exact ⟨(x19.1, IntKind.i64.wrap (s15.2 + 1)), hr, (Conv.mk (tau []) ⟨⟨_, rfl, .inl rfl⟩, ⟨_, rfl, .inl rfl⟩, ⟨_, rfl, .inl rfl⟩, ⟨_, rfl, .inl rfl⟩, trivial⟩ ⟨rfl, trivial⟩ rfl rfl rfl rfl)⟩
  have hr := selF h17 hr
  refine Ok.exit ?_
  exact ⟨s15.1, hr, (Conv.mk (tau []) ⟨⟨_, rfl, .inl rfl⟩, trivial⟩ trivial rfl rfl rfl rfl)⟩
  clear hk12
  refine Ok.seq (Ok.region (OkOps.y (aI 0) (OkOps.nil (Ok.block (Ok.loopK (fun (s21 : Int) => ⟨[(1, .s (aI depth)), (2, .s (aI (IntKind.i64.wrap (met + 1)))), (3, .s (.c (.loc 0 0))), (14, .s (aI s21))], [(0, .blk [cI v.Kind, cS v.Key, .d (.sl (List.map Attr.cs v.Attrs)), .d (.sl (List.map Action.cs v.Actions)), .d (.sl (List.map View.cs v.Kids))] 27)], 0⟩) hr (Conv.mk (tau []) ⟨⟨_, rfl, .inl rfl⟩, ⟨_, rfl, .inl rfl⟩, ⟨_, rfl, .inl rfl⟩, ⟨_, rfl, .inl rfl⟩, trivial⟩ ⟨rfl, trivial⟩ rfl rfl rfl rfl) ?_)))))
  clear hr
  intro again22 s21 hr
  unfold r14_validate_L3 at hr
  refine Ok.seq (Ok.seq (Ok.region (OkOps.y (aI s21) (OkOps.y (.c (.loc 0 4)) (OkOps.y (.c (.d (.sl (List.map View.cs v.Kids)))) (OkOps.q (triLen (enc := View.cs) v.Kids rfl rfl trivial rfl) (OkOps.y (aB (decide (s21 < (v.Kids.length : Int)))) (OkOps.nil ?_))))))))
  refine Ok.cond (b := decide (s21 < (v.Kids.length : Int))) rfl (fun h23 => ?_) (fun h23 => ?_)
  have hr := selT h23 hr
  refine Ok.skip ?_
  obtain ⟨k25, hk25, hr⟩ := jn_some hr
  refine Ok.join (fun (s24 : Unit) => ⟨[(1, .s (aI depth)), (2, .s (aI (IntKind.i64.wrap (met + 1)))), (3, .s (.c (.loc 0 0))), (14, .s (aI s21))], [(0, .blk [cI v.Kind, cS v.Key, .d (.sl (List.map Attr.cs v.Attrs)), .d (.sl (List.map Action.cs v.Actions)), .d (.sl (List.map View.cs v.Kids))] 27)], 0⟩) k25 r (fun s24 hr => ?_) ?_
  rw [hk25] at hr
  refine Ok.region (OkOps.y (aI s21) (OkOps.y (aI (IntKind.i64.wrap (s21 + 1))) (OkOps.y (aI (IntKind.i64.wrap (s21 + 1))) (OkOps.nil ?_))))
  exact ⟨IntKind.i64.wrap (s21 + 1), hr, (Conv.mk (tau []) ⟨⟨_, rfl, .inl rfl⟩, ⟨_, rfl, .inl rfl⟩, ⟨_, rfl, .inl rfl⟩, ⟨_, rfl, .inl rfl⟩, trivial⟩ ⟨rfl, trivial⟩ rfl rfl rfl rfl)⟩
  clear hk25
  refine Ok.block (Ok.seq (Ok.region (OkOps.y (aI 0) (OkOps.nil ?_))))
  obtain ⟨k27, hk27, hr⟩ := jn_some hr
  refine Ok.joinEnd (fun (s26 : Unit) => ⟨[(1, .s (aI depth)), (2, .s (aI (IntKind.i64.wrap (met + 1)))), (3, .s (.c (.loc 0 0))), (14, .s (aI s21))], [(0, .blk [cI v.Kind, cS v.Key, .d (.sl (List.map Attr.cs v.Attrs)), .d (.sl (List.map Action.cs v.Actions)), .d (.sl (List.map View.cs v.Kids))] 27)], 0⟩) k27 r (fun s26 hr => ?_) ?_
  rw [hk27] at hr
  exact ⟨(), hr, (Conv.mk (tau []) ⟨⟨_, rfl, .inl rfl⟩, ⟨_, rfl, .inl rfl⟩, ⟨_, rfl, .inl rfl⟩, ⟨_, rfl, .inl rfl⟩, trivial⟩ ⟨rfl, trivial⟩ rfl rfl rfl rfl)⟩
  clear hk27
  refine Ok.block (Ok.loopK (fun (s28 : Int) => ⟨[(1, .s (aI depth)), (2, .s (aI (IntKind.i64.wrap (met + 1)))), (3, .s (.c (.loc 0 0))), (14, .s (aI s21)), (15, .s (aI s28))], [(0, .blk [cI v.Kind, cS v.Key, .d (.sl (List.map Attr.cs v.Attrs)), .d (.sl (List.map Action.cs v.Actions)), .d (.sl (List.map View.cs v.Kids))] 27)], 0⟩) hr (Conv.mk (tau []) ⟨⟨_, rfl, .inl rfl⟩, ⟨_, rfl, .inl rfl⟩, ⟨_, rfl, .inl rfl⟩, ⟨_, rfl, .inl rfl⟩, ⟨_, rfl, .inl rfl⟩, trivial⟩ ⟨rfl, trivial⟩ rfl rfl rfl rfl) ?_)
  clear hr
  intro again29 s28 hr
  unfold r14_validate_L2 at hr
  refine Ok.seq (Ok.seq (Ok.region (OkOps.y (aI s28) (OkOps.y (aI s21) (OkOps.y (aB (decide (s28 < s21))) (OkOps.nil ?_))))))
  refine Ok.cond (b := decide (s28 < s21)) rfl (fun h30 => ?_) (fun h30 => ?_)
  have hr := selT h30 hr
  refine Ok.skip (Ok.seq (Ok.block (Ok.seq (Ok.regionD (by kernel_rfl) (OkD.x (.c (.loc 0 4)) rfl trivial rfl (OkD.x (.c (.d (.sl (List.map View.cs v.Kids)))) rfl trivial rfl (OkD.x (aI s21) rfl trivial rfl ?_)))))))
  obtain ⟨x31, hx31, hr⟩ := bind_some hr
  refine OkD.q (triIdx (enc := View.cs) (L := v.Kids) (row := [dI x31.Kind, dS x31.Key, .sl (List.map Attr.cs x31.Attrs), .sl (List.map Action.cs x31.Actions), .sl (List.map View.cs x31.Kids)]) hx31 (View.cs_eq _) rfl rfl rfl (fun x => by rw [View.cs_eq]; rfl) trivial rfl) ?_
  refine OkD.x (.c (.pt [dS x31.Key, .sl (List.map Attr.cs x31.Attrs), .sl (List.map Action.cs x31.Actions), .sl (List.map View.cs x31.Kids)])) rfl trivial rfl (OkD.x (aS x31.Key) rfl trivial rfl (OkD.x (aB (!(x31.Key.toList == (ByteArray.mk #[]).toList))) rfl trivial rfl (OkD.x (aB (!(x31.Key.toList == (ByteArray.mk #[]).toList))) rfl trivial rfl (OkD.q (triQG (x := .c (.loc 0 4)) rfl rfl trivial rfl) (OkD.q (triQG (x := .c (.d (.sl (List.map View.cs v.Kids)))) rfl rfl ⟨fun h => h, trivial⟩ rfl) (OkD.q (triQG (x := aI s21) rfl rfl trivial rfl) ?_))))))
  obtain ⟨x32, hx32, hr⟩ := bind_some hr
  refine OkD.q (triIdxG (enc := View.cs) (L := v.Kids) (row := [dI x32.Kind, dS x32.Key, .sl (List.map Attr.cs x32.Attrs), .sl (List.map Action.cs x32.Actions), .sl (List.map View.cs x32.Kids)]) (gO_t hx32) (View.cs_eq _) rfl rfl rfl rfl (fun x => by rw [View.cs_eq]; rfl) ⟨fun h => h, ⟨fun h => h, trivial⟩⟩ rfl) ?_
  refine OkD.q (triQG (x := .c (.pt [dS x32.Key, .sl (List.map Attr.cs x32.Attrs), .sl (List.map Action.cs x32.Actions), .sl (List.map View.cs x32.Kids)])) rfl rfl ⟨fun h => h, trivial⟩ rfl) (OkD.q (triQG (x := aS x32.Key) rfl rfl ⟨fun h => h, trivial⟩ rfl) (OkD.q (triQG (x := .c (.loc 0 4)) rfl rfl trivial rfl) (OkD.q (triQG (x := .c (.d (.sl (List.map View.cs v.Kids)))) rfl rfl ⟨fun h => h, trivial⟩ rfl) (OkD.q (triQG (x := aI s28) rfl rfl trivial rfl) ?_))))
  obtain ⟨x33, hx33, hr⟩ := bind_some hr
  refine OkD.q (triIdxG (enc := View.cs) (L := v.Kids) (row := [dI x33.Kind, dS x33.Key, .sl (List.map Attr.cs x33.Attrs), .sl (List.map Action.cs x33.Actions), .sl (List.map View.cs x33.Kids)]) (gO_t hx33) (View.cs_eq _) rfl rfl rfl rfl (fun x => by rw [View.cs_eq]; rfl) ⟨fun h => h, ⟨fun h => h, trivial⟩⟩ rfl) ?_
  refine OkD.q (triQG (x := .c (.pt [dS x33.Key, .sl (List.map Attr.cs x33.Attrs), .sl (List.map Action.cs x33.Actions), .sl (List.map View.cs x33.Kids)])) rfl rfl ⟨fun h => h, trivial⟩ rfl) (OkD.q (triQG (x := aS x33.Key) rfl rfl ⟨fun h => h, trivial⟩ rfl) (OkD.q (triQG (x := aB (x32.Key.toList == x33.Key.toList)) rfl rfl ⟨fun h => h, ⟨fun h => h, trivial⟩⟩ rfl) (OkD.q (triAnd rfl rfl (fun h => h) rfl) (OkD.nil (by kernel_rfl) ?_))))
  refine Ok.cond (b := (!(x31.Key.toList == (ByteArray.mk #[]).toList)) && (x32.Key.toList == x33.Key.toList)) rfl (fun h34 => ?_) (fun h34 => ?_)
  have hr := selT h34 hr
  refine Ok.seq (Ok.region (OkOps.y (aI (IntKind.i64.wrap (met + 1))) (OkOps.y (aI (IntKind.i64.wrap (met + 1))) (OkOps.y (aI 6) (OkOps.nil (Ok.ret ?_))))))
  obtain rfl := Option.some.inj hr
  exact ⟨_, rfl, .inl rfl, trivial⟩
  have hr := selF h34 hr
  refine Ok.skip (Ok.region (OkOps.y (aI s28) (OkOps.y (aI (IntKind.i64.wrap (s28 + 1))) (OkOps.y (aI (IntKind.i64.wrap (s28 + 1))) (OkOps.nil ?_)))))
  exact ⟨IntKind.i64.wrap (s28 + 1), hr, (Conv.mk (tau []) ⟨⟨_, rfl, .inl rfl⟩, ⟨_, rfl, .inl rfl⟩, ⟨_, rfl, .inl rfl⟩, ⟨_, rfl, .inl rfl⟩, ⟨_, rfl, .inl rfl⟩, trivial⟩ ⟨rfl, trivial⟩ rfl rfl rfl rfl)⟩
  have hr := selF h30 hr
  refine Ok.exit ?_
  exact ⟨(), hr, (Conv.mk (tau []) ⟨⟨_, rfl, .inl rfl⟩, ⟨_, rfl, .inl rfl⟩, ⟨_, rfl, .inl rfl⟩, ⟨_, rfl, .inl rfl⟩, trivial⟩ ⟨rfl, trivial⟩ rfl rfl rfl rfl)⟩
  have hr := selF h23 hr
  refine Ok.exit ?_
  exact ⟨(), hr, (Conv.mk (tau []) ⟨⟨_, rfl, .inl rfl⟩, ⟨_, rfl, .inl rfl⟩, ⟨_, rfl, .inl rfl⟩, trivial⟩ ⟨rfl, trivial⟩ rfl rfl rfl rfl)⟩
  clear hk10
  refine Ok.seq (Ok.region (OkOps.y (aI 0) (OkOps.nil (Ok.block (Ok.loopK (fun (s35 : Int) => ⟨[(1, .s (aI depth)), (2, .s (aI (IntKind.i64.wrap (met + 1)))), (3, .s (.c (.loc 0 0))), (10, .s (aI s35))], [(0, .blk [cI v.Kind, cS v.Key, .d (.sl (List.map Attr.cs v.Attrs)), .d (.sl (List.map Action.cs v.Actions)), .d (.sl (List.map View.cs v.Kids))] 27)], 0⟩) hr (Conv.mk (tau []) ⟨⟨_, rfl, .inl rfl⟩, ⟨_, rfl, .inl rfl⟩, ⟨_, rfl, .inl rfl⟩, ⟨_, rfl, .inl rfl⟩, trivial⟩ ⟨rfl, trivial⟩ rfl rfl rfl rfl) ?_)))))
  clear hr
  intro again36 s35 hr
  unfold r14_validate_L5 at hr
  refine Ok.seq (Ok.seq (Ok.region (OkOps.y (aI s35) (OkOps.y (.c (.loc 0 3)) (OkOps.y (.c (.d (.sl (List.map Action.cs v.Actions)))) (OkOps.q (triLen (enc := Action.cs) v.Actions rfl rfl trivial rfl) (OkOps.y (aB (decide (s35 < (v.Actions.length : Int)))) (OkOps.nil ?_))))))))
  refine Ok.cond (b := decide (s35 < (v.Actions.length : Int))) rfl (fun h37 => ?_) (fun h37 => ?_)
  have hr := selT h37 hr
  refine Ok.skip ?_
  obtain ⟨k39, hk39, hr⟩ := jn_some hr
  refine Ok.join (fun (s38 : Unit) => ⟨[(1, .s (aI depth)), (2, .s (aI (IntKind.i64.wrap (met + 1)))), (3, .s (.c (.loc 0 0))), (10, .s (aI s35))], [(0, .blk [cI v.Kind, cS v.Key, .d (.sl (List.map Attr.cs v.Attrs)), .d (.sl (List.map Action.cs v.Actions)), .d (.sl (List.map View.cs v.Kids))] 27)], 0⟩) k39 r (fun s38 hr => ?_) ?_
  rw [hk39] at hr
  refine Ok.region (OkOps.y (aI s35) (OkOps.y (aI (IntKind.i64.wrap (s35 + 1))) (OkOps.y (aI (IntKind.i64.wrap (s35 + 1))) (OkOps.nil ?_))))
  exact ⟨IntKind.i64.wrap (s35 + 1), hr, (Conv.mk (tau []) ⟨⟨_, rfl, .inl rfl⟩, ⟨_, rfl, .inl rfl⟩, ⟨_, rfl, .inl rfl⟩, ⟨_, rfl, .inl rfl⟩, trivial⟩ ⟨rfl, trivial⟩ rfl rfl rfl rfl)⟩
  clear hk39
  refine Ok.block (Ok.seq (Ok.region (OkOps.y (.c (.loc 0 3)) (OkOps.y (.c (.d (.sl (List.map Action.cs v.Actions)))) (OkOps.y (aI s35) ?_)))))
  obtain ⟨x40, hx40, hr⟩ := bind_some hr
  refine OkOps.q (triIdx (enc := Action.cs) (L := v.Actions) (row := [dS x40.Event, dS x40.Instance, dS x40.Handler, .sl (List.map AValue.cs x40.Args)]) hx40 rfl rfl rfl rfl (fun _ => rfl) trivial rfl) (OkOps.y (.agg [cS x40.Event, cS x40.Instance, cS x40.Handler, .d (.sl (List.map AValue.cs x40.Args))]) (OkOps.m 0 (triAlloc (j := 1) (cs := [cS ByteArray.empty, cS ByteArray.empty, cS ByteArray.empty, .d (.v (.slice none 0 0))]) rfl rfl rfl rfl) (OkOps.w (triStore (cs' := [cS x40.Event, cS x40.Instance, cS x40.Handler, .d (.sl (List.map AValue.cs x40.Args))]) rfl rfl rfl rfl rfl rfl rfl rfl rfl) (OkOps.nil (Ok.seq (Ok.seq (Ok.region (OkOps.y (.c (.loc 1 0)) (OkOps.y (aS x40.Event) ?_)))))))))
  obtain ⟨x41, hx41, hr⟩ := bind_some hr
  refine OkOps.q (triCl (tau []) (.s (aB x41)) [] (r11_Name_c _ hx41) rfl ⟨.inl rfl, trivial⟩ trivial entry111 trivial) (OkOps.y (aB (!x41)) (OkOps.y (aB (!x41)) (OkOps.q (triQG (x := .c (.loc 1 2)) rfl rfl trivial rfl) (OkOps.q (triQG (x := aS x40.Handler) rfl rfl ⟨fun h => h, trivial⟩ rfl) ?_))))
  obtain ⟨x42, hx42, hr⟩ := bind_some hr
  refine OkOps.q (triCallG (x := aB x42) (fun hg => r11_Name_c _ (gO_t hx42 hg)) rfl rfl ⟨.inl rfl, trivial⟩ ⟨fun h => h, trivial⟩ entry111 rfl rfl rfl) (OkOps.q (triQG (x := aB (!x42)) rfl rfl ⟨fun h => h, trivial⟩ rfl) ?_)
  refine OkOps.q (triOr rfl rfl (fun h => by rw [h]; rfl) rfl) ?_
  refine OkOps.nil ?_
  refine Ok.cond (b := (!x41) || (!x42)) rfl (fun h43 => ?_) (fun h43 => ?_)
  have hr := selT h43 hr
  refine Ok.seq (Ok.region (OkOps.y (aI (IntKind.i64.wrap (met + 1))) (OkOps.y (aI (IntKind.i64.wrap (met + 1))) (OkOps.y (aI 4) (OkOps.nil (Ok.ret ?_))))))
  obtain rfl := Option.some.inj hr
  exact ⟨_, rfl, .inl rfl, trivial⟩
  have hr := selF h43 hr
  refine Ok.skip (Ok.seq (Ok.seq (Ok.regionD (by kernel_rfl) (OkD.x (aI s35) rfl trivial rfl (OkD.x (aB (decide (s35 > 0))) rfl trivial rfl (OkD.x (aB (decide (s35 > 0))) rfl trivial rfl (OkD.q (triQG (x := .c (.loc 1 0)) rfl rfl trivial rfl) (OkD.q (triQG (x := aS x40.Event) rfl rfl ⟨fun h => h, trivial⟩ rfl) (OkD.q (triQG (x := .c (.loc 0 3)) rfl rfl trivial rfl) (OkD.q (triQG (x := .c (.d (.sl (List.map Action.cs v.Actions)))) rfl rfl ⟨fun h => h, trivial⟩ rfl) (OkD.q (triQG (x := aI s35) rfl rfl trivial rfl) (OkD.q (triQG (x := aI (IntKind.i64.wrap (s35 - 1))) rfl rfl ⟨fun h => h, trivial⟩ rfl) ?_))))))))))))
  obtain ⟨x44, hx44, hr⟩ := bind_some hr
  refine OkD.q (triIdxG (enc := Action.cs) (L := v.Actions) (row := [dS x44.Event, dS x44.Instance, dS x44.Handler, .sl (List.map AValue.cs x44.Args)]) (gO_t hx44) rfl rfl rfl rfl rfl (fun _ => rfl) ⟨fun h => h, ⟨fun h => h, trivial⟩⟩ rfl) (OkD.q (triQG (x := .c (.pt [dS x44.Event, dS x44.Instance, dS x44.Handler, .sl (List.map AValue.cs x44.Args)])) rfl rfl ⟨fun h => h, trivial⟩ rfl) (OkD.q (triQG (x := aS x44.Event) rfl rfl ⟨fun h => h, trivial⟩ rfl) (OkD.q (triQG (x := aB (Op.bytesLess x40.Event.toList x44.Event.toList || x40.Event.toList == x44.Event.toList)) rfl rfl ⟨fun h => h, ⟨fun h => h, trivial⟩⟩ rfl) (OkD.q (triAnd rfl rfl (fun h => h) rfl) (OkD.nil (by kernel_rfl) ?_)))))
  refine Ok.cond (b := (decide (s35 > 0)) && (Op.bytesLess x40.Event.toList x44.Event.toList || x40.Event.toList == x44.Event.toList)) rfl (fun h45 => ?_) (fun h45 => ?_)
  have hr := selT h45 hr
  refine Ok.seq (Ok.region (OkOps.y (aI (IntKind.i64.wrap (met + 1))) (OkOps.y (aI (IntKind.i64.wrap (met + 1))) (OkOps.y (aI 10) (OkOps.nil (Ok.ret ?_))))))
  obtain rfl := Option.some.inj hr
  exact ⟨_, rfl, .inl rfl, trivial⟩
  have hr := selF h45 hr
  refine Ok.skip (Ok.seq (Ok.seq (Ok.region (OkOps.y (.c (.loc 1 1)) (OkOps.y (aS x40.Instance) (OkOps.y (aI (x40.Instance.size : Int)) (OkOps.y (aB (decide ((x40.Instance.size : Int) > 400))) (OkOps.y (aB (decide ((x40.Instance.size : Int) > 400))) (OkOps.q (triQG (x := .c (.loc 1 3)) rfl rfl trivial rfl) (OkOps.q (triQG (x := .c (.d (.sl (List.map AValue.cs x40.Args)))) rfl rfl ⟨fun h => h, trivial⟩ rfl) (OkOps.q (triLenG (enc := AValue.cs) x40.Args rfl rfl rfl ⟨fun h => h, trivial⟩ rfl) (OkOps.q (triQG (x := aB (decide ((x40.Args.length : Int) > 100))) rfl rfl ⟨fun h => h, trivial⟩ rfl) ?_))))))))))))
  refine OkOps.q (triOr rfl rfl (fun h => by rw [h]; rfl) rfl) ?_
  refine OkOps.nil ?_
  refine Ok.cond (b := (decide ((x40.Instance.size : Int) > 400)) || (decide ((x40.Args.length : Int) > 100))) rfl (fun h46 => ?_) (fun h46 => ?_)
  have hr := selT h46 hr
  refine Ok.seq (Ok.region (OkOps.y (aI (IntKind.i64.wrap (met + 1))) (OkOps.y (aI (IntKind.i64.wrap (met + 1))) (OkOps.y (aI 2) (OkOps.nil (Ok.ret ?_))))))
  obtain rfl := Option.some.inj hr
  exact ⟨_, rfl, .inl rfl, trivial⟩
  have hr := selF h46 hr
  refine Ok.skip (Ok.seq (Ok.region (OkOps.y (aI 0) (OkOps.nil ?_))))
  obtain ⟨k48, hk48, hr⟩ := jn_some hr
  refine Ok.joinEnd (fun (s47 : Unit) => ⟨[(1, .s (aI depth)), (2, .s (aI (IntKind.i64.wrap (met + 1)))), (3, .s (.c (.loc 0 0))), (10, .s (aI s35))], [(0, .blk [cI v.Kind, cS v.Key, .d (.sl (List.map Attr.cs v.Attrs)), .d (.sl (List.map Action.cs v.Actions)), .d (.sl (List.map View.cs v.Kids))] 27)], 0⟩) k48 r (fun s47 hr => ?_) ?_
  rw [hk48] at hr
  exact ⟨(), hr, (Conv.mk (tau []) ⟨⟨_, rfl, .inl rfl⟩, ⟨_, rfl, .inl rfl⟩, ⟨_, rfl, .inl rfl⟩, ⟨_, rfl, .inl rfl⟩, trivial⟩ ⟨rfl, trivial⟩ rfl rfl rfl rfl)⟩
  clear hk48
  refine Ok.block (Ok.loopK (fun (s49 : Int) => ⟨[(1, .s (aI depth)), (2, .s (aI (IntKind.i64.wrap (met + 1)))), (3, .s (.c (.loc 0 0))), (10, .s (aI s35)), (11, .s (.c (.loc 1 0))), (12, .s (aI s49))], [(0, .blk [cI v.Kind, cS v.Key, .d (.sl (List.map Attr.cs v.Attrs)), .d (.sl (List.map Action.cs v.Actions)), .d (.sl (List.map View.cs v.Kids))] 27), (1, .blk [cS x40.Event, cS x40.Instance, cS x40.Handler, .d (.sl (List.map AValue.cs x40.Args))] 93)], 0⟩) hr (Conv.mk (tau []) ⟨⟨_, rfl, .inl rfl⟩, ⟨_, rfl, .inl rfl⟩, ⟨_, rfl, .inl rfl⟩, ⟨_, rfl, .inl rfl⟩, ⟨_, rfl, .inl rfl⟩, ⟨_, rfl, .inl rfl⟩, trivial⟩ ⟨rfl, rfl, trivial⟩ rfl rfl rfl rfl) ?_)
  clear hr
  intro again50 s49 hr
  unfold r14_validate_L4 at hr
  refine Ok.seq (Ok.seq (Ok.region (OkOps.y (aI s49) (OkOps.y (.c (.loc 1 3)) (OkOps.y (.c (.d (.sl (List.map AValue.cs x40.Args)))) (OkOps.q (triLen (enc := AValue.cs) x40.Args rfl rfl trivial rfl) (OkOps.y (aB (decide (s49 < (x40.Args.length : Int)))) (OkOps.nil ?_))))))))
  refine Ok.cond (b := decide (s49 < (x40.Args.length : Int))) rfl (fun h51 => ?_) (fun h51 => ?_)
  have hr := selT h51 hr
  refine Ok.skip (Ok.seq (Ok.block (Ok.seq (Ok.region (OkOps.y (.c (.loc 1 3)) (OkOps.y (.c (.d (.sl (List.map AValue.cs x40.Args)))) (OkOps.y (aI s49) ?_)))))))
  obtain ⟨x52, hx52, hr⟩ := bind_some hr
  refine OkOps.q (triIdx (enc := AValue.cs) (L := x40.Args) (row := [dI x52.Kind, dI x52.N, dS x52.S, .sl (List.map AValue.cs x52.L)]) hx52 (AValue.cs_eq _) rfl rfl rfl (fun x => by rw [AValue.cs_eq]; rfl) trivial rfl) ?_
  refine OkOps.y (.agg [cI x52.Kind, cI x52.N, cS x52.S, .d (.sl (List.map AValue.cs x52.L))]) ?_
  obtain ⟨x53, hx53, hr⟩ := bind_some hr
  refine OkOps.q (triCl (tau []) (.s (aI x53)) [] (r11_Check_c _ hx53) rfl ⟨.inl rfl, trivial⟩ trivial entry112 trivial) (OkOps.y (aI x53) (OkOps.nil (Ok.seq (Ok.region (OkOps.y (aI x53) (OkOps.y (aB (x53 != 0)) (OkOps.nil ?_)))))))
  refine Ok.cond (b := x53 != 0) rfl (fun h54 => ?_) (fun h54 => ?_)
  have hr := selT h54 hr
  refine Ok.seq (Ok.region (OkOps.y (aI (IntKind.i64.wrap (met + 1))) (OkOps.y (aI x53) (OkOps.y (aI (IntKind.i64.wrap (met + 1))) (OkOps.y (aI x53) (OkOps.nil (Ok.ret ?_)))))))
  obtain rfl := Option.some.inj hr
  exact ⟨_, rfl, .inl rfl, trivial⟩
  have hr := selF h54 hr
  refine Ok.skip (Ok.region (OkOps.y (aI s49) (OkOps.y (aI (IntKind.i64.wrap (s49 + 1))) (OkOps.y (aI (IntKind.i64.wrap (s49 + 1))) (OkOps.nil ?_)))))
  exact ⟨IntKind.i64.wrap (s49 + 1), hr, (Conv.mk (tau []) ⟨⟨_, rfl, .inl rfl⟩, ⟨_, rfl, .inl rfl⟩, ⟨_, rfl, .inl rfl⟩, ⟨_, rfl, .inl rfl⟩, ⟨_, rfl, .inl rfl⟩, ⟨_, rfl, .inl rfl⟩, trivial⟩ ⟨rfl, rfl, trivial⟩ rfl rfl rfl rfl)⟩
  have hr := selF h51 hr
  refine Ok.exit ?_
  exact ⟨(), hr, (Conv.mk (tau []) ⟨⟨_, rfl, .inl rfl⟩, ⟨_, rfl, .inl rfl⟩, ⟨_, rfl, .inl rfl⟩, ⟨_, rfl, .inl rfl⟩, trivial⟩ ⟨rfl, trivial⟩ rfl rfl rfl rfl)⟩
  have hr := selF h37 hr
  refine Ok.exit ?_
  exact ⟨(), hr, (Conv.mk (tau []) ⟨⟨_, rfl, .inl rfl⟩, ⟨_, rfl, .inl rfl⟩, ⟨_, rfl, .inl rfl⟩, trivial⟩ ⟨rfl, trivial⟩ rfl rfl rfl rfl)⟩
  clear hk8
  refine Ok.seq (Ok.region (OkOps.y (aI 0) (OkOps.nil (Ok.block (Ok.loopK (fun (s55 : Int) => ⟨[(1, .s (aI depth)), (2, .s (aI (IntKind.i64.wrap (met + 1)))), (3, .s (.c (.loc 0 0))), (8, .s (aI s55))], [(0, .blk [cI v.Kind, cS v.Key, .d (.sl (List.map Attr.cs v.Attrs)), .d (.sl (List.map Action.cs v.Actions)), .d (.sl (List.map View.cs v.Kids))] 27)], 0⟩) hr (Conv.mk (tau []) ⟨⟨_, rfl, .inl rfl⟩, ⟨_, rfl, .inl rfl⟩, ⟨_, rfl, .inl rfl⟩, ⟨_, rfl, .inl rfl⟩, trivial⟩ ⟨rfl, trivial⟩ rfl rfl rfl rfl) ?_)))))
  clear hr
  intro again56 s55 hr
  unfold r14_validate_L6 at hr
  refine Ok.seq (Ok.seq (Ok.region (OkOps.y (aI s55) (OkOps.y (.c (.loc 0 2)) (OkOps.y (.c (.d (.sl (List.map Attr.cs v.Attrs)))) (OkOps.q (triLen (enc := Attr.cs) v.Attrs rfl rfl trivial rfl) (OkOps.y (aB (decide (s55 < (v.Attrs.length : Int)))) (OkOps.nil ?_))))))))
  refine Ok.cond (b := decide (s55 < (v.Attrs.length : Int))) rfl (fun h57 => ?_) (fun h57 => ?_)
  have hr := selT h57 hr
  refine Ok.skip (Ok.seq (Ok.block (Ok.seq (Ok.seq (Ok.region (OkOps.y (.c (.loc 0 2)) (OkOps.y (.c (.d (.sl (List.map Attr.cs v.Attrs)))) (OkOps.y (aI s55) ?_))))))))
  obtain ⟨x58, hx58, hr⟩ := bind_some hr
  refine OkOps.q (triIdx (enc := Attr.cs) (L := v.Attrs) (row := [dS x58.Name, dI x58.Value.Kind, dI x58.Value.N, dS x58.Value.S, .sl (List.map AValue.cs x58.Value.L)]) hx58 rfl rfl rfl rfl (fun _ => rfl) trivial rfl) (OkOps.y (.c (.pt [dS x58.Name, dI x58.Value.Kind, dI x58.Value.N, dS x58.Value.S, .sl (List.map AValue.cs x58.Value.L)])) (OkOps.y (aS x58.Name) ?_))
  obtain ⟨x59, hx59, hr⟩ := bind_some hr
  refine OkOps.q (triCl (tau []) (.s (aB x59)) [] (r11_Name_c _ hx59) rfl ⟨.inl rfl, trivial⟩ trivial entry111 trivial) (OkOps.y (aB (!x59)) (OkOps.nil ?_))
  refine Ok.cond (b := !x59) rfl (fun h60 => ?_) (fun h60 => ?_)
  have hr := selT h60 hr
  refine Ok.seq (Ok.region (OkOps.y (aI (IntKind.i64.wrap (met + 1))) (OkOps.y (aI (IntKind.i64.wrap (met + 1))) (OkOps.y (aI 4) (OkOps.nil (Ok.ret ?_))))))
  obtain rfl := Option.some.inj hr
  exact ⟨_, rfl, .inl rfl, trivial⟩
  have hr := selF h60 hr
  refine Ok.skip (Ok.seq (Ok.seq (Ok.regionD (by kernel_rfl) (OkD.x (aI s55) rfl trivial rfl (OkD.x (aB (decide (s55 > 0))) rfl trivial rfl (OkD.x (aB (decide (s55 > 0))) rfl trivial rfl (OkD.q (triQG (x := .c (.loc 0 2)) rfl rfl trivial rfl) (OkD.q (triQG (x := .c (.d (.sl (List.map Attr.cs v.Attrs)))) rfl rfl ⟨fun h => h, trivial⟩ rfl) (OkD.q (triQG (x := aI s55) rfl rfl trivial rfl) ?_)))))))))
  obtain ⟨x61, hx61, hr⟩ := bind_some hr
  refine OkD.q (triIdxG (enc := Attr.cs) (L := v.Attrs) (row := [dS x61.Name, dI x61.Value.Kind, dI x61.Value.N, dS x61.Value.S, .sl (List.map AValue.cs x61.Value.L)]) (gO_t hx61) rfl rfl rfl rfl rfl (fun _ => rfl) ⟨fun h => h, ⟨fun h => h, trivial⟩⟩ rfl) (OkD.q (triQG (x := .c (.pt [dS x61.Name, dI x61.Value.Kind, dI x61.Value.N, dS x61.Value.S, .sl (List.map AValue.cs x61.Value.L)])) rfl rfl ⟨fun h => h, trivial⟩ rfl) (OkD.q (triQG (x := aS x61.Name) rfl rfl ⟨fun h => h, trivial⟩ rfl) (OkD.q (triQG (x := .c (.loc 0 2)) rfl rfl trivial rfl) (OkD.q (triQG (x := .c (.d (.sl (List.map Attr.cs v.Attrs)))) rfl rfl ⟨fun h => h, trivial⟩ rfl) (OkD.q (triQG (x := aI s55) rfl rfl trivial rfl) (OkD.q (triQG (x := aI (IntKind.i64.wrap (s55 - 1))) rfl rfl ⟨fun h => h, trivial⟩ rfl) ?_))))))
  obtain ⟨x62, hx62, hr⟩ := bind_some hr
  refine OkD.q (triIdxG (enc := Attr.cs) (L := v.Attrs) (row := [dS x62.Name, dI x62.Value.Kind, dI x62.Value.N, dS x62.Value.S, .sl (List.map AValue.cs x62.Value.L)]) (gO_t hx62) rfl rfl rfl rfl rfl (fun _ => rfl) ⟨fun h => h, ⟨fun h => h, trivial⟩⟩ rfl) (OkD.q (triQG (x := .c (.pt [dS x62.Name, dI x62.Value.Kind, dI x62.Value.N, dS x62.Value.S, .sl (List.map AValue.cs x62.Value.L)])) rfl rfl ⟨fun h => h, trivial⟩ rfl) (OkD.q (triQG (x := aS x62.Name) rfl rfl ⟨fun h => h, trivial⟩ rfl) (OkD.q (triQG (x := aB (Op.bytesLess x61.Name.toList x62.Name.toList || x61.Name.toList == x62.Name.toList)) rfl rfl ⟨fun h => h, ⟨fun h => h, trivial⟩⟩ rfl) (OkD.q (triAnd rfl rfl (fun h => h) rfl) (OkD.nil (by kernel_rfl) ?_)))))
  refine Ok.cond (b := (decide (s55 > 0)) && (Op.bytesLess x61.Name.toList x62.Name.toList || x61.Name.toList == x62.Name.toList)) rfl (fun h63 => ?_) (fun h63 => ?_)
  have hr := selT h63 hr
  refine Ok.seq (Ok.region (OkOps.y (aI (IntKind.i64.wrap (met + 1))) (OkOps.y (aI (IntKind.i64.wrap (met + 1))) (OkOps.y (aI 10) (OkOps.nil (Ok.ret ?_))))))
  obtain rfl := Option.some.inj hr
  exact ⟨_, rfl, .inl rfl, trivial⟩
  have hr := selF h63 hr
  refine Ok.skip (Ok.seq (Ok.region (OkOps.y (.c (.loc 0 2)) (OkOps.y (.c (.d (.sl (List.map Attr.cs v.Attrs)))) (OkOps.y (aI s55) ?_)))))
  obtain ⟨x64, hx64, hr⟩ := bind_some hr
  refine OkOps.q (triIdx (enc := Attr.cs) (L := v.Attrs) (row := [dS x64.Name, dI x64.Value.Kind, dI x64.Value.N, dS x64.Value.S, .sl (List.map AValue.cs x64.Value.L)]) hx64 rfl rfl rfl rfl (fun _ => rfl) trivial rfl) (OkOps.y (.c (.pt [dI x64.Value.Kind, dI x64.Value.N, dS x64.Value.S, .sl (List.map AValue.cs x64.Value.L)])) (OkOps.y (.agg [cI x64.Value.Kind, cI x64.Value.N, cS x64.Value.S, .d (.sl (List.map AValue.cs x64.Value.L))]) ?_))
  obtain ⟨x65, hx65, hr⟩ := bind_some hr
  refine OkOps.q (triCl (tau []) (.s (aI x65)) [] (r11_Check_c _ hx65) rfl ⟨.inl rfl, trivial⟩ trivial entry112 trivial) (OkOps.y (aI x65) (OkOps.nil (Ok.seq (Ok.region (OkOps.y (aI x65) (OkOps.y (aB (x65 != 0)) (OkOps.nil ?_)))))))
  refine Ok.cond (b := x65 != 0) rfl (fun h66 => ?_) (fun h66 => ?_)
  have hr := selT h66 hr
  refine Ok.seq (Ok.region (OkOps.y (aI (IntKind.i64.wrap (met + 1))) (OkOps.y (aI x65) (OkOps.y (aI (IntKind.i64.wrap (met + 1))) (OkOps.y (aI x65) (OkOps.nil (Ok.ret ?_)))))))
  obtain rfl := Option.some.inj hr
  exact ⟨_, rfl, .inl rfl, trivial⟩
  have hr := selF h66 hr
  refine Ok.skip (Ok.region (OkOps.y (aI s55) (OkOps.y (aI (IntKind.i64.wrap (s55 + 1))) (OkOps.y (aI (IntKind.i64.wrap (s55 + 1))) (OkOps.nil ?_)))))
  exact ⟨IntKind.i64.wrap (s55 + 1), hr, (Conv.mk (tau []) ⟨⟨_, rfl, .inl rfl⟩, ⟨_, rfl, .inl rfl⟩, ⟨_, rfl, .inl rfl⟩, ⟨_, rfl, .inl rfl⟩, trivial⟩ ⟨rfl, trivial⟩ rfl rfl rfl rfl)⟩
  have hr := selF h57 hr
  refine Ok.exit ?_
  exact ⟨(), hr, (Conv.mk (tau []) ⟨⟨_, rfl, .inl rfl⟩, ⟨_, rfl, .inl rfl⟩, ⟨_, rfl, .inl rfl⟩, trivial⟩ ⟨rfl, trivial⟩ rfl rfl rfl rfl)⟩
theorem r14_validate_all : ∀ n : Nat, (∀ (v : View) (depth : Int) (met : Int) {r : Int × Int}, r14_validate n v depth met = some r → Con Tryz.prog 75 [.agg [cI v.Kind, cS v.Key, .d (.sl (List.map Attr.cs v.Attrs)), .d (.sl (List.map Action.cs v.Actions)), .d (.sl (List.map View.cs v.Kids))], aI depth, aI met] [] (.tup [aI r.1, aI r.2]) []) ∧ True := by
  intro n
  induction n with
  | zero => exact ⟨(by intros; rename_i hr; cases hr), trivial⟩
  | succ n ih => exact ⟨(by intros; rename_i hr; exact r14_validate_B_c _ ih.1 _ _ _ hr), trivial⟩
theorem r14_validate_c (n : Nat) (v : View) (depth : Int) (met : Int) {r : Int × Int} (hr : r14_validate n v depth met = some r) : Con Tryz.prog 75 [.agg [cI v.Kind, cS v.Key, .d (.sl (List.map Attr.cs v.Attrs)), .d (.sl (List.map Action.cs v.Actions)), .d (.sl (List.map View.cs v.Kids))], aI depth, aI met] [] (.tup [aI r.1, aI r.2]) [] := (r14_validate_all n).1 v depth met hr
theorem r14_Validate_c (v : View) {r : Int} (hr : r14_Validate v = some r) : Con Tryz.prog 34 [.agg [cI v.Kind, cS v.Key, .d (.sl (List.map Attr.cs v.Attrs)), .d (.sl (List.map Action.cs v.Actions)), .d (.sl (List.map View.cs v.Kids))]] [] (.s (aI r)) [] := by
  unfold r14_Validate at hr
  refine Con.of_ok 11 0 [.tmp 2] [(0, .s (.agg [cI v.Kind, cS v.Key, .d (.sl (List.map Attr.cs v.Attrs)), .d (.sl (List.map Action.cs v.Actions)), .d (.sl (List.map View.cs v.Kids))]))] Tryz.func34 rfl rfl rfl rfl rfl rfl rfl rfl fun w g M ρ _ => (Ok.seq (Ok.region (OkOps.m 0 (triBox (j := 0) (cs := [cI v.Kind, cS v.Key, .d (.sl (List.map Attr.cs v.Attrs)), .d (.sl (List.map Action.cs v.Actions)), .d (.sl (List.map View.cs v.Kids))]) rfl rfl rfl rfl rfl) (OkOps.y (aI 0) (OkOps.nil (Ok.seq (Ok.region (OkOps.y (.agg [cI v.Kind, cS v.Key, .d (.sl (List.map Attr.cs v.Attrs)), .d (.sl (List.map Action.cs v.Actions)), .d (.sl (List.map View.cs v.Kids))]) ?_))))))))
  obtain ⟨x1, hx1, hr⟩ := bind_some hr
  refine OkOps.q (triCl (tau []) (.tup [aI x1.1, aI x1.2]) [] (r14_validate_c _ _ _ _ hx1) rfl ⟨.inl rfl, .inl rfl, .inl rfl, trivial⟩ trivial entry75 trivial) (OkOps.q (triMv (v := .tup [aI x1.1, aI x1.2]) rfl rfl) (OkOps.y (aI x1.1) (OkOps.y (aI x1.2) (OkOps.y (aI x1.1) (OkOps.y (aI x1.2) (OkOps.nil (Ok.seq (Ok.region (OkOps.y (aI x1.2) (OkOps.y (aI x1.2) (OkOps.nil (Ok.ret ?_))))))))))))
  obtain rfl := Option.some.inj hr
  exact ⟨_, rfl, .inl rfl, trivial⟩
end Go.Proofs.YtfoigppmcelgfaaGreatDoor
end
section
set_option maxRecDepth 100000
namespace Go.Proofs.YtfoigppmcelgfaaGreatDoor
open Go Go.E2
theorem r14_build_B_c (self0 : View → Int → Tree → Option Tree) (hself0 : ∀ (v : View) (parent : Int) (t : Tree) {r : Tree}, self0 v parent t = some r → Con Tryz.prog 35 [.agg [cI v.Kind, cS v.Key, .d (.sl (List.map Attr.cs v.Attrs)), .d (.sl (List.map Action.cs v.Actions)), .d (.sl (List.map View.cs v.Kids))], aI parent, .agg [cI t.Root, cI t.Next, .own 0]] [(0, .vec 7 (List.map Node.cs t.Nodes))] (.s (.agg [cI r.Root, cI r.Next, .own 2000])) [(0, .dead), (2000, .vec 7 (List.map Node.cs r.Nodes))]) (v : View) (parent : Int) (t : Tree) {r : Tree} (hr : r14_build_B self0 v parent t = some r) : Con Tryz.prog 35 [.agg [cI v.Kind, cS v.Key, .d (.sl (List.map Attr.cs v.Attrs)), .d (.sl (List.map Action.cs v.Actions)), .d (.sl (List.map View.cs v.Kids))], aI parent, .agg [cI t.Root, cI t.Next, .own 0]] [(0, .vec 7 (List.map Node.cs t.Nodes))] (.s (.agg [cI r.Root, cI r.Next, .own 2000])) [(0, .dead), (2000, .vec 7 (List.map Node.cs r.Nodes))] := by
  unfold r14_build_B at hr
  refine Con.of_ok 63 0 [.cell 6 30] [(0, .s (.agg [cI v.Kind, cS v.Key, .d (.sl (List.map Attr.cs v.Attrs)), .d (.sl (List.map Action.cs v.Actions)), .d (.sl (List.map View.cs v.Kids))])), (1, .s (aI parent)), (2, .s (.agg [cI t.Root, cI t.Next, .own 0]))] Tryz.func35 rfl rfl rfl rfl rfl rfl rfl rfl fun w g M ρ _ => (Ok.seq (Ok.region (OkOps.m 0 (triBox (j := 1) (cs := [cI v.Kind, cS v.Key, .d (.sl (List.map Attr.cs v.Attrs)), .d (.sl (List.map Action.cs v.Actions)), .d (.sl (List.map View.cs v.Kids))]) rfl rfl rfl rfl rfl) (OkOps.m 0 (triBox (j := 2) (cs := [cI t.Root, cI t.Next, .own 0]) rfl rfl rfl rfl rfl) (OkOps.m 0 (triAlloc (j := 3) (cs := [cI 0, cI 0, .d (.v (.slice none 0 0))]) rfl rfl rfl rfl) (OkOps.nil (Ok.seq (Ok.region (OkOps.y (.c (.loc 2 1)) (OkOps.y (aI t.Next) (OkOps.y (aI t.Next) (OkOps.nil (Ok.seq (Ok.region (OkOps.y (.c (.loc 2 2)) ?_)))))))))))))))
  refine OkOps.y (.c (.own 0)) (OkOps.q (triLenV (enc := Node.cs) t.Nodes rfl rfl rfl rfl) (OkOps.y (aI (t.Nodes.length : Int)) (OkOps.nil (Ok.seq (Ok.region (OkOps.y (.c (.loc 2 2)) (OkOps.y (.c (.own 0)) (OkOps.y (aI t.Next) (OkOps.y (aI parent) (OkOps.y (.c (.loc 1 0)) (OkOps.y (aI v.Kind) (OkOps.y (.c (.loc 1 1)) (OkOps.y (aS v.Key) (OkOps.y (.c (.loc 1 2)) (OkOps.y (.c (.d (.sl (List.map Attr.cs v.Attrs)))) ?_)))))))))))))))
  refine OkOps.y (.c (.loc 1 3)) (OkOps.y (.c (.d (.sl (List.map Action.cs v.Actions)))) (OkOps.y (.agg [cI t.Next, cI parent, cI v.Kind, cS v.Key, .d (.sl (List.map Attr.cs v.Attrs)), .d (.sl (List.map Action.cs v.Actions)), .d (.v (.slice none 0 0))]) (OkOps.m 0 (triBST (sz := 7) (enc := Node.cs) (j := 4) ([(Node.mk t.Next parent v.Kind v.Key v.Attrs v.Actions ([] : (List Int)))]) rfl rfl rfl rfl rfl rfl rfl rfl (fun _ => rfl) trivial rfl rfl) ?_)))
  obtain ⟨x1, hx1, hr⟩ := bind_some hr
  refine OkOps.m2 0 (triAppV (enc := Node.cs) (L := t.Nodes) (X := [(Node.mk t.Next parent v.Kind v.Key v.Attrs v.Actions ([] : (List Int)))]) (j := 0) (j' := 5) hx1 rfl rfl rfl rfl rfl rfl (fun _ => rfl) (fun _ => rfl) trivial rfl rfl) (OkOps.y (.c (.loc 2 2)) (OkOps.w (triStoreF (cs' := [cI t.Root, cI t.Next, .own 5]) rfl rfl rfl rfl rfl rfl rfl rfl) (OkOps.nil (Ok.seq (Ok.region (OkOps.y (.c (.loc 2 1)) (OkOps.y (aI t.Next) (OkOps.y (aI (IntKind.i64.wrap (t.Next + 1))) (OkOps.y (.c (.loc 2 1)) (OkOps.w (triStore (cs' := [cI t.Root, cI (IntKind.i64.wrap (t.Next + 1)), .own 5]) rfl rfl rfl rfl rfl rfl rfl rfl rfl) (OkOps.nil (Ok.seq (Ok.region (OkOps.y (.c (.d (.v (.slice none 0 0)))) (OkOps.nil ?_)))))))))))))))
  obtain ⟨k3, hk3, hr⟩ := jn_some hr
  refine Ok.join (fun (s2 : (List Int) × Int × Int × (List Node)) => ⟨[(5, .s (.c (.loc 2 0))), (6, .s (.c (.loc 3 0))), (8, .s (aI (t.Nodes.length : Int))), (9, .s (.c (.tl 1007 (List.map (eInt .i64) s2.1))))], [(0, .dead), (2, .blk [cI s2.2.1, cI s2.2.2.1, .own 1008] 30), (3, .blk [cI 0, cI 0, .d (.v (.slice none 0 0))] 30), (1007, .tail 1), (1008, .vec 7 (List.map Node.cs s2.2.2.2))], 0⟩) k3 r (fun s2 hr => ?_) ?_
  rw [hk3] at hr
  refine Ok.seq (Ok.region (OkOps.y (.c (.loc 2 2)) (OkOps.y (.c (.own 1008)) (OkOps.y (aI (t.Nodes.length : Int)) (OkOps.y (.c (.tl 1007 (List.map (eInt .i64) s2.1))) ?_)))))
  obtain ⟨x4, hx4, hr⟩ := bind_some hr
  refine OkOps.q (triIdxV (enc := Node.cs) (L := s2.2.2.2) hx4 rfl rfl rfl rfl trivial rfl) (OkOps.q (triFldV (o := 6) (enc := Node.cs) (L := s2.2.2.2) rfl rfl rfl (by have := (ixO_spec hx4).2; omega) rfl) ?_)
  obtain ⟨x5, hx5, hr⟩ := bind_some hr
  refine OkOps.w (triStoreVF (n := 1) (enc := Node.cs) (L := s2.2.2.2) (z := (Node.mk x5.ID x5.Parent x5.Kind x5.Key x5.Attrs x5.Actions s2.1)) hx5 rfl rfl rfl rfl rfl rfl rfl rfl (by decide) (fun _ => rfl) rfl) (OkOps.nil (Ok.seq (Ok.region (OkOps.y (.agg [cI s2.2.1, cI s2.2.2.1, .own 1008]) (OkOps.w (triStoreF (cs' := [cI s2.2.1, cI s2.2.2.1, .own 1008]) rfl rfl rfl rfl rfl rfl rfl rfl) (OkOps.nil (Ok.conv (T := ⟨[(6, .s (.c (.loc 3 0)))], [(0, .dead), (3, .blk [cI s2.2.1, cI s2.2.2.1, .own 2000] 30), (2000, .vec 7 (List.map Node.cs (List.set s2.2.2.2 x4 (Node.mk x5.ID x5.Parent x5.Kind x5.Key x5.Attrs x5.Actions s2.1))))], 0⟩) (Conv.mk (tau [(2000, 1008)]) ⟨⟨_, rfl, .inl rfl⟩, trivial⟩ ⟨rfl, rfl, trivial⟩ rfl rfl rfl rfl) (Ok.ret ?_))))))))
  obtain rfl := Option.some.inj hr
  exact ⟨_, rfl, .inl rfl, ⟨(fun h => by cases h), rfl, trivial⟩⟩
  clear hk3
  refine Ok.seq (Ok.region (OkOps.y (aI 0) (OkOps.nil (Ok.block (Ok.loopK (fun (s6 : (List Int) × Int × Int × Int × (List Node)) => ⟨[(3, .s (.c (.loc 1 0))), (5, .s (.c (.loc 2 0))), (6, .s (.c (.loc 3 0))), (7, .s (aI t.Next)), (8, .s (aI (t.Nodes.length : Int))), (9, .s (.c (.tl 1012 (List.map (eInt .i64) s6.1)))), (10, .s (aI s6.2.1))], [(0, .dead), (1, .blk [cI v.Kind, cS v.Key, .d (.sl (List.map Attr.cs v.Attrs)), .d (.sl (List.map Action.cs v.Actions)), .d (.sl (List.map View.cs v.Kids))] 27), (2, .blk [cI s6.2.2.1, cI s6.2.2.2.1, .own 1013] 30), (3, .blk [cI 0, cI 0, .d (.v (.slice none 0 0))] 30), (1012, .tail 1), (1013, .vec 7 (List.map Node.cs s6.2.2.2.2))], 0⟩) hr (Conv.trans (Conv.nil 9 1016 1 0 rfl rfl) (Conv.mk (tau [(1012, 1016), (1013, 5)]) ⟨⟨_, rfl, .inl rfl⟩, ⟨_, rfl, .inl rfl⟩, ⟨_, rfl, .inl rfl⟩, ⟨_, rfl, .inl rfl⟩, ⟨_, rfl, .inl rfl⟩, ⟨_, rfl, .inl rfl⟩, ⟨_, rfl, .inl rfl⟩, trivial⟩ ⟨rfl, rfl, rfl, rfl, rfl, trivial⟩ rfl rfl rfl rfl)) ?_)))))
  clear hr
  intro again7 s6 hr
  unfold r14_build_L1 at hr
  refine Ok.seq (Ok.seq (Ok.region (OkOps.y (aI s6.2.1) (OkOps.y (.c (.loc 1 4)) (OkOps.y (.c (.d (.sl (List.map View.cs v.Kids)))) (OkOps.q (triLen (enc := View.cs) v.Kids rfl rfl trivial rfl) (OkOps.y (aB (decide (s6.2.1 < (v.Kids.length : Int)))) (OkOps.nil ?_))))))))
  refine Ok.cond (b := decide (s6.2.1 < (v.Kids.length : Int))) rfl (fun h8 => ?_) (fun h8 => ?_)
  have hr := selT h8 hr
  refine Ok.skip (Ok.seq (Ok.block (Ok.seq (Ok.region (OkOps.y (.c (.tl 1012 (List.map (eInt .i64) s6.1))) (OkOps.y (.c (.loc 2 1)) (OkOps.y (aI s6.2.2.2.1) (OkOps.m 0 (triBST (sz := 1) (enc := (eInt .i64)) (j := 6) ([s6.2.2.2.1]) rfl rfl rfl rfl rfl rfl rfl rfl (fun _ => rfl) trivial rfl rfl) ?_))))))))
  obtain ⟨x9, hx9, hr⟩ := bind_some hr
  refine OkOps.m2 0 (triApp (enc := (eInt .i64)) (L := s6.1) (X := [s6.2.2.2.1]) (j := 1012) (j' := 7) hx9 rfl rfl rfl rfl rfl rfl (fun _ => rfl) (fun _ => rfl) (by decide) trivial rfl rfl) (OkOps.y (.c (.tl 7 (List.map (eInt .i64) x9))) (OkOps.nil (Ok.regionD (by kernel_rfl) (OkD.x (.c (.loc 1 4)) rfl trivial rfl (OkD.x (.c (.d (.sl (List.map View.cs v.Kids)))) rfl trivial rfl (OkD.x (aI s6.2.1) rfl trivial rfl ?_))))))
  obtain ⟨x10, hx10, hr⟩ := bind_some hr
  refine OkD.q (triIdx (enc := View.cs) (L := v.Kids) (row := [dI x10.Kind, dS x10.Key, .sl (List.map Attr.cs x10.Attrs), .sl (List.map Action.cs x10.Actions), .sl (List.map View.cs x10.Kids)]) hx10 (View.cs_eq _) rfl rfl rfl (fun x => by rw [View.cs_eq]; rfl) trivial rfl) ?_
  refine OkD.x (.agg [cI x10.Kind, cS x10.Key, .d (.sl (List.map Attr.cs x10.Attrs)), .d (.sl (List.map Action.cs x10.Actions)), .d (.sl (List.map View.cs x10.Kids))]) rfl trivial rfl (OkD.x (aI t.Next) rfl trivial rfl (OkD.x (.agg [cI s6.2.2.1, cI s6.2.2.2.1, .own 1013]) rfl trivial rfl ?_))
  obtain ⟨x11, hx11, hr⟩ := bind_some hr
  refine OkD.m2 0 (triCall (tau [(0, 1013), (2000, 8)]) (.s (.agg [cI x11.Root, cI x11.Next, .own 8])) [(1013, .dead), (8, .vec 7 (List.map Node.cs x11.Nodes))] (hself0 _ _ _ hx11) rfl ⟨.inl rfl, .inl rfl, .inl rfl, trivial⟩ trivial entry35 ⟨rfl, trivial⟩ rfl rfl rfl rfl ⟨rfl, trivial⟩ rfl rfl rfl) (OkD.w (triStoreF (cs' := [cI x11.Root, cI x11.Next, .own 8]) rfl rfl rfl rfl rfl rfl rfl rfl) (OkD.nil (by kernel_rfl) (Ok.region (OkOps.y (aI s6.2.1) (OkOps.y (aI (IntKind.i64.wrap (s6.2.1 + 1))) (OkOps.y (aI (IntKind.i64.wrap (s6.2.1 + 1))) (OkOps.nil ?_)))))))
  exact ⟨(x9, IntKind.i64.wrap (s6.2.1 + 1), x11.Root, x11.Next, x11.Nodes), hr, (Conv.mk (tau [(1012, 7), (1013, 8)]) ⟨⟨_, rfl, .inl rfl⟩, ⟨_, rfl, .inl rfl⟩, ⟨_, rfl, .inl rfl⟩, ⟨_, rfl, .inl rfl⟩, ⟨_, rfl, .inl rfl⟩, ⟨_, rfl, .inl rfl⟩, ⟨_, rfl, .inl rfl⟩, trivial⟩ ⟨rfl, rfl, rfl, rfl, rfl, trivial⟩ rfl rfl rfl rfl)⟩
  have hr := selF h8 hr
  refine Ok.exit ?_
  exact ⟨(s6.1, s6.2.2.1, s6.2.2.2.1, s6.2.2.2.2), hr, (Conv.mk (tau [(1007, 1012), (1008, 1013)]) ⟨⟨_, rfl, .inl rfl⟩, ⟨_, rfl, .inl rfl⟩, ⟨_, rfl, .inl rfl⟩, ⟨_, rfl, .inl rfl⟩, trivial⟩ ⟨rfl, rfl, rfl, rfl, trivial⟩ rfl rfl rfl rfl)⟩
theorem r14_build_all : ∀ n : Nat, (∀ (v : View) (parent : Int) (t : Tree) {r : Tree}, r14_build n v parent t = some r → Con Tryz.prog 35 [.agg [cI v.Kind, cS v.Key, .d (.sl (List.map Attr.cs v.Attrs)), .d (.sl (List.map Action.cs v.Actions)), .d (.sl (List.map View.cs v.Kids))], aI parent, .agg [cI t.Root, cI t.Next, .own 0]] [(0, .vec 7 (List.map Node.cs t.Nodes))] (.s (.agg [cI r.Root, cI r.Next, .own 2000])) [(0, .dead), (2000, .vec 7 (List.map Node.cs r.Nodes))]) ∧ True := by
  intro n
  induction n with
  | zero => exact ⟨(by intros; rename_i hr; cases hr), trivial⟩
  | succ n ih => exact ⟨(by intros; rename_i hr; exact r14_build_B_c _ ih.1 _ _ _ hr), trivial⟩
theorem r14_build_c (n : Nat) (v : View) (parent : Int) (t : Tree) {r : Tree} (hr : r14_build n v parent t = some r) : Con Tryz.prog 35 [.agg [cI v.Kind, cS v.Key, .d (.sl (List.map Attr.cs v.Attrs)), .d (.sl (List.map Action.cs v.Actions)), .d (.sl (List.map View.cs v.Kids))], aI parent, .agg [cI t.Root, cI t.Next, .own 0]] [(0, .vec 7 (List.map Node.cs t.Nodes))] (.s (.agg [cI r.Root, cI r.Next, .own 2000])) [(0, .dead), (2000, .vec 7 (List.map Node.cs r.Nodes))] := (r14_build_all n).1 v parent t hr
theorem r14_Build_c (v : View) (next : Int) {r : Tree × Int} (hr : r14_Build v next = some r) : Con Tryz.prog 9 [.agg [cI v.Kind, cS v.Key, .d (.sl (List.map Attr.cs v.Attrs)), .d (.sl (List.map Action.cs v.Actions)), .d (.sl (List.map View.cs v.Kids))], aI next] [] (.tup [.agg [cI r.1.Root, cI r.1.Next, .d (.sl (List.map Node.cs r.1.Nodes))], aI r.2]) [] := by
  unfold r14_Build at hr
  refine Con.of_ok 27 0 [.cell 4 30, .tmp 5] [(0, .s (.agg [cI v.Kind, cS v.Key, .d (.sl (List.map Attr.cs v.Attrs)), .d (.sl (List.map Action.cs v.Actions)), .d (.sl (List.map View.cs v.Kids))])), (1, .s (aI next))] Tryz.func9 rfl rfl rfl rfl rfl rfl rfl rfl fun w g M ρ _ => (Ok.seq (Ok.region (OkOps.m 0 (triBox (j := 0) (cs := [cI v.Kind, cS v.Key, .d (.sl (List.map Attr.cs v.Attrs)), .d (.sl (List.map Action.cs v.Actions)), .d (.sl (List.map View.cs v.Kids))]) rfl rfl rfl rfl rfl) (OkOps.m 0 (triAlloc (j := 1) (cs := [cI 0, cI 0, .d (.v (.slice none 0 0))]) rfl rfl rfl rfl) (OkOps.y (aI 0) (OkOps.nil (Ok.seq (Ok.seq (Ok.region (OkOps.y (.agg [cI v.Kind, cS v.Key, .d (.sl (List.map Attr.cs v.Attrs)), .d (.sl (List.map Action.cs v.Actions)), .d (.sl (List.map View.cs v.Kids))]) ?_))))))))))
  obtain ⟨x1, hx1, hr⟩ := bind_some hr
  refine OkOps.q (triCl (tau []) (.s (aI x1)) [] (r14_Validate_c _ hx1) rfl ⟨.inl rfl, trivial⟩ trivial entry34 trivial) (OkOps.y (aI x1) (OkOps.nil (Ok.seq (Ok.region (OkOps.y (aI x1) (OkOps.y (aB (x1 != 0)) (OkOps.nil ?_)))))))
  refine Ok.cond (b := x1 != 0) rfl (fun h2 => ?_) (fun h2 => ?_)
  have hr := selT h2 hr
  refine Ok.seq (Ok.region (OkOps.y (.agg [cI 0, cI 0, .d (.v (.slice none 0 0))]) (OkOps.y (aI x1) (OkOps.w (triStore (cs' := [cI 0, cI 0, .d (.v (.slice none 0 0))]) rfl rfl rfl rfl rfl rfl rfl rfl rfl) (OkOps.y (aI x1) (OkOps.nil (Ok.ret ?_)))))))
  obtain rfl := Option.some.inj hr
  exact ⟨_, rfl, .inr rfl, trivial⟩
  have hr := selF h2 hr
  refine Ok.skip (Ok.seq (Ok.seq (Ok.region (OkOps.y (aI next) (OkOps.y (aB (decide (next < 1))) (OkOps.y (aB (decide (next < 1))) (OkOps.q (triQG (x := aI next) rfl rfl trivial rfl) (OkOps.q (triQG (x := aB (decide (next > 1099511627376))) rfl rfl ⟨fun h => h, trivial⟩ rfl) ?_))))))))
  refine OkOps.q (triOr rfl rfl (fun h => by rw [h]; rfl) rfl) ?_
  refine OkOps.nil ?_
  refine Ok.cond (b := (decide (next < 1)) || (decide (next > 1099511627376))) rfl (fun h3 => ?_) (fun h3 => ?_)
  have hr := selT h3 hr
  refine Ok.seq (Ok.region (OkOps.y (.agg [cI 0, cI 0, .d (.v (.slice none 0 0))]) (OkOps.w (triStore (cs' := [cI 0, cI 0, .d (.v (.slice none 0 0))]) rfl rfl rfl rfl rfl rfl rfl rfl rfl) (OkOps.y (aI 1) (OkOps.nil (Ok.ret ?_))))))
  obtain rfl := Option.some.inj hr
  exact ⟨_, rfl, .inr rfl, trivial⟩
  have hr := selF h3 hr
  refine Ok.skip (Ok.seq (Ok.region (OkOps.y (aI next) (OkOps.y (aI next) (OkOps.y (.agg [cI next, cI next, .d (.v (.slice none 0 0))]) (OkOps.m 0 (triAlloc (j := 2) (cs := [cI 0, cI 0, .d (.v (.slice none 0 0))]) rfl rfl rfl rfl) (OkOps.w (triStore (cs' := [cI next, cI next, .d (.v (.slice none 0 0))]) rfl rfl rfl rfl rfl rfl rfl rfl rfl) (OkOps.nil (Ok.seq (Ok.region (OkOps.y (.agg [cI v.Kind, cS v.Key, .d (.sl (List.map Attr.cs v.Attrs)), .d (.sl (List.map Action.cs v.Actions)), .d (.sl (List.map View.cs v.Kids))]) (OkOps.y (.agg [cI next, cI next, .d (.v (.slice none 0 0))]) (OkOps.conv (Conv.nilAg 25 2 3 (.vec 7 (List.map Node.cs ([] : (List Node)))) (.own 3) [cI next, cI next, .d (.v (.slice none 0 0))] [cI next, cI next, .own 3] 0 rfl rfl rfl rfl (nil_vec Node.cs 7 3) (fun _ _ h => h.symm)) ?_)))))))))))))
  obtain ⟨x4, hx4, hr⟩ := bind_some hr
  refine OkOps.m2 0 (triCall (tau [(0, 3), (2000, 4)]) (.s (.agg [cI x4.Root, cI x4.Next, .own 4])) [(3, .dead), (4, .vec 7 (List.map Node.cs x4.Nodes))] (r14_build_c _ _ _ _ hx4) rfl ⟨.inl rfl, .inl rfl, .inl rfl, trivial⟩ trivial entry35 ⟨rfl, trivial⟩ rfl rfl rfl rfl ⟨rfl, trivial⟩ rfl rfl rfl) (OkOps.w (triStoreF (cs' := [cI x4.Root, cI x4.Next, .own 4]) rfl rfl rfl rfl rfl rfl rfl rfl) (OkOps.y (aI 0) (OkOps.nil (Ok.conv (Conv.freezeV (enc := Node.cs) (L := x4.Nodes) [(26, .s (.agg [cI x4.Root, cI x4.Next, .d (.sl (List.map Node.cs x4.Nodes))]))] [(1, .blk [cI x4.Root, cI x4.Next, .d (.sl (List.map Node.cs x4.Nodes))] 30)] 4 0 rfl (fun _ => rfl) ⟨⟨_, rfl, rfl⟩, trivial⟩ ⟨⟨_, _, rfl, rfl⟩, trivial⟩) (Ok.ret ?_)))))
  obtain rfl := Option.some.inj hr
  exact ⟨_, rfl, .inl rfl, trivial⟩
end Go.Proofs.YtfoigppmcelgfaaGreatDoor
end
section
set_option maxRecDepth 100000
namespace Go.Proofs.YtfoigppmcelgfaaGreatDoor
open Go Go.E2
theorem l37_styles_c (t : Tree) {r : (List Styled)} (hr : l37_styles t = some r) : Con Tryz.prog 11 [.agg [cI t.Root, cI t.Next, .d (.sl (List.map Node.cs t.Nodes))]] [] (.s (.c (.d (.sl (List.map Styled.cs r))))) [] := by
  unfold l37_styles at hr
  refine Con.of_ok 24 0 [.tmp 2] [(0, .s (.agg [cI t.Root, cI t.Next, .d (.sl (List.map Node.cs t.Nodes))]))] Tryz.func11 rfl rfl rfl rfl rfl rfl rfl rfl fun w g M ρ _ => (Ok.seq (Ok.region (OkOps.m 0 (triBox (j := 0) (cs := [cI t.Root, cI t.Next, .d (.sl (List.map Node.cs t.Nodes))]) rfl rfl rfl rfl rfl) (OkOps.y (.c (.d (.v (.slice none 0 0)))) (OkOps.nil (Ok.seq (Ok.region (OkOps.y (.c (.d (.v (.slice none 0 0)))) (OkOps.nil ?_)))))))))
  obtain ⟨k2, hk2, hr⟩ := jn_some hr
  refine Ok.join (fun (s1 : (List Styled)) => ⟨[(3, .s (.c (.tl 1004 (List.map Styled.cs s1))))], [(1004, .tail 23)], 0⟩) k2 r (fun s1 hr => ?_) ?_
  rw [hk2] at hr
  refine Ok.seq (Ok.region (OkOps.y (.c (.tl 1004 (List.map Styled.cs s1))) (OkOps.y (.c (.tl 1004 (List.map Styled.cs s1))) (OkOps.nil (Ok.ret ?_)))))
  obtain rfl := Option.some.inj hr
  exact ⟨_, rfl, .inr rfl, trivial⟩
  clear hk2
  refine Ok.seq (Ok.region (OkOps.y (aI 0) (OkOps.nil (Ok.block (Ok.loopK (fun (s3 : (List Styled) × Int) => ⟨[(1, .s (.c (.loc 0 0))), (3, .s (.c (.tl 1007 (List.map Styled.cs s3.1)))), (4, .s (aI s3.2))], [(0, .blk [cI t.Root, cI t.Next, .d (.sl (List.map Node.cs t.Nodes))] 30), (1007, .tail 23)], 0⟩) hr (Conv.trans (Conv.nil 3 1009 23 0 rfl rfl) (Conv.mk (tau [(1007, 1009)]) ⟨⟨_, rfl, .inl rfl⟩, ⟨_, rfl, .inl rfl⟩, ⟨_, rfl, .inl rfl⟩, trivial⟩ ⟨rfl, rfl, trivial⟩ rfl rfl rfl rfl)) ?_)))))
  clear hr
  intro again4 s3 hr
  unfold l37_styles_L1 at hr
  refine Ok.seq (Ok.seq (Ok.region (OkOps.y (aI s3.2) (OkOps.y (.c (.loc 0 2)) (OkOps.y (.c (.d (.sl (List.map Node.cs t.Nodes)))) (OkOps.q (triLen (enc := Node.cs) t.Nodes rfl rfl trivial rfl) (OkOps.y (aB (decide (s3.2 < (t.Nodes.length : Int)))) (OkOps.nil ?_))))))))
  refine Ok.cond (b := decide (s3.2 < (t.Nodes.length : Int))) rfl (fun h5 => ?_) (fun h5 => ?_)
  have hr := selT h5 hr
  refine Ok.skip (Ok.seq (Ok.block (Ok.regionD (by kernel_rfl) (OkD.x (.c (.tl 1007 (List.map Styled.cs s3.1))) rfl trivial rfl (OkD.x (.c (.loc 0 2)) rfl trivial rfl (OkD.x (.c (.d (.sl (List.map Node.cs t.Nodes)))) rfl trivial rfl (OkD.x (aI s3.2) rfl trivial rfl ?_)))))))
  obtain ⟨x6, hx6, hr⟩ := bind_some hr
  refine OkD.q (triIdx (enc := Node.cs) (L := t.Nodes) (row := [dI x6.ID, dI x6.Parent, dI x6.Kind, dS x6.Key, .sl (List.map Attr.cs x6.Attrs), .sl (List.map Action.cs x6.Actions), .sl (List.map (eInt .i64) x6.Kids)]) hx6 rfl rfl rfl rfl (fun _ => rfl) trivial rfl) (OkD.x (.c (.pt [dI x6.ID, dI x6.Parent, dI x6.Kind, dS x6.Key, .sl (List.map Attr.cs x6.Attrs), .sl (List.map Action.cs x6.Actions), .sl (List.map (eInt .i64) x6.Kids)])) rfl trivial rfl (OkD.x (aI x6.ID) rfl trivial rfl ?_))
  obtain ⟨x7, hx7, hr⟩ := bind_some hr
  refine OkD.q (triCl (tau []) (.s (.agg [cI (x7 0), cI (x7 1), cI (x7 2), cI (x7 3), cI (x7 4), cI (x7 5), cI (x7 6), cI (x7 7), cI (x7 8), cI (x7 9), cI (x7 10), cI (x7 11), cI (x7 12), cI (x7 13), cI (x7 14), cI (x7 15), cI (x7 16), cI (x7 17), cI (x7 18), cI (x7 19), cI (x7 20), cI (x7 21)])) [] (r17_Initial_c  hx7) rfl trivial trivial entry50 trivial) (OkD.q (triQ (x := .agg [cI x6.ID, cI (x7 0), cI (x7 1), cI (x7 2), cI (x7 3), cI (x7 4), cI (x7 5), cI (x7 6), cI (x7 7), cI (x7 8), cI (x7 9), cI (x7 10), cI (x7 11), cI (x7 12), cI (x7 13), cI (x7 14), cI (x7 15), cI (x7 16), cI (x7 17), cI (x7 18), cI (x7 19), cI (x7 20), cI (x7 21)]) (by kernel_rfl) trivial rfl) (OkD.m 0 (triBST (sz := 23) (enc := Styled.cs) (j := 1) ([(Styled.mk x6.ID x7)]) (cs := [cI x6.ID, cI (x7 0), cI (x7 1), cI (x7 2), cI (x7 3), cI (x7 4), cI (x7 5), cI (x7 6), cI (x7 7), cI (x7 8), cI (x7 9), cI (x7 10), cI (x7 11), cI (x7 12), cI (x7 13), cI (x7 14), cI (x7 15), cI (x7 16), cI (x7 17), cI (x7 18), cI (x7 19), cI (x7 20), cI (x7 21)]) rfl rfl rfl rfl (by kernel_rfl) rfl rfl rfl (fun _ => rfl) trivial rfl rfl) ?_))
  obtain ⟨x8, hx8, hr⟩ := bind_some hr
  refine OkD.m2 0 (triApp (enc := Styled.cs) (L := s3.1) (X := [(Styled.mk x6.ID x7)]) (j := 1007) (j' := 2) hx8 rfl rfl rfl rfl rfl rfl (fun _ => rfl) (fun _ => rfl) (by decide) trivial rfl rfl) (OkD.x (.c (.tl 2 (List.map Styled.cs x8))) rfl trivial rfl (OkD.nil (by kernel_rfl) (Ok.region (OkOps.y (aI s3.2) (OkOps.y (aI (IntKind.i64.wrap (s3.2 + 1))) (OkOps.y (aI (IntKind.i64.wrap (s3.2 + 1))) (OkOps.nil ?_)))))))
  exact ⟨(x8, IntKind.i64.wrap (s3.2 + 1)), hr, (Conv.mk (tau [(1007, 2)]) ⟨⟨_, rfl, .inl rfl⟩, ⟨_, rfl, .inl rfl⟩, ⟨_, rfl, .inl rfl⟩, trivial⟩ ⟨rfl, rfl, trivial⟩ rfl rfl rfl rfl)⟩
  have hr := selF h5 hr
  refine Ok.exit ?_
  exact ⟨s3.1, hr, (Conv.mk (tau [(1004, 1007)]) ⟨⟨_, rfl, .inl rfl⟩, trivial⟩ ⟨rfl, trivial⟩ rfl rfl rfl rfl)⟩
theorem l37_sameInts_c (a : (List Int)) (b : (List Int)) {r : Bool} (hr : l37_sameInts a b = some r) : Con Tryz.prog 51 [.c (.d (.sl (List.map (eInt .i64) a))), .c (.d (.sl (List.map (eInt .i64) b)))] [] (.s (aB r)) [] := by
  unfold l37_sameInts at hr
  refine Con.of_ok 26 0 [.tmp 4] [(0, .s (.c (.d (.sl (List.map (eInt .i64) a))))), (1, .s (.c (.d (.sl (List.map (eInt .i64) b)))))] Tryz.func51 rfl rfl rfl rfl rfl rfl rfl rfl fun w g M ρ _ => (Ok.seq (Ok.region (OkOps.y (aB false) (OkOps.nil (Ok.seq (Ok.seq (Ok.region (OkOps.y (.c (.d (.sl (List.map (eInt .i64) a)))) (OkOps.q (triLen (enc := (eInt .i64)) a rfl rfl trivial rfl) (OkOps.y (.c (.d (.sl (List.map (eInt .i64) b)))) (OkOps.q (triLen (enc := (eInt .i64)) b rfl rfl trivial rfl) (OkOps.y (aB ((a.length : Int) != (b.length : Int))) (OkOps.nil ?_)))))))))))))
  refine Ok.cond (b := (a.length : Int) != (b.length : Int)) rfl (fun h1 => ?_) (fun h1 => ?_)
  have hr := selT h1 hr
  refine Ok.seq (Ok.region (OkOps.y (aB false) (OkOps.nil (Ok.ret ?_))))
  obtain rfl := Option.some.inj hr
  exact ⟨_, rfl, .inl rfl, trivial⟩
  have hr := selF h1 hr
  refine Ok.skip ?_
  obtain ⟨k3, hk3, hr⟩ := jn_some hr
  refine Ok.join (fun (s2 : Unit) => ⟨[], [], 0⟩) k3 r (fun s2 hr => ?_) ?_
  rw [hk3] at hr
  refine Ok.seq (Ok.region (OkOps.y (aB true) (OkOps.nil (Ok.ret ?_))))
  obtain rfl := Option.some.inj hr
  exact ⟨_, rfl, .inl rfl, trivial⟩
  clear hk3
  refine Ok.seq (Ok.region (OkOps.y (aI 0) (OkOps.nil (Ok.block (Ok.loopK (fun (s4 : Int) => ⟨[(0, .s (.c (.d (.sl (List.map (eInt .i64) a))))), (1, .s (.c (.d (.sl (List.map (eInt .i64) b))))), (5, .s (aI s4))], [], 0⟩) hr (Conv.mk (tau []) ⟨⟨_, rfl, .inl rfl⟩, ⟨_, rfl, .inl rfl⟩, ⟨_, rfl, .inl rfl⟩, trivial⟩ trivial rfl rfl rfl rfl) ?_)))))
  clear hr
  intro again5 s4 hr
  unfold l37_sameInts_L1 at hr
  refine Ok.seq (Ok.seq (Ok.region (OkOps.y (aI s4) (OkOps.y (.c (.d (.sl (List.map (eInt .i64) a)))) (OkOps.q (triLen (enc := (eInt .i64)) a rfl rfl trivial rfl) (OkOps.y (aB (decide (s4 < (a.length : Int)))) (OkOps.nil ?_)))))))
  refine Ok.cond (b := decide (s4 < (a.length : Int))) rfl (fun h6 => ?_) (fun h6 => ?_)
  have hr := selT h6 hr
  refine Ok.skip (Ok.seq (Ok.block (Ok.seq (Ok.regionD (by kernel_rfl) (OkD.x (.c (.d (.sl (List.map (eInt .i64) a)))) rfl trivial rfl (OkD.x (aI s4) rfl trivial rfl ?_))))))
  obtain ⟨x7, hx7, hr⟩ := bind_some hr
  refine OkD.q (triIdx (enc := (eInt .i64)) (L := a) (row := [dI x7]) hx7 rfl rfl rfl rfl (fun _ => rfl) trivial rfl) (OkD.x (aI x7) rfl trivial rfl (OkD.x (.c (.d (.sl (List.map (eInt .i64) b)))) rfl trivial rfl (OkD.x (aI s4) rfl trivial rfl ?_)))
  obtain ⟨x8, hx8, hr⟩ := bind_some hr
  refine OkD.q (triIdx (enc := (eInt .i64)) (L := b) (row := [dI x8]) hx8 rfl rfl rfl rfl (fun _ => rfl) trivial rfl) (OkD.x (aI x8) rfl trivial rfl (OkD.x (aB (x7 != x8)) rfl trivial rfl (OkD.nil (by kernel_rfl) ?_)))
  refine Ok.cond (b := x7 != x8) rfl (fun h9 => ?_) (fun h9 => ?_)
  have hr := selT h9 hr
  refine Ok.seq (Ok.region (OkOps.y (aB false) (OkOps.nil (Ok.ret ?_))))
  obtain rfl := Option.some.inj hr
  exact ⟨_, rfl, .inl rfl, trivial⟩
  have hr := selF h9 hr
  refine Ok.skip (Ok.region (OkOps.y (aI s4) (OkOps.y (aI (IntKind.i64.wrap (s4 + 1))) (OkOps.y (aI (IntKind.i64.wrap (s4 + 1))) (OkOps.nil ?_)))))
  exact ⟨IntKind.i64.wrap (s4 + 1), hr, (Conv.mk (tau []) ⟨⟨_, rfl, .inl rfl⟩, ⟨_, rfl, .inl rfl⟩, ⟨_, rfl, .inl rfl⟩, trivial⟩ trivial rfl rfl rfl rfl)⟩
  have hr := selF h6 hr
  refine Ok.exit ?_
  exact ⟨(), hr, (Conv.mk (tau []) trivial trivial rfl rfl rfl rfl)⟩
theorem l37_awake_c  {r : Bool} (hr : l37_awake  = some r) : Con Tryz.prog 14 [] [] (.s (aB r)) [] := by
  unfold l37_awake at hr
  refine Con.of_ok 32 0 [.tmp 0] [] Tryz.func14 rfl rfl rfl rfl rfl rfl rfl rfl fun w g M ρ _ => (Ok.seq (Ok.region (OkOps.y (aB false) (OkOps.nil (Ok.seq (Ok.region (OkOps.y (.agg [cI 3, cS ByteArray.empty, .d (.v (.slice none 0 0)), .d (.v (.slice none 0 0)), .d (.v (.slice none 0 0))]) (OkOps.m 0 (triAlloc (j := 0) (cs := [cI 0, cS ByteArray.empty, .d (.v (.slice none 0 0)), .d (.v (.slice none 0 0)), .d (.v (.slice none 0 0))]) rfl rfl rfl rfl) (OkOps.w (triStore (cs' := [cI 3, cS ByteArray.empty, .d (.v (.slice none 0 0)), .d (.v (.slice none 0 0)), .d (.v (.slice none 0 0))]) rfl rfl rfl rfl rfl rfl rfl rfl rfl) (OkOps.nil (Ok.seq (Ok.region (OkOps.y (.agg [cI 3, cS ByteArray.empty, .d (.v (.slice none 0 0)), .d (.v (.slice none 0 0)), .d (.v (.slice none 0 0))]) ?_)))))))))))))
  refine OkOps.m 0 (triBST (sz := 5) (enc := View.cs) (j := 1) ([(View.mk 3 ByteArray.empty ([] : (List Attr)) ([] : (List Action)) ([] : (List View)))]) rfl rfl rfl rfl rfl (rows := [[dI 3, dS ByteArray.empty, .sl [], .sl [], .sl []]]) (by simp only [List.map, View.cs_eq]) rfl rfl (fun x => by rw [View.cs_eq]; rfl) trivial rfl rfl) ?_
  refine OkOps.y (.agg [cI 1, cS ByteArray.empty, .d (.v (.slice none 0 0)), .d (.v (.slice none 0 0)), .tl 1 (List.map View.cs ([(View.mk 3 ByteArray.empty ([] : (List Attr)) ([] : (List Action)) ([] : (List View)))]))]) ?_
  refine OkOps.m 0 (triBST (sz := 5) (enc := View.cs) (j := 2) ([(View.mk 1 ByteArray.empty ([] : (List Attr)) ([] : (List Action)) ([(View.mk 3 ByteArray.empty ([] : (List Attr)) ([] : (List Action)) ([] : (List View)))]))]) rfl rfl rfl rfl rfl (rows := [[dI 1, dS ByteArray.empty, .sl [], .sl [], .sl (List.map View.cs ([(View.mk 3 ByteArray.empty ([] : (List Attr)) ([] : (List Action)) ([] : (List View)))]))]]) (by simp only [List.map, View.cs_eq]) rfl rfl (fun x => by rw [View.cs_eq]; rfl) trivial rfl rfl) ?_
  refine OkOps.y (.agg [cI 12, cS ByteArray.empty, .d (.v (.slice none 0 0)), .d (.v (.slice none 0 0)), .tl 2 (List.map View.cs ([(View.mk 1 ByteArray.empty ([] : (List Attr)) ([] : (List Action)) ([(View.mk 3 ByteArray.empty ([] : (List Attr)) ([] : (List Action)) ([] : (List View)))]))]))]) ?_
  refine OkOps.m 0 (triBST (sz := 5) (enc := View.cs) (j := 3) ([(View.mk 12 ByteArray.empty ([] : (List Attr)) ([] : (List Action)) ([(View.mk 1 ByteArray.empty ([] : (List Attr)) ([] : (List Action)) ([(View.mk 3 ByteArray.empty ([] : (List Attr)) ([] : (List Action)) ([] : (List View)))]))]))]) rfl rfl rfl rfl rfl (rows := [[dI 12, dS ByteArray.empty, .sl [], .sl [], .sl (List.map View.cs ([(View.mk 1 ByteArray.empty ([] : (List Attr)) ([] : (List Action)) ([(View.mk 3 ByteArray.empty ([] : (List Attr)) ([] : (List Action)) ([] : (List View)))]))]))]]) (by simp only [List.map, View.cs_eq]) rfl rfl (fun x => by rw [View.cs_eq]; rfl) trivial rfl rfl) ?_
  refine OkOps.y (.agg [cI 1, cS ByteArray.empty, .d (.v (.slice none 0 0)), .d (.v (.slice none 0 0)), .tl 3 (List.map View.cs ([(View.mk 12 ByteArray.empty ([] : (List Attr)) ([] : (List Action)) ([(View.mk 1 ByteArray.empty ([] : (List Attr)) ([] : (List Action)) ([(View.mk 3 ByteArray.empty ([] : (List Attr)) ([] : (List Action)) ([] : (List View)))]))]))]))]) (OkOps.m 0 (triAlloc (j := 4) (cs := [cI 0, cS ByteArray.empty, .d (.v (.slice none 0 0)), .d (.v (.slice none 0 0)), .d (.v (.slice none 0 0))]) rfl rfl rfl rfl) (OkOps.w (triStore (cs' := [cI 1, cS ByteArray.empty, .d (.v (.slice none 0 0)), .d (.v (.slice none 0 0)), .tl 3 (List.map View.cs ([(View.mk 12 ByteArray.empty ([] : (List Attr)) ([] : (List Action)) ([(View.mk 1 ByteArray.empty ([] : (List Attr)) ([] : (List Action)) ([(View.mk 3 ByteArray.empty ([] : (List Attr)) ([] : (List Action)) ([] : (List View)))]))]))]))]) rfl rfl rfl rfl rfl rfl rfl rfl rfl) (OkOps.nil (Ok.seq (Ok.region (OkOps.y (.agg [cI 1, cS ByteArray.empty, .d (.v (.slice none 0 0)), .d (.v (.slice none 0 0)), .tl 3 (List.map View.cs ([(View.mk 12 ByteArray.empty ([] : (List Attr)) ([] : (List Action)) ([(View.mk 1 ByteArray.empty ([] : (List Attr)) ([] : (List Action)) ([(View.mk 3 ByteArray.empty ([] : (List Attr)) ([] : (List Action)) ([] : (List View)))]))]))]))]) ?_))))))
  obtain ⟨x1, hx1, hr⟩ := bind_some hr
  refine OkOps.q (triCl (tau []) (.tup [.agg [cI x1.1.Root, cI x1.1.Next, .d (.sl (List.map Node.cs x1.1.Nodes))], aI x1.2]) [] (r14_Build_c _ _ hx1) rfl ⟨.inr rfl, .inl rfl, trivial⟩ trivial entry9 trivial) (OkOps.q (triMv (v := .tup [.agg [cI x1.1.Root, cI x1.1.Next, .d (.sl (List.map Node.cs x1.1.Nodes))], aI x1.2]) rfl rfl) (OkOps.y (.agg [cI x1.1.Root, cI x1.1.Next, .d (.sl (List.map Node.cs x1.1.Nodes))]) (OkOps.y (aI x1.2) (OkOps.m 0 (triAlloc (j := 5) (cs := [cI 0, cI 0, .d (.v (.slice none 0 0))]) rfl rfl rfl rfl) (OkOps.w (triStore (cs' := [cI x1.1.Root, cI x1.1.Next, .d (.sl (List.map Node.cs x1.1.Nodes))]) rfl rfl rfl rfl rfl rfl rfl rfl rfl) (OkOps.y (aI x1.2) (OkOps.nil (Ok.seq (Ok.regionD (by kernel_rfl) (OkD.x (.agg [cI x1.1.Root, cI x1.1.Next, .d (.sl (List.map Node.cs x1.1.Nodes))]) rfl trivial rfl (OkD.x (.agg [cI x1.1.Root, cI x1.1.Next, .d (.sl (List.map Node.cs x1.1.Nodes))]) rfl trivial rfl ?_)))))))))))
  obtain ⟨x2, hx2, hr⟩ := bind_some hr
  refine OkD.q (triCl (tau []) (.s (.c (.d (.sl (List.map Styled.cs x2))))) [] (l37_styles_c _ hx2) rfl ⟨.inl rfl, trivial⟩ trivial entry11 trivial) ?_
  obtain ⟨x3, hx3, hr⟩ := bind_some hr
  refine OkD.q (triCl (tau []) (.s (.c (.d (.sl (List.map (eInt .i64) x3))))) [] (ac_Exported_c _ _ hx3) rfl ⟨.inl rfl, .inl rfl, trivial⟩ trivial entry52 trivial) (OkD.m 0 (triBST (sz := 1) (enc := (eInt .i64)) (j := 6) ([1, 2, 4]) rfl rfl rfl rfl rfl rfl rfl rfl (fun _ => rfl) trivial rfl rfl) ?_)
  obtain ⟨x4, hx4, hr⟩ := bind_some hr
  refine OkD.q (triCl (tau []) (.s (aB x4)) [] (l37_sameInts_c _ _ hx4) rfl ⟨.inl rfl, .inr rfl, trivial⟩ trivial entry51 trivial) (OkD.x (aB x4) rfl trivial rfl (OkD.q (triQG (x := .agg [cI x1.1.Root, cI x1.1.Next, .d (.sl (List.map Node.cs x1.1.Nodes))]) rfl rfl trivial rfl) (OkD.q (triQG (x := .agg [cI x1.1.Root, cI x1.1.Next, .d (.sl (List.map Node.cs x1.1.Nodes))]) rfl rfl trivial rfl) ?_)))
  obtain ⟨x5, hx5, hr⟩ := bind_some hr
  refine OkD.q (triCallG (x := .c (.d (.sl (List.map Styled.cs x5)))) (fun hg => l37_styles_c _ (gO_t hx5 hg)) rfl rfl ⟨.inl rfl, trivial⟩ ⟨fun h => h, trivial⟩ entry11 rfl rfl rfl) ?_
  obtain ⟨x6, hx6, hr⟩ := bind_some hr
  refine OkD.q (triCallG (x := .c (.d (.sl (List.map (eInt .i64) x6)))) (fun hg => ac_Parents_c _ _ (gO_t hx6 hg)) rfl rfl ⟨.inl rfl, .inl rfl, trivial⟩ ⟨fun h => h, ⟨fun h => h, trivial⟩⟩ entry53 rfl rfl rfl) (OkD.q (triBSG (enc := (eInt .i64)) ([0, 1, 2]) rfl rfl rfl rfl rfl rfl rfl rfl rfl (fun _ => rfl) trivial rfl) ?_)
  obtain ⟨x7, hx7, hr⟩ := bind_some hr
  refine OkD.q (triCallG (x := aB x7) (fun hg => l37_sameInts_c _ _ (gO_t hx7 hg)) rfl rfl ⟨.inl rfl, .inl rfl, trivial⟩ ⟨fun h => h, ⟨fun h => h, trivial⟩⟩ entry51 rfl rfl rfl) (OkD.q (triAnd rfl rfl (fun h => h) rfl) (OkD.x (aB (x4 && x7)) rfl trivial rfl (OkD.nil (by kernel_rfl) (Ok.ret ?_))))
  obtain rfl := Option.some.inj hr
  exact ⟨_, rfl, .inl rfl, trivial⟩
theorem r24_Offset_c (l : (List Offset)) (id : Int) {r : Int} (hr : r24_Offset l id = some r) : Con Tryz.prog 13 [.c (.d (.sl (List.map Offset.cs l))), aI id] [] (.s (aI r)) [] := by
  unfold r24_Offset at hr
  refine Con.of_ok 24 0 [.tmp 4] [(0, .s (.c (.d (.sl (List.map Offset.cs l))))), (1, .s (aI id))] Tryz.func13 rfl rfl rfl rfl rfl rfl rfl rfl fun w g M ρ _ => (Ok.seq (Ok.region (OkOps.y (aI 0) (OkOps.nil ?_))))
  obtain ⟨k2, hk2, hr⟩ := jn_some hr
  refine Ok.join (fun (s1 : Unit) => ⟨[], [], 0⟩) k2 r (fun s1 hr => ?_) ?_
  rw [hk2] at hr
  refine Ok.seq (Ok.region (OkOps.y (aI 0) (OkOps.nil (Ok.ret ?_))))
  obtain rfl := Option.some.inj hr
  exact ⟨_, rfl, .inl rfl, trivial⟩
  clear hk2
  refine Ok.seq (Ok.region (OkOps.y (aI 0) (OkOps.nil (Ok.block (Ok.loopK (fun (s3 : Int) => ⟨[(0, .s (.c (.d (.sl (List.map Offset.cs l))))), (1, .s (aI id)), (5, .s (aI s3))], [], 0⟩) hr (Conv.mk (tau []) ⟨⟨_, rfl, .inl rfl⟩, ⟨_, rfl, .inl rfl⟩, ⟨_, rfl, .inl rfl⟩, trivial⟩ trivial rfl rfl rfl rfl) ?_)))))
  clear hr
  intro again4 s3 hr
  unfold r24_Offset_L1 at hr
  refine Ok.seq (Ok.seq (Ok.region (OkOps.y (aI s3) (OkOps.y (.c (.d (.sl (List.map Offset.cs l)))) (OkOps.q (triLen (enc := Offset.cs) l rfl rfl trivial rfl) (OkOps.y (aB (decide (s3 < (l.length : Int)))) (OkOps.nil ?_)))))))
  refine Ok.cond (b := decide (s3 < (l.length : Int))) rfl (fun h5 => ?_) (fun h5 => ?_)
  have hr := selT h5 hr
  refine Ok.skip (Ok.seq (Ok.block (Ok.seq (Ok.region (OkOps.y (.c (.d (.sl (List.map Offset.cs l)))) (OkOps.y (aI s3) ?_))))))
  obtain ⟨x6, hx6, hr⟩ := bind_some hr
  refine OkOps.q (triIdx (enc := Offset.cs) (L := l) (row := [dI x6.ID, dI x6.Y]) hx6 rfl rfl rfl rfl (fun _ => rfl) trivial rfl) (OkOps.y (.c (.pt [dI x6.ID, dI x6.Y])) (OkOps.y (aI x6.ID) (OkOps.y (aI id) (OkOps.y (aB (x6.ID == id)) (OkOps.nil ?_)))))
  refine Ok.cond (b := x6.ID == id) rfl (fun h7 => ?_) (fun h7 => ?_)
  have hr := selT h7 hr
  refine Ok.seq (Ok.region (OkOps.y (.c (.d (.sl (List.map Offset.cs l)))) (OkOps.y (aI s3) ?_)))
  obtain ⟨x8, hx8, hr⟩ := bind_some hr
  refine OkOps.q (triIdx (enc := Offset.cs) (L := l) (row := [dI x8.ID, dI x8.Y]) hx8 rfl rfl rfl rfl (fun _ => rfl) trivial rfl) (OkOps.y (.c (.pt [dI x8.Y])) (OkOps.y (aI x8.Y) (OkOps.y (aI x8.Y) (OkOps.nil (Ok.ret ?_)))))
  obtain rfl := Option.some.inj hr
  exact ⟨_, rfl, .inl rfl, trivial⟩
  have hr := selF h7 hr
  refine Ok.skip (Ok.region (OkOps.y (aI s3) (OkOps.y (aI (IntKind.i64.wrap (s3 + 1))) (OkOps.y (aI (IntKind.i64.wrap (s3 + 1))) (OkOps.nil ?_)))))
  exact ⟨IntKind.i64.wrap (s3 + 1), hr, (Conv.mk (tau []) ⟨⟨_, rfl, .inl rfl⟩, ⟨_, rfl, .inl rfl⟩, ⟨_, rfl, .inl rfl⟩, trivial⟩ trivial rfl rfl rfl rfl)⟩
  have hr := selF h5 hr
  refine Ok.exit ?_
  exact ⟨(), hr, (Conv.mk (tau []) trivial trivial rfl rfl rfl rfl)⟩
theorem l37_AccessibleScrolls_c (p_h : Int) (content : Int) (offset : Int) {r : Bool} (hr : l37_AccessibleScrolls p_h content offset = some r) : Con Tryz.prog 3 [.c (.d (.v (.int .u8 p_h))), .c (.d (.v (.int .u8 content))), .c (.d (.v (.int .i16 offset)))] [] (.s (aB r)) [] := by
  unfold l37_AccessibleScrolls at hr
  refine Con.of_ok 78 0 [.tmp 6] [(0, .s (.c (.d (.v (.int .u8 p_h))))), (1, .s (.c (.d (.v (.int .u8 content))))), (2, .s (.c (.d (.v (.int .i16 offset)))))] Tryz.func3 rfl rfl rfl rfl rfl rfl rfl rfl fun w g M ρ _ => (Ok.seq (Ok.region (OkOps.y (aB false) (OkOps.nil (Ok.seq (Ok.region (OkOps.y (.agg [cI 1, cS ByteArray.empty, .d (.v (.slice none 0 0)), .d (.v (.slice none 0 0)), .d (.v (.slice none 0 0))]) ?_)))))))
  refine OkOps.m 0 (triBST (sz := 5) (enc := View.cs) (j := 0) ([(View.mk 1 ByteArray.empty ([] : (List Attr)) ([] : (List Action)) ([] : (List View)))]) rfl rfl rfl rfl rfl (rows := [[dI 1, dS ByteArray.empty, .sl [], .sl [], .sl []]]) (by simp only [List.map, View.cs_eq]) rfl rfl (fun x => by rw [View.cs_eq]; rfl) trivial rfl rfl) ?_
  refine OkOps.y (.agg [cI 8, cS ByteArray.empty, .d (.v (.slice none 0 0)), .d (.v (.slice none 0 0)), .tl 0 (List.map View.cs ([(View.mk 1 ByteArray.empty ([] : (List Attr)) ([] : (List Action)) ([] : (List View)))]))]) (OkOps.m 0 (triAlloc (j := 1) (cs := [cI 0, cS ByteArray.empty, .d (.v (.slice none 0 0)), .d (.v (.slice none 0 0)), .d (.v (.slice none 0 0))]) rfl rfl rfl rfl) (OkOps.w (triStore (cs' := [cI 8, cS ByteArray.empty, .d (.v (.slice none 0 0)), .d (.v (.slice none 0 0)), .tl 0 (List.map View.cs ([(View.mk 1 ByteArray.empty ([] : (List Attr)) ([] : (List Action)) ([] : (List View)))]))]) rfl rfl rfl rfl rfl rfl rfl rfl rfl) (OkOps.nil (Ok.seq (Ok.region (OkOps.y (.agg [cI 8, cS ByteArray.empty, .d (.v (.slice none 0 0)), .d (.v (.slice none 0 0)), .tl 0 (List.map View.cs ([(View.mk 1 ByteArray.empty ([] : (List Attr)) ([] : (List Action)) ([] : (List View)))]))]) ?_))))))
  obtain ⟨x1, hx1, hr⟩ := bind_some hr
  refine OkOps.q (triCl (tau []) (.tup [.agg [cI x1.1.Root, cI x1.1.Next, .d (.sl (List.map Node.cs x1.1.Nodes))], aI x1.2]) [] (r14_Build_c _ _ hx1) rfl ⟨.inr rfl, .inl rfl, trivial⟩ trivial entry9 trivial) (OkOps.q (triMv (v := .tup [.agg [cI x1.1.Root, cI x1.1.Next, .d (.sl (List.map Node.cs x1.1.Nodes))], aI x1.2]) rfl rfl) (OkOps.y (.agg [cI x1.1.Root, cI x1.1.Next, .d (.sl (List.map Node.cs x1.1.Nodes))]) (OkOps.y (aI x1.2) (OkOps.m 0 (triAlloc (j := 2) (cs := [cI 0, cI 0, .d (.v (.slice none 0 0))]) rfl rfl rfl rfl) (OkOps.w (triStore (cs' := [cI x1.1.Root, cI x1.1.Next, .d (.sl (List.map Node.cs x1.1.Nodes))]) rfl rfl rfl rfl rfl rfl rfl rfl rfl) (OkOps.y (aI x1.2) (OkOps.nil (Ok.seq (Ok.region (OkOps.y (.c (.d (.v (.int .u8 p_h)))) (OkOps.y (aI (IntKind.i64.wrap p_h)) (OkOps.y (.agg [cI 0, cI 0, cI 10, cI (IntKind.i64.wrap p_h)]) (OkOps.y (.agg [cI 1, cI 0, cI 0, cI 10, cI (IntKind.i64.wrap p_h), cI 0, .d (.v (.slice none 0 0))]) (OkOps.y (.c (.d (.v (.int .u8 content)))) (OkOps.y (aI (IntKind.i64.wrap content)) ?_)))))))))))))))
  refine OkOps.y (.agg [cI 0, cI 0, cI 10, cI (IntKind.i64.wrap content)]) (OkOps.y (.agg [cI 2, cI 0, cI 0, cI 10, cI (IntKind.i64.wrap content), cI 0, .d (.v (.slice none 0 0))]) (OkOps.m 0 (triBST (sz := 7) (enc := Box.cs) (j := 3) ([(Box.mk 1 (Rect.mk 0 0 10 (IntKind.i64.wrap p_h)) 0 ([] : (List Line))), (Box.mk 2 (Rect.mk 0 0 10 (IntKind.i64.wrap content)) 0 ([] : (List Line)))]) rfl rfl rfl rfl rfl rfl rfl rfl (fun _ => rfl) trivial rfl rfl) (OkOps.y (.c (.tl 3 (List.map Box.cs ([(Box.mk 1 (Rect.mk 0 0 10 (IntKind.i64.wrap p_h)) 0 ([] : (List Line))), (Box.mk 2 (Rect.mk 0 0 10 (IntKind.i64.wrap content)) 0 ([] : (List Line)))])))) (OkOps.nil (Ok.seq (Ok.region (OkOps.y (.c (.d (.v (.int .i16 offset)))) (OkOps.y (aI (IntKind.i64.wrap offset)) (OkOps.y (.agg [cI 1, cI (IntKind.i64.wrap offset)]) (OkOps.m 0 (triBST (sz := 2) (enc := Offset.cs) (j := 4) ([(Offset.mk 1 (IntKind.i64.wrap offset))]) rfl rfl rfl rfl rfl rfl rfl rfl (fun _ => rfl) trivial rfl rfl) (OkOps.y (.c (.tl 4 (List.map Offset.cs ([(Offset.mk 1 (IntKind.i64.wrap offset))])))) (OkOps.nil (Ok.seq (Ok.regionD (by kernel_rfl) (OkD.x (.agg [cI x1.1.Root, cI x1.1.Next, .d (.sl (List.map Node.cs x1.1.Nodes))]) rfl trivial rfl ?_)))))))))))))))
  refine OkD.x (.agg [cI x1.1.Root, cI x1.1.Next, .d (.sl (List.map Node.cs x1.1.Nodes))]) rfl trivial rfl ?_
  obtain ⟨x2, hx2, hr⟩ := bind_some hr
  refine OkD.q (triCl (tau []) (.s (.c (.d (.sl (List.map Styled.cs x2))))) [] (l37_styles_c _ hx2) rfl ⟨.inl rfl, trivial⟩ trivial entry11 trivial) (OkD.x (.c (.tl 3 (List.map Box.cs ([(Box.mk 1 (Rect.mk 0 0 10 (IntKind.i64.wrap p_h)) 0 ([] : (List Line))), (Box.mk 2 (Rect.mk 0 0 10 (IntKind.i64.wrap content)) 0 ([] : (List Line)))])))) rfl trivial rfl (OkD.x (.c (.tl 4 (List.map Offset.cs ([(Offset.mk 1 (IntKind.i64.wrap offset))])))) rfl trivial rfl ?_))
  obtain ⟨x3, hx3, hr⟩ := bind_some hr
  refine OkD.q (triCl (tau []) (.s (aI x3)) [] (ac_Actions_c _ _ _ _ _ hx3) rfl ⟨.inl rfl, .inl rfl, .inr rfl, .inr rfl, .inl rfl, trivial⟩ trivial entry10 trivial) (OkD.x (aI x3) rfl trivial rfl (OkD.nil (by kernel_rfl) (Ok.seq (Ok.region (OkOps.y (aI x3) (OkOps.y (aI (bAnd .i64 x3 64)) (OkOps.y (aB ((bAnd .i64 x3 64) != 0)) (OkOps.y (.c (.d (.v (.int .i16 offset)))) (OkOps.y (aB (decide (offset > 0))) (OkOps.y (aB (((bAnd .i64 x3 64) != 0) == (decide (offset > 0)))) (OkOps.y (aB (((bAnd .i64 x3 64) != 0) == (decide (offset > 0)))) (OkOps.q (triQG (x := aI x3) rfl rfl trivial rfl) (OkOps.q (triQG (x := aI (bAnd .i64 x3 128)) rfl rfl ⟨fun h => h, trivial⟩ rfl) (OkOps.q (triQG (x := aB ((bAnd .i64 x3 128) != 0)) rfl rfl ⟨fun h => h, trivial⟩ rfl) (OkOps.q (triQG (x := .c (.d (.v (.int .i16 offset)))) rfl rfl trivial rfl) ?_)))))))))))))))
  refine OkOps.q (triQG (x := aI (IntKind.i64.wrap offset)) rfl rfl ⟨fun h => h, trivial⟩ rfl) (OkOps.q (triQG (x := .c (.d (.v (.int .u8 content)))) rfl rfl trivial rfl) (OkOps.q (triQG (x := aI (IntKind.i64.wrap content)) rfl rfl ⟨fun h => h, trivial⟩ rfl) (OkOps.q (triQG (x := .c (.d (.v (.int .u8 p_h)))) rfl rfl trivial rfl) (OkOps.q (triQG (x := aI (IntKind.i64.wrap p_h)) rfl rfl ⟨fun h => h, trivial⟩ rfl) (OkOps.q (triQG (x := aI (IntKind.i64.wrap ((IntKind.i64.wrap content) - (IntKind.i64.wrap p_h)))) rfl rfl ⟨fun h => h, ⟨fun h => h, trivial⟩⟩ rfl) (OkOps.q (triQG (x := aB (decide ((IntKind.i64.wrap offset) < (IntKind.i64.wrap ((IntKind.i64.wrap content) - (IntKind.i64.wrap p_h)))))) rfl rfl ⟨fun h => h, ⟨fun h => h, trivial⟩⟩ rfl) (OkOps.q (triQG (x := aB (((bAnd .i64 x3 128) != 0) == (decide ((IntKind.i64.wrap offset) < (IntKind.i64.wrap ((IntKind.i64.wrap content) - (IntKind.i64.wrap p_h))))))) rfl rfl ⟨fun h => h, ⟨fun h => h, trivial⟩⟩ rfl) (OkOps.q (triAnd rfl rfl (fun h => h) rfl) (OkOps.y (aB ((((bAnd .i64 x3 64) != 0) == (decide (offset > 0))) && (((bAnd .i64 x3 128) != 0) == (decide ((IntKind.i64.wrap offset) < (IntKind.i64.wrap ((IntKind.i64.wrap content) - (IntKind.i64.wrap p_h)))))))) (OkOps.q (triQG (x := .agg [cI x1.1.Root, cI x1.1.Next, .d (.sl (List.map Node.cs x1.1.Nodes))]) rfl rfl trivial rfl) (OkOps.q (triQG (x := .c (.tl 3 (List.map Box.cs ([(Box.mk 1 (Rect.mk 0 0 10 (IntKind.i64.wrap p_h)) 0 ([] : (List Line))), (Box.mk 2 (Rect.mk 0 0 10 (IntKind.i64.wrap content)) 0 ([] : (List Line)))])))) rfl rfl trivial rfl) ?_)))))))))))
  obtain ⟨x4, hx4, hr⟩ := bind_some hr
  refine OkOps.q (triCallG (x := aI x4) (fun hg => ac_Extent_c _ _ _ (gO_t hx4 hg)) rfl rfl ⟨.inl rfl, .inr rfl, .inl rfl, trivial⟩ ⟨fun h => h, ⟨fun h => h, trivial⟩⟩ entry12 rfl rfl rfl) (OkOps.q (triQG (x := .c (.d (.v (.int .u8 content)))) rfl rfl trivial rfl) (OkOps.q (triQG (x := aI (IntKind.i64.wrap content)) rfl rfl ⟨fun h => h, trivial⟩ rfl) (OkOps.q (triQG (x := aB (x4 == (IntKind.i64.wrap content))) rfl rfl ⟨fun h => h, ⟨fun h => h, trivial⟩⟩ rfl) (OkOps.q (triAnd rfl rfl (fun h => h) rfl) (OkOps.y (aB (((((bAnd .i64 x3 64) != 0) == (decide (offset > 0))) && (((bAnd .i64 x3 128) != 0) == (decide ((IntKind.i64.wrap offset) < (IntKind.i64.wrap ((IntKind.i64.wrap content) - (IntKind.i64.wrap p_h))))))) && (x4 == (IntKind.i64.wrap content)))) (OkOps.q (triQG (x := .c (.tl 4 (List.map Offset.cs ([(Offset.mk 1 (IntKind.i64.wrap offset))])))) rfl rfl trivial rfl) ?_))))))
  obtain ⟨x5, hx5, hr⟩ := bind_some hr
  refine OkOps.q (triCallG (x := aI x5) (fun hg => r24_Offset_c _ _ (gO_t hx5 hg)) rfl rfl ⟨.inr rfl, .inl rfl, trivial⟩ ⟨fun h => h, trivial⟩ entry13 rfl rfl rfl) (OkOps.q (triQG (x := .c (.d (.v (.int .i16 offset)))) rfl rfl trivial rfl) (OkOps.q (triQG (x := aI (IntKind.i64.wrap offset)) rfl rfl ⟨fun h => h, trivial⟩ rfl) (OkOps.q (triQG (x := aB (x5 == (IntKind.i64.wrap offset))) rfl rfl ⟨fun h => h, ⟨fun h => h, trivial⟩⟩ rfl) (OkOps.q (triAnd rfl rfl (fun h => h) rfl) (OkOps.y (aB ((((((bAnd .i64 x3 64) != 0) == (decide (offset > 0))) && (((bAnd .i64 x3 128) != 0) == (decide ((IntKind.i64.wrap offset) < (IntKind.i64.wrap ((IntKind.i64.wrap content) - (IntKind.i64.wrap p_h))))))) && (x4 == (IntKind.i64.wrap content))) && (x5 == (IntKind.i64.wrap offset)))) ?_)))))
  obtain ⟨x6, hx6, hr⟩ := bind_some hr
  refine OkOps.q (triCallG (x := aB x6) (fun hg => l37_awake_c  (gO_t hx6 hg)) rfl rfl trivial trivial entry14 rfl rfl rfl) (OkOps.q (triAnd rfl rfl (fun h => h) rfl) (OkOps.y (aB (((((((bAnd .i64 x3 64) != 0) == (decide (offset > 0))) && (((bAnd .i64 x3 128) != 0) == (decide ((IntKind.i64.wrap offset) < (IntKind.i64.wrap ((IntKind.i64.wrap content) - (IntKind.i64.wrap p_h))))))) && (x4 == (IntKind.i64.wrap content))) && (x5 == (IntKind.i64.wrap offset))) && x6)) (OkOps.nil (Ok.ret ?_))))
  obtain rfl := Option.some.inj hr
  exact ⟨_, rfl, .inl rfl, trivial⟩
end Go.Proofs.YtfoigppmcelgfaaGreatDoor
end
section
namespace Go.E2
open Go
@[simp] theorem sel_true {α : Type} (a b : α) : sel true a b = a := rfl
@[simp] theorem sel_false {α : Type} (a b : α) : sel false a b = b := rfl
@[simp] theorem gO_true {α : Type} [Inhabited α] (o : Option α) : gO true o = o := rfl
@[simp] theorem gO_false {α : Type} [Inhabited α] (o : Option α) : gO false o = some default := rfl
@[simp] theorem bind_some' {α β : Type} (x : α) (k : α → Option β) : (some x).bind k = k x := rfl
@[simp] theorem jn_eq {S R : Type} (k : S → Option R) (b : (S → Option R) → Option R) : jn k b = b k := rfl
end Go.E2
end
section
namespace Go.E2
open Go
theorem bindN {α β : Type} (x : α) (k : α → Option β) : (some x).bind k = k x := id rfl
instance : LawfulBEq ByteArray where
  eq_of_beq := by
    intro a b h
    have h' : (a.data == b.data) = true := h
    have := eq_of_beq h'
    cases a; cases b; simp_all
  rfl := by
    intro a
    show (a.data == a.data) = true
    exact beq_self_eq_true _
end Go.E2
end
section
set_option maxRecDepth 100000
namespace Go.Proofs.YtfoigppmcelgfaaGreatDoor
open Go Go.E2
theorem awake37_true : l37_awake = some true := by kernel_rfl
def scT : Tree := ((r14_Build (View.mk 8 ByteArray.empty ([] : (List Attr)) ([] : (List Action)) ([(View.mk 1 ByteArray.empty ([] : (List Attr)) ([] : (List Action)) ([] : (List View)))])) 1).getD default).1
def scS : List Styled := (l37_styles scT).getD default
theorem scT_ok : r14_Build (View.mk 8 ByteArray.empty ([] : (List Attr)) ([] : (List Action)) ([(View.mk 1 ByteArray.empty ([] : (List Attr)) ([] : (List Action)) ([] : (List View)))])) 1 = some (scT, 0) := by kernel_rfl
theorem scS_ok : l37_styles scT = some scS := by kernel_rfl
theorem sc_ext (h c : Int) : ac_Extent scT [(Box.mk 1 (Rect.mk 0 0 10 h) 0 ([] : (List Line))), (Box.mk 2 (Rect.mk 0 0 10 c) 0 ([] : (List Line)))] 1 = some (mxI 0 (IntKind.i64.wrap (0 + c))) := by kernel_rfl
theorem sc_act (h c o : Int) : ac_Actions scT scS [(Box.mk 1 (Rect.mk 0 0 10 h) 0 ([] : (List Line))), (Box.mk 2 (Rect.mk 0 0 10 c) 0 ([] : (List Line)))] [⟨1, o⟩] 1 = (ac_Actions_1 64 (true && (decide (o > 0))) 0).bind fun x28 => (ac_Actions_1 128 (true && (decide (o < (IntKind.i64.wrap ((mxI 0 (IntKind.i64.wrap (0 + c))) - h))))) x28).bind fun x30 => some x30 := by kernel_rfl
theorem sc_off (o : Int) : r24_Offset [⟨1, o⟩] 1 = some o := by kernel_rfl
theorem scrolls_true (h c o : Int) (hh : (Lit.int .u8 h).wf = true) (hc : (Lit.int .u8 c).wf = true) (ho : (Lit.int .i16 o).wf = true) : l37_AccessibleScrolls h c o = some true := by
  have h0 : ∀ {x : Int}, (Lit.int .u8 x).wf = true → 0 ≤ x ∧ x < 256 := fun {x} h => by
    simp only [Lit.wf, Bool.and_eq_true, decide_eq_true_eq] at h
    have : IntKind.u8.max = 255 := by decide
    have : IntKind.u8.min = 0 := by decide
    omega
  have h1 : -32768 ≤ o ∧ o < 32768 := by
    simp only [Lit.wf, Bool.and_eq_true, decide_eq_true_eq] at ho
    have : IntKind.i16.max = 32767 := by decide
    have : IntKind.i16.min = -32768 := by decide
    omega
  obtain ⟨a0, a1⟩ := h0 hh
  obtain ⟨b0, b1⟩ := h0 hc
  have wr : ∀ x : Int, -100000 ≤ x → x < 100000 → IntKind.i64.wrap x = x := fun x a b => by rw [IntKind.wrap_i64]; omega
  unfold l37_AccessibleScrolls
  rw [wr h (by omega) (by omega), wr c (by omega) (by omega), wr o (by omega) (by omega), scT_ok, bindN, scS_ok, bindN]
  simp only [sc_act, sc_ext, sc_off]
  have e : mxI 0 (IntKind.i64.wrap (0 + c)) = c := by rw [wr _ (by omega) (by omega)]; unfold mxI; omega
  rw [e, wr (c - h) (by omega) (by omega)]
  unfold ac_Actions_1
  have A1 : bAnd .i64 (bOr .i64 (bOr .i64 0 64) 128) 64 = 64 := by kernel_rfl
  have A2 : bAnd .i64 (bOr .i64 (bOr .i64 0 64) 128) 128 = 128 := by kernel_rfl
  have B1 : bAnd .i64 (bOr .i64 0 64) 64 = 64 := by kernel_rfl
  have B2 : bAnd .i64 (bOr .i64 0 64) 128 = 0 := by kernel_rfl
  have C1 : bAnd .i64 (bOr .i64 0 128) 64 = 0 := by kernel_rfl
  have C2 : bAnd .i64 (bOr .i64 0 128) 128 = 128 := by kernel_rfl
  have D1 : bAnd .i64 0 64 = 0 := by kernel_rfl
  have D2 : bAnd .i64 0 128 = 0 := by kernel_rfl
  by_cases p : o > 0 <;> by_cases q : o < c - h
  · rw [decide_eq_true p, decide_eq_true q, awake37_true]; simp [A1, A2]
  · rw [decide_eq_true p, decide_eq_false q, awake37_true]; simp [B1, B2]
  · rw [decide_eq_false p, decide_eq_true q, awake37_true]; simp [C1, C2]
  · rw [decide_eq_false p, decide_eq_false q, awake37_true]; simp [D1, D2]
end Go.Proofs.YtfoigppmcelgfaaGreatDoor
end

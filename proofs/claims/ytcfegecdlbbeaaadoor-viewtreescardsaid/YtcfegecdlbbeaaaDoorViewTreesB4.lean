/-
  Part 4 of the texts under the law ViewTrees: the calculus, the plain functions, their walks, plain facts.
-/
import Derived.Test.YtcfegecdlbbeaaaDoorViewTreesB3
import Derived.Test.YtcfegecdlbbeaaaDoorProg
import Derived.KernelRfl
section
set_option maxRecDepth 100000
namespace Go.Proofs.YtcfegecdlbbeaaaDoor
open Go Go.E2
theorem entry58 : Entry Tryd.prog 58 := ⟨_, Tryd.func58, by kernel_rfl, by kernel_rfl⟩
theorem vw_Build_1_B_c (self0 : View → Int → Tree → Option (Int × Tree)) (hself0 : ∀ (v : View) (parent : Int) (c0 : Tree) {r : Int × Tree}, self0 v parent c0 = some r → Con Tryd.prog 58 [.agg [cI v.Kind, cS v.Key, .d (.sl (List.map Attr.cs v.Attrs)), .d (.sl (List.map Action.cs v.Actions)), .d (.sl (List.map View.cs v.Kids))], aI parent, .c (.loc 0 0), .c (.loc 2 0)] [(0, .blk [cI c0.Root, cI c0.Next, .own 1] 51), (1, .vec 7 (List.map Node.cs c0.Nodes)), (2, .blk [.fn 58 [(0, 0), (2, 0)]] 93)] (.s (aI r.1)) [(0, .blk [cI r.2.Root, cI r.2.Next, .own 3000] 51), (2, .blk [.fn 58 [(0, 0), (2, 0)]] 93), (1, .dead), (3000, .vec 7 (List.map Node.cs r.2.Nodes))]) (v : View) (parent : Int) (c0 : Tree) {r : Int × Tree} (hr : vw_Build_1_B self0 v parent c0 = some r) : Con Tryd.prog 58 [.agg [cI v.Kind, cS v.Key, .d (.sl (List.map Attr.cs v.Attrs)), .d (.sl (List.map Action.cs v.Actions)), .d (.sl (List.map View.cs v.Kids))], aI parent, .c (.loc 0 0), .c (.loc 2 0)] [(0, .blk [cI c0.Root, cI c0.Next, .own 1] 51), (1, .vec 7 (List.map Node.cs c0.Nodes)), (2, .blk [.fn 58 [(0, 0), (2, 0)]] 93)] (.s (aI r.1)) [(0, .blk [cI r.2.Root, cI r.2.Next, .own 3000] 51), (2, .blk [.fn 58 [(0, 0), (2, 0)]] 93), (1, .dead), (3000, .vec 7 (List.map Node.cs r.2.Nodes))] := by
  unfold vw_Build_1_B at hr
  refine Con.of_ok 67 0 [.tmp 6] [(0, .s (.agg [cI v.Kind, cS v.Key, .d (.sl (List.map Attr.cs v.Attrs)), .d (.sl (List.map Action.cs v.Actions)), .d (.sl (List.map View.cs v.Kids))])), (1, .s (aI parent)), (2, .s (.c (.loc 0 0))), (3, .s (.c (.loc 2 0)))] Tryd.func58 rfl rfl rfl rfl rfl rfl rfl rfl fun w g M ρ _ => (Ok.seq (Ok.region (OkOps.m 0 (triBox (j := 3) (cs := [cI v.Kind, cS v.Key, .d (.sl (List.map Attr.cs v.Attrs)), .d (.sl (List.map Action.cs v.Actions)), .d (.sl (List.map View.cs v.Kids))]) rfl rfl rfl rfl rfl) (OkOps.x (aI 0) rfl trivial rfl (OkOps.nil (Ok.seq (Ok.regionD (by kernel_rfl) (OkD.x (.c (.loc 0 1)) rfl trivial rfl (OkD.x (aI c0.Next) rfl trivial rfl (OkD.x (.c (.loc 0 2)) rfl trivial rfl (OkD.x (.c (.own 1)) rfl trivial rfl (OkD.q (triLenV (enc := Node.cs) c0.Nodes rfl rfl rfl rfl) (OkD.x (aI c0.Next) rfl trivial rfl (OkD.x (aI (c0.Nodes.length : Int)) rfl trivial rfl (OkD.nil (by kernel_rfl) ?_)))))))))))))))
  refine Ok.seq (Ok.region (OkOps.x (.c (.loc 0 1)) rfl trivial rfl (OkOps.x (aI c0.Next) rfl trivial rfl (OkOps.x (aI (IntKind.i64.wrap (c0.Next + 1))) rfl trivial rfl (OkOps.x (.c (.loc 0 1)) rfl trivial rfl (OkOps.w (triStore (cs' := [cI c0.Root, cI (IntKind.i64.wrap (c0.Next + 1)), .own 1]) rfl rfl rfl rfl rfl rfl rfl rfl rfl) (OkOps.nil (Ok.seq (Ok.region (OkOps.x (.c (.loc 3 2)) rfl trivial rfl (OkOps.x (.c (.d (.sl (List.map Attr.cs v.Attrs)))) rfl trivial rfl (OkOps.x (.c (.loc 3 3)) rfl trivial rfl (OkOps.x (.c (.d (.sl (List.map Action.cs v.Actions)))) rfl trivial rfl ?_)))))))))))))
  obtain ⟨x1, hx1, hr⟩ := bind_some hr
  refine OkOps.q (triCall (tau []) (.tup [.c (.d (.sl (List.map Attr.cs x1.1))), .c (.d (.sl (List.map Action.cs x1.2)))]) [] (vw_copied_c _ _ hx1) rfl ⟨.inl rfl, .inl rfl, trivial⟩ trivial entry59 trivial rfl rfl rfl rfl trivial rfl rfl rfl) (OkOps.q (triMv (v := .tup [.c (.d (.sl (List.map Attr.cs x1.1))), .c (.d (.sl (List.map Action.cs x1.2)))]) rfl rfl) (OkOps.x (.c (.d (.sl (List.map Attr.cs x1.1)))) rfl trivial rfl (OkOps.x (.c (.d (.sl (List.map Action.cs x1.2)))) rfl trivial rfl (OkOps.x (.c (.d (.sl (List.map Attr.cs x1.1)))) rfl trivial rfl (OkOps.x (.c (.d (.sl (List.map Action.cs x1.2)))) rfl trivial rfl (OkOps.nil (Ok.seq (Ok.region (OkOps.x (.c (.loc 0 2)) rfl trivial rfl (OkOps.x (.c (.own 1)) rfl trivial rfl (OkOps.x (aI c0.Next) rfl trivial rfl (OkOps.x (aI parent) rfl trivial rfl (OkOps.x (.c (.loc 3 0)) rfl trivial rfl (OkOps.x (aI v.Kind) rfl trivial rfl (OkOps.x (.c (.loc 3 1)) rfl trivial rfl ?_)))))))))))))))
  refine OkOps.x (aS v.Key) rfl trivial rfl (OkOps.x (.c (.d (.sl (List.map Attr.cs x1.1)))) rfl trivial rfl (OkOps.x (.c (.d (.sl (List.map Action.cs x1.2)))) rfl trivial rfl (OkOps.x (.agg [cI c0.Next, cI parent, cI v.Kind, cS v.Key, .d (.sl (List.map Attr.cs x1.1)), .d (.sl (List.map Action.cs x1.2)), .d (.v (.slice none 0 0))]) rfl trivial rfl (OkOps.m 0 (triBST (sz := 7) (enc := Node.cs) (j := 4) ([(Node.mk c0.Next parent v.Kind v.Key x1.1 x1.2 ([] : (List Int)))]) rfl rfl rfl rfl rfl rfl rfl rfl (fun _ => rfl) trivial rfl rfl) ?_))))
  obtain ⟨x2, hx2, hr⟩ := bind_some hr
  refine OkOps.m2 0 (triAppV (enc := Node.cs) (L := c0.Nodes) (X := [(Node.mk c0.Next parent v.Kind v.Key x1.1 x1.2 ([] : (List Int)))]) (j := 1) (j' := 5) hx2 rfl rfl rfl rfl rfl rfl (fun _ => rfl) (fun _ => rfl) trivial rfl rfl) (OkOps.x (.c (.loc 0 2)) rfl trivial rfl (OkOps.w (triStoreF (cs' := [cI c0.Root, cI (IntKind.i64.wrap (c0.Next + 1)), .own 5]) rfl rfl rfl rfl rfl rfl rfl rfl) (OkOps.nil (Ok.seq (Ok.region (OkOps.x (.c (.d (.v (.slice none 0 0)))) rfl trivial rfl (OkOps.nil ?_)))))))
  obtain ⟨k4, hk4, hr⟩ := jn_some hr
  refine Ok.join (fun (s3 : (List Int) × Int × Int × (List Node)) => ⟨[(2, .s (.c (.loc 0 0))), (7, .s (aI c0.Next)), (8, .s (aI (c0.Nodes.length : Int))), (11, .s (.c (.tl 1007 (List.map (eInt .i64) s3.1))))], [(0, .blk [cI s3.2.1, cI s3.2.2.1, .own 1008] 51), (1, .dead), (2, .blk [.fn 58 [(0, 0), (2, 0)]] 93), (1007, .tail 1), (1008, .vec 7 (List.map Node.cs s3.2.2.2))], 0⟩) k4 r (fun s3 hr => ?_) ?_
  rw [hk4] at hr
  refine Ok.seq (Ok.region (OkOps.x (.c (.loc 0 2)) rfl trivial rfl (OkOps.x (.c (.own 1008)) rfl trivial rfl (OkOps.x (aI (c0.Nodes.length : Int)) rfl trivial rfl (OkOps.x (.c (.tl 1007 (List.map (eInt .i64) s3.1))) rfl trivial rfl ?_)))))
  obtain ⟨x5, hx5, hr⟩ := bind_some hr
  refine OkOps.q (triIdxV (enc := Node.cs) (L := s3.2.2.2) hx5 rfl rfl rfl rfl trivial rfl) (OkOps.q (triFldV (o := 6) (enc := Node.cs) (L := s3.2.2.2) rfl rfl rfl (by have := (ixO_spec hx5).2; omega) rfl) ?_)
  obtain ⟨x6, hx6, hr⟩ := bind_some hr
  refine OkOps.w (triStoreVF (n := 1) (enc := Node.cs) (L := s3.2.2.2) (z := (Node.mk x6.ID x6.Parent x6.Kind x6.Key x6.Attrs x6.Actions s3.1)) hx6 rfl rfl rfl rfl rfl rfl rfl rfl (by decide) (fun _ => rfl) rfl) (OkOps.nil (Ok.seq (Ok.region (OkOps.x (aI c0.Next) rfl trivial rfl (OkOps.x (aI c0.Next) rfl trivial rfl (OkOps.nil (Ok.conv (T := ⟨[(6, .s (aI c0.Next))], [(0, .blk [cI s3.2.1, cI s3.2.2.1, .own 3000] 51), (1, .dead), (2, .blk [.fn 58 [(0, 0), (2, 0)]] 93), (3000, .vec 7 (List.map Node.cs (List.set s3.2.2.2 x5 (Node.mk x6.ID x6.Parent x6.Kind x6.Key x6.Attrs x6.Actions s3.1))))], 0⟩) (Conv.mk (tau [(3000, 1008)]) ⟨⟨_, rfl, .inl rfl⟩, trivial⟩ ⟨rfl, rfl, rfl, trivial⟩ rfl rfl rfl rfl) (Ok.ret ?_))))))))
  obtain rfl := Option.some.inj hr
  exact ⟨_, rfl, .inl rfl, ⟨rfl, rfl, (fun h => by cases h), rfl, trivial⟩⟩
  clear hk4
  refine Ok.seq (Ok.region (OkOps.x (.c (.loc 3 4)) rfl trivial rfl (OkOps.x (.c (.d (.sl (List.map View.cs v.Kids)))) rfl trivial rfl (OkOps.q (triLen (enc := View.cs) v.Kids rfl rfl trivial rfl) (OkOps.x (aI 0) rfl trivial rfl (OkOps.nil (Ok.block (Ok.loopK (fun (s7 : (List Int) × Int × Int × Int × (List Node)) => ⟨[(2, .s (.c (.loc 0 0))), (3, .s (.c (.loc 2 0))), (7, .s (aI c0.Next)), (8, .s (aI (c0.Nodes.length : Int))), (11, .s (.c (.tl 1012 (List.map (eInt .i64) s7.1)))), (46, .s (.c (.d (.sl (List.map View.cs v.Kids))))), (47, .s (aI (v.Kids.length : Int))), (48, .s (aI s7.2.1))], [(0, .blk [cI s7.2.2.1, cI s7.2.2.2.1, .own 1013] 51), (1, .dead), (2, .blk [.fn 58 [(0, 0), (2, 0)]] 93), (1012, .tail 1), (1013, .vec 7 (List.map Node.cs s7.2.2.2.2))], 0⟩) hr (Conv.trans (Conv.nil 11 1016 1 0 rfl rfl) (Conv.mk (tau [(1012, 1016), (1013, 5)]) ⟨⟨_, rfl, .inl rfl⟩, ⟨_, rfl, .inl rfl⟩, ⟨_, rfl, .inl rfl⟩, ⟨_, rfl, .inl rfl⟩, ⟨_, rfl, .inl rfl⟩, ⟨_, rfl, .inl rfl⟩, ⟨_, rfl, .inl rfl⟩, ⟨_, rfl, .inl rfl⟩, trivial⟩ ⟨rfl, rfl, rfl, rfl, trivial⟩ rfl rfl rfl rfl)) ?_))))))))
  clear hr
  intro again8 s7 hr
  unfold vw_Build_1_L1 at hr
  refine Ok.seq (Ok.region (OkOps.x (aB (decide (s7.2.1 < (v.Kids.length : Int)))) rfl trivial rfl (OkOps.nil (Ok.seq ?_))))
  refine Ok.cond (b := decide (s7.2.1 < (v.Kids.length : Int))) rfl (fun h9 => ?_) (fun h9 => ?_)
  have hr := selT h9 hr
  refine Ok.skip (Ok.seq (Ok.block (Ok.seq (Ok.region ?_))))
  obtain ⟨x10, hx10, hr⟩ := bind_some hr
  refine OkOps.q (triIdx (enc := View.cs) (L := v.Kids) (row := [dI x10.Kind, dS x10.Key, .sl (List.map Attr.cs x10.Attrs), .sl (List.map Action.cs x10.Actions), .sl (List.map View.cs x10.Kids)]) hx10 (View.cs_eq _) rfl rfl rfl (fun x => by rw [View.cs_eq]; rfl) trivial rfl) ?_
  refine OkOps.x (.agg [cI x10.Kind, cS x10.Key, .d (.sl (List.map Attr.cs x10.Attrs)), .d (.sl (List.map Action.cs x10.Actions)), .d (.sl (List.map View.cs x10.Kids))]) rfl trivial rfl (OkOps.m 0 (triAlloc (j := 6) (cs := [cI 0, cS ByteArray.empty, .d (.v (.slice none 0 0)), .d (.v (.slice none 0 0)), .d (.v (.slice none 0 0))]) rfl rfl rfl rfl) (OkOps.w (triStore (cs' := [cI x10.Kind, cS x10.Key, .d (.sl (List.map Attr.cs x10.Attrs)), .d (.sl (List.map Action.cs x10.Actions)), .d (.sl (List.map View.cs x10.Kids))]) rfl rfl rfl rfl rfl rfl rfl rfl rfl) (OkOps.nil (Ok.region (OkOps.x (.c (.tl 1012 (List.map (eInt .i64) s7.1))) rfl trivial rfl (OkOps.x (.c (.fn 58 [(0, 0), (2, 0)])) rfl trivial rfl (OkOps.x (.agg [cI x10.Kind, cS x10.Key, .d (.sl (List.map Attr.cs x10.Attrs)), .d (.sl (List.map Action.cs x10.Actions)), .d (.sl (List.map View.cs x10.Kids))]) rfl trivial rfl (OkOps.x (aI c0.Next) rfl trivial rfl ?_))))))))
  obtain ⟨x11, hx11, hr⟩ := bind_some hr
  refine OkOps.wq [(0, .blk [cI x11.2.Root, cI x11.2.Next, .own 7] 51), (2, .blk [.fn 58 [(0, 0), (2, 0)]] 93), (1013, .dead), (7, .vec 7 (List.map Node.cs x11.2.Nodes))] (triCallF (caps := [(0, 0), (2, 0)]) (tau [(0, 0), (1, 1013), (2, 2), (3000, 7)]) (.s (aI x11.1)) [(0, .blk [cI x11.2.Root, cI x11.2.Next, .own 7] 51), (2, .blk [.fn 58 [(0, 0), (2, 0)]] 93), (1013, .dead), (7, .vec 7 (List.map Node.cs x11.2.Nodes))] rfl (hself0 _ _ _ hx11) rfl ⟨.inl rfl, .inl rfl, .inl rfl, .inl rfl, trivial⟩ trivial entry58 ⟨rfl, rfl, rfl, trivial⟩ rfl rfl rfl rfl ⟨rfl, trivial⟩ rfl rfl rfl) (OkOps.m 0 (triBST (sz := 1) (enc := (eInt .i64)) (j := 8) ([x11.1]) rfl rfl rfl rfl rfl rfl rfl rfl (fun _ => rfl) trivial rfl rfl) ?_)
  obtain ⟨x12, hx12, hr⟩ := bind_some hr
  refine OkOps.m2 0 (triApp (enc := (eInt .i64)) (L := s7.1) (X := [x11.1]) (j := 1012) (j' := 9) hx12 rfl rfl rfl rfl rfl rfl (fun _ => rfl) (fun _ => rfl) (by decide) trivial rfl rfl) (OkOps.x (.c (.tl 9 (List.map (eInt .i64) x12))) rfl trivial rfl (OkOps.nil (Ok.region (OkOps.x (aI (IntKind.i64.wrap (s7.2.1 + 1))) rfl trivial rfl (OkOps.x (aI (IntKind.i64.wrap (s7.2.1 + 1))) rfl trivial rfl (OkOps.nil ?_))))))
  exact ⟨(x12, IntKind.i64.wrap (s7.2.1 + 1), x11.2.Root, x11.2.Next, x11.2.Nodes), hr, (Conv.mk (tau [(1012, 9), (1013, 7)]) ⟨⟨_, rfl, .inl rfl⟩, ⟨_, rfl, .inl rfl⟩, ⟨_, rfl, .inl rfl⟩, ⟨_, rfl, .inl rfl⟩, ⟨_, rfl, .inl rfl⟩, ⟨_, rfl, .inl rfl⟩, ⟨_, rfl, .inl rfl⟩, ⟨_, rfl, .inl rfl⟩, trivial⟩ ⟨rfl, rfl, rfl, rfl, trivial⟩ rfl rfl rfl rfl)⟩
  have hr := selF h9 hr
  refine Ok.exit ?_
  exact ⟨(s7.1, s7.2.2.1, s7.2.2.2.1, s7.2.2.2.2), hr, (Conv.mk (tau [(1007, 1012), (1008, 1013)]) ⟨⟨_, rfl, .inl rfl⟩, ⟨_, rfl, .inl rfl⟩, ⟨_, rfl, .inl rfl⟩, ⟨_, rfl, .inl rfl⟩, trivial⟩ ⟨rfl, rfl, rfl, rfl, trivial⟩ rfl rfl rfl rfl)⟩
theorem vw_Build_1_all : ∀ n : Nat, (∀ (v : View) (parent : Int) (c0 : Tree) {r : Int × Tree}, vw_Build_1 n v parent c0 = some r → Con Tryd.prog 58 [.agg [cI v.Kind, cS v.Key, .d (.sl (List.map Attr.cs v.Attrs)), .d (.sl (List.map Action.cs v.Actions)), .d (.sl (List.map View.cs v.Kids))], aI parent, .c (.loc 0 0), .c (.loc 2 0)] [(0, .blk [cI c0.Root, cI c0.Next, .own 1] 51), (1, .vec 7 (List.map Node.cs c0.Nodes)), (2, .blk [.fn 58 [(0, 0), (2, 0)]] 93)] (.s (aI r.1)) [(0, .blk [cI r.2.Root, cI r.2.Next, .own 3000] 51), (2, .blk [.fn 58 [(0, 0), (2, 0)]] 93), (1, .dead), (3000, .vec 7 (List.map Node.cs r.2.Nodes))]) ∧ True := by
  intro n
  induction n with
  | zero => exact ⟨(by intros; rename_i hr; cases hr), trivial⟩
  | succ n ih => exact ⟨(by intros; rename_i hr; exact vw_Build_1_B_c _ ih.1 _ _ _ hr), trivial⟩
theorem vw_Build_1_c (n : Nat) (v : View) (parent : Int) (c0 : Tree) {r : Int × Tree} (hr : vw_Build_1 n v parent c0 = some r) : Con Tryd.prog 58 [.agg [cI v.Kind, cS v.Key, .d (.sl (List.map Attr.cs v.Attrs)), .d (.sl (List.map Action.cs v.Actions)), .d (.sl (List.map View.cs v.Kids))], aI parent, .c (.loc 0 0), .c (.loc 2 0)] [(0, .blk [cI c0.Root, cI c0.Next, .own 1] 51), (1, .vec 7 (List.map Node.cs c0.Nodes)), (2, .blk [.fn 58 [(0, 0), (2, 0)]] 93)] (.s (aI r.1)) [(0, .blk [cI r.2.Root, cI r.2.Next, .own 3000] 51), (2, .blk [.fn 58 [(0, 0), (2, 0)]] 93), (1, .dead), (3000, .vec 7 (List.map Node.cs r.2.Nodes))] := (vw_Build_1_all n).1 v parent c0 hr
theorem vw_Build_c (v : View) (next : Int) {r : Tree × Int} (hr : vw_Build v next = some r) : Con Tryd.prog 26 [.agg [cI v.Kind, cS v.Key, .d (.sl (List.map Attr.cs v.Attrs)), .d (.sl (List.map Action.cs v.Actions)), .d (.sl (List.map View.cs v.Kids))], aI next] [] (.tup [.agg [cI r.1.Root, cI r.1.Next, .d (.sl (List.map Node.cs r.1.Nodes))], aI r.2]) [] := by
  unfold vw_Build at hr
  refine Con.of_ok 30 0 [.cell 4 51, .tmp 5] [(0, .s (.agg [cI v.Kind, cS v.Key, .d (.sl (List.map Attr.cs v.Attrs)), .d (.sl (List.map Action.cs v.Actions)), .d (.sl (List.map View.cs v.Kids))])), (1, .s (aI next))] Tryd.func26 rfl rfl rfl rfl rfl rfl rfl rfl fun w g M ρ _ => (Ok.seq (Ok.region (OkOps.m 0 (triBox (j := 0) (cs := [cI v.Kind, cS v.Key, .d (.sl (List.map Attr.cs v.Attrs)), .d (.sl (List.map Action.cs v.Actions)), .d (.sl (List.map View.cs v.Kids))]) rfl rfl rfl rfl rfl) (OkOps.m 0 (triAlloc (j := 1) (cs := [cI 0, cI 0, .d (.v (.slice none 0 0))]) rfl rfl rfl rfl) (OkOps.x (aI 0) rfl trivial rfl (OkOps.nil (Ok.seq (Ok.seq (Ok.region (OkOps.x (.agg [cI v.Kind, cS v.Key, .d (.sl (List.map Attr.cs v.Attrs)), .d (.sl (List.map Action.cs v.Actions)), .d (.sl (List.map View.cs v.Kids))]) rfl trivial rfl ?_))))))))))
  obtain ⟨x1, hx1, hr⟩ := bind_some hr
  refine OkOps.q (triCall (tau []) (.s (aI x1)) [] (vw_Validate_c _ hx1) rfl ⟨.inl rfl, trivial⟩ trivial entry17 trivial rfl rfl rfl rfl trivial rfl rfl rfl) (OkOps.x (aI x1) rfl trivial rfl (OkOps.nil (Ok.seq (Ok.region (OkOps.x (aI x1) rfl trivial rfl (OkOps.x (aB (x1 != 0)) rfl trivial rfl (OkOps.nil ?_)))))))
  refine Ok.cond (b := x1 != 0) rfl (fun h2 => ?_) (fun h2 => ?_)
  have hr := selT h2 hr
  refine Ok.seq (Ok.region (OkOps.x (.agg [cI 0, cI 0, .d (.v (.slice none 0 0))]) rfl trivial rfl (OkOps.x (aI x1) rfl trivial rfl (OkOps.w (triStore (cs' := [cI 0, cI 0, .d (.v (.slice none 0 0))]) rfl rfl rfl rfl rfl rfl rfl rfl rfl) (OkOps.x (aI x1) rfl trivial rfl (OkOps.nil (Ok.ret ?_)))))))
  obtain rfl := Option.some.inj hr
  exact ⟨_, rfl, .inr rfl, trivial⟩
  have hr := selF h2 hr
  refine Ok.skip (Ok.seq (Ok.seq (Ok.region (OkOps.x (aI next) rfl trivial rfl (OkOps.x (aB (decide (next < 1))) rfl trivial rfl (OkOps.x (aB (decide (next < 1))) rfl trivial rfl (OkOps.q (triQG (x := aI next) rfl rfl trivial rfl) (OkOps.q (triQG (x := aB (decide (next > 1099511627376))) rfl rfl ⟨fun h => h, trivial⟩ rfl) ?_))))))))
  refine OkOps.q (triOr rfl rfl (fun h => by rw [h]; rfl) rfl) ?_
  refine OkOps.nil ?_
  refine Ok.cond (b := (decide (next < 1)) || (decide (next > 1099511627376))) rfl (fun h3 => ?_) (fun h3 => ?_)
  have hr := selT h3 hr
  refine Ok.seq (Ok.region (OkOps.x (.agg [cI 0, cI 0, .d (.v (.slice none 0 0))]) rfl trivial rfl (OkOps.w (triStore (cs' := [cI 0, cI 0, .d (.v (.slice none 0 0))]) rfl rfl rfl rfl rfl rfl rfl rfl rfl) (OkOps.x (aI 1) rfl trivial rfl (OkOps.nil (Ok.ret ?_))))))
  obtain rfl := Option.some.inj hr
  exact ⟨_, rfl, .inr rfl, trivial⟩
  have hr := selF h3 hr
  refine Ok.skip (Ok.seq (Ok.region (OkOps.x (aI next) rfl trivial rfl (OkOps.x (aI next) rfl trivial rfl (OkOps.x (.agg [cI next, cI next, .d (.v (.slice none 0 0))]) rfl trivial rfl (OkOps.m 0 (triAlloc (j := 2) (cs := [cI 0, cI 0, .d (.v (.slice none 0 0))]) rfl rfl rfl rfl) (OkOps.w (triStore (cs' := [cI next, cI next, .d (.v (.slice none 0 0))]) rfl rfl rfl rfl rfl rfl rfl rfl rfl) (OkOps.nil (Ok.seq (Ok.region (OkOps.m 0 (triAlloc (j := 3) (cs := [.d (.v .nilFunc)]) rfl rfl rfl rfl) (OkOps.nil (Ok.seq (Ok.region (OkOps.q (triMkF [(2, 0), (3, 0)] rfl trivial rfl) ?_)))))))))))))))
  refine OkOps.w (triStore (cs' := [.fn 58 [(2, 0), (3, 0)]]) rfl rfl rfl rfl rfl rfl rfl rfl rfl) (OkOps.nil (Ok.seq (Ok.region (OkOps.x (.c (.fn 58 [(2, 0), (3, 0)])) rfl trivial rfl (OkOps.x (.agg [cI v.Kind, cS v.Key, .d (.sl (List.map Attr.cs v.Attrs)), .d (.sl (List.map Action.cs v.Actions)), .d (.sl (List.map View.cs v.Kids))]) rfl trivial rfl (OkOps.conv (Conv.nilB 2 2 4 (.vec 7 (List.map Node.cs ([] : (List Node)))) (.own 4) [cI next, cI next, .d (.v (.slice none 0 0))] [cI next, cI next, .own 4] 51 0 rfl rfl rfl rfl (nil_vec Node.cs 7 4) (fun _ _ h => h.symm)) ?_))))))
  obtain ⟨x4, hx4, hr⟩ := bind_some hr
  refine OkOps.wq [(2, .blk [cI x4.2.Root, cI x4.2.Next, .own 5] 51), (3, .blk [.fn 58 [(2, 0), (3, 0)]] 93), (4, .dead), (5, .vec 7 (List.map Node.cs x4.2.Nodes))] (triCallF (caps := [(2, 0), (3, 0)]) (tau [(0, 2), (1, 4), (2, 3), (3000, 5)]) (.s (aI x4.1)) [(2, .blk [cI x4.2.Root, cI x4.2.Next, .own 5] 51), (3, .blk [.fn 58 [(2, 0), (3, 0)]] 93), (4, .dead), (5, .vec 7 (List.map Node.cs x4.2.Nodes))] rfl (vw_Build_1_c _ _ _ _ hx4) rfl ⟨.inl rfl, .inl rfl, .inl rfl, .inl rfl, trivial⟩ trivial entry58 ⟨rfl, rfl, rfl, trivial⟩ rfl rfl rfl rfl ⟨rfl, trivial⟩ rfl rfl rfl) (OkOps.nil (Ok.seq (Ok.region (OkOps.x (.agg [cI x4.2.Root, cI x4.2.Next, .own 5]) rfl trivial rfl (OkOps.w (triStoreF (cs' := [cI x4.2.Root, cI x4.2.Next, .own 5]) rfl rfl rfl rfl rfl rfl rfl rfl) (OkOps.x (aI 0) rfl trivial rfl (OkOps.nil (Ok.conv (Conv.freezeV (enc := Node.cs) (L := x4.2.Nodes) [(29, .s (.agg [cI x4.2.Root, cI x4.2.Next, .d (.sl (List.map Node.cs x4.2.Nodes))]))] [(1, .blk [cI x4.2.Root, cI x4.2.Next, .d (.sl (List.map Node.cs x4.2.Nodes))] 51), (2, .blk [cI x4.2.Root, cI x4.2.Next, .d (.sl (List.map Node.cs x4.2.Nodes))] 51)] 5 0 rfl (fun _ => rfl) ⟨⟨_, rfl, rfl⟩, trivial⟩ ⟨⟨_, _, rfl, rfl⟩, ⟨_, _, rfl, rfl⟩, trivial⟩) (Ok.ret ?_)))))))))
  obtain rfl := Option.some.inj hr
  exact ⟨_, rfl, .inl rfl, trivial⟩
theorem entry26 : Entry Tryd.prog 26 := ⟨_, Tryd.func26, by kernel_rfl, by kernel_rfl⟩
theorem l14_awake_c  {r : Bool} (hr : l14_awake  = some r) : Con Tryd.prog 14 [] [] (.s (aB r)) [] := by
  unfold l14_awake at hr
  refine Con.of_ok 41 0 [.tmp 0] [] Tryd.func14 rfl rfl rfl rfl rfl rfl rfl rfl fun w g M ρ _ => (Ok.seq (Ok.region (OkOps.x (aB false) rfl trivial rfl (OkOps.nil (Ok.seq (Ok.region (OkOps.x (.agg [cI 2, cS ByteArray.empty, .d (.v (.slice none 0 0)), .d (.v (.slice none 0 0)), .d (.v (.slice none 0 0))]) rfl trivial rfl (OkOps.x (.agg [cI 3, cS (ByteArray.mk #[98]), .d (.v (.slice none 0 0)), .d (.v (.slice none 0 0)), .d (.v (.slice none 0 0))]) rfl trivial rfl ?_))))))))
  refine OkOps.m 0 (triBST (sz := 5) (enc := View.cs) (j := 0) ([(View.mk 2 ByteArray.empty ([] : (List Attr)) ([] : (List Action)) ([] : (List View))), (View.mk 3 (ByteArray.mk #[98]) ([] : (List Attr)) ([] : (List Action)) ([] : (List View)))]) rfl rfl rfl rfl rfl (rows := [[dI 2, dS ByteArray.empty, .sl [], .sl [], .sl []], [dI 3, dS (ByteArray.mk #[98]), .sl [], .sl [], .sl []]]) (by simp only [List.map, View.cs_eq]) rfl rfl (fun x => by rw [View.cs_eq]; rfl) trivial rfl rfl) ?_
  refine OkOps.x (.agg [cI 1, cS ByteArray.empty, .d (.v (.slice none 0 0)), .d (.v (.slice none 0 0)), .tl 0 (List.map View.cs ([(View.mk 2 ByteArray.empty ([] : (List Attr)) ([] : (List Action)) ([] : (List View))), (View.mk 3 (ByteArray.mk #[98]) ([] : (List Attr)) ([] : (List Action)) ([] : (List View)))]))]) rfl trivial rfl (OkOps.m 0 (triAlloc (j := 1) (cs := [cI 0, cS ByteArray.empty, .d (.v (.slice none 0 0)), .d (.v (.slice none 0 0)), .d (.v (.slice none 0 0))]) rfl rfl rfl rfl) (OkOps.w (triStore (cs' := [cI 1, cS ByteArray.empty, .d (.v (.slice none 0 0)), .d (.v (.slice none 0 0)), .tl 0 (List.map View.cs ([(View.mk 2 ByteArray.empty ([] : (List Attr)) ([] : (List Action)) ([] : (List View))), (View.mk 3 (ByteArray.mk #[98]) ([] : (List Attr)) ([] : (List Action)) ([] : (List View)))]))]) rfl rfl rfl rfl rfl rfl rfl rfl rfl) (OkOps.nil (Ok.seq (Ok.region (OkOps.x (.agg [cI 1, cS ByteArray.empty, .d (.v (.slice none 0 0)), .d (.v (.slice none 0 0)), .tl 0 (List.map View.cs ([(View.mk 2 ByteArray.empty ([] : (List Attr)) ([] : (List Action)) ([] : (List View))), (View.mk 3 (ByteArray.mk #[98]) ([] : (List Attr)) ([] : (List Action)) ([] : (List View)))]))]) rfl trivial rfl ?_))))))
  obtain ⟨x1, hx1, hr⟩ := bind_some hr
  refine OkOps.q (triCall (tau []) (.tup [.agg [cI x1.1.Root, cI x1.1.Next, .d (.sl (List.map Node.cs x1.1.Nodes))], aI x1.2]) [] (vw_Build_c _ _ hx1) rfl ⟨.inr rfl, .inl rfl, trivial⟩ trivial entry26 trivial rfl rfl rfl rfl trivial rfl rfl rfl) (OkOps.q (triMv (v := .tup [.agg [cI x1.1.Root, cI x1.1.Next, .d (.sl (List.map Node.cs x1.1.Nodes))], aI x1.2]) rfl rfl) (OkOps.x (.agg [cI x1.1.Root, cI x1.1.Next, .d (.sl (List.map Node.cs x1.1.Nodes))]) rfl trivial rfl (OkOps.x (aI x1.2) rfl trivial rfl (OkOps.m 0 (triAlloc (j := 2) (cs := [cI 0, cI 0, .d (.v (.slice none 0 0))]) rfl rfl rfl rfl) (OkOps.w (triStore (cs' := [cI x1.1.Root, cI x1.1.Next, .d (.sl (List.map Node.cs x1.1.Nodes))]) rfl rfl rfl rfl rfl rfl rfl rfl rfl) (OkOps.x (aI x1.2) rfl trivial rfl (OkOps.nil (Ok.seq (Ok.region (OkOps.x (aI x1.2) rfl trivial rfl (OkOps.x (aB (x1.2 == 0)) rfl trivial rfl (OkOps.x (aB (x1.2 == 0)) rfl trivial rfl (OkOps.q (triQG (x := .c (.loc 2 2)) rfl rfl trivial rfl) (OkOps.q (triQG (x := .c (.d (.sl (List.map Node.cs x1.1.Nodes)))) rfl rfl ⟨fun h => h, trivial⟩ rfl) (OkOps.q (triLenG (enc := Node.cs) x1.1.Nodes rfl rfl rfl ⟨fun h => h, trivial⟩ rfl) ?_)))))))))))))))
  refine OkOps.q (triQG (x := aB ((x1.1.Nodes.length : Int) == 3)) rfl rfl ⟨fun h => h, trivial⟩ rfl) (OkOps.q (triAnd rfl rfl (fun h => h) rfl) (OkOps.x (aB ((x1.2 == 0) && ((x1.1.Nodes.length : Int) == 3))) rfl trivial rfl (OkOps.q (triQG (x := .c (.loc 2 0)) rfl rfl trivial rfl) (OkOps.q (triQG (x := aI x1.1.Root) rfl rfl ⟨fun h => h, trivial⟩ rfl) (OkOps.q (triQG (x := aB (x1.1.Root == 5)) rfl rfl ⟨fun h => h, trivial⟩ rfl) (OkOps.q (triAnd rfl rfl (fun h => h) rfl) (OkOps.x (aB (((x1.2 == 0) && ((x1.1.Nodes.length : Int) == 3)) && (x1.1.Root == 5))) rfl trivial rfl (OkOps.q (triQG (x := .c (.loc 2 1)) rfl rfl trivial rfl) (OkOps.q (triQG (x := aI x1.1.Next) rfl rfl ⟨fun h => h, trivial⟩ rfl) (OkOps.q (triQG (x := aB (x1.1.Next == 8)) rfl rfl ⟨fun h => h, trivial⟩ rfl) (OkOps.q (triAnd rfl rfl (fun h => h) rfl) (OkOps.x (aB ((((x1.2 == 0) && ((x1.1.Nodes.length : Int) == 3)) && (x1.1.Root == 5)) && (x1.1.Next == 8))) rfl trivial rfl (OkOps.q (triQG (x := .agg [cI x1.1.Root, cI x1.1.Next, .d (.sl (List.map Node.cs x1.1.Nodes))]) rfl rfl trivial rfl) ?_)))))))))))))
  obtain ⟨x2, hx2, hr⟩ := bind_some hr
  refine OkOps.q (triCallG (x := aS x2) (fun hg => vw_PathName_c _ _ (gO_t hx2 hg)) rfl rfl ⟨.inl rfl, .inl rfl, trivial⟩ ⟨fun h => h, trivial⟩ entry25 rfl rfl rfl) (OkOps.q (triQG (x := aB (x2.toList == (ByteArray.mk #[47, 35, 49, 46, 48, 47, 98]).toList)) rfl rfl ⟨fun h => h, trivial⟩ rfl) (OkOps.q (triAnd rfl rfl (fun h => h) rfl) (OkOps.x (aB (((((x1.2 == 0) && ((x1.1.Nodes.length : Int) == 3)) && (x1.1.Root == 5)) && (x1.1.Next == 8)) && (x2.toList == (ByteArray.mk #[47, 35, 49, 46, 48, 47, 98]).toList))) rfl trivial rfl (OkOps.q (triQG (x := .agg [cI x1.1.Root, cI x1.1.Next, .d (.sl (List.map Node.cs x1.1.Nodes))]) rfl rfl trivial rfl) ?_))))
  obtain ⟨x3, hx3, hr⟩ := bind_some hr
  refine OkOps.q (triCallG (x := aI x3) (fun hg => vw_Check_c _ (gO_t hx3 hg)) rfl rfl ⟨.inl rfl, trivial⟩ ⟨fun h => h, trivial⟩ entry43 rfl rfl rfl) (OkOps.q (triQG (x := aB (x3 == 0)) rfl rfl ⟨fun h => h, trivial⟩ rfl) (OkOps.q (triAnd rfl rfl (fun h => h) rfl) (OkOps.x (aB ((((((x1.2 == 0) && ((x1.1.Nodes.length : Int) == 3)) && (x1.1.Root == 5)) && (x1.1.Next == 8)) && (x2.toList == (ByteArray.mk #[47, 35, 49, 46, 48, 47, 98]).toList)) && (x3 == 0))) rfl trivial rfl (OkOps.nil (Ok.ret ?_)))))
  obtain rfl := Option.some.inj hr
  exact ⟨_, rfl, .inl rfl, trivial⟩
theorem entry14 : Entry Tryd.prog 14 := ⟨_, Tryd.func14, by kernel_rfl, by kernel_rfl⟩
end Go.Proofs.YtcfegecdlbbeaaaDoor
end
section
set_option maxRecDepth 100000
namespace Go.Proofs.YtcfegecdlbbeaaaDoor
open Go Go.E2
theorem entry27 : Entry Tryd.prog 27 := ⟨_, Tryd.func27, by kernel_rfl, by kernel_rfl⟩
theorem l14_load_B_c (self0 : AValue → Int → Option Int) (hself0 : ∀ (v : AValue) (left : Int) {r : Int}, self0 v left = some r → Con Tryd.prog 27 [.agg [cI v.Kind, cI v.N, cS v.S, .d (.sl (List.map AValue.cs v.L))], aI left] [] (.s (aI r)) []) (v : AValue) (left : Int) {r : Int} (hr : l14_load_B self0 v left = some r) : Con Tryd.prog 27 [.agg [cI v.Kind, cI v.N, cS v.S, .d (.sl (List.map AValue.cs v.L))], aI left] [] (.s (aI r)) [] := by
  unfold l14_load_B at hr
  refine Con.of_ok 27 0 [.tmp 4] [(0, .s (.agg [cI v.Kind, cI v.N, cS v.S, .d (.sl (List.map AValue.cs v.L))])), (1, .s (aI left))] Tryd.func27 rfl rfl rfl rfl rfl rfl rfl rfl fun w g M ρ _ => (Ok.seq (Ok.region (OkOps.m 0 (triBox (j := 0) (cs := [cI v.Kind, cI v.N, cS v.S, .d (.sl (List.map AValue.cs v.L))]) rfl rfl rfl rfl rfl) (OkOps.x (aI 0) rfl trivial rfl (OkOps.nil (Ok.seq (Ok.region (OkOps.x (aI left) rfl trivial rfl (OkOps.x (aI (IntKind.i64.wrap (left - 1))) rfl trivial rfl (OkOps.x (aI (IntKind.i64.wrap (left - 1))) rfl trivial rfl (OkOps.nil ?_)))))))))))
  obtain ⟨k2, hk2, hr⟩ := jn_some hr
  refine Ok.join (fun (s1 : Int) => ⟨[(1, .s (aI s1))], [], 0⟩) k2 r (fun s1 hr => ?_) ?_
  rw [hk2] at hr
  refine Ok.seq (Ok.region (OkOps.x (aI s1) rfl trivial rfl (OkOps.x (aI s1) rfl trivial rfl (OkOps.nil (Ok.ret ?_)))))
  obtain rfl := Option.some.inj hr
  exact ⟨_, rfl, .inl rfl, trivial⟩
  clear hk2
  refine Ok.seq (Ok.region (OkOps.x (aI 0) rfl trivial rfl (OkOps.nil (Ok.block (Ok.loopK (fun (s3 : Int × Int) => ⟨[(1, .s (aI s3.1)), (2, .s (.c (.loc 0 0))), (5, .s (aI s3.2))], [(0, .blk [cI v.Kind, cI v.N, cS v.S, .d (.sl (List.map AValue.cs v.L))] 40)], 0⟩) hr (Conv.mk (tau []) ⟨⟨_, rfl, .inl rfl⟩, ⟨_, rfl, .inl rfl⟩, ⟨_, rfl, .inl rfl⟩, trivial⟩ ⟨rfl, trivial⟩ rfl rfl rfl rfl) ?_)))))
  clear hr
  intro again4 s3 hr
  unfold l14_load_L1 at hr
  refine Ok.seq (Ok.seq (Ok.region (OkOps.x (aI s3.2) rfl trivial rfl (OkOps.x (.c (.loc 0 3)) rfl trivial rfl (OkOps.x (.c (.d (.sl (List.map AValue.cs v.L)))) rfl trivial rfl (OkOps.q (triLen (enc := AValue.cs) v.L rfl rfl trivial rfl) (OkOps.x (aB (decide (s3.2 < (v.L.length : Int)))) rfl trivial rfl (OkOps.x (aB (decide (s3.2 < (v.L.length : Int)))) rfl trivial rfl (OkOps.q (triQG (x := aI s3.1) rfl rfl trivial rfl) (OkOps.q (triQG (x := aB (decide (s3.1 > 0))) rfl rfl ⟨fun h => h, trivial⟩ rfl) (OkOps.q (triAnd rfl rfl (fun h => h) rfl) (OkOps.nil ?_))))))))))))
  refine Ok.cond (b := (decide (s3.2 < (v.L.length : Int))) && (decide (s3.1 > 0))) rfl (fun h5 => ?_) (fun h5 => ?_)
  have hr := selT h5 hr
  refine Ok.skip (Ok.seq (Ok.block (Ok.region (OkOps.x (.c (.loc 0 3)) rfl trivial rfl (OkOps.x (.c (.d (.sl (List.map AValue.cs v.L)))) rfl trivial rfl (OkOps.x (aI s3.2) rfl trivial rfl ?_))))))
  obtain ⟨x6, hx6, hr⟩ := bind_some hr
  refine OkOps.q (triIdx (enc := AValue.cs) (L := v.L) (row := [dI x6.Kind, dI x6.N, dS x6.S, .sl (List.map AValue.cs x6.L)]) hx6 (AValue.cs_eq _) rfl rfl rfl (fun x => by rw [AValue.cs_eq]; rfl) trivial rfl) ?_
  refine OkOps.x (.agg [cI x6.Kind, cI x6.N, cS x6.S, .d (.sl (List.map AValue.cs x6.L))]) rfl trivial rfl (OkOps.x (aI s3.1) rfl trivial rfl ?_)
  obtain ⟨x7, hx7, hr⟩ := bind_some hr
  refine OkOps.q (triCall (tau []) (.s (aI x7)) [] (hself0 _ _ hx7) rfl ⟨.inl rfl, .inl rfl, trivial⟩ trivial entry27 trivial rfl rfl rfl rfl trivial rfl rfl rfl) (OkOps.x (aI x7) rfl trivial rfl (OkOps.nil (Ok.region (OkOps.x (aI s3.2) rfl trivial rfl (OkOps.x (aI (IntKind.i64.wrap (s3.2 + 1))) rfl trivial rfl (OkOps.x (aI (IntKind.i64.wrap (s3.2 + 1))) rfl trivial rfl (OkOps.nil ?_)))))))
  exact ⟨(x7, IntKind.i64.wrap (s3.2 + 1)), hr, (Conv.mk (tau []) ⟨⟨_, rfl, .inl rfl⟩, ⟨_, rfl, .inl rfl⟩, ⟨_, rfl, .inl rfl⟩, trivial⟩ ⟨rfl, trivial⟩ rfl rfl rfl rfl)⟩
  have hr := selF h5 hr
  refine Ok.exit ?_
  exact ⟨s3.1, hr, (Conv.mk (tau []) ⟨⟨_, rfl, .inl rfl⟩, trivial⟩ trivial rfl rfl rfl rfl)⟩
theorem l14_load_all : ∀ n : Nat, (∀ (v : AValue) (left : Int) {r : Int}, l14_load n v left = some r → Con Tryd.prog 27 [.agg [cI v.Kind, cI v.N, cS v.S, .d (.sl (List.map AValue.cs v.L))], aI left] [] (.s (aI r)) []) ∧ True := by
  intro n
  induction n with
  | zero => exact ⟨(by intros; rename_i hr; cases hr), trivial⟩
  | succ n ih => exact ⟨(by intros; rename_i hr; exact l14_load_B_c _ ih.1 _ _ hr), trivial⟩
theorem l14_load_c (n : Nat) (v : AValue) (left : Int) {r : Int} (hr : l14_load n v left = some r) : Con Tryd.prog 27 [.agg [cI v.Kind, cI v.N, cS v.S, .d (.sl (List.map AValue.cs v.L))], aI left] [] (.s (aI r)) [] := (l14_load_all n).1 v left hr
theorem l14_ViewKeys_c (p_s : Str) {r : Bool} (hr : l14_ViewKeys p_s = some r) : Con Tryd.prog 3 [aS p_s] [] (.s (aB r)) [] := by
  unfold l14_ViewKeys at hr
  refine Con.of_ok 19 0 [.tmp 2] [(0, .s (aS p_s))] Tryd.func3 rfl rfl rfl rfl rfl rfl rfl rfl fun w g M ρ _ => (Ok.seq (Ok.region (OkOps.x (aB false) rfl trivial rfl (OkOps.nil (Ok.seq (Ok.region (OkOps.x (aS p_s) rfl trivial rfl (OkOps.x (aI (p_s.size : Int)) rfl trivial rfl (OkOps.x (aB (decide ((p_s.size : Int) > 100))) rfl trivial rfl (OkOps.x (aB (decide ((p_s.size : Int) > 100))) rfl trivial rfl (OkOps.q (triQG (x := aS p_s) rfl rfl trivial rfl) ?_)))))))))))
  obtain ⟨x1, hx1, hr⟩ := bind_some hr
  refine OkOps.q (triCallG (x := aB x1) (fun hg => vw_Key_c _ (gO_t hx1 hg)) rfl rfl ⟨.inl rfl, trivial⟩ ⟨fun h => h, trivial⟩ entry12 rfl rfl rfl) (OkOps.q (triQG (x := aS p_s) rfl rfl trivial rfl) ?_)
  obtain ⟨x2, hx2, hr⟩ := bind_some hr
  refine OkOps.q (triCallG (x := aB x2) (fun hg => r14_Key_c _ (gO_t hx2 hg)) rfl rfl ⟨.inl rfl, trivial⟩ ⟨fun h => h, trivial⟩ entry13 rfl rfl rfl) (OkOps.q (triQG (x := aB (x1 == x2)) rfl rfl ⟨fun h => h, ⟨fun h => h, trivial⟩⟩ rfl) (OkOps.q (triQG (x := aB (x1 == x2)) rfl rfl ⟨fun h => h, trivial⟩ rfl) ?_))
  obtain ⟨x3, hx3, hr⟩ := bind_some hr
  refine OkOps.q (triCallG (x := aB x3) (fun hg => vw_Key_c _ (gO_t hx3 hg)) rfl rfl ⟨.inl rfl, trivial⟩ trivial entry12 rfl rfl rfl) ?_
  refine OkOps.q (triAndG rfl rfl rfl (fun h => h) (fun h h2 => by rw [h, h2]; rfl) rfl) ?_
  refine OkOps.q (triQG (x := aB ((x1 == x2) && x3)) rfl rfl ⟨fun h => h, trivial⟩ rfl) ?_
  obtain ⟨x4, hx4, hr⟩ := bind_some hr
  refine OkOps.q (triCallG (x := aB x4) (fun hg => l14_awake_c  (gO_t hx4 hg)) rfl rfl trivial trivial entry14 rfl rfl rfl) ?_
  refine OkOps.q (triAndG rfl rfl rfl (fun h => h) (fun h h2 => by rw [h, h2]; rfl) rfl) ?_
  refine OkOps.q (triOr rfl rfl (fun h => by rw [h]; rfl) rfl) ?_
  refine OkOps.x (aB ((decide ((p_s.size : Int) > 100)) || (((x1 == x2) && x3) && x4))) rfl trivial rfl (OkOps.nil (Ok.ret ?_))
  obtain rfl := Option.some.inj hr
  exact ⟨_, rfl, .inl rfl, trivial⟩
theorem entry3 : Entry Tryd.prog 3 := ⟨_, Tryd.func3, by kernel_rfl, by kernel_rfl⟩
end Go.Proofs.YtcfegecdlbbeaaaDoor
end
section
set_option maxRecDepth 100000
namespace Go.Proofs.YtcfegecdlbbeaaaDoor
open Go Go.E2
theorem entry37 : Entry Tryd.prog 37 := ⟨_, Tryd.func37, by kernel_rfl, by kernel_rfl⟩
theorem l14_weigh_B_c (self0 : View → Int → Int → Option Int) (hself0 : ∀ (v : View) (left : Int) (depth : Int) {r : Int}, self0 v left depth = some r → Con Tryd.prog 37 [.agg [cI v.Kind, cS v.Key, .d (.sl (List.map Attr.cs v.Attrs)), .d (.sl (List.map Action.cs v.Actions)), .d (.sl (List.map View.cs v.Kids))], aI left, aI depth] [] (.s (aI r)) []) (v : View) (left : Int) (depth : Int) {r : Int} (hr : l14_weigh_B self0 v left depth = some r) : Con Tryd.prog 37 [.agg [cI v.Kind, cS v.Key, .d (.sl (List.map Attr.cs v.Attrs)), .d (.sl (List.map Action.cs v.Actions)), .d (.sl (List.map View.cs v.Kids))], aI left, aI depth] [] (.s (aI r)) [] := by
  unfold l14_weigh_B at hr
  refine Con.of_ok 98 0 [.tmp 6] [(0, .s (.agg [cI v.Kind, cS v.Key, .d (.sl (List.map Attr.cs v.Attrs)), .d (.sl (List.map Action.cs v.Actions)), .d (.sl (List.map View.cs v.Kids))])), (1, .s (aI left)), (2, .s (aI depth))] Tryd.func37 rfl rfl rfl rfl rfl rfl rfl rfl fun w g M ρ _ => (Ok.seq (Ok.region (OkOps.m 0 (triBox (j := 0) (cs := [cI v.Kind, cS v.Key, .d (.sl (List.map Attr.cs v.Attrs)), .d (.sl (List.map Action.cs v.Actions)), .d (.sl (List.map View.cs v.Kids))]) rfl rfl rfl rfl rfl) (OkOps.x (aI 0) rfl trivial rfl (OkOps.nil (Ok.seq (Ok.region (OkOps.x (aI left) rfl trivial rfl (OkOps.x (.c (.loc 0 4)) rfl trivial rfl (OkOps.x (.c (.d (.sl (List.map View.cs v.Kids)))) rfl trivial rfl (OkOps.q (triLen (enc := View.cs) v.Kids rfl rfl trivial rfl) (OkOps.x (aI (IntKind.i64.wrap (1 + (v.Kids.length : Int)))) rfl trivial rfl (OkOps.x (aI (IntKind.i64.wrap (left - (IntKind.i64.wrap (1 + (v.Kids.length : Int)))))) rfl trivial rfl (OkOps.x (aI (IntKind.i64.wrap (left - (IntKind.i64.wrap (1 + (v.Kids.length : Int)))))) rfl trivial rfl (OkOps.nil ?_)))))))))))))))
  obtain ⟨k2, hk2, hr⟩ := jn_some hr
  refine Ok.join (fun (s1 : Int) => ⟨[(1, .s (aI s1)), (2, .s (aI depth)), (3, .s (.c (.loc 0 0)))], [(0, .blk [cI v.Kind, cS v.Key, .d (.sl (List.map Attr.cs v.Attrs)), .d (.sl (List.map Action.cs v.Actions)), .d (.sl (List.map View.cs v.Kids))] 31)], 0⟩) k2 r (fun s1 hr => ?_) ?_
  rw [hk2] at hr
  obtain ⟨k4, hk4, hr⟩ := jn_some hr
  refine Ok.join (fun (s3 : Int) => ⟨[(1, .s (aI s3)), (2, .s (aI depth)), (3, .s (.c (.loc 0 0)))], [(0, .blk [cI v.Kind, cS v.Key, .d (.sl (List.map Attr.cs v.Attrs)), .d (.sl (List.map Action.cs v.Actions)), .d (.sl (List.map View.cs v.Kids))] 31)], 0⟩) k4 r (fun s3 hr => ?_) ?_
  rw [hk4] at hr
  refine Ok.seq (Ok.seq (Ok.region (OkOps.x (aI depth) rfl trivial rfl (OkOps.x (aB (decide (depth ≤ 0))) rfl trivial rfl (OkOps.nil ?_)))))
  refine Ok.cond (b := decide (depth ≤ 0)) rfl (fun h5 => ?_) (fun h5 => ?_)
  have hr := selT h5 hr
  refine Ok.seq (Ok.region (OkOps.x (aI 0) rfl trivial rfl (OkOps.nil (Ok.ret ?_))))
  obtain rfl := Option.some.inj hr
  exact ⟨_, rfl, .inl rfl, trivial⟩
  have hr := selF h5 hr
  refine Ok.skip ?_
  obtain ⟨k7, hk7, hr⟩ := jn_some hr
  refine Ok.join (fun (s6 : Int) => ⟨[(1, .s (aI s6))], [], 0⟩) k7 r (fun s6 hr => ?_) ?_
  rw [hk7] at hr
  refine Ok.seq (Ok.region (OkOps.x (aI s6) rfl trivial rfl (OkOps.x (aI s6) rfl trivial rfl (OkOps.nil (Ok.ret ?_)))))
  obtain rfl := Option.some.inj hr
  exact ⟨_, rfl, .inl rfl, trivial⟩
  clear hk7
  refine Ok.seq (Ok.region (OkOps.x (aI 0) rfl trivial rfl (OkOps.nil (Ok.block (Ok.loopK (fun (s8 : Int × Int) => ⟨[(1, .s (aI s8.1)), (2, .s (aI depth)), (3, .s (.c (.loc 0 0))), (10, .s (aI s8.2))], [(0, .blk [cI v.Kind, cS v.Key, .d (.sl (List.map Attr.cs v.Attrs)), .d (.sl (List.map Action.cs v.Actions)), .d (.sl (List.map View.cs v.Kids))] 31)], 0⟩) hr (Conv.mk (tau []) ⟨⟨_, rfl, .inl rfl⟩, ⟨_, rfl, .inl rfl⟩, ⟨_, rfl, .inl rfl⟩, ⟨_, rfl, .inl rfl⟩, trivial⟩ ⟨rfl, trivial⟩ rfl rfl rfl rfl) ?_)))))
  clear hr
  intro again9 s8 hr
  unfold l14_weigh_L1 at hr
  refine Ok.seq (Ok.seq (Ok.region (OkOps.x (aI s8.2) rfl trivial rfl (OkOps.x (.c (.loc 0 4)) rfl trivial rfl (OkOps.x (.c (.d (.sl (List.map View.cs v.Kids)))) rfl trivial rfl (OkOps.q (triLen (enc := View.cs) v.Kids rfl rfl trivial rfl) (OkOps.x (aB (decide (s8.2 < (v.Kids.length : Int)))) rfl trivial rfl (OkOps.x (aB (decide (s8.2 < (v.Kids.length : Int)))) rfl trivial rfl (OkOps.q (triQG (x := aI s8.1) rfl rfl trivial rfl) (OkOps.q (triQG (x := aB (decide (s8.1 > 0))) rfl rfl ⟨fun h => h, trivial⟩ rfl) (OkOps.q (triAnd rfl rfl (fun h => h) rfl) (OkOps.nil ?_))))))))))))
  refine Ok.cond (b := (decide (s8.2 < (v.Kids.length : Int))) && (decide (s8.1 > 0))) rfl (fun h10 => ?_) (fun h10 => ?_)
  have hr := selT h10 hr
  refine Ok.skip (Ok.seq (Ok.block (Ok.region (OkOps.x (.c (.loc 0 4)) rfl trivial rfl (OkOps.x (.c (.d (.sl (List.map View.cs v.Kids)))) rfl trivial rfl (OkOps.x (aI s8.2) rfl trivial rfl ?_))))))
  obtain ⟨x11, hx11, hr⟩ := bind_some hr
  refine OkOps.q (triIdx (enc := View.cs) (L := v.Kids) (row := [dI x11.Kind, dS x11.Key, .sl (List.map Attr.cs x11.Attrs), .sl (List.map Action.cs x11.Actions), .sl (List.map View.cs x11.Kids)]) hx11 (View.cs_eq _) rfl rfl rfl (fun x => by rw [View.cs_eq]; rfl) trivial rfl) ?_
  refine OkOps.x (.agg [cI x11.Kind, cS x11.Key, .d (.sl (List.map Attr.cs x11.Attrs)), .d (.sl (List.map Action.cs x11.Actions)), .d (.sl (List.map View.cs x11.Kids))]) rfl trivial rfl (OkOps.x (aI s8.1) rfl trivial rfl (OkOps.x (aI depth) rfl trivial rfl (OkOps.x (aI (IntKind.i64.wrap (depth - 1))) rfl trivial rfl ?_)))
  obtain ⟨x12, hx12, hr⟩ := bind_some hr
  refine OkOps.q (triCall (tau []) (.s (aI x12)) [] (hself0 _ _ _ hx12) rfl ⟨.inl rfl, .inl rfl, .inl rfl, trivial⟩ trivial entry37 trivial rfl rfl rfl rfl trivial rfl rfl rfl) (OkOps.x (aI x12) rfl trivial rfl (OkOps.nil (Ok.region (OkOps.x (aI s8.2) rfl trivial rfl (OkOps.x (aI (IntKind.i64.wrap (s8.2 + 1))) rfl trivial rfl (OkOps.x (aI (IntKind.i64.wrap (s8.2 + 1))) rfl trivial rfl (OkOps.nil ?_)))))))
  exact ⟨(x12, IntKind.i64.wrap (s8.2 + 1)), hr, (Conv.mk (tau []) ⟨⟨_, rfl, .inl rfl⟩, ⟨_, rfl, .inl rfl⟩, ⟨_, rfl, .inl rfl⟩, ⟨_, rfl, .inl rfl⟩, trivial⟩ ⟨rfl, trivial⟩ rfl rfl rfl rfl)⟩
  have hr := selF h10 hr
  refine Ok.exit ?_
  exact ⟨s8.1, hr, (Conv.mk (tau []) ⟨⟨_, rfl, .inl rfl⟩, trivial⟩ trivial rfl rfl rfl rfl)⟩
  clear hk4
  refine Ok.seq (Ok.region (OkOps.x (aI 0) rfl trivial rfl (OkOps.nil (Ok.block (Ok.loopK (fun (s13 : Int × Int) => ⟨[(1, .s (aI s13.1)), (2, .s (aI depth)), (3, .s (.c (.loc 0 0))), (8, .s (aI s13.2))], [(0, .blk [cI v.Kind, cS v.Key, .d (.sl (List.map Attr.cs v.Attrs)), .d (.sl (List.map Action.cs v.Actions)), .d (.sl (List.map View.cs v.Kids))] 31)], 0⟩) hr (Conv.mk (tau []) ⟨⟨_, rfl, .inl rfl⟩, ⟨_, rfl, .inl rfl⟩, ⟨_, rfl, .inl rfl⟩, ⟨_, rfl, .inl rfl⟩, trivial⟩ ⟨rfl, trivial⟩ rfl rfl rfl rfl) ?_)))))
  clear hr
  intro again14 s13 hr
  unfold l14_weigh_L3 at hr
  refine Ok.seq (Ok.seq (Ok.region (OkOps.x (aI s13.2) rfl trivial rfl (OkOps.x (.c (.loc 0 3)) rfl trivial rfl (OkOps.x (.c (.d (.sl (List.map Action.cs v.Actions)))) rfl trivial rfl (OkOps.q (triLen (enc := Action.cs) v.Actions rfl rfl trivial rfl) (OkOps.x (aB (decide (s13.2 < (v.Actions.length : Int)))) rfl trivial rfl (OkOps.x (aB (decide (s13.2 < (v.Actions.length : Int)))) rfl trivial rfl (OkOps.q (triQG (x := aI s13.1) rfl rfl trivial rfl) (OkOps.q (triQG (x := aB (decide (s13.1 > 0))) rfl rfl ⟨fun h => h, trivial⟩ rfl) (OkOps.q (triAnd rfl rfl (fun h => h) rfl) (OkOps.nil ?_))))))))))))
  refine Ok.cond (b := (decide (s13.2 < (v.Actions.length : Int))) && (decide (s13.1 > 0))) rfl (fun h15 => ?_) (fun h15 => ?_)
  have hr := selT h15 hr
  refine Ok.skip ?_
  obtain ⟨k17, hk17, hr⟩ := jn_some hr
  refine Ok.join (fun (s16 : Int) => ⟨[(1, .s (aI s16)), (2, .s (aI depth)), (3, .s (.c (.loc 0 0))), (8, .s (aI s13.2))], [(0, .blk [cI v.Kind, cS v.Key, .d (.sl (List.map Attr.cs v.Attrs)), .d (.sl (List.map Action.cs v.Actions)), .d (.sl (List.map View.cs v.Kids))] 31)], 0⟩) k17 r (fun s16 hr => ?_) ?_
  rw [hk17] at hr
  refine Ok.region (OkOps.x (aI s13.2) rfl trivial rfl (OkOps.x (aI (IntKind.i64.wrap (s13.2 + 1))) rfl trivial rfl (OkOps.x (aI (IntKind.i64.wrap (s13.2 + 1))) rfl trivial rfl (OkOps.nil ?_))))
  exact ⟨(s16, IntKind.i64.wrap (s13.2 + 1)), hr, (Conv.mk (tau []) ⟨⟨_, rfl, .inl rfl⟩, ⟨_, rfl, .inl rfl⟩, ⟨_, rfl, .inl rfl⟩, ⟨_, rfl, .inl rfl⟩, trivial⟩ ⟨rfl, trivial⟩ rfl rfl rfl rfl)⟩
  clear hk17
  refine Ok.block (Ok.seq (Ok.region (OkOps.x (aI s13.1) rfl trivial rfl (OkOps.x (aI (IntKind.i64.wrap (s13.1 - 1))) rfl trivial rfl (OkOps.x (aI (IntKind.i64.wrap (s13.1 - 1))) rfl trivial rfl (OkOps.nil (Ok.seq (Ok.region (OkOps.x (aI 0) rfl trivial rfl (OkOps.nil ?_))))))))))
  obtain ⟨k19, hk19, hr⟩ := jn_some hr
  refine Ok.joinEnd (fun (s18 : Int) => ⟨[(1, .s (aI s18)), (2, .s (aI depth)), (3, .s (.c (.loc 0 0))), (8, .s (aI s13.2))], [(0, .blk [cI v.Kind, cS v.Key, .d (.sl (List.map Attr.cs v.Attrs)), .d (.sl (List.map Action.cs v.Actions)), .d (.sl (List.map View.cs v.Kids))] 31)], 0⟩) k19 r (fun s18 hr => ?_) ?_
  rw [hk19] at hr
  exact ⟨s18, hr, (Conv.mk (tau []) ⟨⟨_, rfl, .inl rfl⟩, ⟨_, rfl, .inl rfl⟩, ⟨_, rfl, .inl rfl⟩, ⟨_, rfl, .inl rfl⟩, trivial⟩ ⟨rfl, trivial⟩ rfl rfl rfl rfl)⟩
  clear hk19
  refine Ok.block (Ok.loopK (fun (s20 : Int × Int) => ⟨[(1, .s (aI s20.1)), (2, .s (aI depth)), (3, .s (.c (.loc 0 0))), (8, .s (aI s13.2)), (9, .s (aI s20.2))], [(0, .blk [cI v.Kind, cS v.Key, .d (.sl (List.map Attr.cs v.Attrs)), .d (.sl (List.map Action.cs v.Actions)), .d (.sl (List.map View.cs v.Kids))] 31)], 0⟩) hr (Conv.mk (tau []) ⟨⟨_, rfl, .inl rfl⟩, ⟨_, rfl, .inl rfl⟩, ⟨_, rfl, .inl rfl⟩, ⟨_, rfl, .inl rfl⟩, ⟨_, rfl, .inl rfl⟩, trivial⟩ ⟨rfl, trivial⟩ rfl rfl rfl rfl) ?_)
  clear hr
  intro again21 s20 hr
  unfold l14_weigh_L2 at hr
  refine Ok.seq (Ok.seq (Ok.region (OkOps.x (aI s20.2) rfl trivial rfl (OkOps.x (.c (.loc 0 3)) rfl trivial rfl (OkOps.x (.c (.d (.sl (List.map Action.cs v.Actions)))) rfl trivial rfl (OkOps.x (aI s13.2) rfl trivial rfl ?_))))))
  obtain ⟨x22, hx22, hr⟩ := bind_some hr
  refine OkOps.q (triIdx (enc := Action.cs) (L := v.Actions) (row := [dS x22.Event, dS x22.Instance, dS x22.Handler, .sl (List.map AValue.cs x22.Args)]) hx22 rfl rfl rfl rfl (fun _ => rfl) trivial rfl) (OkOps.x (.c (.pt [.sl (List.map AValue.cs x22.Args)])) rfl trivial rfl (OkOps.x (.c (.d (.sl (List.map AValue.cs x22.Args)))) rfl trivial rfl (OkOps.q (triLen (enc := AValue.cs) x22.Args rfl rfl trivial rfl) (OkOps.x (aB (decide (s20.2 < (x22.Args.length : Int)))) rfl trivial rfl (OkOps.x (aB (decide (s20.2 < (x22.Args.length : Int)))) rfl trivial rfl (OkOps.q (triQG (x := aI s20.1) rfl rfl trivial rfl) (OkOps.q (triQG (x := aB (decide (s20.1 > 0))) rfl rfl ⟨fun h => h, trivial⟩ rfl) (OkOps.q (triAnd rfl rfl (fun h => h) rfl) (OkOps.nil ?_)))))))))
  refine Ok.cond (b := (decide (s20.2 < (x22.Args.length : Int))) && (decide (s20.1 > 0))) rfl (fun h23 => ?_) (fun h23 => ?_)
  have hr := selT h23 hr
  refine Ok.skip (Ok.seq (Ok.block (Ok.region (OkOps.x (.c (.loc 0 3)) rfl trivial rfl (OkOps.x (.c (.d (.sl (List.map Action.cs v.Actions)))) rfl trivial rfl (OkOps.x (aI s13.2) rfl trivial rfl ?_))))))
  obtain ⟨x24, hx24, hr⟩ := bind_some hr
  refine OkOps.q (triIdx (enc := Action.cs) (L := v.Actions) (row := [dS x24.Event, dS x24.Instance, dS x24.Handler, .sl (List.map AValue.cs x24.Args)]) hx24 rfl rfl rfl rfl (fun _ => rfl) trivial rfl) (OkOps.x (.c (.pt [.sl (List.map AValue.cs x24.Args)])) rfl trivial rfl (OkOps.x (.c (.d (.sl (List.map AValue.cs x24.Args)))) rfl trivial rfl (OkOps.x (aI s20.2) rfl trivial rfl ?_)))
  obtain ⟨x25, hx25, hr⟩ := bind_some hr
  refine OkOps.q (triIdx (enc := AValue.cs) (L := x24.Args) (row := [dI x25.Kind, dI x25.N, dS x25.S, .sl (List.map AValue.cs x25.L)]) hx25 (AValue.cs_eq _) rfl rfl rfl (fun x => by rw [AValue.cs_eq]; rfl) trivial rfl) ?_
  refine OkOps.x (.agg [cI x25.Kind, cI x25.N, cS x25.S, .d (.sl (List.map AValue.cs x25.L))]) rfl trivial rfl (OkOps.x (aI s20.1) rfl trivial rfl ?_)
  obtain ⟨x26, hx26, hr⟩ := bind_some hr
  refine OkOps.q (triCall (tau []) (.s (aI x26)) [] (l14_load_c _ _ _ hx26) rfl ⟨.inl rfl, .inl rfl, trivial⟩ trivial entry27 trivial rfl rfl rfl rfl trivial rfl rfl rfl) (OkOps.x (aI x26) rfl trivial rfl (OkOps.nil (Ok.region (OkOps.x (aI s20.2) rfl trivial rfl (OkOps.x (aI (IntKind.i64.wrap (s20.2 + 1))) rfl trivial rfl (OkOps.x (aI (IntKind.i64.wrap (s20.2 + 1))) rfl trivial rfl (OkOps.nil ?_)))))))
  exact ⟨(x26, IntKind.i64.wrap (s20.2 + 1)), hr, (Conv.mk (tau []) ⟨⟨_, rfl, .inl rfl⟩, ⟨_, rfl, .inl rfl⟩, ⟨_, rfl, .inl rfl⟩, ⟨_, rfl, .inl rfl⟩, ⟨_, rfl, .inl rfl⟩, trivial⟩ ⟨rfl, trivial⟩ rfl rfl rfl rfl)⟩
  have hr := selF h23 hr
  refine Ok.exit ?_
  exact ⟨s20.1, hr, (Conv.mk (tau []) ⟨⟨_, rfl, .inl rfl⟩, ⟨_, rfl, .inl rfl⟩, ⟨_, rfl, .inl rfl⟩, ⟨_, rfl, .inl rfl⟩, trivial⟩ ⟨rfl, trivial⟩ rfl rfl rfl rfl)⟩
  have hr := selF h15 hr
  refine Ok.exit ?_
  exact ⟨s13.1, hr, (Conv.mk (tau []) ⟨⟨_, rfl, .inl rfl⟩, ⟨_, rfl, .inl rfl⟩, ⟨_, rfl, .inl rfl⟩, trivial⟩ ⟨rfl, trivial⟩ rfl rfl rfl rfl)⟩
  clear hk2
  refine Ok.seq (Ok.region (OkOps.x (aI 0) rfl trivial rfl (OkOps.nil (Ok.block (Ok.loopK (fun (s27 : Int × Int) => ⟨[(1, .s (aI s27.1)), (2, .s (aI depth)), (3, .s (.c (.loc 0 0))), (7, .s (aI s27.2))], [(0, .blk [cI v.Kind, cS v.Key, .d (.sl (List.map Attr.cs v.Attrs)), .d (.sl (List.map Action.cs v.Actions)), .d (.sl (List.map View.cs v.Kids))] 31)], 0⟩) hr (Conv.mk (tau []) ⟨⟨_, rfl, .inl rfl⟩, ⟨_, rfl, .inl rfl⟩, ⟨_, rfl, .inl rfl⟩, ⟨_, rfl, .inl rfl⟩, trivial⟩ ⟨rfl, trivial⟩ rfl rfl rfl rfl) ?_)))))
  clear hr
  intro again28 s27 hr
  unfold l14_weigh_L4 at hr
  refine Ok.seq (Ok.seq (Ok.region (OkOps.x (aI s27.2) rfl trivial rfl (OkOps.x (.c (.loc 0 2)) rfl trivial rfl (OkOps.x (.c (.d (.sl (List.map Attr.cs v.Attrs)))) rfl trivial rfl (OkOps.q (triLen (enc := Attr.cs) v.Attrs rfl rfl trivial rfl) (OkOps.x (aB (decide (s27.2 < (v.Attrs.length : Int)))) rfl trivial rfl (OkOps.x (aB (decide (s27.2 < (v.Attrs.length : Int)))) rfl trivial rfl (OkOps.q (triQG (x := aI s27.1) rfl rfl trivial rfl) (OkOps.q (triQG (x := aB (decide (s27.1 > 0))) rfl rfl ⟨fun h => h, trivial⟩ rfl) (OkOps.q (triAnd rfl rfl (fun h => h) rfl) (OkOps.nil ?_))))))))))))
  refine Ok.cond (b := (decide (s27.2 < (v.Attrs.length : Int))) && (decide (s27.1 > 0))) rfl (fun h29 => ?_) (fun h29 => ?_)
  have hr := selT h29 hr
  refine Ok.skip (Ok.seq (Ok.block (Ok.region (OkOps.x (.c (.loc 0 2)) rfl trivial rfl (OkOps.x (.c (.d (.sl (List.map Attr.cs v.Attrs)))) rfl trivial rfl (OkOps.x (aI s27.2) rfl trivial rfl ?_))))))
  obtain ⟨x30, hx30, hr⟩ := bind_some hr
  refine OkOps.q (triIdx (enc := Attr.cs) (L := v.Attrs) (row := [dS x30.Name, dI x30.Value.Kind, dI x30.Value.N, dS x30.Value.S, .sl (List.map AValue.cs x30.Value.L)]) hx30 rfl rfl rfl rfl (fun _ => rfl) trivial rfl) (OkOps.x (.c (.pt [dI x30.Value.Kind, dI x30.Value.N, dS x30.Value.S, .sl (List.map AValue.cs x30.Value.L)])) rfl trivial rfl (OkOps.x (.agg [cI x30.Value.Kind, cI x30.Value.N, cS x30.Value.S, .d (.sl (List.map AValue.cs x30.Value.L))]) rfl trivial rfl (OkOps.x (aI s27.1) rfl trivial rfl ?_)))
  obtain ⟨x31, hx31, hr⟩ := bind_some hr
  refine OkOps.q (triCall (tau []) (.s (aI x31)) [] (l14_load_c _ _ _ hx31) rfl ⟨.inl rfl, .inl rfl, trivial⟩ trivial entry27 trivial rfl rfl rfl rfl trivial rfl rfl rfl) (OkOps.x (aI x31) rfl trivial rfl (OkOps.nil (Ok.region (OkOps.x (aI s27.2) rfl trivial rfl (OkOps.x (aI (IntKind.i64.wrap (s27.2 + 1))) rfl trivial rfl (OkOps.x (aI (IntKind.i64.wrap (s27.2 + 1))) rfl trivial rfl (OkOps.nil ?_)))))))
  exact ⟨(x31, IntKind.i64.wrap (s27.2 + 1)), hr, (Conv.mk (tau []) ⟨⟨_, rfl, .inl rfl⟩, ⟨_, rfl, .inl rfl⟩, ⟨_, rfl, .inl rfl⟩, ⟨_, rfl, .inl rfl⟩, trivial⟩ ⟨rfl, trivial⟩ rfl rfl rfl rfl)⟩
  have hr := selF h29 hr
  refine Ok.exit ?_
  exact ⟨s27.1, hr, (Conv.mk (tau []) ⟨⟨_, rfl, .inl rfl⟩, ⟨_, rfl, .inl rfl⟩, ⟨_, rfl, .inl rfl⟩, trivial⟩ ⟨rfl, trivial⟩ rfl rfl rfl rfl)⟩
theorem l14_weigh_all : ∀ n : Nat, (∀ (v : View) (left : Int) (depth : Int) {r : Int}, l14_weigh n v left depth = some r → Con Tryd.prog 37 [.agg [cI v.Kind, cS v.Key, .d (.sl (List.map Attr.cs v.Attrs)), .d (.sl (List.map Action.cs v.Actions)), .d (.sl (List.map View.cs v.Kids))], aI left, aI depth] [] (.s (aI r)) []) ∧ True := by
  intro n
  induction n with
  | zero => exact ⟨(by intros; rename_i hr; cases hr), trivial⟩
  | succ n ih => exact ⟨(by intros; rename_i hr; exact l14_weigh_B_c _ ih.1 _ _ _ hr), trivial⟩
theorem l14_weigh_c (n : Nat) (v : View) (left : Int) (depth : Int) {r : Int} (hr : l14_weigh n v left depth = some r) : Con Tryd.prog 37 [.agg [cI v.Kind, cS v.Key, .d (.sl (List.map Attr.cs v.Attrs)), .d (.sl (List.map Action.cs v.Actions)), .d (.sl (List.map View.cs v.Kids))], aI left, aI depth] [] (.s (aI r)) [] := (l14_weigh_all n).1 v left depth hr
end Go.Proofs.YtcfegecdlbbeaaaDoor
end
section
set_option maxRecDepth 100000
namespace Go.Proofs.YtcfegecdlbbeaaaDoor
open Go Go.E2
theorem entry66 : Entry Tryd.prog 66 := ⟨_, Tryd.func66, by kernel_rfl, by kernel_rfl⟩
theorem vw_own_B_c (self0 : View → Option View) (hself0 : ∀ (v : View) {r : View}, self0 v = some r → Con Tryd.prog 66 [.agg [cI v.Kind, cS v.Key, .d (.sl (List.map Attr.cs v.Attrs)), .d (.sl (List.map Action.cs v.Actions)), .d (.sl (List.map View.cs v.Kids))]] [] (.s (.agg [cI r.Kind, cS r.Key, .d (.sl (List.map Attr.cs r.Attrs)), .d (.sl (List.map Action.cs r.Actions)), .d (.sl (List.map View.cs r.Kids))])) []) (v : View) {r : View} (hr : vw_own_B self0 v = some r) : Con Tryd.prog 66 [.agg [cI v.Kind, cS v.Key, .d (.sl (List.map Attr.cs v.Attrs)), .d (.sl (List.map Action.cs v.Actions)), .d (.sl (List.map View.cs v.Kids))]] [] (.s (.agg [cI r.Kind, cS r.Key, .d (.sl (List.map Attr.cs r.Attrs)), .d (.sl (List.map Action.cs r.Actions)), .d (.sl (List.map View.cs r.Kids))])) [] := by
  unfold vw_own_B at hr
  refine Con.of_ok 32 0 [.cell 2 31] [(0, .s (.agg [cI v.Kind, cS v.Key, .d (.sl (List.map Attr.cs v.Attrs)), .d (.sl (List.map Action.cs v.Actions)), .d (.sl (List.map View.cs v.Kids))]))] Tryd.func66 rfl rfl rfl rfl rfl rfl rfl rfl fun w g M ρ _ => (Ok.seq (Ok.region (OkOps.m 0 (triBox (j := 0) (cs := [cI v.Kind, cS v.Key, .d (.sl (List.map Attr.cs v.Attrs)), .d (.sl (List.map Action.cs v.Actions)), .d (.sl (List.map View.cs v.Kids))]) rfl rfl rfl rfl rfl) (OkOps.m 0 (triAlloc (j := 1) (cs := [cI 0, cS ByteArray.empty, .d (.v (.slice none 0 0)), .d (.v (.slice none 0 0)), .d (.v (.slice none 0 0))]) rfl rfl rfl rfl) (OkOps.nil (Ok.seq (Ok.region (OkOps.x (.c (.loc 0 2)) rfl trivial rfl (OkOps.x (.c (.d (.sl (List.map Attr.cs v.Attrs)))) rfl trivial rfl (OkOps.x (.c (.loc 0 3)) rfl trivial rfl (OkOps.x (.c (.d (.sl (List.map Action.cs v.Actions)))) rfl trivial rfl ?_)))))))))))
  obtain ⟨x1, hx1, hr⟩ := bind_some hr
  refine OkOps.q (triCall (tau []) (.tup [.c (.d (.sl (List.map Attr.cs x1.1))), .c (.d (.sl (List.map Action.cs x1.2)))]) [] (vw_copied_c _ _ hx1) rfl ⟨.inl rfl, .inl rfl, trivial⟩ trivial entry59 trivial rfl rfl rfl rfl trivial rfl rfl rfl) (OkOps.q (triMv (v := .tup [.c (.d (.sl (List.map Attr.cs x1.1))), .c (.d (.sl (List.map Action.cs x1.2)))]) rfl rfl) (OkOps.x (.c (.d (.sl (List.map Attr.cs x1.1)))) rfl trivial rfl (OkOps.x (.c (.d (.sl (List.map Action.cs x1.2)))) rfl trivial rfl (OkOps.x (.c (.loc 0 2)) rfl trivial rfl (OkOps.w (triStore (cs' := [cI v.Kind, cS v.Key, .d (.sl (List.map Attr.cs x1.1)), .d (.sl (List.map Action.cs v.Actions)), .d (.sl (List.map View.cs v.Kids))]) rfl rfl rfl rfl rfl rfl rfl rfl rfl) (OkOps.x (.c (.loc 0 3)) rfl trivial rfl (OkOps.w (triStore (cs' := [cI v.Kind, cS v.Key, .d (.sl (List.map Attr.cs x1.1)), .d (.sl (List.map Action.cs x1.2)), .d (.sl (List.map View.cs v.Kids))]) rfl rfl rfl rfl rfl rfl rfl rfl rfl) (OkOps.nil (Ok.seq (Ok.region (OkOps.x (.c (.d (.v (.slice none 0 0)))) rfl trivial rfl (OkOps.nil ?_))))))))))))
  obtain ⟨k3, hk3, hr⟩ := jn_some hr
  refine Ok.join (fun (s2 : (List View)) => ⟨[(1, .s (.c (.loc 0 0))), (2, .s (.c (.loc 1 0))), (3, .s (.c (.tl 1004 (List.map View.cs s2))))], [(0, .blk [cI v.Kind, cS v.Key, .d (.sl (List.map Attr.cs x1.1)), .d (.sl (List.map Action.cs x1.2)), .d (.sl (List.map View.cs v.Kids))] 31), (1, .blk [cI 0, cS ByteArray.empty, .d (.v (.slice none 0 0)), .d (.v (.slice none 0 0)), .d (.v (.slice none 0 0))] 31), (1004, .tail 5)], 0⟩) k3 r (fun s2 hr => ?_) ?_
  rw [hk3] at hr
  refine Ok.seq (Ok.region (OkOps.x (.c (.tl 1004 (List.map View.cs s2))) rfl trivial rfl (OkOps.x (.c (.loc 0 4)) rfl trivial rfl (OkOps.w (triStore (cs' := [cI v.Kind, cS v.Key, .d (.sl (List.map Attr.cs x1.1)), .d (.sl (List.map Action.cs x1.2)), .tl 1004 (List.map View.cs s2)]) rfl rfl rfl rfl rfl rfl rfl rfl rfl) (OkOps.nil (Ok.seq (Ok.region (OkOps.x (.agg [cI v.Kind, cS v.Key, .d (.sl (List.map Attr.cs x1.1)), .d (.sl (List.map Action.cs x1.2)), .tl 1004 (List.map View.cs s2)]) rfl trivial rfl (OkOps.w (triStore (cs' := [cI v.Kind, cS v.Key, .d (.sl (List.map Attr.cs x1.1)), .d (.sl (List.map Action.cs x1.2)), .tl 1004 (List.map View.cs s2)]) rfl rfl rfl rfl rfl rfl rfl rfl rfl) (OkOps.nil (Ok.ret ?_)))))))))))
  obtain rfl := Option.some.inj hr
  exact ⟨_, rfl, .inr rfl, trivial⟩
  clear hk3
  refine Ok.seq (Ok.region (OkOps.x (.c (.loc 0 4)) rfl trivial rfl (OkOps.x (.c (.d (.sl (List.map View.cs v.Kids)))) rfl trivial rfl (OkOps.q (triLen (enc := View.cs) v.Kids rfl rfl trivial rfl) (OkOps.x (aI 0) rfl trivial rfl (OkOps.nil (Ok.block (Ok.loopK (fun (s4 : (List View) × Int) => ⟨[(1, .s (.c (.loc 0 0))), (2, .s (.c (.loc 1 0))), (3, .s (.c (.tl 1007 (List.map View.cs s4.1)))), (17, .s (.c (.d (.sl (List.map View.cs v.Kids))))), (18, .s (aI (v.Kids.length : Int))), (19, .s (aI s4.2))], [(0, .blk [cI v.Kind, cS v.Key, .d (.sl (List.map Attr.cs x1.1)), .d (.sl (List.map Action.cs x1.2)), .d (.sl (List.map View.cs v.Kids))] 31), (1, .blk [cI 0, cS ByteArray.empty, .d (.v (.slice none 0 0)), .d (.v (.slice none 0 0)), .d (.v (.slice none 0 0))] 31), (1007, .tail 5)], 0⟩) hr (Conv.trans (Conv.nil 3 1009 5 0 rfl rfl) (Conv.mk (tau [(1007, 1009)]) ⟨⟨_, rfl, .inl rfl⟩, ⟨_, rfl, .inl rfl⟩, ⟨_, rfl, .inl rfl⟩, ⟨_, rfl, .inl rfl⟩, ⟨_, rfl, .inl rfl⟩, ⟨_, rfl, .inl rfl⟩, trivial⟩ ⟨rfl, rfl, rfl, trivial⟩ rfl rfl rfl rfl)) ?_))))))))
  clear hr
  intro again5 s4 hr
  unfold vw_own_L1 at hr
  refine Ok.seq (Ok.region (OkOps.x (aB (decide (s4.2 < (v.Kids.length : Int)))) rfl trivial rfl (OkOps.nil (Ok.seq ?_))))
  refine Ok.cond (b := decide (s4.2 < (v.Kids.length : Int))) rfl (fun h6 => ?_) (fun h6 => ?_)
  have hr := selT h6 hr
  refine Ok.skip (Ok.seq (Ok.block (Ok.seq (Ok.region ?_))))
  obtain ⟨x7, hx7, hr⟩ := bind_some hr
  refine OkOps.q (triIdx (enc := View.cs) (L := v.Kids) (row := [dI x7.Kind, dS x7.Key, .sl (List.map Attr.cs x7.Attrs), .sl (List.map Action.cs x7.Actions), .sl (List.map View.cs x7.Kids)]) hx7 (View.cs_eq _) rfl rfl rfl (fun x => by rw [View.cs_eq]; rfl) trivial rfl) ?_
  refine OkOps.x (.agg [cI x7.Kind, cS x7.Key, .d (.sl (List.map Attr.cs x7.Attrs)), .d (.sl (List.map Action.cs x7.Actions)), .d (.sl (List.map View.cs x7.Kids))]) rfl trivial rfl (OkOps.m 0 (triAlloc (j := 2) (cs := [cI 0, cS ByteArray.empty, .d (.v (.slice none 0 0)), .d (.v (.slice none 0 0)), .d (.v (.slice none 0 0))]) rfl rfl rfl rfl) (OkOps.w (triStore (cs' := [cI x7.Kind, cS x7.Key, .d (.sl (List.map Attr.cs x7.Attrs)), .d (.sl (List.map Action.cs x7.Actions)), .d (.sl (List.map View.cs x7.Kids))]) rfl rfl rfl rfl rfl rfl rfl rfl rfl) (OkOps.nil (Ok.region (OkOps.x (.c (.tl 1007 (List.map View.cs s4.1))) rfl trivial rfl (OkOps.x (.agg [cI x7.Kind, cS x7.Key, .d (.sl (List.map Attr.cs x7.Attrs)), .d (.sl (List.map Action.cs x7.Actions)), .d (.sl (List.map View.cs x7.Kids))]) rfl trivial rfl ?_))))))
  obtain ⟨x8, hx8, hr⟩ := bind_some hr
  refine OkOps.q (triCall (tau []) (.s (.agg [cI x8.Kind, cS x8.Key, .d (.sl (List.map Attr.cs x8.Attrs)), .d (.sl (List.map Action.cs x8.Actions)), .d (.sl (List.map View.cs x8.Kids))])) [] (hself0 _ hx8) rfl ⟨.inl rfl, trivial⟩ trivial entry66 trivial rfl rfl rfl rfl trivial rfl rfl rfl) ?_
  refine OkOps.m 0 (triBST (sz := 5) (enc := View.cs) (j := 3) ([x8]) rfl rfl rfl rfl rfl (rows := [[dI x8.Kind, dS x8.Key, .sl (List.map Attr.cs x8.Attrs), .sl (List.map Action.cs x8.Actions), .sl (List.map View.cs x8.Kids)]]) (by simp only [List.map, View.cs_eq]) rfl rfl (fun x => by rw [View.cs_eq]; rfl) trivial rfl rfl) ?_
  obtain ⟨x9, hx9, hr⟩ := bind_some hr
  refine OkOps.m2 0 (triApp (enc := View.cs) (L := s4.1) (X := [x8]) (j := 1007) (j' := 4) hx9 rfl rfl rfl rfl rfl rfl (fun x => by rw [View.cs_eq]; rfl) (fun x => by rw [View.cs_eq]; rfl) (by decide) trivial rfl rfl) ?_
  refine OkOps.x (.c (.tl 4 (List.map View.cs x9))) rfl trivial rfl (OkOps.nil (Ok.region (OkOps.x (aI (IntKind.i64.wrap (s4.2 + 1))) rfl trivial rfl (OkOps.x (aI (IntKind.i64.wrap (s4.2 + 1))) rfl trivial rfl (OkOps.nil ?_)))))
  exact ⟨(x9, IntKind.i64.wrap (s4.2 + 1)), hr, (Conv.mk (tau [(1007, 4)]) ⟨⟨_, rfl, .inl rfl⟩, ⟨_, rfl, .inl rfl⟩, ⟨_, rfl, .inl rfl⟩, ⟨_, rfl, .inl rfl⟩, ⟨_, rfl, .inl rfl⟩, ⟨_, rfl, .inl rfl⟩, trivial⟩ ⟨rfl, rfl, rfl, trivial⟩ rfl rfl rfl rfl)⟩
  have hr := selF h6 hr
  refine Ok.exit ?_
  exact ⟨s4.1, hr, (Conv.mk (tau [(1004, 1007)]) ⟨⟨_, rfl, .inl rfl⟩, ⟨_, rfl, .inl rfl⟩, ⟨_, rfl, .inl rfl⟩, trivial⟩ ⟨rfl, rfl, rfl, trivial⟩ rfl rfl rfl rfl)⟩
theorem vw_own_all : ∀ n : Nat, (∀ (v : View) {r : View}, vw_own n v = some r → Con Tryd.prog 66 [.agg [cI v.Kind, cS v.Key, .d (.sl (List.map Attr.cs v.Attrs)), .d (.sl (List.map Action.cs v.Actions)), .d (.sl (List.map View.cs v.Kids))]] [] (.s (.agg [cI r.Kind, cS r.Key, .d (.sl (List.map Attr.cs r.Attrs)), .d (.sl (List.map Action.cs r.Actions)), .d (.sl (List.map View.cs r.Kids))])) []) ∧ True := by
  intro n
  induction n with
  | zero => exact ⟨(by intros; rename_i hr; cases hr), trivial⟩
  | succ n ih => exact ⟨(by intros; rename_i hr; exact vw_own_B_c _ ih.1 _ hr), trivial⟩
theorem vw_own_c (n : Nat) (v : View) {r : View} (hr : vw_own n v = some r) : Con Tryd.prog 66 [.agg [cI v.Kind, cS v.Key, .d (.sl (List.map Attr.cs v.Attrs)), .d (.sl (List.map Action.cs v.Actions)), .d (.sl (List.map View.cs v.Kids))]] [] (.s (.agg [cI r.Kind, cS r.Key, .d (.sl (List.map Attr.cs r.Attrs)), .d (.sl (List.map Action.cs r.Actions)), .d (.sl (List.map View.cs r.Kids))])) [] := (vw_own_all n).1 v hr
theorem vw_Describe_c (t : Tree) {r : View × Int} (hr : vw_Describe t = some r) : Con Tryd.prog 42 [.agg [cI t.Root, cI t.Next, .d (.sl (List.map Node.cs t.Nodes))]] [] (.tup [.agg [cI r.1.Kind, cS r.1.Key, .d (.sl (List.map Attr.cs r.1.Attrs)), .d (.sl (List.map Action.cs r.1.Actions)), .d (.sl (List.map View.cs r.1.Kids))], aI r.2]) [] := by
  unfold vw_Describe at hr
  refine Con.of_ok 19 0 [.cell 2 31, .tmp 3] [(0, .s (.agg [cI t.Root, cI t.Next, .d (.sl (List.map Node.cs t.Nodes))]))] Tryd.func42 rfl rfl rfl rfl rfl rfl rfl rfl fun w g M ρ _ => (Ok.seq (Ok.region (OkOps.m 0 (triBox (j := 0) (cs := [cI t.Root, cI t.Next, .d (.sl (List.map Node.cs t.Nodes))]) rfl rfl rfl rfl rfl) (OkOps.m 0 (triAlloc (j := 1) (cs := [cI 0, cS ByteArray.empty, .d (.v (.slice none 0 0)), .d (.v (.slice none 0 0)), .d (.v (.slice none 0 0))]) rfl rfl rfl rfl) (OkOps.x (aI 0) rfl trivial rfl (OkOps.nil (Ok.seq (Ok.region (OkOps.x (.agg [cI t.Root, cI t.Next, .d (.sl (List.map Node.cs t.Nodes))]) rfl trivial rfl ?_)))))))))
  obtain ⟨x1, hx1, hr⟩ := bind_some hr
  refine OkOps.q (triCall (tau []) (.tup [.c (.d (.mp true (encM (kInt .i64) Node.cs x1.1))), .agg [cI x1.2.1.Kind, cS x1.2.1.Key, .d (.sl (List.map Attr.cs x1.2.1.Attrs)), .d (.sl (List.map Action.cs x1.2.1.Actions)), .d (.sl (List.map View.cs x1.2.1.Kids))], aI x1.2.2]) [] (vw_examine_c _ hx1) rfl ⟨.inl rfl, trivial⟩ trivial entry65 trivial rfl rfl rfl rfl trivial rfl rfl rfl) (OkOps.q (triMv (v := .tup [.c (.d (.mp true (encM (kInt .i64) Node.cs x1.1))), .agg [cI x1.2.1.Kind, cS x1.2.1.Key, .d (.sl (List.map Attr.cs x1.2.1.Attrs)), .d (.sl (List.map Action.cs x1.2.1.Actions)), .d (.sl (List.map View.cs x1.2.1.Kids))], aI x1.2.2]) rfl rfl) (OkOps.x (.c (.d (.mp true (encM (kInt .i64) Node.cs x1.1)))) rfl trivial rfl (OkOps.x (.agg [cI x1.2.1.Kind, cS x1.2.1.Key, .d (.sl (List.map Attr.cs x1.2.1.Attrs)), .d (.sl (List.map Action.cs x1.2.1.Actions)), .d (.sl (List.map View.cs x1.2.1.Kids))]) rfl trivial rfl (OkOps.x (aI x1.2.2) rfl trivial rfl (OkOps.m 0 (triAlloc (j := 2) (cs := [cI 0, cS ByteArray.empty, .d (.v (.slice none 0 0)), .d (.v (.slice none 0 0)), .d (.v (.slice none 0 0))]) rfl rfl rfl rfl) (OkOps.x (.c (.d (.mp true (encM (kInt .i64) Node.cs x1.1)))) rfl trivial rfl (OkOps.w (triStore (cs' := [cI x1.2.1.Kind, cS x1.2.1.Key, .d (.sl (List.map Attr.cs x1.2.1.Attrs)), .d (.sl (List.map Action.cs x1.2.1.Actions)), .d (.sl (List.map View.cs x1.2.1.Kids))]) rfl rfl rfl rfl rfl rfl rfl rfl rfl) (OkOps.x (aI x1.2.2) rfl trivial rfl (OkOps.nil (Ok.seq (Ok.seq (Ok.region (OkOps.x (aI x1.2.2) rfl trivial rfl (OkOps.x (aB (x1.2.2 != 0)) rfl trivial rfl (OkOps.nil ?_)))))))))))))))
  refine Ok.cond (b := x1.2.2 != 0) rfl (fun h2 => ?_) (fun h2 => ?_)
  have hr := selT h2 hr
  refine Ok.seq (Ok.region (OkOps.x (.agg [cI 0, cS ByteArray.empty, .d (.v (.slice none 0 0)), .d (.v (.slice none 0 0)), .d (.v (.slice none 0 0))]) rfl trivial rfl (OkOps.x (aI x1.2.2) rfl trivial rfl (OkOps.w (triStore (cs' := [cI 0, cS ByteArray.empty, .d (.v (.slice none 0 0)), .d (.v (.slice none 0 0)), .d (.v (.slice none 0 0))]) rfl rfl rfl rfl rfl rfl rfl rfl rfl) (OkOps.x (aI x1.2.2) rfl trivial rfl (OkOps.nil (Ok.ret ?_)))))))
  obtain rfl := Option.some.inj hr
  exact ⟨_, rfl, .inr rfl, trivial⟩
  have hr := selF h2 hr
  refine Ok.skip (Ok.seq (Ok.region (OkOps.x (.agg [cI x1.2.1.Kind, cS x1.2.1.Key, .d (.sl (List.map Attr.cs x1.2.1.Attrs)), .d (.sl (List.map Action.cs x1.2.1.Actions)), .d (.sl (List.map View.cs x1.2.1.Kids))]) rfl trivial rfl ?_)))
  obtain ⟨x3, hx3, hr⟩ := bind_some hr
  refine OkOps.q (triCall (tau []) (.s (.agg [cI x3.Kind, cS x3.Key, .d (.sl (List.map Attr.cs x3.Attrs)), .d (.sl (List.map Action.cs x3.Actions)), .d (.sl (List.map View.cs x3.Kids))])) [] (vw_own_c _ _ hx3) rfl ⟨.inl rfl, trivial⟩ trivial entry66 trivial rfl rfl rfl rfl trivial rfl rfl rfl) (OkOps.w (triStore (cs' := [cI x3.Kind, cS x3.Key, .d (.sl (List.map Attr.cs x3.Attrs)), .d (.sl (List.map Action.cs x3.Actions)), .d (.sl (List.map View.cs x3.Kids))]) rfl rfl rfl rfl rfl rfl rfl rfl rfl) (OkOps.x (aI 0) rfl trivial rfl (OkOps.nil (Ok.ret ?_))))
  obtain rfl := Option.some.inj hr
  exact ⟨_, rfl, .inl rfl, trivial⟩
theorem entry42 : Entry Tryd.prog 42 := ⟨_, Tryd.func42, by kernel_rfl, by kernel_rfl⟩
theorem slices_Clone_Sl_int_int_c (s : (List Int)) {r : (List Int)} (hr : slices_Clone_Sl_int_int s = some r) : Con Tryd.prog 68 [.c (.d (.sl (List.map (eInt .i64) s)))] [] (.s (.c (.tl 2000 (List.map (eInt .i64) r)))) [(2000, .tail 1)] := by
  unfold slices_Clone_Sl_int_int at hr
  refine Con.of_ok 8 0 [.tmp 2] [(0, .s (.c (.d (.sl (List.map (eInt .i64) s)))))] Tryd.func68 rfl rfl rfl rfl rfl rfl rfl rfl fun w g M ρ _ => (Ok.seq (Ok.region (OkOps.q (triQ (x := .c (.d (.v (.slice none 0 0)))) rfl trivial rfl) (OkOps.nil (Ok.seq (Ok.seq (Ok.region (OkOps.q (triQ (x := .c (.d (.sl (List.map (eInt .i64) s)))) rfl trivial rfl) ?_))))))))
  refine OkOps.eqNil (e := 3) rfl (by kernel_rfl) trivial rfl (fun b hb => ?_)
  refine OkOps.nil ?_
  refine Ok.cond (b := b) rfl (fun h => ?_) (fun h => ?_)
  obtain rfl : s = [] := by simpa using hb h
  obtain rfl : r = [] := ((appO_spec hr).2 : _)
  refine Ok.seq (Ok.region (OkOps.q (triQ (x := .c (.d (.v (.slice none 0 0)))) rfl trivial rfl) (OkOps.nil (Ok.conv (Conv.nil 2 2000 1 0 rfl rfl) (Ok.ret ?_)))))
  exact ⟨_, rfl, .inl rfl, ⟨rfl, trivial⟩⟩
  refine Ok.skip (Ok.seq (Ok.region (OkOps.m 0 (triBST (sz := 1) (enc := (eInt .i64)) (j := 0) [] rfl rfl rfl rfl rfl rfl rfl rfl (fun _ => rfl) trivial rfl rfl) (OkOps.q (triQ (x := .c (.d (.sl (List.map (eInt .i64) s)))) rfl trivial rfl) (OkOps.m2 0 (triApp (enc := (eInt .i64)) (L := []) (X := s) (j := 0) (j' := 2000) hr rfl rfl rfl rfl rfl rfl (fun _ => rfl) (fun _ => rfl) (by decide) trivial rfl rfl) (OkOps.q (triQ (x := .c (.tl 2000 (List.map (eInt .i64) r))) rfl trivial rfl) (OkOps.nil (Ok.ret ?_))))))))
  exact ⟨_, rfl, .inl rfl, ⟨rfl, trivial⟩⟩
theorem entry68 : Entry Tryd.prog 68 := ⟨_, Tryd.func68, by kernel_rfl, by kernel_rfl⟩
theorem vw_Find_c (t : Tree) (id : Int) {r : Node × Bool} (hr : vw_Find t id = some r) : Con Tryd.prog 45 [.agg [cI t.Root, cI t.Next, .d (.sl (List.map Node.cs t.Nodes))], aI id] [] (.tup [.agg [cI r.1.ID, cI r.1.Parent, cI r.1.Kind, cS r.1.Key, .d (.sl (List.map Attr.cs r.1.Attrs)), .d (.sl (List.map Action.cs r.1.Actions)), .d (.sl (List.map (eInt .i64) r.1.Kids))], aB r.2]) [] := by
  unfold vw_Find at hr
  refine Con.of_ok 36 0 [.cell 4 55, .tmp 5] [(0, .s (.agg [cI t.Root, cI t.Next, .d (.sl (List.map Node.cs t.Nodes))])), (1, .s (aI id))] Tryd.func45 rfl rfl rfl rfl rfl rfl rfl rfl fun w g M ρ _ => (Ok.seq (Ok.region (OkOps.m 0 (triBox (j := 0) (cs := [cI t.Root, cI t.Next, .d (.sl (List.map Node.cs t.Nodes))]) rfl rfl rfl rfl rfl) (OkOps.m 0 (triAlloc (j := 1) (cs := [cI 0, cI 0, cI 0, cS ByteArray.empty, .d (.v (.slice none 0 0)), .d (.v (.slice none 0 0)), .d (.v (.slice none 0 0))]) rfl rfl rfl rfl) (OkOps.x (aB false) rfl trivial rfl (OkOps.nil ?_))))))
  obtain ⟨k2, hk2, hr⟩ := jn_some hr
  refine Ok.join (fun (s1 : Unit) => ⟨[(4, .s (.c (.loc 1 0)))], [(1, .blk [cI 0, cI 0, cI 0, cS ByteArray.empty, .d (.v (.slice none 0 0)), .d (.v (.slice none 0 0)), .d (.v (.slice none 0 0))] 55)], 0⟩) k2 r (fun s1 hr => ?_) ?_
  rw [hk2] at hr
  refine Ok.seq (Ok.region (OkOps.x (.agg [cI 0, cI 0, cI 0, cS ByteArray.empty, .d (.v (.slice none 0 0)), .d (.v (.slice none 0 0)), .d (.v (.slice none 0 0))]) rfl trivial rfl (OkOps.w (triStore (cs' := [cI 0, cI 0, cI 0, cS ByteArray.empty, .d (.v (.slice none 0 0)), .d (.v (.slice none 0 0)), .d (.v (.slice none 0 0))]) rfl rfl rfl rfl rfl rfl rfl rfl rfl) (OkOps.x (aB false) rfl trivial rfl (OkOps.nil (Ok.ret ?_))))))
  obtain rfl := Option.some.inj hr
  exact ⟨_, rfl, .inr rfl, trivial⟩
  clear hk2
  refine Ok.seq (Ok.region (OkOps.x (.c (.loc 0 2)) rfl trivial rfl (OkOps.x (.c (.d (.sl (List.map Node.cs t.Nodes)))) rfl trivial rfl (OkOps.q (triLen (enc := Node.cs) t.Nodes rfl rfl trivial rfl) (OkOps.x (aI 0) rfl trivial rfl (OkOps.nil (Ok.block (Ok.loopK (fun (s3 : Int) => ⟨[(1, .s (aI id)), (4, .s (.c (.loc 1 0))), (9, .s (.c (.d (.sl (List.map Node.cs t.Nodes))))), (10, .s (aI (t.Nodes.length : Int))), (11, .s (aI s3))], [(1, .blk [cI 0, cI 0, cI 0, cS ByteArray.empty, .d (.v (.slice none 0 0)), .d (.v (.slice none 0 0)), .d (.v (.slice none 0 0))] 55)], 0⟩) hr (Conv.mk (tau []) ⟨⟨_, rfl, .inl rfl⟩, ⟨_, rfl, .inl rfl⟩, ⟨_, rfl, .inl rfl⟩, ⟨_, rfl, .inl rfl⟩, ⟨_, rfl, .inl rfl⟩, trivial⟩ ⟨rfl, trivial⟩ rfl rfl rfl rfl) ?_))))))))
  clear hr
  intro again4 s3 hr
  unfold vw_Find_L1 at hr
  refine Ok.seq (Ok.region (OkOps.x (aB (decide (s3 < (t.Nodes.length : Int)))) rfl trivial rfl (OkOps.nil (Ok.seq ?_))))
  refine Ok.cond (b := decide (s3 < (t.Nodes.length : Int))) rfl (fun h5 => ?_) (fun h5 => ?_)
  have hr := selT h5 hr
  refine Ok.skip (Ok.seq (Ok.block (Ok.seq (Ok.region ?_))))
  obtain ⟨x6, hx6, hr⟩ := bind_some hr
  refine OkOps.q (triIdx (enc := Node.cs) (L := t.Nodes) (row := [dI x6.ID, dI x6.Parent, dI x6.Kind, dS x6.Key, .sl (List.map Attr.cs x6.Attrs), .sl (List.map Action.cs x6.Actions), .sl (List.map (eInt .i64) x6.Kids)]) hx6 rfl rfl rfl rfl (fun _ => rfl) trivial rfl) (OkOps.x (.agg [cI x6.ID, cI x6.Parent, cI x6.Kind, cS x6.Key, .d (.sl (List.map Attr.cs x6.Attrs)), .d (.sl (List.map Action.cs x6.Actions)), .d (.sl (List.map (eInt .i64) x6.Kids))]) rfl trivial rfl (OkOps.m 0 (triAlloc (j := 2) (cs := [cI 0, cI 0, cI 0, cS ByteArray.empty, .d (.v (.slice none 0 0)), .d (.v (.slice none 0 0)), .d (.v (.slice none 0 0))]) rfl rfl rfl rfl) (OkOps.w (triStore (cs' := [cI x6.ID, cI x6.Parent, cI x6.Kind, cS x6.Key, .d (.sl (List.map Attr.cs x6.Attrs)), .d (.sl (List.map Action.cs x6.Actions)), .d (.sl (List.map (eInt .i64) x6.Kids))]) rfl rfl rfl rfl rfl rfl rfl rfl rfl) (OkOps.nil (Ok.seq (Ok.seq (Ok.region (OkOps.x (.c (.loc 2 0)) rfl trivial rfl (OkOps.x (aI x6.ID) rfl trivial rfl (OkOps.x (aI id) rfl trivial rfl (OkOps.x (aB (x6.ID != id)) rfl trivial rfl (OkOps.nil ?_))))))))))))
  refine Ok.cond (b := x6.ID != id) rfl (fun h7 => ?_) (fun h7 => ?_)
  have hr := selT h7 hr
  refine Ok.exit (Ok.region (OkOps.x (aI (IntKind.i64.wrap (s3 + 1))) rfl trivial rfl (OkOps.x (aI (IntKind.i64.wrap (s3 + 1))) rfl trivial rfl (OkOps.nil ?_))))
  exact ⟨IntKind.i64.wrap (s3 + 1), hr, (Conv.mk (tau []) ⟨⟨_, rfl, .inl rfl⟩, ⟨_, rfl, .inl rfl⟩, ⟨_, rfl, .inl rfl⟩, ⟨_, rfl, .inl rfl⟩, ⟨_, rfl, .inl rfl⟩, trivial⟩ ⟨rfl, trivial⟩ rfl rfl rfl rfl)⟩
  have hr := selF h7 hr
  refine Ok.skip (Ok.seq (Ok.region (OkOps.x (.c (.loc 2 4)) rfl trivial rfl (OkOps.x (.c (.d (.sl (List.map Attr.cs x6.Attrs)))) rfl trivial rfl (OkOps.x (.c (.loc 2 5)) rfl trivial rfl (OkOps.x (.c (.d (.sl (List.map Action.cs x6.Actions)))) rfl trivial rfl ?_))))))
  obtain ⟨x8, hx8, hr⟩ := bind_some hr
  refine OkOps.q (triCall (tau []) (.tup [.c (.d (.sl (List.map Attr.cs x8.1))), .c (.d (.sl (List.map Action.cs x8.2)))]) [] (vw_copied_c _ _ hx8) rfl ⟨.inl rfl, .inl rfl, trivial⟩ trivial entry59 trivial rfl rfl rfl rfl trivial rfl rfl rfl) (OkOps.q (triMv (v := .tup [.c (.d (.sl (List.map Attr.cs x8.1))), .c (.d (.sl (List.map Action.cs x8.2)))]) rfl rfl) (OkOps.x (.c (.d (.sl (List.map Attr.cs x8.1)))) rfl trivial rfl (OkOps.x (.c (.d (.sl (List.map Action.cs x8.2)))) rfl trivial rfl (OkOps.x (.c (.loc 2 4)) rfl trivial rfl (OkOps.w (triStore (cs' := [cI x6.ID, cI x6.Parent, cI x6.Kind, cS x6.Key, .d (.sl (List.map Attr.cs x8.1)), .d (.sl (List.map Action.cs x6.Actions)), .d (.sl (List.map (eInt .i64) x6.Kids))]) rfl rfl rfl rfl rfl rfl rfl rfl rfl) (OkOps.x (.c (.loc 2 5)) rfl trivial rfl (OkOps.w (triStore (cs' := [cI x6.ID, cI x6.Parent, cI x6.Kind, cS x6.Key, .d (.sl (List.map Attr.cs x8.1)), .d (.sl (List.map Action.cs x8.2)), .d (.sl (List.map (eInt .i64) x6.Kids))]) rfl rfl rfl rfl rfl rfl rfl rfl rfl) (OkOps.nil (Ok.seq (Ok.region (OkOps.x (.c (.loc 2 6)) rfl trivial rfl (OkOps.x (.c (.d (.sl (List.map (eInt .i64) x6.Kids)))) rfl trivial rfl ?_))))))))))))
  obtain ⟨x9, hx9, hr⟩ := bind_some hr
  refine OkOps.m 0 (triCall (tau [(2000, 3)]) (.s (.c (.tl 3 (List.map (eInt .i64) x9)))) [(3, .tail 1)] (slices_Clone_Sl_int_int_c _ hx9) rfl ⟨.inl rfl, trivial⟩ trivial entry68 trivial rfl rfl rfl rfl ⟨rfl, trivial⟩ rfl rfl rfl) (OkOps.x (.c (.loc 2 6)) rfl trivial rfl (OkOps.w (triStore (cs' := [cI x6.ID, cI x6.Parent, cI x6.Kind, cS x6.Key, .d (.sl (List.map Attr.cs x8.1)), .d (.sl (List.map Action.cs x8.2)), .tl 3 (List.map (eInt .i64) x9)]) rfl rfl rfl rfl rfl rfl rfl rfl rfl) (OkOps.nil (Ok.seq (Ok.region (OkOps.x (.agg [cI x6.ID, cI x6.Parent, cI x6.Kind, cS x6.Key, .d (.sl (List.map Attr.cs x8.1)), .d (.sl (List.map Action.cs x8.2)), .tl 3 (List.map (eInt .i64) x9)]) rfl trivial rfl (OkOps.w (triStore (cs' := [cI x6.ID, cI x6.Parent, cI x6.Kind, cS x6.Key, .d (.sl (List.map Attr.cs x8.1)), .d (.sl (List.map Action.cs x8.2)), .tl 3 (List.map (eInt .i64) x9)]) rfl rfl rfl rfl rfl rfl rfl rfl rfl) (OkOps.x (aB true) rfl trivial rfl (OkOps.nil (Ok.ret ?_))))))))))
  obtain rfl := Option.some.inj hr
  exact ⟨_, rfl, .inr rfl, trivial⟩
  have hr := selF h5 hr
  refine Ok.exit ?_
  exact ⟨(), hr, (Conv.mk (tau []) ⟨⟨_, rfl, .inl rfl⟩, trivial⟩ ⟨rfl, trivial⟩ rfl rfl rfl rfl)⟩
theorem entry45 : Entry Tryd.prog 45 := ⟨_, Tryd.func45, by kernel_rfl, by kernel_rfl⟩
theorem vw_Order_c (t : Tree) {r : (List Int)} (hr : vw_Order t = some r) : Con Tryd.prog 44 [.agg [cI t.Root, cI t.Next, .d (.sl (List.map Node.cs t.Nodes))]] [] (.s (.c (.d (.sl (List.map (eInt .i64) r))))) [] := by
  unfold vw_Order at hr
  refine Con.of_ok 16 0 [.tmp 2] [(0, .s (.agg [cI t.Root, cI t.Next, .d (.sl (List.map Node.cs t.Nodes))]))] Tryd.func44 rfl rfl rfl rfl rfl rfl rfl rfl fun w g M ρ _ => (Ok.seq (Ok.region (OkOps.m 0 (triBox (j := 0) (cs := [cI t.Root, cI t.Next, .d (.sl (List.map Node.cs t.Nodes))]) rfl rfl rfl rfl rfl) (OkOps.x (.c (.d (.v (.slice none 0 0)))) rfl trivial rfl (OkOps.nil (Ok.seq (Ok.region (OkOps.x (.agg [cI t.Root, cI t.Next, .d (.sl (List.map Node.cs t.Nodes))]) rfl trivial rfl ?_))))))))
  obtain ⟨x1, hx1, hr⟩ := bind_some hr
  refine OkOps.q (triCall (tau []) (.tup [.c (.d (.mp true (encM (kInt .i64) Node.cs x1.1))), aB x1.2]) [] (vw_valid_c _ hx1) rfl ⟨.inl rfl, trivial⟩ trivial entry55 trivial rfl rfl rfl rfl trivial rfl rfl rfl) (OkOps.q (triMv (v := .tup [.c (.d (.mp true (encM (kInt .i64) Node.cs x1.1))), aB x1.2]) rfl rfl) (OkOps.x (.c (.d (.mp true (encM (kInt .i64) Node.cs x1.1)))) rfl trivial rfl (OkOps.x (aB x1.2) rfl trivial rfl (OkOps.x (.c (.d (.mp true (encM (kInt .i64) Node.cs x1.1)))) rfl trivial rfl (OkOps.x (aB x1.2) rfl trivial rfl (OkOps.nil (Ok.seq (Ok.seq (Ok.region (OkOps.x (aB x1.2) rfl trivial rfl (OkOps.x (aB (!x1.2)) rfl trivial rfl (OkOps.nil ?_))))))))))))
  refine Ok.cond (b := !x1.2) rfl (fun h2 => ?_) (fun h2 => ?_)
  have hr := selT h2 hr
  refine Ok.seq (Ok.region (OkOps.x (.c (.d (.v (.slice none 0 0)))) rfl trivial rfl (OkOps.nil (Ok.ret ?_))))
  obtain rfl := Option.some.inj hr
  exact ⟨_, rfl, .inr rfl, trivial⟩
  have hr := selF h2 hr
  refine Ok.skip (Ok.seq (Ok.region (OkOps.x (.c (.d (.mp true (encM (kInt .i64) Node.cs x1.1)))) rfl trivial rfl (OkOps.x (.c (.loc 0 0)) rfl trivial rfl (OkOps.x (aI t.Root) rfl trivial rfl ?_)))))
  obtain ⟨x3, hx3, hr⟩ := bind_some hr
  refine OkOps.q (triCall (tau []) (.s (.c (.d (.sl (List.map (eInt .i64) x3))))) [] (vw_preorder_c _ _ _ hx3) rfl ⟨.inl rfl, .inl rfl, trivial⟩ trivial entry67 trivial rfl rfl rfl rfl trivial rfl rfl rfl) (OkOps.x (.c (.d (.sl (List.map (eInt .i64) x3)))) rfl trivial rfl (OkOps.nil (Ok.ret ?_)))
  obtain rfl := Option.some.inj hr
  exact ⟨_, rfl, .inl rfl, trivial⟩
theorem entry44 : Entry Tryd.prog 44 := ⟨_, Tryd.func44, by kernel_rfl, by kernel_rfl⟩
theorem vw_Path_c (t : Tree) (id : Int) {r : (List Int)} (hr : vw_Path t id = some r) : Con Tryd.prog 46 [.agg [cI t.Root, cI t.Next, .d (.sl (List.map Node.cs t.Nodes))], aI id] [] (.s (.c (.d (.sl (List.map (eInt .i64) r))))) [] := by
  unfold vw_Path at hr
  refine Con.of_ok 17 0 [.tmp 4] [(0, .s (.agg [cI t.Root, cI t.Next, .d (.sl (List.map Node.cs t.Nodes))])), (1, .s (aI id))] Tryd.func46 rfl rfl rfl rfl rfl rfl rfl rfl fun w g M ρ _ => (Ok.seq (Ok.region (OkOps.m 0 (triBox (j := 0) (cs := [cI t.Root, cI t.Next, .d (.sl (List.map Node.cs t.Nodes))]) rfl rfl rfl rfl rfl) (OkOps.x (.c (.d (.v (.slice none 0 0)))) rfl trivial rfl (OkOps.nil (Ok.seq (Ok.region (OkOps.x (.agg [cI t.Root, cI t.Next, .d (.sl (List.map Node.cs t.Nodes))]) rfl trivial rfl ?_))))))))
  obtain ⟨x1, hx1, hr⟩ := bind_some hr
  refine OkOps.q (triCall (tau []) (.tup [.c (.d (.mp true (encM (kInt .i64) Node.cs x1.1))), aB x1.2]) [] (vw_valid_c _ hx1) rfl ⟨.inl rfl, trivial⟩ trivial entry55 trivial rfl rfl rfl rfl trivial rfl rfl rfl) (OkOps.q (triMv (v := .tup [.c (.d (.mp true (encM (kInt .i64) Node.cs x1.1))), aB x1.2]) rfl rfl) (OkOps.x (.c (.d (.mp true (encM (kInt .i64) Node.cs x1.1)))) rfl trivial rfl (OkOps.x (aB x1.2) rfl trivial rfl (OkOps.x (.c (.d (.mp true (encM (kInt .i64) Node.cs x1.1)))) rfl trivial rfl (OkOps.x (aB x1.2) rfl trivial rfl (OkOps.nil (Ok.seq (Ok.seq (Ok.region (OkOps.x (aB x1.2) rfl trivial rfl (OkOps.x (aB (!x1.2)) rfl trivial rfl (OkOps.nil ?_))))))))))))
  refine Ok.cond (b := !x1.2) rfl (fun h2 => ?_) (fun h2 => ?_)
  have hr := selT h2 hr
  refine Ok.seq (Ok.region (OkOps.x (.c (.d (.v (.slice none 0 0)))) rfl trivial rfl (OkOps.nil (Ok.ret ?_))))
  obtain rfl := Option.some.inj hr
  exact ⟨_, rfl, .inr rfl, trivial⟩
  have hr := selF h2 hr
  refine Ok.skip (Ok.seq (Ok.region (OkOps.x (.c (.d (.mp true (encM (kInt .i64) Node.cs x1.1)))) rfl trivial rfl (OkOps.x (aI id) rfl trivial rfl ?_))))
  obtain ⟨x3, hx3, hr⟩ := bind_some hr
  refine OkOps.q (triCall (tau []) (.s (.c (.d (.sl (List.map (eInt .i64) x3))))) [] (vw_path_c _ _ hx3) rfl ⟨.inl rfl, .inl rfl, trivial⟩ trivial entry56 trivial rfl rfl rfl rfl trivial rfl rfl rfl) (OkOps.x (.c (.d (.sl (List.map (eInt .i64) x3)))) rfl trivial rfl (OkOps.nil (Ok.ret ?_)))
  obtain rfl := Option.some.inj hr
  exact ⟨_, rfl, .inl rfl, trivial⟩
theorem entry46 : Entry Tryd.prog 46 := ⟨_, Tryd.func46, by kernel_rfl, by kernel_rfl⟩
theorem vw_Common_c (t : Tree) (a : Int) (b : Int) {r : Int} (hr : vw_Common t a b = some r) : Con Tryd.prog 48 [.agg [cI t.Root, cI t.Next, .d (.sl (List.map Node.cs t.Nodes))], aI a, aI b] [] (.s (aI r)) [] := by
  unfold vw_Common at hr
  refine Con.of_ok 51 0 [.tmp 6] [(0, .s (.agg [cI t.Root, cI t.Next, .d (.sl (List.map Node.cs t.Nodes))])), (1, .s (aI a)), (2, .s (aI b))] Tryd.func48 rfl rfl rfl rfl rfl rfl rfl rfl fun w g M ρ _ => (Ok.seq (Ok.region (OkOps.m 0 (triBox (j := 0) (cs := [cI t.Root, cI t.Next, .d (.sl (List.map Node.cs t.Nodes))]) rfl rfl rfl rfl rfl) (OkOps.x (aI 0) rfl trivial rfl (OkOps.nil (Ok.seq (Ok.region (OkOps.x (.agg [cI t.Root, cI t.Next, .d (.sl (List.map Node.cs t.Nodes))]) rfl trivial rfl ?_))))))))
  obtain ⟨x1, hx1, hr⟩ := bind_some hr
  refine OkOps.q (triCall (tau []) (.tup [.c (.d (.mp true (encM (kInt .i64) Node.cs x1.1))), aB x1.2]) [] (vw_valid_c _ hx1) rfl ⟨.inl rfl, trivial⟩ trivial entry55 trivial rfl rfl rfl rfl trivial rfl rfl rfl) (OkOps.q (triMv (v := .tup [.c (.d (.mp true (encM (kInt .i64) Node.cs x1.1))), aB x1.2]) rfl rfl) (OkOps.x (.c (.d (.mp true (encM (kInt .i64) Node.cs x1.1)))) rfl trivial rfl (OkOps.x (aB x1.2) rfl trivial rfl (OkOps.x (.c (.d (.mp true (encM (kInt .i64) Node.cs x1.1)))) rfl trivial rfl (OkOps.x (aB x1.2) rfl trivial rfl (OkOps.nil (Ok.seq (Ok.seq (Ok.region (OkOps.x (aB x1.2) rfl trivial rfl (OkOps.x (aB (!x1.2)) rfl trivial rfl (OkOps.nil ?_))))))))))))
  refine Ok.cond (b := !x1.2) rfl (fun h2 => ?_) (fun h2 => ?_)
  have hr := selT h2 hr
  refine Ok.seq (Ok.region (OkOps.x (aI 0) rfl trivial rfl (OkOps.nil (Ok.ret ?_))))
  obtain rfl := Option.some.inj hr
  exact ⟨_, rfl, .inl rfl, trivial⟩
  have hr := selF h2 hr
  refine Ok.skip (Ok.seq (Ok.region (OkOps.x (.c (.d (.mp true (encM (kInt .i64) Node.cs x1.1)))) rfl trivial rfl (OkOps.x (aI a) rfl trivial rfl ?_))))
  obtain ⟨x3, hx3, hr⟩ := bind_some hr
  refine OkOps.q (triCall (tau []) (.s (.c (.d (.sl (List.map (eInt .i64) x3))))) [] (vw_path_c _ _ hx3) rfl ⟨.inl rfl, .inl rfl, trivial⟩ trivial entry56 trivial rfl rfl rfl rfl trivial rfl rfl rfl) (OkOps.x (.c (.d (.mp true (encM (kInt .i64) Node.cs x1.1)))) rfl trivial rfl (OkOps.x (aI b) rfl trivial rfl ?_))
  obtain ⟨x4, hx4, hr⟩ := bind_some hr
  refine OkOps.q (triCall (tau []) (.s (.c (.d (.sl (List.map (eInt .i64) x4))))) [] (vw_path_c _ _ hx4) rfl ⟨.inl rfl, .inl rfl, trivial⟩ trivial entry56 trivial rfl rfl rfl rfl trivial rfl rfl rfl) (OkOps.x (.c (.d (.sl (List.map (eInt .i64) x3)))) rfl trivial rfl (OkOps.x (.c (.d (.sl (List.map (eInt .i64) x4)))) rfl trivial rfl (OkOps.nil (Ok.seq (Ok.region (OkOps.x (aI 0) rfl trivial rfl (OkOps.nil ?_)))))))
  obtain ⟨k6, hk6, hr⟩ := jn_some hr
  refine Ok.join (fun (s5 : Int) => ⟨[(11, .s (aI s5))], [], 0⟩) k6 r (fun s5 hr => ?_) ?_
  rw [hk6] at hr
  refine Ok.seq (Ok.region (OkOps.x (aI s5) rfl trivial rfl (OkOps.x (aI s5) rfl trivial rfl (OkOps.nil (Ok.ret ?_)))))
  obtain rfl := Option.some.inj hr
  exact ⟨_, rfl, .inl rfl, trivial⟩
  clear hk6
  refine Ok.seq (Ok.region (OkOps.x (aI 0) rfl trivial rfl (OkOps.nil (Ok.block (Ok.loopK (fun (s7 : Int × Int) => ⟨[(9, .s (.c (.d (.sl (List.map (eInt .i64) x3))))), (10, .s (.c (.d (.sl (List.map (eInt .i64) x4))))), (11, .s (aI s7.1)), (12, .s (aI s7.2))], [], 0⟩) hr (Conv.mk (tau []) ⟨⟨_, rfl, .inl rfl⟩, ⟨_, rfl, .inl rfl⟩, ⟨_, rfl, .inl rfl⟩, ⟨_, rfl, .inl rfl⟩, trivial⟩ trivial rfl rfl rfl rfl) ?_)))))
  clear hr
  intro again8 s7 hr
  unfold vw_Common_L1 at hr
  refine Ok.seq (Ok.seq (Ok.regionD (by kernel_rfl) (OkD.x (aI s7.2) rfl trivial rfl (OkD.x (.c (.d (.sl (List.map (eInt .i64) x3)))) rfl trivial rfl (OkD.q (triLen (enc := (eInt .i64)) x3 rfl rfl trivial rfl) (OkD.x (.c (.d (.sl (List.map (eInt .i64) x4)))) rfl trivial rfl (OkD.q (triLen (enc := (eInt .i64)) x4 rfl rfl trivial rfl) (OkD.x (aI (mnI (x3.length : Int) (x4.length : Int))) rfl trivial rfl (OkD.x (aB (decide (s7.2 < (mnI (x3.length : Int) (x4.length : Int))))) rfl trivial rfl (OkD.x (aB (decide (s7.2 < (mnI (x3.length : Int) (x4.length : Int))))) rfl trivial rfl (OkD.q (triQG (x := .c (.d (.sl (List.map (eInt .i64) x3)))) rfl rfl trivial rfl) (OkD.q (triQG (x := aI s7.2) rfl rfl trivial rfl) ?_))))))))))))
  obtain ⟨x9, hx9, hr⟩ := bind_some hr
  refine OkD.q (triIdxG (enc := (eInt .i64)) (L := x3) (row := [dI x9]) (gO_t hx9) rfl rfl rfl rfl rfl (fun _ => rfl) ⟨fun h => h, ⟨fun h => h, trivial⟩⟩ rfl) (OkD.q (triQG (x := aI x9) rfl rfl ⟨fun h => h, trivial⟩ rfl) (OkD.q (triQG (x := .c (.d (.sl (List.map (eInt .i64) x4)))) rfl rfl trivial rfl) (OkD.q (triQG (x := aI s7.2) rfl rfl trivial rfl) ?_)))
  obtain ⟨x10, hx10, hr⟩ := bind_some hr
  refine OkD.q (triIdxG (enc := (eInt .i64)) (L := x4) (row := [dI x10]) (gO_t hx10) rfl rfl rfl rfl rfl (fun _ => rfl) ⟨fun h => h, ⟨fun h => h, trivial⟩⟩ rfl) (OkD.q (triQG (x := aI x10) rfl rfl ⟨fun h => h, trivial⟩ rfl) (OkD.q (triQG (x := aB (x9 == x10)) rfl rfl ⟨fun h => h, ⟨fun h => h, trivial⟩⟩ rfl) (OkD.q (triAnd rfl rfl (fun h => h) rfl) (OkD.nil (by kernel_rfl) ?_))))
  refine Ok.cond (b := (decide (s7.2 < (mnI (x3.length : Int) (x4.length : Int)))) && (x9 == x10)) rfl (fun h11 => ?_) (fun h11 => ?_)
  have hr := selT h11 hr
  refine Ok.skip (Ok.seq (Ok.block (Ok.region (OkOps.x (.c (.d (.sl (List.map (eInt .i64) x3)))) rfl trivial rfl (OkOps.x (aI s7.2) rfl trivial rfl ?_)))))
  obtain ⟨x12, hx12, hr⟩ := bind_some hr
  refine OkOps.q (triIdx (enc := (eInt .i64)) (L := x3) (row := [dI x12]) hx12 rfl rfl rfl rfl (fun _ => rfl) trivial rfl) (OkOps.x (aI x12) rfl trivial rfl (OkOps.x (aI x12) rfl trivial rfl (OkOps.nil (Ok.region (OkOps.x (aI s7.2) rfl trivial rfl (OkOps.x (aI (IntKind.i64.wrap (s7.2 + 1))) rfl trivial rfl (OkOps.x (aI (IntKind.i64.wrap (s7.2 + 1))) rfl trivial rfl (OkOps.nil ?_))))))))
  exact ⟨(x12, IntKind.i64.wrap (s7.2 + 1)), hr, (Conv.mk (tau []) ⟨⟨_, rfl, .inl rfl⟩, ⟨_, rfl, .inl rfl⟩, ⟨_, rfl, .inl rfl⟩, ⟨_, rfl, .inl rfl⟩, trivial⟩ trivial rfl rfl rfl rfl)⟩
  have hr := selF h11 hr
  refine Ok.exit ?_
  exact ⟨s7.1, hr, (Conv.mk (tau []) ⟨⟨_, rfl, .inl rfl⟩, trivial⟩ trivial rfl rfl rfl rfl)⟩
theorem entry48 : Entry Tryd.prog 48 := ⟨_, Tryd.func48, by kernel_rfl, by kernel_rfl⟩
theorem r01_Equal_c (a : (List Int)) (b : (List Int)) {r : Bool} (hr : r01_Equal a b = some r) : Con Tryd.prog 47 [.c (.d (.sl (List.map (eInt .i64) a))), .c (.d (.sl (List.map (eInt .i64) b)))] [] (.s (aB r)) [] := by
  unfold r01_Equal at hr
  refine Con.of_ok 26 0 [.tmp 4] [(0, .s (.c (.d (.sl (List.map (eInt .i64) a))))), (1, .s (.c (.d (.sl (List.map (eInt .i64) b)))))] Tryd.func47 rfl rfl rfl rfl rfl rfl rfl rfl fun w g M ρ _ => (Ok.seq (Ok.region (OkOps.x (aB false) rfl trivial rfl (OkOps.nil (Ok.seq (Ok.seq (Ok.region (OkOps.x (.c (.d (.sl (List.map (eInt .i64) a)))) rfl trivial rfl (OkOps.q (triLen (enc := (eInt .i64)) a rfl rfl trivial rfl) (OkOps.x (.c (.d (.sl (List.map (eInt .i64) b)))) rfl trivial rfl (OkOps.q (triLen (enc := (eInt .i64)) b rfl rfl trivial rfl) (OkOps.x (aB ((a.length : Int) != (b.length : Int))) rfl trivial rfl (OkOps.nil ?_)))))))))))))
  refine Ok.cond (b := (a.length : Int) != (b.length : Int)) rfl (fun h1 => ?_) (fun h1 => ?_)
  have hr := selT h1 hr
  refine Ok.seq (Ok.region (OkOps.x (aB false) rfl trivial rfl (OkOps.nil (Ok.ret ?_))))
  obtain rfl := Option.some.inj hr
  exact ⟨_, rfl, .inl rfl, trivial⟩
  have hr := selF h1 hr
  refine Ok.skip ?_
  obtain ⟨k3, hk3, hr⟩ := jn_some hr
  refine Ok.join (fun (s2 : Unit) => ⟨[], [], 0⟩) k3 r (fun s2 hr => ?_) ?_
  rw [hk3] at hr
  refine Ok.seq (Ok.region (OkOps.x (aB true) rfl trivial rfl (OkOps.nil (Ok.ret ?_))))
  obtain rfl := Option.some.inj hr
  exact ⟨_, rfl, .inl rfl, trivial⟩
  clear hk3
  refine Ok.seq (Ok.region (OkOps.x (aI 0) rfl trivial rfl (OkOps.nil (Ok.block (Ok.loopK (fun (s4 : Int) => ⟨[(0, .s (.c (.d (.sl (List.map (eInt .i64) a))))), (1, .s (.c (.d (.sl (List.map (eInt .i64) b))))), (5, .s (aI s4))], [], 0⟩) hr (Conv.mk (tau []) ⟨⟨_, rfl, .inl rfl⟩, ⟨_, rfl, .inl rfl⟩, ⟨_, rfl, .inl rfl⟩, trivial⟩ trivial rfl rfl rfl rfl) ?_)))))
  clear hr
  intro again5 s4 hr
  unfold r01_Equal_L1 at hr
  refine Ok.seq (Ok.seq (Ok.region (OkOps.x (aI s4) rfl trivial rfl (OkOps.x (.c (.d (.sl (List.map (eInt .i64) a)))) rfl trivial rfl (OkOps.q (triLen (enc := (eInt .i64)) a rfl rfl trivial rfl) (OkOps.x (aB (decide (s4 < (a.length : Int)))) rfl trivial rfl (OkOps.nil ?_)))))))
  refine Ok.cond (b := decide (s4 < (a.length : Int))) rfl (fun h6 => ?_) (fun h6 => ?_)
  have hr := selT h6 hr
  refine Ok.skip (Ok.seq (Ok.block (Ok.seq (Ok.regionD (by kernel_rfl) (OkD.x (.c (.d (.sl (List.map (eInt .i64) a)))) rfl trivial rfl (OkD.x (aI s4) rfl trivial rfl ?_))))))
  obtain ⟨x7, hx7, hr⟩ := bind_some hr
  refine OkD.q (triIdx (enc := (eInt .i64)) (L := a) (row := [dI x7]) hx7 rfl rfl rfl rfl (fun _ => rfl) trivial rfl) (OkD.x (aI x7) rfl trivial rfl (OkD.x (.c (.d (.sl (List.map (eInt .i64) b)))) rfl trivial rfl (OkD.x (aI s4) rfl trivial rfl ?_)))
  obtain ⟨x8, hx8, hr⟩ := bind_some hr
  refine OkD.q (triIdx (enc := (eInt .i64)) (L := b) (row := [dI x8]) hx8 rfl rfl rfl rfl (fun _ => rfl) trivial rfl) (OkD.x (aI x8) rfl trivial rfl (OkD.x (aB (x7 != x8)) rfl trivial rfl (OkD.nil (by kernel_rfl) ?_)))
  refine Ok.cond (b := x7 != x8) rfl (fun h9 => ?_) (fun h9 => ?_)
  have hr := selT h9 hr
  refine Ok.seq (Ok.region (OkOps.x (aB false) rfl trivial rfl (OkOps.nil (Ok.ret ?_))))
  obtain rfl := Option.some.inj hr
  exact ⟨_, rfl, .inl rfl, trivial⟩
  have hr := selF h9 hr
  refine Ok.skip (Ok.region (OkOps.x (aI s4) rfl trivial rfl (OkOps.x (aI (IntKind.i64.wrap (s4 + 1))) rfl trivial rfl (OkOps.x (aI (IntKind.i64.wrap (s4 + 1))) rfl trivial rfl (OkOps.nil ?_)))))
  exact ⟨IntKind.i64.wrap (s4 + 1), hr, (Conv.mk (tau []) ⟨⟨_, rfl, .inl rfl⟩, ⟨_, rfl, .inl rfl⟩, ⟨_, rfl, .inl rfl⟩, trivial⟩ trivial rfl rfl rfl rfl)⟩
  have hr := selF h6 hr
  refine Ok.exit ?_
  exact ⟨(), hr, (Conv.mk (tau []) trivial trivial rfl rfl rfl rfl)⟩
theorem entry47 : Entry Tryd.prog 47 := ⟨_, Tryd.func47, by kernel_rfl, by kernel_rfl⟩
end Go.Proofs.YtcfegecdlbbeaaaDoor
end
section
set_option maxRecDepth 100000
namespace Go.Proofs.YtcfegecdlbbeaaaDoor
open Go Go.E2
theorem entry124 : Entry Tryd.prog 124 := ⟨_, Tryd.func124, by kernel_rfl, by kernel_rfl⟩
theorem r11_join_B_c (self0 : AType → AType → Option (AType × Bool)) (hself0 : ∀ (a : AType) (b : AType) {r : AType × Bool}, self0 a b = some r → Con Tryd.prog 124 [.agg [cI a.Kind, .d (.sl (List.map AType.cs a.Of))], .agg [cI b.Kind, .d (.sl (List.map AType.cs b.Of))]] [] (.tup [.agg [cI r.1.Kind, .d (.sl (List.map AType.cs r.1.Of))], aB r.2]) []) (a : AType) (b : AType) {r : AType × Bool} (hr : r11_join_B self0 a b = some r) : Con Tryd.prog 124 [.agg [cI a.Kind, .d (.sl (List.map AType.cs a.Of))], .agg [cI b.Kind, .d (.sl (List.map AType.cs b.Of))]] [] (.tup [.agg [cI r.1.Kind, .d (.sl (List.map AType.cs r.1.Of))], aB r.2]) [] := by
  unfold r11_join_B at hr
  refine Con.of_ok 44 0 [.cell 4 130, .tmp 5] [(0, .s (.agg [cI a.Kind, .d (.sl (List.map AType.cs a.Of))])), (1, .s (.agg [cI b.Kind, .d (.sl (List.map AType.cs b.Of))]))] Tryd.func124 rfl rfl rfl rfl rfl rfl rfl rfl fun w g M ρ _ => (Ok.seq (Ok.region (OkOps.m 0 (triBox (j := 0) (cs := [cI a.Kind, .d (.sl (List.map AType.cs a.Of))]) rfl rfl rfl rfl rfl) (OkOps.m 0 (triBox (j := 1) (cs := [cI b.Kind, .d (.sl (List.map AType.cs b.Of))]) rfl rfl rfl rfl rfl) (OkOps.m 0 (triAlloc (j := 2) (cs := [cI 0, .d (.v (.slice none 0 0))]) rfl rfl rfl rfl) (OkOps.x (aB false) rfl trivial rfl (OkOps.nil (Ok.seq (Ok.seq (Ok.region (OkOps.x (.c (.loc 0 0)) rfl trivial rfl (OkOps.x (aI a.Kind) rfl trivial rfl (OkOps.x (.c (.loc 1 0)) rfl trivial rfl (OkOps.x (aI b.Kind) rfl trivial rfl (OkOps.x (aB (a.Kind != b.Kind)) rfl trivial rfl ?_)))))))))))))))
  refine OkOps.nil ?_
  refine Ok.cond (b := a.Kind != b.Kind) rfl (fun h1 => ?_) (fun h1 => ?_)
  have hr := selT h1 hr
  refine Ok.seq (Ok.region (OkOps.x (.agg [cI 0, .d (.v (.slice none 0 0))]) rfl trivial rfl (OkOps.w (triStore (cs' := [cI 0, .d (.v (.slice none 0 0))]) rfl rfl rfl rfl rfl rfl rfl rfl rfl) (OkOps.x (aB false) rfl trivial rfl (OkOps.nil (Ok.ret ?_))))))
  obtain rfl := Option.some.inj hr
  exact ⟨_, rfl, .inr rfl, trivial⟩
  have hr := selF h1 hr
  refine Ok.skip (Ok.seq (Ok.seq (Ok.region (OkOps.x (.c (.loc 0 1)) rfl trivial rfl (OkOps.x (.c (.d (.sl (List.map AType.cs a.Of)))) rfl trivial rfl (OkOps.q (triLen (enc := AType.cs) a.Of rfl rfl trivial rfl) (OkOps.x (aB ((a.Of.length : Int) == 0)) rfl trivial rfl (OkOps.nil ?_))))))))
  refine Ok.cond (b := (a.Of.length : Int) == 0) rfl (fun h2 => ?_) (fun h2 => ?_)
  have hr := selT h2 hr
  refine Ok.seq (Ok.region (OkOps.x (.agg [cI b.Kind, .d (.sl (List.map AType.cs b.Of))]) rfl trivial rfl (OkOps.w (triStore (cs' := [cI b.Kind, .d (.sl (List.map AType.cs b.Of))]) rfl rfl rfl rfl rfl rfl rfl rfl rfl) (OkOps.x (aB true) rfl trivial rfl (OkOps.nil (Ok.ret ?_))))))
  obtain rfl := Option.some.inj hr
  exact ⟨_, rfl, .inl rfl, trivial⟩
  have hr := selF h2 hr
  refine Ok.skip (Ok.seq (Ok.seq (Ok.region (OkOps.x (.c (.loc 1 1)) rfl trivial rfl (OkOps.x (.c (.d (.sl (List.map AType.cs b.Of)))) rfl trivial rfl (OkOps.q (triLen (enc := AType.cs) b.Of rfl rfl trivial rfl) (OkOps.x (aB ((b.Of.length : Int) == 0)) rfl trivial rfl (OkOps.nil ?_))))))))
  refine Ok.cond (b := (b.Of.length : Int) == 0) rfl (fun h3 => ?_) (fun h3 => ?_)
  have hr := selT h3 hr
  refine Ok.seq (Ok.region (OkOps.x (.agg [cI a.Kind, .d (.sl (List.map AType.cs a.Of))]) rfl trivial rfl (OkOps.w (triStore (cs' := [cI a.Kind, .d (.sl (List.map AType.cs a.Of))]) rfl rfl rfl rfl rfl rfl rfl rfl rfl) (OkOps.x (aB true) rfl trivial rfl (OkOps.nil (Ok.ret ?_))))))
  obtain rfl := Option.some.inj hr
  exact ⟨_, rfl, .inl rfl, trivial⟩
  have hr := selF h3 hr
  refine Ok.skip (Ok.seq (Ok.regionD (by kernel_rfl) (OkD.x (.c (.loc 0 1)) rfl trivial rfl (OkD.x (.c (.d (.sl (List.map AType.cs a.Of)))) rfl trivial rfl ?_))))
  obtain ⟨x4, hx4, hr⟩ := bind_some hr
  refine OkD.q (triIdx (enc := AType.cs) (L := a.Of) (row := [dI x4.Kind, .sl (List.map AType.cs x4.Of)]) hx4 (AType.cs_eq _) rfl rfl rfl (fun x => by rw [AType.cs_eq]; rfl) trivial rfl) ?_
  refine OkD.x (.agg [cI x4.Kind, .d (.sl (List.map AType.cs x4.Of))]) rfl trivial rfl (OkD.x (.c (.loc 1 1)) rfl trivial rfl (OkD.x (.c (.d (.sl (List.map AType.cs b.Of)))) rfl trivial rfl ?_))
  obtain ⟨x5, hx5, hr⟩ := bind_some hr
  refine OkD.q (triIdx (enc := AType.cs) (L := b.Of) (row := [dI x5.Kind, .sl (List.map AType.cs x5.Of)]) hx5 (AType.cs_eq _) rfl rfl rfl (fun x => by rw [AType.cs_eq]; rfl) trivial rfl) ?_
  refine OkD.x (.agg [cI x5.Kind, .d (.sl (List.map AType.cs x5.Of))]) rfl trivial rfl ?_
  obtain ⟨x6, hx6, hr⟩ := bind_some hr
  refine OkD.q (triCall (tau []) (.tup [.agg [cI x6.1.Kind, .d (.sl (List.map AType.cs x6.1.Of))], aB x6.2]) [] (hself0 _ _ hx6) rfl ⟨.inl rfl, .inl rfl, trivial⟩ trivial entry124 trivial rfl rfl rfl rfl trivial rfl rfl rfl) (OkD.q (triMv (v := .tup [.agg [cI x6.1.Kind, .d (.sl (List.map AType.cs x6.1.Of))], aB x6.2]) rfl rfl) (OkD.x (.agg [cI x6.1.Kind, .d (.sl (List.map AType.cs x6.1.Of))]) rfl trivial rfl (OkD.x (aB x6.2) rfl trivial rfl (OkD.m 0 (triAlloc (j := 3) (cs := [cI 0, .d (.v (.slice none 0 0))]) rfl rfl rfl rfl) (OkD.w (triStore (cs' := [cI x6.1.Kind, .d (.sl (List.map AType.cs x6.1.Of))]) rfl rfl rfl rfl rfl rfl rfl rfl rfl) (OkD.x (aB x6.2) rfl trivial rfl (OkD.nil (by kernel_rfl) (Ok.seq (Ok.seq (Ok.region (OkOps.x (aB x6.2) rfl trivial rfl (OkOps.x (aB (!x6.2)) rfl trivial rfl (OkOps.nil ?_)))))))))))))
  refine Ok.cond (b := !x6.2) rfl (fun h7 => ?_) (fun h7 => ?_)
  have hr := selT h7 hr
  refine Ok.seq (Ok.region (OkOps.x (.agg [cI 0, .d (.v (.slice none 0 0))]) rfl trivial rfl (OkOps.w (triStore (cs' := [cI 0, .d (.v (.slice none 0 0))]) rfl rfl rfl rfl rfl rfl rfl rfl rfl) (OkOps.x (aB false) rfl trivial rfl (OkOps.nil (Ok.ret ?_))))))
  obtain rfl := Option.some.inj hr
  exact ⟨_, rfl, .inr rfl, trivial⟩
  have hr := selF h7 hr
  refine Ok.skip (Ok.seq (Ok.region (OkOps.x (.c (.loc 0 0)) rfl trivial rfl (OkOps.x (aI a.Kind) rfl trivial rfl (OkOps.x (.agg [cI x6.1.Kind, .d (.sl (List.map AType.cs x6.1.Of))]) rfl trivial rfl ?_)))))
  refine OkOps.m 0 (triBST (sz := 2) (enc := AType.cs) (j := 4) ([x6.1]) rfl rfl rfl rfl rfl (rows := [[dI x6.1.Kind, .sl (List.map AType.cs x6.1.Of)]]) (by simp only [List.map, AType.cs_eq]) rfl rfl (fun x => by rw [AType.cs_eq]; rfl) trivial rfl rfl) ?_
  refine OkOps.x (.agg [cI a.Kind, .tl 4 (List.map AType.cs ([x6.1]))]) rfl trivial rfl (OkOps.w (triStore (cs' := [cI a.Kind, .tl 4 (List.map AType.cs ([x6.1]))]) rfl rfl rfl rfl rfl rfl rfl rfl rfl) (OkOps.x (aB true) rfl trivial rfl (OkOps.nil (Ok.ret ?_))))
  obtain rfl := Option.some.inj hr
  exact ⟨_, rfl, .inr rfl, trivial⟩
theorem r11_join_all : ∀ n : Nat, (∀ (a : AType) (b : AType) {r : AType × Bool}, r11_join n a b = some r → Con Tryd.prog 124 [.agg [cI a.Kind, .d (.sl (List.map AType.cs a.Of))], .agg [cI b.Kind, .d (.sl (List.map AType.cs b.Of))]] [] (.tup [.agg [cI r.1.Kind, .d (.sl (List.map AType.cs r.1.Of))], aB r.2]) []) ∧ True := by
  intro n
  induction n with
  | zero => exact ⟨(by intros; rename_i hr; cases hr), trivial⟩
  | succ n ih => exact ⟨(by intros; rename_i hr; exact r11_join_B_c _ ih.1 _ _ hr), trivial⟩
theorem r11_join_c (n : Nat) (a : AType) (b : AType) {r : AType × Bool} (hr : r11_join n a b = some r) : Con Tryd.prog 124 [.agg [cI a.Kind, .d (.sl (List.map AType.cs a.Of))], .agg [cI b.Kind, .d (.sl (List.map AType.cs b.Of))]] [] (.tup [.agg [cI r.1.Kind, .d (.sl (List.map AType.cs r.1.Of))], aB r.2]) [] := (r11_join_all n).1 a b hr
theorem entry113 : Entry Tryd.prog 113 := ⟨_, Tryd.func113, by kernel_rfl, by kernel_rfl⟩
theorem r11_check_B_c (self0 : AValue → Int → Int → Option (AType × Int × Int)) (hself0 : ∀ (v : AValue) (depth : Int) (met : Int) {r : AType × Int × Int}, self0 v depth met = some r → Con Tryd.prog 113 [.agg [cI v.Kind, cI v.N, cS v.S, .d (.sl (List.map AValue.cs v.L))], aI depth, aI met] [] (.tup [.agg [cI r.1.Kind, .d (.sl (List.map AType.cs r.1.Of))], aI r.2.1, aI r.2.2]) []) (v : AValue) (depth : Int) (met : Int) {r : AType × Int × Int} (hr : r11_check_B self0 v depth met = some r) : Con Tryd.prog 113 [.agg [cI v.Kind, cI v.N, cS v.S, .d (.sl (List.map AValue.cs v.L))], aI depth, aI met] [] (.tup [.agg [cI r.1.Kind, .d (.sl (List.map AType.cs r.1.Of))], aI r.2.1, aI r.2.2]) [] := by
  unfold r11_check_B at hr
  refine Con.of_ok 184 0 [.cell 6 130, .tmp 7, .tmp 8] [(0, .s (.agg [cI v.Kind, cI v.N, cS v.S, .d (.sl (List.map AValue.cs v.L))])), (1, .s (aI depth)), (2, .s (aI met))] Tryd.func113 rfl rfl rfl rfl rfl rfl rfl rfl fun w g M ρ _ => (Ok.seq (Ok.region (OkOps.m 0 (triBox (j := 0) (cs := [cI v.Kind, cI v.N, cS v.S, .d (.sl (List.map AValue.cs v.L))]) rfl rfl rfl rfl rfl) (OkOps.m 0 (triAlloc (j := 1) (cs := [cI 0, .d (.v (.slice none 0 0))]) rfl rfl rfl rfl) (OkOps.x (aI 0) rfl trivial rfl (OkOps.x (aI 0) rfl trivial rfl (OkOps.nil (Ok.seq (Ok.region (OkOps.x (aI met) rfl trivial rfl (OkOps.x (aI (IntKind.i64.wrap (met + 1))) rfl trivial rfl (OkOps.x (aI (IntKind.i64.wrap (met + 1))) rfl trivial rfl (OkOps.nil (Ok.seq (Ok.region ?_)))))))))))))))
  refine OkOps.x (.c (.loc 0 0)) rfl trivial rfl (OkOps.x (aI v.Kind) rfl trivial rfl (OkOps.x (aB (v.Kind == 4)) rfl trivial rfl (OkOps.x (aB (v.Kind == 4)) rfl trivial rfl (OkOps.nil (Ok.seq (Ok.seq (Ok.region (OkOps.x (aB (v.Kind == 4)) rfl trivial rfl (OkOps.x (aB (v.Kind == 4)) rfl trivial rfl (OkOps.q (triQG (x := aI depth) rfl rfl trivial rfl) (OkOps.q (triQG (x := aB (decide (depth > 16))) rfl rfl ⟨fun h => h, trivial⟩ rfl) (OkOps.q (triAnd rfl rfl (fun h => h) rfl) (OkOps.nil ?_)))))))))))))
  refine Ok.cond (b := (v.Kind == 4) && (decide (depth > 16))) rfl (fun h1 => ?_) (fun h1 => ?_)
  have hr := selT h1 hr
  refine Ok.seq (Ok.region (OkOps.x (.agg [cI 0, .d (.v (.slice none 0 0))]) rfl trivial rfl (OkOps.x (aI (IntKind.i64.wrap (met + 1))) rfl trivial rfl (OkOps.w (triStore (cs' := [cI 0, .d (.v (.slice none 0 0))]) rfl rfl rfl rfl rfl rfl rfl rfl rfl) (OkOps.x (aI (IntKind.i64.wrap (met + 1))) rfl trivial rfl (OkOps.x (aI 8) rfl trivial rfl (OkOps.nil (Ok.ret ?_))))))))
  obtain rfl := Option.some.inj hr
  exact ⟨_, rfl, .inr rfl, trivial⟩
  have hr := selF h1 hr
  refine Ok.skip (Ok.seq (Ok.seq (Ok.region (OkOps.x (.c (.loc 0 0)) rfl trivial rfl (OkOps.x (aI v.Kind) rfl trivial rfl (OkOps.x (aB (decide (v.Kind < 1))) rfl trivial rfl (OkOps.x (aB (decide (v.Kind < 1))) rfl trivial rfl (OkOps.q (triQG (x := .c (.loc 0 0)) rfl rfl trivial rfl) (OkOps.q (triQG (x := aI v.Kind) rfl rfl ⟨fun h => h, trivial⟩ rfl) (OkOps.q (triQG (x := aB (decide (v.Kind > 4))) rfl rfl ⟨fun h => h, trivial⟩ rfl) ?_))))))))))
  refine OkOps.q (triOr rfl rfl (fun h => by rw [h]; rfl) rfl) ?_
  refine OkOps.x (aB ((decide (v.Kind < 1)) || (decide (v.Kind > 4)))) rfl trivial rfl (OkOps.q (triQG (x := .c (.loc 0 1)) rfl rfl trivial rfl) (OkOps.q (triQG (x := aI v.N) rfl rfl ⟨fun h => h, trivial⟩ rfl) (OkOps.q (triQG (x := aB (v.N != 0)) rfl rfl ⟨fun h => h, trivial⟩ rfl) (OkOps.q (triQG (x := aB (v.N != 0)) rfl rfl ⟨fun h => h, trivial⟩ rfl) (OkOps.q (triQG (x := .c (.loc 0 0)) rfl rfl trivial rfl) (OkOps.q (triQG (x := aI v.Kind) rfl rfl ⟨fun h => h, trivial⟩ rfl) (OkOps.q (triQG (x := aB (v.Kind != 1)) rfl rfl ⟨fun h => h, trivial⟩ rfl) ?_)))))))
  refine OkOps.q (triAndG rfl rfl rfl (fun h => h) (fun h h2 => by rw [h, h2]; rfl) rfl) ?_
  refine OkOps.q (triQG (x := aB ((v.N != 0) && (v.Kind != 1))) rfl rfl ⟨fun h => h, trivial⟩ rfl) (OkOps.q (triQG (x := .c (.loc 0 0)) rfl rfl trivial rfl) (OkOps.q (triQG (x := aI v.Kind) rfl rfl ⟨fun h => h, trivial⟩ rfl) (OkOps.q (triQG (x := aB (v.Kind != 2)) rfl rfl ⟨fun h => h, trivial⟩ rfl) ?_)))
  refine OkOps.q (triAndG rfl rfl rfl (fun h => h) (fun h h2 => by rw [h, h2]; rfl) rfl) ?_
  refine OkOps.q (triOr rfl rfl (fun h => by rw [h]; rfl) rfl) ?_
  refine OkOps.x (aB (((decide (v.Kind < 1)) || (decide (v.Kind > 4))) || (((v.N != 0) && (v.Kind != 1)) && (v.Kind != 2)))) rfl trivial rfl (OkOps.q (triQG (x := .c (.loc 0 2)) rfl rfl trivial rfl) (OkOps.q (triQG (x := aS v.S) rfl rfl ⟨fun h => h, trivial⟩ rfl) (OkOps.q (triQG (x := aB (!(v.S.toList == (ByteArray.mk #[]).toList))) rfl rfl ⟨fun h => h, trivial⟩ rfl) (OkOps.q (triQG (x := aB (!(v.S.toList == (ByteArray.mk #[]).toList))) rfl rfl ⟨fun h => h, trivial⟩ rfl) (OkOps.q (triQG (x := .c (.loc 0 0)) rfl rfl trivial rfl) (OkOps.q (triQG (x := aI v.Kind) rfl rfl ⟨fun h => h, trivial⟩ rfl) (OkOps.q (triQG (x := aB (v.Kind != 3)) rfl rfl ⟨fun h => h, trivial⟩ rfl) ?_)))))))
  refine OkOps.q (triAndG rfl rfl rfl (fun h => h) (fun h h2 => by rw [h, h2]; rfl) rfl) ?_
  refine OkOps.q (triOr rfl rfl (fun h => by rw [h]; rfl) rfl) ?_
  refine OkOps.x (aB ((((decide (v.Kind < 1)) || (decide (v.Kind > 4))) || (((v.N != 0) && (v.Kind != 1)) && (v.Kind != 2))) || ((!(v.S.toList == (ByteArray.mk #[]).toList)) && (v.Kind != 3)))) rfl trivial rfl (OkOps.q (triQG (x := .c (.loc 0 3)) rfl rfl trivial rfl) (OkOps.q (triQG (x := .c (.d (.sl (List.map AValue.cs v.L)))) rfl rfl ⟨fun h => h, trivial⟩ rfl) (OkOps.q (triLenG (enc := AValue.cs) v.L rfl rfl rfl ⟨fun h => h, trivial⟩ rfl) (OkOps.q (triQG (x := aB (decide ((v.L.length : Int) > 0))) rfl rfl ⟨fun h => h, trivial⟩ rfl) (OkOps.q (triQG (x := aB (decide ((v.L.length : Int) > 0))) rfl rfl ⟨fun h => h, trivial⟩ rfl) (OkOps.q (triQG (x := aB (v.Kind == 4)) rfl rfl trivial rfl) (OkOps.q (triQG (x := aB (!(v.Kind == 4))) rfl rfl ⟨fun h => h, trivial⟩ rfl) ?_)))))))
  refine OkOps.q (triAndG rfl rfl rfl (fun h => h) (fun h h2 => by rw [h, h2]; rfl) rfl) ?_
  refine OkOps.q (triOr rfl rfl (fun h => by rw [h]; rfl) rfl) ?_
  refine OkOps.nil ?_
  refine Ok.cond (b := ((((decide (v.Kind < 1)) || (decide (v.Kind > 4))) || (((v.N != 0) && (v.Kind != 1)) && (v.Kind != 2))) || ((!(v.S.toList == (ByteArray.mk #[]).toList)) && (v.Kind != 3))) || ((decide ((v.L.length : Int) > 0)) && (!(v.Kind == 4)))) rfl (fun h2 => ?_) (fun h2 => ?_)
  have hr := selT h2 hr
  refine Ok.seq (Ok.region (OkOps.x (.agg [cI 0, .d (.v (.slice none 0 0))]) rfl trivial rfl (OkOps.x (aI (IntKind.i64.wrap (met + 1))) rfl trivial rfl (OkOps.w (triStore (cs' := [cI 0, .d (.v (.slice none 0 0))]) rfl rfl rfl rfl rfl rfl rfl rfl rfl) (OkOps.x (aI (IntKind.i64.wrap (met + 1))) rfl trivial rfl (OkOps.x (aI 9) rfl trivial rfl (OkOps.nil (Ok.ret ?_))))))))
  obtain rfl := Option.some.inj hr
  exact ⟨_, rfl, .inr rfl, trivial⟩
  have hr := selF h2 hr
  refine Ok.skip (Ok.seq (Ok.seq (Ok.region (OkOps.x (.c (.loc 0 0)) rfl trivial rfl (OkOps.x (aI v.Kind) rfl trivial rfl (OkOps.x (aB (v.Kind == 1)) rfl trivial rfl (OkOps.x (aB (v.Kind == 1)) rfl trivial rfl (OkOps.q (triQG (x := .c (.loc 0 1)) rfl rfl trivial rfl) (OkOps.q (triQG (x := aI v.N) rfl rfl ⟨fun h => h, trivial⟩ rfl) (OkOps.q (triQG (x := aB (decide (v.N < (-1099511627776)))) rfl rfl ⟨fun h => h, trivial⟩ rfl) (OkOps.q (triQG (x := aB (decide (v.N < (-1099511627776)))) rfl rfl ⟨fun h => h, trivial⟩ rfl) (OkOps.q (triQG (x := .c (.loc 0 1)) rfl rfl trivial rfl) (OkOps.q (triQG (x := aI v.N) rfl rfl ⟨fun h => h, trivial⟩ rfl) (OkOps.q (triQG (x := aB (decide (v.N > 1099511627776))) rfl rfl ⟨fun h => h, trivial⟩ rfl) ?_))))))))))))))
  refine OkOps.q (triOrG rfl rfl rfl (fun h => h) (fun h h2 => by rw [h, h2]; rfl) rfl) ?_
  refine OkOps.q (triAnd rfl rfl (fun h => h) rfl) (OkOps.x (aB ((v.Kind == 1) && ((decide (v.N < (-1099511627776))) || (decide (v.N > 1099511627776))))) rfl trivial rfl (OkOps.q (triQG (x := .c (.loc 0 0)) rfl rfl trivial rfl) (OkOps.q (triQG (x := aI v.Kind) rfl rfl ⟨fun h => h, trivial⟩ rfl) (OkOps.q (triQG (x := aB (v.Kind == 2)) rfl rfl ⟨fun h => h, trivial⟩ rfl) (OkOps.q (triQG (x := aB (v.Kind == 2)) rfl rfl ⟨fun h => h, trivial⟩ rfl) (OkOps.q (triQG (x := .c (.loc 0 1)) rfl rfl trivial rfl) (OkOps.q (triQG (x := aI v.N) rfl rfl ⟨fun h => h, trivial⟩ rfl) (OkOps.q (triQG (x := aB (v.N != 0)) rfl rfl ⟨fun h => h, trivial⟩ rfl) ?_))))))))
  refine OkOps.q (triAndG rfl rfl rfl (fun h => h) (fun h h2 => by rw [h, h2]; rfl) rfl) ?_
  refine OkOps.q (triQG (x := aB ((v.Kind == 2) && (v.N != 0))) rfl rfl ⟨fun h => h, trivial⟩ rfl) (OkOps.q (triQG (x := .c (.loc 0 1)) rfl rfl trivial rfl) (OkOps.q (triQG (x := aI v.N) rfl rfl ⟨fun h => h, trivial⟩ rfl) (OkOps.q (triQG (x := aB (v.N != 1)) rfl rfl ⟨fun h => h, trivial⟩ rfl) ?_)))
  refine OkOps.q (triAndG rfl rfl rfl (fun h => h) (fun h h2 => by rw [h, h2]; rfl) rfl) ?_
  refine OkOps.q (triOr rfl rfl (fun h => by rw [h]; rfl) rfl) ?_
  refine OkOps.nil ?_
  refine Ok.cond (b := ((v.Kind == 1) && ((decide (v.N < (-1099511627776))) || (decide (v.N > 1099511627776)))) || (((v.Kind == 2) && (v.N != 0)) && (v.N != 1))) rfl (fun h3 => ?_) (fun h3 => ?_)
  have hr := selT h3 hr
  refine Ok.seq (Ok.region (OkOps.x (.agg [cI 0, .d (.v (.slice none 0 0))]) rfl trivial rfl (OkOps.x (aI (IntKind.i64.wrap (met + 1))) rfl trivial rfl (OkOps.w (triStore (cs' := [cI 0, .d (.v (.slice none 0 0))]) rfl rfl rfl rfl rfl rfl rfl rfl rfl) (OkOps.x (aI (IntKind.i64.wrap (met + 1))) rfl trivial rfl (OkOps.x (aI 1) rfl trivial rfl (OkOps.nil (Ok.ret ?_))))))))
  obtain rfl := Option.some.inj hr
  exact ⟨_, rfl, .inr rfl, trivial⟩
  have hr := selF h3 hr
  refine Ok.skip (Ok.seq (Ok.seq (Ok.region (OkOps.x (.c (.loc 0 2)) rfl trivial rfl (OkOps.x (aS v.S) rfl trivial rfl (OkOps.x (aI (v.S.size : Int)) rfl trivial rfl (OkOps.x (aB (decide ((v.S.size : Int) > 2000))) rfl trivial rfl (OkOps.x (aB (decide ((v.S.size : Int) > 2000))) rfl trivial rfl (OkOps.q (triQG (x := .c (.loc 0 3)) rfl rfl trivial rfl) (OkOps.q (triQG (x := .c (.d (.sl (List.map AValue.cs v.L)))) rfl rfl ⟨fun h => h, trivial⟩ rfl) (OkOps.q (triLenG (enc := AValue.cs) v.L rfl rfl rfl ⟨fun h => h, trivial⟩ rfl) (OkOps.q (triQG (x := aB (decide ((v.L.length : Int) > 100))) rfl rfl ⟨fun h => h, trivial⟩ rfl) ?_))))))))))))
  refine OkOps.q (triOr rfl rfl (fun h => by rw [h]; rfl) rfl) ?_
  refine OkOps.x (aB ((decide ((v.S.size : Int) > 2000)) || (decide ((v.L.length : Int) > 100)))) rfl trivial rfl (OkOps.q (triQG (x := aI (IntKind.i64.wrap (met + 1))) rfl rfl trivial rfl) (OkOps.q (triQG (x := aB (decide ((IntKind.i64.wrap (met + 1)) > 1000))) rfl rfl ⟨fun h => h, trivial⟩ rfl) ?_))
  refine OkOps.q (triOr rfl rfl (fun h => by rw [h]; rfl) rfl) ?_
  refine OkOps.nil ?_
  refine Ok.cond (b := ((decide ((v.S.size : Int) > 2000)) || (decide ((v.L.length : Int) > 100))) || (decide ((IntKind.i64.wrap (met + 1)) > 1000))) rfl (fun h4 => ?_) (fun h4 => ?_)
  have hr := selT h4 hr
  refine Ok.seq (Ok.region (OkOps.x (.agg [cI 0, .d (.v (.slice none 0 0))]) rfl trivial rfl (OkOps.x (aI (IntKind.i64.wrap (met + 1))) rfl trivial rfl (OkOps.w (triStore (cs' := [cI 0, .d (.v (.slice none 0 0))]) rfl rfl rfl rfl rfl rfl rfl rfl rfl) (OkOps.x (aI (IntKind.i64.wrap (met + 1))) rfl trivial rfl (OkOps.x (aI 2) rfl trivial rfl (OkOps.nil (Ok.ret ?_))))))))
  obtain rfl := Option.some.inj hr
  exact ⟨_, rfl, .inr rfl, trivial⟩
  have hr := selF h4 hr
  refine Ok.skip (Ok.seq (Ok.seq (Ok.region (OkOps.x (.c (.loc 0 2)) rfl trivial rfl (OkOps.x (aS v.S) rfl trivial rfl ?_)))))
  obtain ⟨x5, hx5, hr⟩ := bind_some hr
  refine OkOps.q (triCall (tau []) (.s (aB x5)) [] (r11_UTF8_c _ hx5) rfl ⟨.inl rfl, trivial⟩ trivial entry123 trivial rfl rfl rfl rfl trivial rfl rfl rfl) (OkOps.x (aB (!x5)) rfl trivial rfl (OkOps.nil ?_))
  refine Ok.cond (b := !x5) rfl (fun h6 => ?_) (fun h6 => ?_)
  have hr := selT h6 hr
  refine Ok.seq (Ok.region (OkOps.x (.agg [cI 0, .d (.v (.slice none 0 0))]) rfl trivial rfl (OkOps.x (aI (IntKind.i64.wrap (met + 1))) rfl trivial rfl (OkOps.w (triStore (cs' := [cI 0, .d (.v (.slice none 0 0))]) rfl rfl rfl rfl rfl rfl rfl rfl rfl) (OkOps.x (aI (IntKind.i64.wrap (met + 1))) rfl trivial rfl (OkOps.x (aI 3) rfl trivial rfl (OkOps.nil (Ok.ret ?_))))))))
  obtain rfl := Option.some.inj hr
  exact ⟨_, rfl, .inr rfl, trivial⟩
  have hr := selF h6 hr
  refine Ok.skip (Ok.seq (Ok.region (OkOps.x (.c (.loc 0 0)) rfl trivial rfl (OkOps.x (aI v.Kind) rfl trivial rfl (OkOps.x (.agg [cI v.Kind, .d (.v (.slice none 0 0))]) rfl trivial rfl (OkOps.m 0 (triAlloc (j := 2) (cs := [cI 0, .d (.v (.slice none 0 0))]) rfl rfl rfl rfl) (OkOps.w (triStore (cs' := [cI v.Kind, .d (.v (.slice none 0 0))]) rfl rfl rfl rfl rfl rfl rfl rfl rfl) (OkOps.nil (Ok.seq (Ok.region (OkOps.x (aB true) rfl trivial rfl (OkOps.nil ?_))))))))))))
  obtain ⟨k8, hk8, hr⟩ := jn_some hr
  refine Ok.join (fun (s7 : Int × Bool × (List AType)) => ⟨[(2, .s (aI s7.1)), (6, .s (.c (.loc 1 0))), (10, .s (.c (.loc 2 0))), (11, .s (aB s7.2.1))], [(1, .blk [cI 0, .d (.v (.slice none 0 0))] 130), (2, .blk [cI v.Kind, .tl 1008 (List.map AType.cs s7.2.2)] 130), (1008, .tail 2)], 0⟩) k8 r (fun s7 hr => ?_) ?_
  rw [hk8] at hr
  refine Ok.seq (Ok.seq (Ok.region (OkOps.x (aB s7.2.1) rfl trivial rfl (OkOps.x (aB (!s7.2.1)) rfl trivial rfl (OkOps.nil ?_)))))
  refine Ok.cond (b := !s7.2.1) rfl (fun h9 => ?_) (fun h9 => ?_)
  have hr := selT h9 hr
  refine Ok.seq (Ok.region (OkOps.x (.agg [cI 0, .d (.v (.slice none 0 0))]) rfl trivial rfl (OkOps.x (aI s7.1) rfl trivial rfl (OkOps.w (triStore (cs' := [cI 0, .d (.v (.slice none 0 0))]) rfl rfl rfl rfl rfl rfl rfl rfl rfl) (OkOps.x (aI s7.1) rfl trivial rfl (OkOps.x (aI 5) rfl trivial rfl (OkOps.nil (Ok.ret ?_))))))))
  obtain rfl := Option.some.inj hr
  exact ⟨_, rfl, .inr rfl, trivial⟩
  have hr := selF h9 hr
  refine Ok.skip (Ok.seq (Ok.region (OkOps.x (.agg [cI v.Kind, .tl 1008 (List.map AType.cs s7.2.2)]) rfl trivial rfl (OkOps.x (aI s7.1) rfl trivial rfl (OkOps.w (triStore (cs' := [cI v.Kind, .tl 1008 (List.map AType.cs s7.2.2)]) rfl rfl rfl rfl rfl rfl rfl rfl rfl) (OkOps.x (aI s7.1) rfl trivial rfl (OkOps.x (aI 0) rfl trivial rfl (OkOps.nil (Ok.ret ?_)))))))))
  obtain rfl := Option.some.inj hr
  exact ⟨_, rfl, .inr rfl, trivial⟩
  clear hk8
  refine Ok.seq (Ok.region (OkOps.x (aI 0) rfl trivial rfl (OkOps.nil (Ok.block (Ok.loopK (fun (s10 : Int × Bool × Int × (List AType)) => ⟨[(1, .s (aI depth)), (2, .s (aI s10.1)), (3, .s (.c (.loc 0 0))), (6, .s (.c (.loc 1 0))), (10, .s (.c (.loc 2 0))), (11, .s (aB s10.2.1)), (12, .s (aI s10.2.2.1))], [(0, .blk [cI v.Kind, cI v.N, cS v.S, .d (.sl (List.map AValue.cs v.L))] 40), (1, .blk [cI 0, .d (.v (.slice none 0 0))] 130), (2, .blk [cI v.Kind, .tl 1013 (List.map AType.cs s10.2.2.2)] 130), (1013, .tail 2)], 0⟩) hr (Conv.trans (Conv.nilO 2 1 1016 2 [cI v.Kind, .d (.v (.slice none 0 0))] [cI v.Kind, .tl 1016 (List.map AType.cs ([] : (List AType)))] 130 0 rfl rfl rfl rfl) (Conv.mk (tau [(1013, 1016)]) ⟨⟨_, rfl, .inl rfl⟩, ⟨_, rfl, .inl rfl⟩, ⟨_, rfl, .inl rfl⟩, ⟨_, rfl, .inl rfl⟩, ⟨_, rfl, .inl rfl⟩, ⟨_, rfl, .inl rfl⟩, ⟨_, rfl, .inl rfl⟩, trivial⟩ ⟨rfl, rfl, rfl, rfl, trivial⟩ rfl rfl rfl rfl)) ?_)))))
  clear hr
  intro again11 s10 hr
  unfold r11_check_L1 at hr
  refine Ok.seq (Ok.seq (Ok.region (OkOps.x (aI s10.2.2.1) rfl trivial rfl (OkOps.x (.c (.loc 0 3)) rfl trivial rfl (OkOps.x (.c (.d (.sl (List.map AValue.cs v.L)))) rfl trivial rfl (OkOps.q (triLen (enc := AValue.cs) v.L rfl rfl trivial rfl) (OkOps.x (aB (decide (s10.2.2.1 < (v.L.length : Int)))) rfl trivial rfl (OkOps.nil ?_))))))))
  refine Ok.cond (b := decide (s10.2.2.1 < (v.L.length : Int))) rfl (fun h12 => ?_) (fun h12 => ?_)
  have hr := selT h12 hr
  refine Ok.skip ?_
  obtain ⟨k14, hk14, hr⟩ := jn_some hr
  refine Ok.join (fun (s13 : Int × Bool × (List AType)) => ⟨[(1, .s (aI depth)), (2, .s (aI s13.1)), (3, .s (.c (.loc 0 0))), (6, .s (.c (.loc 1 0))), (10, .s (.c (.loc 2 0))), (11, .s (aB s13.2.1)), (12, .s (aI s10.2.2.1))], [(0, .blk [cI v.Kind, cI v.N, cS v.S, .d (.sl (List.map AValue.cs v.L))] 40), (1, .blk [cI 0, .d (.v (.slice none 0 0))] 130), (2, .blk [cI v.Kind, .tl 1017 (List.map AType.cs s13.2.2)] 130), (1017, .tail 2)], 0⟩) k14 r (fun s13 hr => ?_) ?_
  rw [hk14] at hr
  refine Ok.region (OkOps.x (aI s10.2.2.1) rfl trivial rfl (OkOps.x (aI (IntKind.i64.wrap (s10.2.2.1 + 1))) rfl trivial rfl (OkOps.x (aI (IntKind.i64.wrap (s10.2.2.1 + 1))) rfl trivial rfl (OkOps.nil ?_))))
  exact ⟨(s13.1, s13.2.1, IntKind.i64.wrap (s10.2.2.1 + 1), s13.2.2), hr, (Conv.mk (tau [(1013, 1017)]) ⟨⟨_, rfl, .inl rfl⟩, ⟨_, rfl, .inl rfl⟩, ⟨_, rfl, .inl rfl⟩, ⟨_, rfl, .inl rfl⟩, ⟨_, rfl, .inl rfl⟩, ⟨_, rfl, .inl rfl⟩, ⟨_, rfl, .inl rfl⟩, trivial⟩ ⟨rfl, rfl, rfl, rfl, trivial⟩ rfl rfl rfl rfl)⟩
  clear hk14
  refine Ok.block (Ok.seq (Ok.region (OkOps.x (.c (.loc 0 3)) rfl trivial rfl (OkOps.x (.c (.d (.sl (List.map AValue.cs v.L)))) rfl trivial rfl (OkOps.x (aI s10.2.2.1) rfl trivial rfl ?_)))))
  obtain ⟨x15, hx15, hr⟩ := bind_some hr
  refine OkOps.q (triIdx (enc := AValue.cs) (L := v.L) (row := [dI x15.Kind, dI x15.N, dS x15.S, .sl (List.map AValue.cs x15.L)]) hx15 (AValue.cs_eq _) rfl rfl rfl (fun x => by rw [AValue.cs_eq]; rfl) trivial rfl) ?_
  refine OkOps.x (.agg [cI x15.Kind, cI x15.N, cS x15.S, .d (.sl (List.map AValue.cs x15.L))]) rfl trivial rfl (OkOps.x (aI depth) rfl trivial rfl (OkOps.x (aI (IntKind.i64.wrap (depth + 1))) rfl trivial rfl (OkOps.x (aI s10.1) rfl trivial rfl ?_)))
  obtain ⟨x16, hx16, hr⟩ := bind_some hr
  refine OkOps.q (triCall (tau []) (.tup [.agg [cI x16.1.Kind, .d (.sl (List.map AType.cs x16.1.Of))], aI x16.2.1, aI x16.2.2]) [] (hself0 _ _ _ hx16) rfl ⟨.inl rfl, .inl rfl, .inl rfl, trivial⟩ trivial entry113 trivial rfl rfl rfl rfl trivial rfl rfl rfl) (OkOps.q (triMv (v := .tup [.agg [cI x16.1.Kind, .d (.sl (List.map AType.cs x16.1.Of))], aI x16.2.1, aI x16.2.2]) rfl rfl) (OkOps.x (.agg [cI x16.1.Kind, .d (.sl (List.map AType.cs x16.1.Of))]) rfl trivial rfl (OkOps.x (aI x16.2.1) rfl trivial rfl (OkOps.x (aI x16.2.2) rfl trivial rfl (OkOps.m 0 (triAlloc (j := 3) (cs := [cI 0, .d (.v (.slice none 0 0))]) rfl rfl rfl rfl) (OkOps.w (triStore (cs' := [cI x16.1.Kind, .d (.sl (List.map AType.cs x16.1.Of))]) rfl rfl rfl rfl rfl rfl rfl rfl rfl) (OkOps.x (aI x16.2.1) rfl trivial rfl (OkOps.x (aI x16.2.2) rfl trivial rfl (OkOps.nil (Ok.seq (Ok.region (OkOps.x (aI x16.2.1) rfl trivial rfl (OkOps.x (aI x16.2.1) rfl trivial rfl (OkOps.nil (Ok.seq ?_)))))))))))))))
  refine Ok.seq (Ok.region (OkOps.x (aI x16.2.2) rfl trivial rfl (OkOps.x (aB (x16.2.2 != 0)) rfl trivial rfl (OkOps.nil ?_))))
  refine Ok.cond (b := x16.2.2 != 0) rfl (fun h17 => ?_) (fun h17 => ?_)
  have hr := selT h17 hr
  refine Ok.seq (Ok.region (OkOps.x (.agg [cI 0, .d (.v (.slice none 0 0))]) rfl trivial rfl (OkOps.x (aI x16.2.1) rfl trivial rfl (OkOps.x (aI x16.2.2) rfl trivial rfl (OkOps.w (triStore (cs' := [cI 0, .d (.v (.slice none 0 0))]) rfl rfl rfl rfl rfl rfl rfl rfl rfl) (OkOps.x (aI x16.2.1) rfl trivial rfl (OkOps.x (aI x16.2.2) rfl trivial rfl (OkOps.nil (Ok.ret ?_)))))))))
  obtain rfl := Option.some.inj hr
  exact ⟨_, rfl, .inr rfl, trivial⟩
  have hr := selF h17 hr
  refine Ok.skip (Ok.seq (Ok.seq (Ok.region (OkOps.x (aB s10.2.1) rfl trivial rfl (OkOps.x (aB (!s10.2.1)) rfl trivial rfl (OkOps.nil ?_))))))
  refine Ok.cond (b := !s10.2.1) rfl (fun h18 => ?_) (fun h18 => ?_)
  have hr := selT h18 hr
  refine Ok.exit ?_
  exact ⟨(x16.2.1, s10.2.1, s10.2.2.2), hr, (Conv.mk (tau [(1017, 1013)]) ⟨⟨_, rfl, .inl rfl⟩, ⟨_, rfl, .inl rfl⟩, ⟨_, rfl, .inl rfl⟩, ⟨_, rfl, .inl rfl⟩, ⟨_, rfl, .inl rfl⟩, ⟨_, rfl, .inl rfl⟩, ⟨_, rfl, .inl rfl⟩, trivial⟩ ⟨rfl, rfl, rfl, rfl, trivial⟩ rfl rfl rfl rfl)⟩
  have hr := selF h18 hr
  refine Ok.skip (Ok.seq (Ok.seq (Ok.region (OkOps.x (.c (.loc 2 1)) rfl trivial rfl (OkOps.x (.c (.tl 1013 (List.map AType.cs s10.2.2.2))) rfl trivial rfl (OkOps.q (triLen (enc := AType.cs) s10.2.2.2 rfl rfl trivial rfl) (OkOps.x (aB ((s10.2.2.2.length : Int) == 0)) rfl trivial rfl (OkOps.nil ?_))))))))
  refine Ok.cond (b := (s10.2.2.2.length : Int) == 0) rfl (fun h19 => ?_) (fun h19 => ?_)
  have hr := selT h19 hr
  refine Ok.seq (Ok.region (OkOps.x (.agg [cI x16.1.Kind, .d (.sl (List.map AType.cs x16.1.Of))]) rfl trivial rfl ?_))
  refine OkOps.m 0 (triBST (sz := 2) (enc := AType.cs) (j := 4) ([x16.1]) rfl rfl rfl rfl rfl (rows := [[dI x16.1.Kind, .sl (List.map AType.cs x16.1.Of)]]) (by simp only [List.map, AType.cs_eq]) rfl rfl (fun x => by rw [AType.cs_eq]; rfl) trivial rfl rfl) ?_
  refine OkOps.x (.c (.loc 2 1)) rfl trivial rfl (OkOps.w (triStore (cs' := [cI v.Kind, .tl 4 (List.map AType.cs ([x16.1]))]) rfl rfl rfl rfl rfl rfl rfl rfl rfl) (OkOps.nil (Ok.exit ?_)))
  exact ⟨(x16.2.1, s10.2.1, [x16.1]), hr, (Conv.mk (tau [(1017, 4)]) ⟨⟨_, rfl, .inl rfl⟩, ⟨_, rfl, .inl rfl⟩, ⟨_, rfl, .inl rfl⟩, ⟨_, rfl, .inl rfl⟩, ⟨_, rfl, .inl rfl⟩, ⟨_, rfl, .inl rfl⟩, ⟨_, rfl, .inl rfl⟩, trivial⟩ ⟨rfl, rfl, rfl, rfl, trivial⟩ rfl rfl rfl rfl)⟩
  have hr := selF h19 hr
  refine Ok.skip (Ok.seq (Ok.regionD (by kernel_rfl) (OkD.x (.c (.loc 2 1)) rfl trivial rfl (OkD.x (.c (.tl 1013 (List.map AType.cs s10.2.2.2))) rfl trivial rfl ?_))))
  obtain ⟨x20, hx20, hr⟩ := bind_some hr
  refine OkD.q (triIdx (enc := AType.cs) (L := s10.2.2.2) (row := [dI x20.Kind, .sl (List.map AType.cs x20.Of)]) hx20 (AType.cs_eq _) rfl rfl rfl (fun x => by rw [AType.cs_eq]; rfl) trivial rfl) ?_
  refine OkD.x (.agg [cI x20.Kind, .d (.sl (List.map AType.cs x20.Of))]) rfl trivial rfl (OkD.x (.agg [cI x16.1.Kind, .d (.sl (List.map AType.cs x16.1.Of))]) rfl trivial rfl ?_)
  obtain ⟨x21, hx21, hr⟩ := bind_some hr
  refine OkD.q (triCall (tau []) (.tup [.agg [cI x21.1.Kind, .d (.sl (List.map AType.cs x21.1.Of))], aB x21.2]) [] (r11_join_c _ _ _ hx21) rfl ⟨.inl rfl, .inl rfl, trivial⟩ trivial entry124 trivial rfl rfl rfl rfl trivial rfl rfl rfl) (OkD.q (triMv (v := .tup [.agg [cI x21.1.Kind, .d (.sl (List.map AType.cs x21.1.Of))], aB x21.2]) rfl rfl) (OkD.x (.agg [cI x21.1.Kind, .d (.sl (List.map AType.cs x21.1.Of))]) rfl trivial rfl (OkD.x (aB x21.2) rfl trivial rfl (OkD.m 0 (triAlloc (j := 5) (cs := [cI 0, .d (.v (.slice none 0 0))]) rfl rfl rfl rfl) (OkD.w (triStore (cs' := [cI x21.1.Kind, .d (.sl (List.map AType.cs x21.1.Of))]) rfl rfl rfl rfl rfl rfl rfl rfl rfl) (OkD.x (aB x21.2) rfl trivial rfl (OkD.nil (by kernel_rfl) (Ok.seq (Ok.region (OkOps.x (aB x21.2) rfl trivial rfl (OkOps.x (aB x21.2) rfl trivial rfl (OkOps.nil (Ok.region (OkOps.x (.agg [cI x21.1.Kind, .d (.sl (List.map AType.cs x21.1.Of))]) rfl trivial rfl ?_))))))))))))))
  refine OkOps.m 0 (triBST (sz := 2) (enc := AType.cs) (j := 6) ([x21.1]) rfl rfl rfl rfl rfl (rows := [[dI x21.1.Kind, .sl (List.map AType.cs x21.1.Of)]]) (by simp only [List.map, AType.cs_eq]) rfl rfl (fun x => by rw [AType.cs_eq]; rfl) trivial rfl rfl) ?_
  refine OkOps.x (.c (.loc 2 1)) rfl trivial rfl (OkOps.w (triStore (cs' := [cI v.Kind, .tl 6 (List.map AType.cs ([x21.1]))]) rfl rfl rfl rfl rfl rfl rfl rfl rfl) (OkOps.nil ?_))
  exact ⟨(x16.2.1, x21.2, [x21.1]), hr, (Conv.mk (tau [(1017, 6)]) ⟨⟨_, rfl, .inl rfl⟩, ⟨_, rfl, .inl rfl⟩, ⟨_, rfl, .inl rfl⟩, ⟨_, rfl, .inl rfl⟩, ⟨_, rfl, .inl rfl⟩, ⟨_, rfl, .inl rfl⟩, ⟨_, rfl, .inl rfl⟩, trivial⟩ ⟨rfl, rfl, rfl, rfl, trivial⟩ rfl rfl rfl rfl)⟩
  have hr := selF h12 hr
  refine Ok.exit ?_
  exact ⟨(s10.1, s10.2.1, s10.2.2.2), hr, (Conv.mk (tau [(1008, 1013)]) ⟨⟨_, rfl, .inl rfl⟩, ⟨_, rfl, .inl rfl⟩, ⟨_, rfl, .inl rfl⟩, ⟨_, rfl, .inl rfl⟩, trivial⟩ ⟨rfl, rfl, rfl, trivial⟩ rfl rfl rfl rfl)⟩
theorem r11_check_all : ∀ n : Nat, (∀ (v : AValue) (depth : Int) (met : Int) {r : AType × Int × Int}, r11_check n v depth met = some r → Con Tryd.prog 113 [.agg [cI v.Kind, cI v.N, cS v.S, .d (.sl (List.map AValue.cs v.L))], aI depth, aI met] [] (.tup [.agg [cI r.1.Kind, .d (.sl (List.map AType.cs r.1.Of))], aI r.2.1, aI r.2.2]) []) ∧ True := by
  intro n
  induction n with
  | zero => exact ⟨(by intros; rename_i hr; cases hr), trivial⟩
  | succ n ih => exact ⟨(by intros; rename_i hr; exact r11_check_B_c _ ih.1 _ _ _ hr), trivial⟩
theorem r11_check_c (n : Nat) (v : AValue) (depth : Int) (met : Int) {r : AType × Int × Int} (hr : r11_check n v depth met = some r) : Con Tryd.prog 113 [.agg [cI v.Kind, cI v.N, cS v.S, .d (.sl (List.map AValue.cs v.L))], aI depth, aI met] [] (.tup [.agg [cI r.1.Kind, .d (.sl (List.map AType.cs r.1.Of))], aI r.2.1, aI r.2.2]) [] := (r11_check_all n).1 v depth met hr
theorem r11_TypeOf_c (v : AValue) {r : AType × Int} (hr : r11_TypeOf v = some r) : Con Tryd.prog 107 [.agg [cI v.Kind, cI v.N, cS v.S, .d (.sl (List.map AValue.cs v.L))]] [] (.tup [.agg [cI r.1.Kind, .d (.sl (List.map AType.cs r.1.Of))], aI r.2]) [] := by
  unfold r11_TypeOf at hr
  refine Con.of_ok 15 0 [.cell 2 130, .tmp 3] [(0, .s (.agg [cI v.Kind, cI v.N, cS v.S, .d (.sl (List.map AValue.cs v.L))]))] Tryd.func107 rfl rfl rfl rfl rfl rfl rfl rfl fun w g M ρ _ => (Ok.seq (Ok.region (OkOps.m 0 (triBox (j := 0) (cs := [cI v.Kind, cI v.N, cS v.S, .d (.sl (List.map AValue.cs v.L))]) rfl rfl rfl rfl rfl) (OkOps.m 0 (triAlloc (j := 1) (cs := [cI 0, .d (.v (.slice none 0 0))]) rfl rfl rfl rfl) (OkOps.x (aI 0) rfl trivial rfl (OkOps.nil (Ok.seq (Ok.region (OkOps.x (.agg [cI v.Kind, cI v.N, cS v.S, .d (.sl (List.map AValue.cs v.L))]) rfl trivial rfl ?_)))))))))
  obtain ⟨x1, hx1, hr⟩ := bind_some hr
  refine OkOps.q (triCall (tau []) (.tup [.agg [cI x1.1.Kind, .d (.sl (List.map AType.cs x1.1.Of))], aI x1.2.1, aI x1.2.2]) [] (r11_check_c _ _ _ _ hx1) rfl ⟨.inl rfl, .inl rfl, .inl rfl, trivial⟩ trivial entry113 trivial rfl rfl rfl rfl trivial rfl rfl rfl) (OkOps.q (triMv (v := .tup [.agg [cI x1.1.Kind, .d (.sl (List.map AType.cs x1.1.Of))], aI x1.2.1, aI x1.2.2]) rfl rfl) (OkOps.x (.agg [cI x1.1.Kind, .d (.sl (List.map AType.cs x1.1.Of))]) rfl trivial rfl (OkOps.x (aI x1.2.1) rfl trivial rfl (OkOps.x (aI x1.2.2) rfl trivial rfl (OkOps.m 0 (triAlloc (j := 2) (cs := [cI 0, .d (.v (.slice none 0 0))]) rfl rfl rfl rfl) (OkOps.w (triStore (cs' := [cI x1.1.Kind, .d (.sl (List.map AType.cs x1.1.Of))]) rfl rfl rfl rfl rfl rfl rfl rfl rfl) (OkOps.x (aI x1.2.1) rfl trivial rfl (OkOps.x (aI x1.2.2) rfl trivial rfl (OkOps.nil (Ok.seq (Ok.region (OkOps.x (.agg [cI x1.1.Kind, .d (.sl (List.map AType.cs x1.1.Of))]) rfl trivial rfl (OkOps.x (aI x1.2.2) rfl trivial rfl (OkOps.w (triStore (cs' := [cI x1.1.Kind, .d (.sl (List.map AType.cs x1.1.Of))]) rfl rfl rfl rfl rfl rfl rfl rfl rfl) (OkOps.x (aI x1.2.2) rfl trivial rfl ?_)))))))))))))))
  refine OkOps.nil (Ok.ret ?_)
  obtain rfl := Option.some.inj hr
  exact ⟨_, rfl, .inl rfl, trivial⟩
theorem entry107 : Entry Tryd.prog 107 := ⟨_, Tryd.func107, by kernel_rfl, by kernel_rfl⟩
theorem r11_Check_c (v : AValue) {r : Int} (hr : r11_Check v = some r) : Con Tryd.prog 80 [.agg [cI v.Kind, cI v.N, cS v.S, .d (.sl (List.map AValue.cs v.L))]] [] (.s (aI r)) [] := by
  unfold r11_Check at hr
  refine Con.of_ok 11 0 [.tmp 2] [(0, .s (.agg [cI v.Kind, cI v.N, cS v.S, .d (.sl (List.map AValue.cs v.L))]))] Tryd.func80 rfl rfl rfl rfl rfl rfl rfl rfl fun w g M ρ _ => (Ok.seq (Ok.region (OkOps.m 0 (triBox (j := 0) (cs := [cI v.Kind, cI v.N, cS v.S, .d (.sl (List.map AValue.cs v.L))]) rfl rfl rfl rfl rfl) (OkOps.x (aI 0) rfl trivial rfl (OkOps.nil (Ok.seq (Ok.region (OkOps.x (.agg [cI v.Kind, cI v.N, cS v.S, .d (.sl (List.map AValue.cs v.L))]) rfl trivial rfl ?_))))))))
  obtain ⟨x1, hx1, hr⟩ := bind_some hr
  refine OkOps.q (triCall (tau []) (.tup [.agg [cI x1.1.Kind, .d (.sl (List.map AType.cs x1.1.Of))], aI x1.2]) [] (r11_TypeOf_c _ hx1) rfl ⟨.inl rfl, trivial⟩ trivial entry107 trivial rfl rfl rfl rfl trivial rfl rfl rfl) (OkOps.q (triMv (v := .tup [.agg [cI x1.1.Kind, .d (.sl (List.map AType.cs x1.1.Of))], aI x1.2]) rfl rfl) (OkOps.x (.agg [cI x1.1.Kind, .d (.sl (List.map AType.cs x1.1.Of))]) rfl trivial rfl (OkOps.x (aI x1.2) rfl trivial rfl (OkOps.m 0 (triAlloc (j := 1) (cs := [cI 0, .d (.v (.slice none 0 0))]) rfl rfl rfl rfl) (OkOps.w (triStore (cs' := [cI x1.1.Kind, .d (.sl (List.map AType.cs x1.1.Of))]) rfl rfl rfl rfl rfl rfl rfl rfl rfl) (OkOps.x (aI x1.2) rfl trivial rfl (OkOps.nil (Ok.seq (Ok.region (OkOps.x (aI x1.2) rfl trivial rfl (OkOps.x (aI x1.2) rfl trivial rfl (OkOps.nil (Ok.ret ?_)))))))))))))
  obtain rfl := Option.some.inj hr
  exact ⟨_, rfl, .inl rfl, trivial⟩
theorem entry80 : Entry Tryd.prog 80 := ⟨_, Tryd.func80, by kernel_rfl, by kernel_rfl⟩
theorem entry30 : Entry Tryd.prog 30 := ⟨_, Tryd.func30, by kernel_rfl, by kernel_rfl⟩
theorem entry89 : Entry Tryd.prog 89 := ⟨_, Tryd.func89, by kernel_rfl, by kernel_rfl⟩
theorem r11_Same_B_c (self0 : AValue → AValue → Option Bool) (self1 : (List AValue) → (List AValue) → Option Bool) (hself0 : ∀ (a : AValue) (b : AValue) {r : Bool}, self0 a b = some r → Con Tryd.prog 30 [.agg [cI a.Kind, cI a.N, cS a.S, .d (.sl (List.map AValue.cs a.L))], .agg [cI b.Kind, cI b.N, cS b.S, .d (.sl (List.map AValue.cs b.L))]] [] (.s (aB r)) []) (_hself1 : ∀ (a : (List AValue)) (b : (List AValue)) {r : Bool}, self1 a b = some r → Con Tryd.prog 89 [.c (.d (.sl (List.map AValue.cs a))), .c (.d (.sl (List.map AValue.cs b)))] [] (.s (aB r)) []) (a : AValue) (b : AValue) {r : Bool} (hr : r11_Same_B self0 self1 a b = some r) : Con Tryd.prog 30 [.agg [cI a.Kind, cI a.N, cS a.S, .d (.sl (List.map AValue.cs a.L))], .agg [cI b.Kind, cI b.N, cS b.S, .d (.sl (List.map AValue.cs b.L))]] [] (.s (aB r)) [] := by
  unfold r11_Same_B at hr
  refine Con.of_ok 53 0 [.tmp 4] [(0, .s (.agg [cI a.Kind, cI a.N, cS a.S, .d (.sl (List.map AValue.cs a.L))])), (1, .s (.agg [cI b.Kind, cI b.N, cS b.S, .d (.sl (List.map AValue.cs b.L))]))] Tryd.func30 rfl rfl rfl rfl rfl rfl rfl rfl fun w g M ρ _ => (Ok.seq (Ok.region (OkOps.m 0 (triBox (j := 0) (cs := [cI a.Kind, cI a.N, cS a.S, .d (.sl (List.map AValue.cs a.L))]) rfl rfl rfl rfl rfl) (OkOps.m 0 (triBox (j := 1) (cs := [cI b.Kind, cI b.N, cS b.S, .d (.sl (List.map AValue.cs b.L))]) rfl rfl rfl rfl rfl) (OkOps.x (aB false) rfl trivial rfl (OkOps.nil (Ok.seq (Ok.seq (Ok.region (OkOps.x (.c (.loc 0 0)) rfl trivial rfl (OkOps.x (aI a.Kind) rfl trivial rfl (OkOps.x (.c (.loc 1 0)) rfl trivial rfl (OkOps.x (aI b.Kind) rfl trivial rfl (OkOps.x (aB (a.Kind != b.Kind)) rfl trivial rfl (OkOps.x (aB (a.Kind != b.Kind)) rfl trivial rfl ?_)))))))))))))))
  refine OkOps.q (triQG (x := .c (.loc 0 1)) rfl rfl trivial rfl) (OkOps.q (triQG (x := aI a.N) rfl rfl ⟨fun h => h, trivial⟩ rfl) (OkOps.q (triQG (x := .c (.loc 1 1)) rfl rfl trivial rfl) (OkOps.q (triQG (x := aI b.N) rfl rfl ⟨fun h => h, trivial⟩ rfl) (OkOps.q (triQG (x := aB (a.N != b.N)) rfl rfl ⟨fun h => h, ⟨fun h => h, trivial⟩⟩ rfl) ?_))))
  refine OkOps.q (triOr rfl rfl (fun h => by rw [h]; rfl) rfl) ?_
  refine OkOps.x (aB ((a.Kind != b.Kind) || (a.N != b.N))) rfl trivial rfl (OkOps.q (triQG (x := .c (.loc 0 2)) rfl rfl trivial rfl) (OkOps.q (triQG (x := aS a.S) rfl rfl ⟨fun h => h, trivial⟩ rfl) (OkOps.q (triQG (x := .c (.loc 1 2)) rfl rfl trivial rfl) (OkOps.q (triQG (x := aS b.S) rfl rfl ⟨fun h => h, trivial⟩ rfl) (OkOps.q (triQG (x := aB (!(a.S.toList == b.S.toList))) rfl rfl ⟨fun h => h, ⟨fun h => h, trivial⟩⟩ rfl) ?_)))))
  refine OkOps.q (triOr rfl rfl (fun h => by rw [h]; rfl) rfl) ?_
  refine OkOps.x (aB (((a.Kind != b.Kind) || (a.N != b.N)) || (!(a.S.toList == b.S.toList)))) rfl trivial rfl (OkOps.q (triQG (x := .c (.loc 0 3)) rfl rfl trivial rfl) (OkOps.q (triQG (x := .c (.d (.sl (List.map AValue.cs a.L)))) rfl rfl ⟨fun h => h, trivial⟩ rfl) (OkOps.q (triLenG (enc := AValue.cs) a.L rfl rfl rfl ⟨fun h => h, trivial⟩ rfl) (OkOps.q (triQG (x := .c (.loc 1 3)) rfl rfl trivial rfl) (OkOps.q (triQG (x := .c (.d (.sl (List.map AValue.cs b.L)))) rfl rfl ⟨fun h => h, trivial⟩ rfl) (OkOps.q (triLenG (enc := AValue.cs) b.L rfl rfl rfl ⟨fun h => h, trivial⟩ rfl) (OkOps.q (triQG (x := aB ((a.L.length : Int) != (b.L.length : Int))) rfl rfl ⟨fun h => h, ⟨fun h => h, trivial⟩⟩ rfl) ?_)))))))
  refine OkOps.q (triOr rfl rfl (fun h => by rw [h]; rfl) rfl) ?_
  refine OkOps.nil ?_
  refine Ok.cond (b := (((a.Kind != b.Kind) || (a.N != b.N)) || (!(a.S.toList == b.S.toList))) || ((a.L.length : Int) != (b.L.length : Int))) rfl (fun h1 => ?_) (fun h1 => ?_)
  have hr := selT h1 hr
  refine Ok.seq (Ok.region (OkOps.x (aB false) rfl trivial rfl (OkOps.nil (Ok.ret ?_))))
  obtain rfl := Option.some.inj hr
  exact ⟨_, rfl, .inl rfl, trivial⟩
  have hr := selF h1 hr
  refine Ok.skip ?_
  obtain ⟨k3, hk3, hr⟩ := jn_some hr
  refine Ok.join (fun (s2 : Unit) => ⟨[], [], 0⟩) k3 r (fun s2 hr => ?_) ?_
  rw [hk3] at hr
  refine Ok.seq (Ok.region (OkOps.x (aB true) rfl trivial rfl (OkOps.nil (Ok.ret ?_))))
  obtain rfl := Option.some.inj hr
  exact ⟨_, rfl, .inl rfl, trivial⟩
  clear hk3
  refine Ok.seq (Ok.region (OkOps.x (aI 0) rfl trivial rfl (OkOps.nil (Ok.block (Ok.loopK (fun (s4 : Int) => ⟨[(2, .s (.c (.loc 0 0))), (3, .s (.c (.loc 1 0))), (5, .s (aI s4))], [(0, .blk [cI a.Kind, cI a.N, cS a.S, .d (.sl (List.map AValue.cs a.L))] 40), (1, .blk [cI b.Kind, cI b.N, cS b.S, .d (.sl (List.map AValue.cs b.L))] 40)], 0⟩) hr (Conv.mk (tau []) ⟨⟨_, rfl, .inl rfl⟩, ⟨_, rfl, .inl rfl⟩, ⟨_, rfl, .inl rfl⟩, trivial⟩ ⟨rfl, rfl, trivial⟩ rfl rfl rfl rfl) ?_)))))
  clear hr
  intro again5 s4 hr
  unfold r11_Same_L1 at hr
  refine Ok.seq (Ok.seq (Ok.region (OkOps.x (aI s4) rfl trivial rfl (OkOps.x (.c (.loc 0 3)) rfl trivial rfl (OkOps.x (.c (.d (.sl (List.map AValue.cs a.L)))) rfl trivial rfl (OkOps.q (triLen (enc := AValue.cs) a.L rfl rfl trivial rfl) (OkOps.x (aB (decide (s4 < (a.L.length : Int)))) rfl trivial rfl (OkOps.nil ?_))))))))
  refine Ok.cond (b := decide (s4 < (a.L.length : Int))) rfl (fun h6 => ?_) (fun h6 => ?_)
  have hr := selT h6 hr
  refine Ok.skip (Ok.seq (Ok.block (Ok.seq (Ok.regionD (by kernel_rfl) (OkD.x (.c (.loc 0 3)) rfl trivial rfl (OkD.x (.c (.d (.sl (List.map AValue.cs a.L)))) rfl trivial rfl (OkD.x (aI s4) rfl trivial rfl ?_)))))))
  obtain ⟨x7, hx7, hr⟩ := bind_some hr
  refine OkD.q (triIdx (enc := AValue.cs) (L := a.L) (row := [dI x7.Kind, dI x7.N, dS x7.S, .sl (List.map AValue.cs x7.L)]) hx7 (AValue.cs_eq _) rfl rfl rfl (fun x => by rw [AValue.cs_eq]; rfl) trivial rfl) ?_
  refine OkD.x (.agg [cI x7.Kind, cI x7.N, cS x7.S, .d (.sl (List.map AValue.cs x7.L))]) rfl trivial rfl (OkD.x (.c (.loc 1 3)) rfl trivial rfl (OkD.x (.c (.d (.sl (List.map AValue.cs b.L)))) rfl trivial rfl (OkD.x (aI s4) rfl trivial rfl ?_)))
  obtain ⟨x8, hx8, hr⟩ := bind_some hr
  refine OkD.q (triIdx (enc := AValue.cs) (L := b.L) (row := [dI x8.Kind, dI x8.N, dS x8.S, .sl (List.map AValue.cs x8.L)]) hx8 (AValue.cs_eq _) rfl rfl rfl (fun x => by rw [AValue.cs_eq]; rfl) trivial rfl) ?_
  refine OkD.x (.agg [cI x8.Kind, cI x8.N, cS x8.S, .d (.sl (List.map AValue.cs x8.L))]) rfl trivial rfl ?_
  obtain ⟨x9, hx9, hr⟩ := bind_some hr
  refine OkD.q (triCall (tau []) (.s (aB x9)) [] (hself0 _ _ hx9) rfl ⟨.inl rfl, .inl rfl, trivial⟩ trivial entry30 trivial rfl rfl rfl rfl trivial rfl rfl rfl) (OkD.x (aB (!x9)) rfl trivial rfl (OkD.nil (by kernel_rfl) ?_))
  refine Ok.cond (b := !x9) rfl (fun h10 => ?_) (fun h10 => ?_)
  have hr := selT h10 hr
  refine Ok.seq (Ok.region (OkOps.x (aB false) rfl trivial rfl (OkOps.nil (Ok.ret ?_))))
  obtain rfl := Option.some.inj hr
  exact ⟨_, rfl, .inl rfl, trivial⟩
  have hr := selF h10 hr
  refine Ok.skip (Ok.region (OkOps.x (aI s4) rfl trivial rfl (OkOps.x (aI (IntKind.i64.wrap (s4 + 1))) rfl trivial rfl (OkOps.x (aI (IntKind.i64.wrap (s4 + 1))) rfl trivial rfl (OkOps.nil ?_)))))
  exact ⟨IntKind.i64.wrap (s4 + 1), hr, (Conv.mk (tau []) ⟨⟨_, rfl, .inl rfl⟩, ⟨_, rfl, .inl rfl⟩, ⟨_, rfl, .inl rfl⟩, trivial⟩ ⟨rfl, rfl, trivial⟩ rfl rfl rfl rfl)⟩
  have hr := selF h6 hr
  refine Ok.exit ?_
  exact ⟨(), hr, (Conv.mk (tau []) trivial trivial rfl rfl rfl rfl)⟩
theorem r11_SameValues_B_c (self0 : AValue → AValue → Option Bool) (self1 : (List AValue) → (List AValue) → Option Bool) (hself0 : ∀ (a : AValue) (b : AValue) {r : Bool}, self0 a b = some r → Con Tryd.prog 30 [.agg [cI a.Kind, cI a.N, cS a.S, .d (.sl (List.map AValue.cs a.L))], .agg [cI b.Kind, cI b.N, cS b.S, .d (.sl (List.map AValue.cs b.L))]] [] (.s (aB r)) []) (_hself1 : ∀ (a : (List AValue)) (b : (List AValue)) {r : Bool}, self1 a b = some r → Con Tryd.prog 89 [.c (.d (.sl (List.map AValue.cs a))), .c (.d (.sl (List.map AValue.cs b)))] [] (.s (aB r)) []) (a : (List AValue)) (b : (List AValue)) {r : Bool} (hr : r11_SameValues_B self0 self1 a b = some r) : Con Tryd.prog 89 [.c (.d (.sl (List.map AValue.cs a))), .c (.d (.sl (List.map AValue.cs b)))] [] (.s (aB r)) [] := by
  unfold r11_SameValues_B at hr
  refine Con.of_ok 27 0 [.tmp 4] [(0, .s (.c (.d (.sl (List.map AValue.cs a))))), (1, .s (.c (.d (.sl (List.map AValue.cs b)))))] Tryd.func89 rfl rfl rfl rfl rfl rfl rfl rfl fun w g M ρ _ => (Ok.seq (Ok.region (OkOps.x (aB false) rfl trivial rfl (OkOps.nil (Ok.seq (Ok.seq (Ok.region (OkOps.x (.c (.d (.sl (List.map AValue.cs a)))) rfl trivial rfl (OkOps.q (triLen (enc := AValue.cs) a rfl rfl trivial rfl) (OkOps.x (.c (.d (.sl (List.map AValue.cs b)))) rfl trivial rfl (OkOps.q (triLen (enc := AValue.cs) b rfl rfl trivial rfl) (OkOps.x (aB ((a.length : Int) != (b.length : Int))) rfl trivial rfl (OkOps.nil ?_)))))))))))))
  refine Ok.cond (b := (a.length : Int) != (b.length : Int)) rfl (fun h1 => ?_) (fun h1 => ?_)
  have hr := selT h1 hr
  refine Ok.seq (Ok.region (OkOps.x (aB false) rfl trivial rfl (OkOps.nil (Ok.ret ?_))))
  obtain rfl := Option.some.inj hr
  exact ⟨_, rfl, .inl rfl, trivial⟩
  have hr := selF h1 hr
  refine Ok.skip ?_
  obtain ⟨k3, hk3, hr⟩ := jn_some hr
  refine Ok.join (fun (s2 : Unit) => ⟨[], [], 0⟩) k3 r (fun s2 hr => ?_) ?_
  rw [hk3] at hr
  refine Ok.seq (Ok.region (OkOps.x (aB true) rfl trivial rfl (OkOps.nil (Ok.ret ?_))))
  obtain rfl := Option.some.inj hr
  exact ⟨_, rfl, .inl rfl, trivial⟩
  clear hk3
  refine Ok.seq (Ok.region (OkOps.x (aI 0) rfl trivial rfl (OkOps.nil (Ok.block (Ok.loopK (fun (s4 : Int) => ⟨[(0, .s (.c (.d (.sl (List.map AValue.cs a))))), (1, .s (.c (.d (.sl (List.map AValue.cs b))))), (5, .s (aI s4))], [], 0⟩) hr (Conv.mk (tau []) ⟨⟨_, rfl, .inl rfl⟩, ⟨_, rfl, .inl rfl⟩, ⟨_, rfl, .inl rfl⟩, trivial⟩ trivial rfl rfl rfl rfl) ?_)))))
  clear hr
  intro again5 s4 hr
  unfold r11_SameValues_L1 at hr
  refine Ok.seq (Ok.seq (Ok.region (OkOps.x (aI s4) rfl trivial rfl (OkOps.x (.c (.d (.sl (List.map AValue.cs a)))) rfl trivial rfl (OkOps.q (triLen (enc := AValue.cs) a rfl rfl trivial rfl) (OkOps.x (aB (decide (s4 < (a.length : Int)))) rfl trivial rfl (OkOps.nil ?_)))))))
  refine Ok.cond (b := decide (s4 < (a.length : Int))) rfl (fun h6 => ?_) (fun h6 => ?_)
  have hr := selT h6 hr
  refine Ok.skip (Ok.seq (Ok.block (Ok.seq (Ok.regionD (by kernel_rfl) (OkD.x (.c (.d (.sl (List.map AValue.cs a)))) rfl trivial rfl (OkD.x (aI s4) rfl trivial rfl ?_))))))
  obtain ⟨x7, hx7, hr⟩ := bind_some hr
  refine OkD.q (triIdx (enc := AValue.cs) (L := a) (row := [dI x7.Kind, dI x7.N, dS x7.S, .sl (List.map AValue.cs x7.L)]) hx7 (AValue.cs_eq _) rfl rfl rfl (fun x => by rw [AValue.cs_eq]; rfl) trivial rfl) ?_
  refine OkD.x (.agg [cI x7.Kind, cI x7.N, cS x7.S, .d (.sl (List.map AValue.cs x7.L))]) rfl trivial rfl (OkD.x (.c (.d (.sl (List.map AValue.cs b)))) rfl trivial rfl (OkD.x (aI s4) rfl trivial rfl ?_))
  obtain ⟨x8, hx8, hr⟩ := bind_some hr
  refine OkD.q (triIdx (enc := AValue.cs) (L := b) (row := [dI x8.Kind, dI x8.N, dS x8.S, .sl (List.map AValue.cs x8.L)]) hx8 (AValue.cs_eq _) rfl rfl rfl (fun x => by rw [AValue.cs_eq]; rfl) trivial rfl) ?_
  refine OkD.x (.agg [cI x8.Kind, cI x8.N, cS x8.S, .d (.sl (List.map AValue.cs x8.L))]) rfl trivial rfl ?_
  obtain ⟨x9, hx9, hr⟩ := bind_some hr
  refine OkD.q (triCall (tau []) (.s (aB x9)) [] (hself0 _ _ hx9) rfl ⟨.inl rfl, .inl rfl, trivial⟩ trivial entry30 trivial rfl rfl rfl rfl trivial rfl rfl rfl) (OkD.x (aB (!x9)) rfl trivial rfl (OkD.nil (by kernel_rfl) ?_))
  refine Ok.cond (b := !x9) rfl (fun h10 => ?_) (fun h10 => ?_)
  have hr := selT h10 hr
  refine Ok.seq (Ok.region (OkOps.x (aB false) rfl trivial rfl (OkOps.nil (Ok.ret ?_))))
  obtain rfl := Option.some.inj hr
  exact ⟨_, rfl, .inl rfl, trivial⟩
  have hr := selF h10 hr
  refine Ok.skip (Ok.region (OkOps.x (aI s4) rfl trivial rfl (OkOps.x (aI (IntKind.i64.wrap (s4 + 1))) rfl trivial rfl (OkOps.x (aI (IntKind.i64.wrap (s4 + 1))) rfl trivial rfl (OkOps.nil ?_)))))
  exact ⟨IntKind.i64.wrap (s4 + 1), hr, (Conv.mk (tau []) ⟨⟨_, rfl, .inl rfl⟩, ⟨_, rfl, .inl rfl⟩, ⟨_, rfl, .inl rfl⟩, trivial⟩ trivial rfl rfl rfl rfl)⟩
  have hr := selF h6 hr
  refine Ok.exit ?_
  exact ⟨(), hr, (Conv.mk (tau []) trivial trivial rfl rfl rfl rfl)⟩
theorem r11_Same_all : ∀ n : Nat, (∀ (a : AValue) (b : AValue) {r : Bool}, r11_Same n a b = some r → Con Tryd.prog 30 [.agg [cI a.Kind, cI a.N, cS a.S, .d (.sl (List.map AValue.cs a.L))], .agg [cI b.Kind, cI b.N, cS b.S, .d (.sl (List.map AValue.cs b.L))]] [] (.s (aB r)) []) ∧ (∀ (a : (List AValue)) (b : (List AValue)) {r : Bool}, r11_SameValues n a b = some r → Con Tryd.prog 89 [.c (.d (.sl (List.map AValue.cs a))), .c (.d (.sl (List.map AValue.cs b)))] [] (.s (aB r)) []) ∧ True := by
  intro n
  induction n with
  | zero => exact ⟨(by intros; rename_i hr; cases hr), (by intros; rename_i hr; cases hr), trivial⟩
  | succ n ih => exact ⟨(by intros; rename_i hr; exact r11_Same_B_c _ _ ih.1 ih.2.1 _ _ hr), (by intros; rename_i hr; exact r11_SameValues_B_c _ _ ih.1 ih.2.1 _ _ hr), trivial⟩
theorem r11_Same_c (n : Nat) (a : AValue) (b : AValue) {r : Bool} (hr : r11_Same n a b = some r) : Con Tryd.prog 30 [.agg [cI a.Kind, cI a.N, cS a.S, .d (.sl (List.map AValue.cs a.L))], .agg [cI b.Kind, cI b.N, cS b.S, .d (.sl (List.map AValue.cs b.L))]] [] (.s (aB r)) [] := (r11_Same_all n).1 a b hr
theorem r11_SameValues_c (n : Nat) (a : (List AValue)) (b : (List AValue)) {r : Bool} (hr : r11_SameValues n a b = some r) : Con Tryd.prog 89 [.c (.d (.sl (List.map AValue.cs a))), .c (.d (.sl (List.map AValue.cs b)))] [] (.s (aB r)) [] := (r11_Same_all n).2.1 a b hr
end Go.Proofs.YtcfegecdlbbeaaaDoor
end
section
set_option maxRecDepth 100000
namespace Go.Proofs.YtcfegecdlbbeaaaDoor
open Go Go.E2
theorem entry54 : Entry Tryd.prog 54 := ⟨_, Tryd.func54, by kernel_rfl, by kernel_rfl⟩
theorem r14_validate_B_c (self0 : View → Int → Int → Option (Int × Int)) (hself0 : ∀ (v : View) (depth : Int) (met : Int) {r : Int × Int}, self0 v depth met = some r → Con Tryd.prog 54 [.agg [cI v.Kind, cS v.Key, .d (.sl (List.map Attr.cs v.Attrs)), .d (.sl (List.map Action.cs v.Actions)), .d (.sl (List.map View.cs v.Kids))], aI depth, aI met] [] (.tup [aI r.1, aI r.2]) []) (v : View) (depth : Int) (met : Int) {r : Int × Int} (hr : r14_validate_B self0 v depth met = some r) : Con Tryd.prog 54 [.agg [cI v.Kind, cS v.Key, .d (.sl (List.map Attr.cs v.Attrs)), .d (.sl (List.map Action.cs v.Actions)), .d (.sl (List.map View.cs v.Kids))], aI depth, aI met] [] (.tup [aI r.1, aI r.2]) [] := by
  unfold r14_validate_B at hr
  refine Con.of_ok 230 0 [.tmp 6, .tmp 7] [(0, .s (.agg [cI v.Kind, cS v.Key, .d (.sl (List.map Attr.cs v.Attrs)), .d (.sl (List.map Action.cs v.Actions)), .d (.sl (List.map View.cs v.Kids))])), (1, .s (aI depth)), (2, .s (aI met))] Tryd.func54 rfl rfl rfl rfl rfl rfl rfl rfl fun w g M ρ _ => (Ok.seq (Ok.region (OkOps.m 0 (triBox (j := 0) (cs := [cI v.Kind, cS v.Key, .d (.sl (List.map Attr.cs v.Attrs)), .d (.sl (List.map Action.cs v.Actions)), .d (.sl (List.map View.cs v.Kids))]) rfl rfl rfl rfl rfl) (OkOps.x (aI 0) rfl trivial rfl (OkOps.x (aI 0) rfl trivial rfl (OkOps.nil (Ok.seq (Ok.region (OkOps.x (aI met) rfl trivial rfl (OkOps.x (aI (IntKind.i64.wrap (met + 1))) rfl trivial rfl (OkOps.x (aI (IntKind.i64.wrap (met + 1))) rfl trivial rfl (OkOps.nil (Ok.seq (Ok.seq (Ok.region ?_)))))))))))))))
  refine OkOps.x (aI depth) rfl trivial rfl (OkOps.x (aB (decide (depth > 16))) rfl trivial rfl (OkOps.nil ?_))
  refine Ok.cond (b := decide (depth > 16)) rfl (fun h1 => ?_) (fun h1 => ?_)
  have hr := selT h1 hr
  refine Ok.seq (Ok.region (OkOps.x (aI (IntKind.i64.wrap (met + 1))) rfl trivial rfl (OkOps.x (aI (IntKind.i64.wrap (met + 1))) rfl trivial rfl (OkOps.x (aI 8) rfl trivial rfl (OkOps.nil (Ok.ret ?_))))))
  obtain rfl := Option.some.inj hr
  exact ⟨_, rfl, .inl rfl, trivial⟩
  have hr := selF h1 hr
  refine Ok.skip (Ok.seq (Ok.seq (Ok.region (OkOps.x (aI (IntKind.i64.wrap (met + 1))) rfl trivial rfl (OkOps.x (aB (decide ((IntKind.i64.wrap (met + 1)) > 400))) rfl trivial rfl (OkOps.nil ?_))))))
  refine Ok.cond (b := decide ((IntKind.i64.wrap (met + 1)) > 400)) rfl (fun h2 => ?_) (fun h2 => ?_)
  have hr := selT h2 hr
  refine Ok.seq (Ok.region (OkOps.x (aI (IntKind.i64.wrap (met + 1))) rfl trivial rfl (OkOps.x (aI (IntKind.i64.wrap (met + 1))) rfl trivial rfl (OkOps.x (aI 2) rfl trivial rfl (OkOps.nil (Ok.ret ?_))))))
  obtain rfl := Option.some.inj hr
  exact ⟨_, rfl, .inl rfl, trivial⟩
  have hr := selF h2 hr
  refine Ok.skip (Ok.seq (Ok.seq (Ok.region (OkOps.x (.c (.loc 0 0)) rfl trivial rfl (OkOps.x (aI v.Kind) rfl trivial rfl (OkOps.x (aB (decide (v.Kind < 1))) rfl trivial rfl (OkOps.x (aB (decide (v.Kind < 1))) rfl trivial rfl (OkOps.q (triQG (x := .c (.loc 0 0)) rfl rfl trivial rfl) (OkOps.q (triQG (x := aI v.Kind) rfl rfl ⟨fun h => h, trivial⟩ rfl) (OkOps.q (triQG (x := aB (decide (v.Kind > 13))) rfl rfl ⟨fun h => h, trivial⟩ rfl) ?_))))))))))
  refine OkOps.q (triOr rfl rfl (fun h => by rw [h]; rfl) rfl) ?_
  refine OkOps.nil ?_
  refine Ok.cond (b := (decide (v.Kind < 1)) || (decide (v.Kind > 13))) rfl (fun h3 => ?_) (fun h3 => ?_)
  have hr := selT h3 hr
  refine Ok.seq (Ok.region (OkOps.x (aI (IntKind.i64.wrap (met + 1))) rfl trivial rfl (OkOps.x (aI (IntKind.i64.wrap (met + 1))) rfl trivial rfl (OkOps.x (aI 9) rfl trivial rfl (OkOps.nil (Ok.ret ?_))))))
  obtain rfl := Option.some.inj hr
  exact ⟨_, rfl, .inl rfl, trivial⟩
  have hr := selF h3 hr
  refine Ok.skip (Ok.seq (Ok.seq (Ok.region (OkOps.x (.c (.loc 0 1)) rfl trivial rfl (OkOps.x (aS v.Key) rfl trivial rfl ?_)))))
  obtain ⟨x4, hx4, hr⟩ := bind_some hr
  refine OkOps.q (triCall (tau []) (.s (aB x4)) [] (r14_Key_c _ hx4) rfl ⟨.inl rfl, trivial⟩ trivial entry13 trivial rfl rfl rfl rfl trivial rfl rfl rfl) (OkOps.x (aB (!x4)) rfl trivial rfl (OkOps.nil ?_))
  refine Ok.cond (b := !x4) rfl (fun h5 => ?_) (fun h5 => ?_)
  have hr := selT h5 hr
  refine Ok.seq (Ok.region (OkOps.x (aI (IntKind.i64.wrap (met + 1))) rfl trivial rfl (OkOps.x (aI (IntKind.i64.wrap (met + 1))) rfl trivial rfl (OkOps.x (aI 4) rfl trivial rfl (OkOps.nil (Ok.ret ?_))))))
  obtain rfl := Option.some.inj hr
  exact ⟨_, rfl, .inl rfl, trivial⟩
  have hr := selF h5 hr
  refine Ok.skip (Ok.seq (Ok.seq (Ok.region (OkOps.x (.c (.loc 0 2)) rfl trivial rfl (OkOps.x (.c (.d (.sl (List.map Attr.cs v.Attrs)))) rfl trivial rfl (OkOps.q (triLen (enc := Attr.cs) v.Attrs rfl rfl trivial rfl) (OkOps.x (aB (decide ((v.Attrs.length : Int) > 24))) rfl trivial rfl (OkOps.x (aB (decide ((v.Attrs.length : Int) > 24))) rfl trivial rfl (OkOps.q (triQG (x := .c (.loc 0 3)) rfl rfl trivial rfl) (OkOps.q (triQG (x := .c (.d (.sl (List.map Action.cs v.Actions)))) rfl rfl ⟨fun h => h, trivial⟩ rfl) (OkOps.q (triLenG (enc := Action.cs) v.Actions rfl rfl rfl ⟨fun h => h, trivial⟩ rfl) (OkOps.q (triQG (x := aB (decide ((v.Actions.length : Int) > 24))) rfl rfl ⟨fun h => h, trivial⟩ rfl) ?_))))))))))))
  refine OkOps.q (triOr rfl rfl (fun h => by rw [h]; rfl) rfl) ?_
  refine OkOps.x (aB ((decide ((v.Attrs.length : Int) > 24)) || (decide ((v.Actions.length : Int) > 24)))) rfl trivial rfl (OkOps.q (triQG (x := .c (.loc 0 4)) rfl rfl trivial rfl) (OkOps.q (triQG (x := .c (.d (.sl (List.map View.cs v.Kids)))) rfl rfl ⟨fun h => h, trivial⟩ rfl) (OkOps.q (triLenG (enc := View.cs) v.Kids rfl rfl rfl ⟨fun h => h, trivial⟩ rfl) (OkOps.q (triQG (x := aB (decide ((v.Kids.length : Int) > 100))) rfl rfl ⟨fun h => h, trivial⟩ rfl) ?_))))
  refine OkOps.q (triOr rfl rfl (fun h => by rw [h]; rfl) rfl) ?_
  refine OkOps.nil ?_
  refine Ok.cond (b := ((decide ((v.Attrs.length : Int) > 24)) || (decide ((v.Actions.length : Int) > 24))) || (decide ((v.Kids.length : Int) > 100))) rfl (fun h6 => ?_) (fun h6 => ?_)
  have hr := selT h6 hr
  refine Ok.seq (Ok.region (OkOps.x (aI (IntKind.i64.wrap (met + 1))) rfl trivial rfl (OkOps.x (aI (IntKind.i64.wrap (met + 1))) rfl trivial rfl (OkOps.x (aI 2) rfl trivial rfl (OkOps.nil (Ok.ret ?_))))))
  obtain rfl := Option.some.inj hr
  exact ⟨_, rfl, .inl rfl, trivial⟩
  have hr := selF h6 hr
  refine Ok.skip ?_
  obtain ⟨k8, hk8, hr⟩ := jn_some hr
  refine Ok.join (fun (s7 : Unit) => ⟨[(1, .s (aI depth)), (2, .s (aI (IntKind.i64.wrap (met + 1)))), (3, .s (.c (.loc 0 0)))], [(0, .blk [cI v.Kind, cS v.Key, .d (.sl (List.map Attr.cs v.Attrs)), .d (.sl (List.map Action.cs v.Actions)), .d (.sl (List.map View.cs v.Kids))] 31)], 0⟩) k8 r (fun s7 hr => ?_) ?_
  rw [hk8] at hr
  obtain ⟨k10, hk10, hr⟩ := jn_some hr
  refine Ok.join (fun (s9 : Unit) => ⟨[(1, .s (aI depth)), (2, .s (aI (IntKind.i64.wrap (met + 1)))), (3, .s (.c (.loc 0 0)))], [(0, .blk [cI v.Kind, cS v.Key, .d (.sl (List.map Attr.cs v.Attrs)), .d (.sl (List.map Action.cs v.Actions)), .d (.sl (List.map View.cs v.Kids))] 31)], 0⟩) k10 r (fun s9 hr => ?_) ?_
  rw [hk10] at hr
  obtain ⟨k12, hk12, hr⟩ := jn_some hr
  refine Ok.join (fun (s11 : Unit) => ⟨[(1, .s (aI depth)), (2, .s (aI (IntKind.i64.wrap (met + 1)))), (3, .s (.c (.loc 0 0)))], [(0, .blk [cI v.Kind, cS v.Key, .d (.sl (List.map Attr.cs v.Attrs)), .d (.sl (List.map Action.cs v.Actions)), .d (.sl (List.map View.cs v.Kids))] 31)], 0⟩) k12 r (fun s11 hr => ?_) ?_
  rw [hk12] at hr
  obtain ⟨k14, hk14, hr⟩ := jn_some hr
  refine Ok.join (fun (s13 : Int) => ⟨[(2, .s (aI s13))], [], 0⟩) k14 r (fun s13 hr => ?_) ?_
  rw [hk14] at hr
  refine Ok.seq (Ok.region (OkOps.x (aI s13) rfl trivial rfl (OkOps.x (aI s13) rfl trivial rfl (OkOps.x (aI 0) rfl trivial rfl (OkOps.nil (Ok.ret ?_))))))
  obtain rfl := Option.some.inj hr
  exact ⟨_, rfl, .inl rfl, trivial⟩
  clear hk14
  refine Ok.seq (Ok.region (OkOps.x (aI 0) rfl trivial rfl (OkOps.nil (Ok.block (Ok.loopK (fun (s15 : Int × Int) => ⟨[(1, .s (aI depth)), (2, .s (aI s15.1)), (3, .s (.c (.loc 0 0))), (16, .s (aI s15.2))], [(0, .blk [cI v.Kind, cS v.Key, .d (.sl (List.map Attr.cs v.Attrs)), .d (.sl (List.map Action.cs v.Actions)), .d (.sl (List.map View.cs v.Kids))] 31)], 0⟩) hr (Conv.mk (tau []) ⟨⟨_, rfl, .inl rfl⟩, ⟨_, rfl, .inl rfl⟩, ⟨_, rfl, .inl rfl⟩, ⟨_, rfl, .inl rfl⟩, trivial⟩ ⟨rfl, trivial⟩ rfl rfl rfl rfl) ?_)))))
  clear hr
  intro again16 s15 hr
  unfold r14_validate_L1 at hr
  refine Ok.seq (Ok.seq (Ok.region (OkOps.x (aI s15.2) rfl trivial rfl (OkOps.x (.c (.loc 0 4)) rfl trivial rfl (OkOps.x (.c (.d (.sl (List.map View.cs v.Kids)))) rfl trivial rfl (OkOps.q (triLen (enc := View.cs) v.Kids rfl rfl trivial rfl) (OkOps.x (aB (decide (s15.2 < (v.Kids.length : Int)))) rfl trivial rfl (OkOps.nil ?_))))))))
  refine Ok.cond (b := decide (s15.2 < (v.Kids.length : Int))) rfl (fun h17 => ?_) (fun h17 => ?_)
  have hr := selT h17 hr
  refine Ok.skip (Ok.seq (Ok.block (Ok.seq (Ok.region (OkOps.x (.c (.loc 0 4)) rfl trivial rfl (OkOps.x (.c (.d (.sl (List.map View.cs v.Kids)))) rfl trivial rfl (OkOps.x (aI s15.2) rfl trivial rfl ?_)))))))
  obtain ⟨x18, hx18, hr⟩ := bind_some hr
  refine OkOps.q (triIdx (enc := View.cs) (L := v.Kids) (row := [dI x18.Kind, dS x18.Key, .sl (List.map Attr.cs x18.Attrs), .sl (List.map Action.cs x18.Actions), .sl (List.map View.cs x18.Kids)]) hx18 (View.cs_eq _) rfl rfl rfl (fun x => by rw [View.cs_eq]; rfl) trivial rfl) ?_
  refine OkOps.x (.agg [cI x18.Kind, cS x18.Key, .d (.sl (List.map Attr.cs x18.Attrs)), .d (.sl (List.map Action.cs x18.Actions)), .d (.sl (List.map View.cs x18.Kids))]) rfl trivial rfl (OkOps.x (aI depth) rfl trivial rfl (OkOps.x (aI (IntKind.i64.wrap (depth + 1))) rfl trivial rfl (OkOps.x (aI s15.1) rfl trivial rfl ?_)))
  obtain ⟨x19, hx19, hr⟩ := bind_some hr
  refine OkOps.q (triCall (tau []) (.tup [aI x19.1, aI x19.2]) [] (hself0 _ _ _ hx19) rfl ⟨.inl rfl, .inl rfl, .inl rfl, trivial⟩ trivial entry54 trivial rfl rfl rfl rfl trivial rfl rfl rfl) (OkOps.q (triMv (v := .tup [aI x19.1, aI x19.2]) rfl rfl) (OkOps.x (aI x19.1) rfl trivial rfl (OkOps.x (aI x19.2) rfl trivial rfl (OkOps.x (aI x19.1) rfl trivial rfl (OkOps.x (aI x19.2) rfl trivial rfl (OkOps.nil (Ok.seq (Ok.region (OkOps.x (aI x19.1) rfl trivial rfl (OkOps.x (aI x19.1) rfl trivial rfl (OkOps.nil (Ok.seq (Ok.region (OkOps.x (aI x19.2) rfl trivial rfl (OkOps.x (aB (x19.2 != 0)) rfl trivial rfl ?_)))))))))))))))
  refine OkOps.nil ?_
  refine Ok.cond (b := x19.2 != 0) rfl (fun h20 => ?_) (fun h20 => ?_)
  have hr := selT h20 hr
  refine Ok.seq (Ok.region (OkOps.x (aI x19.1) rfl trivial rfl (OkOps.x (aI x19.2) rfl trivial rfl (OkOps.x (aI x19.1) rfl trivial rfl (OkOps.x (aI x19.2) rfl trivial rfl (OkOps.nil (Ok.ret ?_)))))))
  obtain rfl := Option.some.inj hr
  exact ⟨_, rfl, .inl rfl, trivial⟩
  have hr := selF h20 hr
  refine Ok.skip (Ok.region (OkOps.x (aI s15.2) rfl trivial rfl (OkOps.x (aI (IntKind.i64.wrap (s15.2 + 1))) rfl trivial rfl (OkOps.x (aI (IntKind.i64.wrap (s15.2 + 1))) rfl trivial rfl (OkOps.nil ?_)))))
  exact ⟨(x19.1, IntKind.i64.wrap (s15.2 + 1)), hr, (Conv.mk (tau []) ⟨⟨_, rfl, .inl rfl⟩, ⟨_, rfl, .inl rfl⟩, ⟨_, rfl, .inl rfl⟩, ⟨_, rfl, .inl rfl⟩, trivial⟩ ⟨rfl, trivial⟩ rfl rfl rfl rfl)⟩
  have hr := selF h17 hr
  refine Ok.exit ?_
  exact ⟨s15.1, hr, (Conv.mk (tau []) ⟨⟨_, rfl, .inl rfl⟩, trivial⟩ trivial rfl rfl rfl rfl)⟩
  clear hk12
  refine Ok.seq (Ok.region (OkOps.x (aI 0) rfl trivial rfl (OkOps.nil (Ok.block (Ok.loopK (fun (s21 : Int) => ⟨[(1, .s (aI depth)), (2, .s (aI (IntKind.i64.wrap (met + 1)))), (3, .s (.c (.loc 0 0))), (14, .s (aI s21))], [(0, .blk [cI v.Kind, cS v.Key, .d (.sl (List.map Attr.cs v.Attrs)), .d (.sl (List.map Action.cs v.Actions)), .d (.sl (List.map View.cs v.Kids))] 31)], 0⟩) hr (Conv.mk (tau []) ⟨⟨_, rfl, .inl rfl⟩, ⟨_, rfl, .inl rfl⟩, ⟨_, rfl, .inl rfl⟩, ⟨_, rfl, .inl rfl⟩, trivial⟩ ⟨rfl, trivial⟩ rfl rfl rfl rfl) ?_)))))
  clear hr
  intro again22 s21 hr
  unfold r14_validate_L3 at hr
  refine Ok.seq (Ok.seq (Ok.region (OkOps.x (aI s21) rfl trivial rfl (OkOps.x (.c (.loc 0 4)) rfl trivial rfl (OkOps.x (.c (.d (.sl (List.map View.cs v.Kids)))) rfl trivial rfl (OkOps.q (triLen (enc := View.cs) v.Kids rfl rfl trivial rfl) (OkOps.x (aB (decide (s21 < (v.Kids.length : Int)))) rfl trivial rfl (OkOps.nil ?_))))))))
  refine Ok.cond (b := decide (s21 < (v.Kids.length : Int))) rfl (fun h23 => ?_) (fun h23 => ?_)
  have hr := selT h23 hr
  refine Ok.skip ?_
  obtain ⟨k25, hk25, hr⟩ := jn_some hr
  refine Ok.join (fun (s24 : Unit) => ⟨[(1, .s (aI depth)), (2, .s (aI (IntKind.i64.wrap (met + 1)))), (3, .s (.c (.loc 0 0))), (14, .s (aI s21))], [(0, .blk [cI v.Kind, cS v.Key, .d (.sl (List.map Attr.cs v.Attrs)), .d (.sl (List.map Action.cs v.Actions)), .d (.sl (List.map View.cs v.Kids))] 31)], 0⟩) k25 r (fun s24 hr => ?_) ?_
  rw [hk25] at hr
  refine Ok.region (OkOps.x (aI s21) rfl trivial rfl (OkOps.x (aI (IntKind.i64.wrap (s21 + 1))) rfl trivial rfl (OkOps.x (aI (IntKind.i64.wrap (s21 + 1))) rfl trivial rfl (OkOps.nil ?_))))
  exact ⟨IntKind.i64.wrap (s21 + 1), hr, (Conv.mk (tau []) ⟨⟨_, rfl, .inl rfl⟩, ⟨_, rfl, .inl rfl⟩, ⟨_, rfl, .inl rfl⟩, ⟨_, rfl, .inl rfl⟩, trivial⟩ ⟨rfl, trivial⟩ rfl rfl rfl rfl)⟩
  clear hk25
  refine Ok.block (Ok.seq (Ok.region (OkOps.x (aI 0) rfl trivial rfl (OkOps.nil ?_))))
  obtain ⟨k27, hk27, hr⟩ := jn_some hr
  refine Ok.joinEnd (fun (s26 : Unit) => ⟨[(1, .s (aI depth)), (2, .s (aI (IntKind.i64.wrap (met + 1)))), (3, .s (.c (.loc 0 0))), (14, .s (aI s21))], [(0, .blk [cI v.Kind, cS v.Key, .d (.sl (List.map Attr.cs v.Attrs)), .d (.sl (List.map Action.cs v.Actions)), .d (.sl (List.map View.cs v.Kids))] 31)], 0⟩) k27 r (fun s26 hr => ?_) ?_
  rw [hk27] at hr
  exact ⟨(), hr, (Conv.mk (tau []) ⟨⟨_, rfl, .inl rfl⟩, ⟨_, rfl, .inl rfl⟩, ⟨_, rfl, .inl rfl⟩, ⟨_, rfl, .inl rfl⟩, trivial⟩ ⟨rfl, trivial⟩ rfl rfl rfl rfl)⟩
  clear hk27
  refine Ok.block (Ok.loopK (fun (s28 : Int) => ⟨[(1, .s (aI depth)), (2, .s (aI (IntKind.i64.wrap (met + 1)))), (3, .s (.c (.loc 0 0))), (14, .s (aI s21)), (15, .s (aI s28))], [(0, .blk [cI v.Kind, cS v.Key, .d (.sl (List.map Attr.cs v.Attrs)), .d (.sl (List.map Action.cs v.Actions)), .d (.sl (List.map View.cs v.Kids))] 31)], 0⟩) hr (Conv.mk (tau []) ⟨⟨_, rfl, .inl rfl⟩, ⟨_, rfl, .inl rfl⟩, ⟨_, rfl, .inl rfl⟩, ⟨_, rfl, .inl rfl⟩, ⟨_, rfl, .inl rfl⟩, trivial⟩ ⟨rfl, trivial⟩ rfl rfl rfl rfl) ?_)
  clear hr
  intro again29 s28 hr
  unfold r14_validate_L2 at hr
  refine Ok.seq (Ok.seq (Ok.region (OkOps.x (aI s28) rfl trivial rfl (OkOps.x (aI s21) rfl trivial rfl (OkOps.x (aB (decide (s28 < s21))) rfl trivial rfl (OkOps.nil ?_))))))
  refine Ok.cond (b := decide (s28 < s21)) rfl (fun h30 => ?_) (fun h30 => ?_)
  have hr := selT h30 hr
  refine Ok.skip (Ok.seq (Ok.block (Ok.seq (Ok.regionD (by kernel_rfl) (OkD.x (.c (.loc 0 4)) rfl trivial rfl (OkD.x (.c (.d (.sl (List.map View.cs v.Kids)))) rfl trivial rfl (OkD.x (aI s21) rfl trivial rfl ?_)))))))
  obtain ⟨x31, hx31, hr⟩ := bind_some hr
  refine OkD.q (triIdx (enc := View.cs) (L := v.Kids) (row := [dI x31.Kind, dS x31.Key, .sl (List.map Attr.cs x31.Attrs), .sl (List.map Action.cs x31.Actions), .sl (List.map View.cs x31.Kids)]) hx31 (View.cs_eq _) rfl rfl rfl (fun x => by rw [View.cs_eq]; rfl) trivial rfl) ?_
  refine OkD.x (.c (.pt [dS x31.Key, .sl (List.map Attr.cs x31.Attrs), .sl (List.map Action.cs x31.Actions), .sl (List.map View.cs x31.Kids)])) rfl trivial rfl (OkD.x (aS x31.Key) rfl trivial rfl (OkD.x (aB (!(x31.Key.toList == (ByteArray.mk #[]).toList))) rfl trivial rfl (OkD.x (aB (!(x31.Key.toList == (ByteArray.mk #[]).toList))) rfl trivial rfl (OkD.q (triQG (x := .c (.loc 0 4)) rfl rfl trivial rfl) (OkD.q (triQG (x := .c (.d (.sl (List.map View.cs v.Kids)))) rfl rfl ⟨fun h => h, trivial⟩ rfl) (OkD.q (triQG (x := aI s21) rfl rfl trivial rfl) ?_))))))
  obtain ⟨x32, hx32, hr⟩ := bind_some hr
  refine OkD.q (triIdxG (enc := View.cs) (L := v.Kids) (row := [dI x32.Kind, dS x32.Key, .sl (List.map Attr.cs x32.Attrs), .sl (List.map Action.cs x32.Actions), .sl (List.map View.cs x32.Kids)]) (gO_t hx32) (View.cs_eq _) rfl rfl rfl rfl (fun x => by rw [View.cs_eq]; rfl) ⟨fun h => h, ⟨fun h => h, trivial⟩⟩ rfl) ?_
  refine OkD.q (triQG (x := .c (.pt [dS x32.Key, .sl (List.map Attr.cs x32.Attrs), .sl (List.map Action.cs x32.Actions), .sl (List.map View.cs x32.Kids)])) rfl rfl ⟨fun h => h, trivial⟩ rfl) (OkD.q (triQG (x := aS x32.Key) rfl rfl ⟨fun h => h, trivial⟩ rfl) (OkD.q (triQG (x := .c (.loc 0 4)) rfl rfl trivial rfl) (OkD.q (triQG (x := .c (.d (.sl (List.map View.cs v.Kids)))) rfl rfl ⟨fun h => h, trivial⟩ rfl) (OkD.q (triQG (x := aI s28) rfl rfl trivial rfl) ?_))))
  obtain ⟨x33, hx33, hr⟩ := bind_some hr
  refine OkD.q (triIdxG (enc := View.cs) (L := v.Kids) (row := [dI x33.Kind, dS x33.Key, .sl (List.map Attr.cs x33.Attrs), .sl (List.map Action.cs x33.Actions), .sl (List.map View.cs x33.Kids)]) (gO_t hx33) (View.cs_eq _) rfl rfl rfl rfl (fun x => by rw [View.cs_eq]; rfl) ⟨fun h => h, ⟨fun h => h, trivial⟩⟩ rfl) ?_
  refine OkD.q (triQG (x := .c (.pt [dS x33.Key, .sl (List.map Attr.cs x33.Attrs), .sl (List.map Action.cs x33.Actions), .sl (List.map View.cs x33.Kids)])) rfl rfl ⟨fun h => h, trivial⟩ rfl) (OkD.q (triQG (x := aS x33.Key) rfl rfl ⟨fun h => h, trivial⟩ rfl) (OkD.q (triQG (x := aB (x32.Key.toList == x33.Key.toList)) rfl rfl ⟨fun h => h, ⟨fun h => h, trivial⟩⟩ rfl) (OkD.q (triAnd rfl rfl (fun h => h) rfl) (OkD.nil (by kernel_rfl) ?_))))
  refine Ok.cond (b := (!(x31.Key.toList == (ByteArray.mk #[]).toList)) && (x32.Key.toList == x33.Key.toList)) rfl (fun h34 => ?_) (fun h34 => ?_)
  have hr := selT h34 hr
  refine Ok.seq (Ok.region (OkOps.x (aI (IntKind.i64.wrap (met + 1))) rfl trivial rfl (OkOps.x (aI (IntKind.i64.wrap (met + 1))) rfl trivial rfl (OkOps.x (aI 6) rfl trivial rfl (OkOps.nil (Ok.ret ?_))))))
  obtain rfl := Option.some.inj hr
  exact ⟨_, rfl, .inl rfl, trivial⟩
  have hr := selF h34 hr
  refine Ok.skip (Ok.region (OkOps.x (aI s28) rfl trivial rfl (OkOps.x (aI (IntKind.i64.wrap (s28 + 1))) rfl trivial rfl (OkOps.x (aI (IntKind.i64.wrap (s28 + 1))) rfl trivial rfl (OkOps.nil ?_)))))
  exact ⟨IntKind.i64.wrap (s28 + 1), hr, (Conv.mk (tau []) ⟨⟨_, rfl, .inl rfl⟩, ⟨_, rfl, .inl rfl⟩, ⟨_, rfl, .inl rfl⟩, ⟨_, rfl, .inl rfl⟩, ⟨_, rfl, .inl rfl⟩, trivial⟩ ⟨rfl, trivial⟩ rfl rfl rfl rfl)⟩
  have hr := selF h30 hr
  refine Ok.exit ?_
  exact ⟨(), hr, (Conv.mk (tau []) ⟨⟨_, rfl, .inl rfl⟩, ⟨_, rfl, .inl rfl⟩, ⟨_, rfl, .inl rfl⟩, ⟨_, rfl, .inl rfl⟩, trivial⟩ ⟨rfl, trivial⟩ rfl rfl rfl rfl)⟩
  have hr := selF h23 hr
  refine Ok.exit ?_
  exact ⟨(), hr, (Conv.mk (tau []) ⟨⟨_, rfl, .inl rfl⟩, ⟨_, rfl, .inl rfl⟩, ⟨_, rfl, .inl rfl⟩, trivial⟩ ⟨rfl, trivial⟩ rfl rfl rfl rfl)⟩
  clear hk10
  refine Ok.seq (Ok.region (OkOps.x (aI 0) rfl trivial rfl (OkOps.nil (Ok.block (Ok.loopK (fun (s35 : Int) => ⟨[(1, .s (aI depth)), (2, .s (aI (IntKind.i64.wrap (met + 1)))), (3, .s (.c (.loc 0 0))), (10, .s (aI s35))], [(0, .blk [cI v.Kind, cS v.Key, .d (.sl (List.map Attr.cs v.Attrs)), .d (.sl (List.map Action.cs v.Actions)), .d (.sl (List.map View.cs v.Kids))] 31)], 0⟩) hr (Conv.mk (tau []) ⟨⟨_, rfl, .inl rfl⟩, ⟨_, rfl, .inl rfl⟩, ⟨_, rfl, .inl rfl⟩, ⟨_, rfl, .inl rfl⟩, trivial⟩ ⟨rfl, trivial⟩ rfl rfl rfl rfl) ?_)))))
  clear hr
  intro again36 s35 hr
  unfold r14_validate_L5 at hr
  refine Ok.seq (Ok.seq (Ok.region (OkOps.x (aI s35) rfl trivial rfl (OkOps.x (.c (.loc 0 3)) rfl trivial rfl (OkOps.x (.c (.d (.sl (List.map Action.cs v.Actions)))) rfl trivial rfl (OkOps.q (triLen (enc := Action.cs) v.Actions rfl rfl trivial rfl) (OkOps.x (aB (decide (s35 < (v.Actions.length : Int)))) rfl trivial rfl (OkOps.nil ?_))))))))
  refine Ok.cond (b := decide (s35 < (v.Actions.length : Int))) rfl (fun h37 => ?_) (fun h37 => ?_)
  have hr := selT h37 hr
  refine Ok.skip ?_
  obtain ⟨k39, hk39, hr⟩ := jn_some hr
  refine Ok.join (fun (s38 : Unit) => ⟨[(1, .s (aI depth)), (2, .s (aI (IntKind.i64.wrap (met + 1)))), (3, .s (.c (.loc 0 0))), (10, .s (aI s35))], [(0, .blk [cI v.Kind, cS v.Key, .d (.sl (List.map Attr.cs v.Attrs)), .d (.sl (List.map Action.cs v.Actions)), .d (.sl (List.map View.cs v.Kids))] 31)], 0⟩) k39 r (fun s38 hr => ?_) ?_
  rw [hk39] at hr
  refine Ok.region (OkOps.x (aI s35) rfl trivial rfl (OkOps.x (aI (IntKind.i64.wrap (s35 + 1))) rfl trivial rfl (OkOps.x (aI (IntKind.i64.wrap (s35 + 1))) rfl trivial rfl (OkOps.nil ?_))))
  exact ⟨IntKind.i64.wrap (s35 + 1), hr, (Conv.mk (tau []) ⟨⟨_, rfl, .inl rfl⟩, ⟨_, rfl, .inl rfl⟩, ⟨_, rfl, .inl rfl⟩, ⟨_, rfl, .inl rfl⟩, trivial⟩ ⟨rfl, trivial⟩ rfl rfl rfl rfl)⟩
  clear hk39
  refine Ok.block (Ok.seq (Ok.region (OkOps.x (.c (.loc 0 3)) rfl trivial rfl (OkOps.x (.c (.d (.sl (List.map Action.cs v.Actions)))) rfl trivial rfl (OkOps.x (aI s35) rfl trivial rfl ?_)))))
  obtain ⟨x40, hx40, hr⟩ := bind_some hr
  refine OkOps.q (triIdx (enc := Action.cs) (L := v.Actions) (row := [dS x40.Event, dS x40.Instance, dS x40.Handler, .sl (List.map AValue.cs x40.Args)]) hx40 rfl rfl rfl rfl (fun _ => rfl) trivial rfl) (OkOps.x (.agg [cS x40.Event, cS x40.Instance, cS x40.Handler, .d (.sl (List.map AValue.cs x40.Args))]) rfl trivial rfl (OkOps.m 0 (triAlloc (j := 1) (cs := [cS ByteArray.empty, cS ByteArray.empty, cS ByteArray.empty, .d (.v (.slice none 0 0))]) rfl rfl rfl rfl) (OkOps.w (triStore (cs' := [cS x40.Event, cS x40.Instance, cS x40.Handler, .d (.sl (List.map AValue.cs x40.Args))]) rfl rfl rfl rfl rfl rfl rfl rfl rfl) (OkOps.nil (Ok.seq (Ok.seq (Ok.region (OkOps.x (.c (.loc 1 0)) rfl trivial rfl (OkOps.x (aS x40.Event) rfl trivial rfl ?_)))))))))
  obtain ⟨x41, hx41, hr⟩ := bind_some hr
  refine OkOps.q (triCall (tau []) (.s (aB x41)) [] (r11_Name_c _ hx41) rfl ⟨.inl rfl, trivial⟩ trivial entry79 trivial rfl rfl rfl rfl trivial rfl rfl rfl) (OkOps.x (aB (!x41)) rfl trivial rfl (OkOps.x (aB (!x41)) rfl trivial rfl (OkOps.q (triQG (x := .c (.loc 1 2)) rfl rfl trivial rfl) (OkOps.q (triQG (x := aS x40.Handler) rfl rfl ⟨fun h => h, trivial⟩ rfl) ?_))))
  obtain ⟨x42, hx42, hr⟩ := bind_some hr
  refine OkOps.q (triCallG (x := aB x42) (fun hg => r11_Name_c _ (gO_t hx42 hg)) rfl rfl ⟨.inl rfl, trivial⟩ ⟨fun h => h, trivial⟩ entry79 rfl rfl rfl) (OkOps.q (triQG (x := aB (!x42)) rfl rfl ⟨fun h => h, trivial⟩ rfl) ?_)
  refine OkOps.q (triOr rfl rfl (fun h => by rw [h]; rfl) rfl) ?_
  refine OkOps.nil ?_
  refine Ok.cond (b := (!x41) || (!x42)) rfl (fun h43 => ?_) (fun h43 => ?_)
  have hr := selT h43 hr
  refine Ok.seq (Ok.region (OkOps.x (aI (IntKind.i64.wrap (met + 1))) rfl trivial rfl (OkOps.x (aI (IntKind.i64.wrap (met + 1))) rfl trivial rfl (OkOps.x (aI 4) rfl trivial rfl (OkOps.nil (Ok.ret ?_))))))
  obtain rfl := Option.some.inj hr
  exact ⟨_, rfl, .inl rfl, trivial⟩
  have hr := selF h43 hr
  refine Ok.skip (Ok.seq (Ok.seq (Ok.regionD (by kernel_rfl) (OkD.x (aI s35) rfl trivial rfl (OkD.x (aB (decide (s35 > 0))) rfl trivial rfl (OkD.x (aB (decide (s35 > 0))) rfl trivial rfl (OkD.q (triQG (x := .c (.loc 1 0)) rfl rfl trivial rfl) (OkD.q (triQG (x := aS x40.Event) rfl rfl ⟨fun h => h, trivial⟩ rfl) (OkD.q (triQG (x := .c (.loc 0 3)) rfl rfl trivial rfl) (OkD.q (triQG (x := .c (.d (.sl (List.map Action.cs v.Actions)))) rfl rfl ⟨fun h => h, trivial⟩ rfl) (OkD.q (triQG (x := aI s35) rfl rfl trivial rfl) (OkD.q (triQG (x := aI (IntKind.i64.wrap (s35 - 1))) rfl rfl ⟨fun h => h, trivial⟩ rfl) ?_))))))))))))
  obtain ⟨x44, hx44, hr⟩ := bind_some hr
  refine OkD.q (triIdxG (enc := Action.cs) (L := v.Actions) (row := [dS x44.Event, dS x44.Instance, dS x44.Handler, .sl (List.map AValue.cs x44.Args)]) (gO_t hx44) rfl rfl rfl rfl rfl (fun _ => rfl) ⟨fun h => h, ⟨fun h => h, trivial⟩⟩ rfl) (OkD.q (triQG (x := .c (.pt [dS x44.Event, dS x44.Instance, dS x44.Handler, .sl (List.map AValue.cs x44.Args)])) rfl rfl ⟨fun h => h, trivial⟩ rfl) (OkD.q (triQG (x := aS x44.Event) rfl rfl ⟨fun h => h, trivial⟩ rfl) (OkD.q (triQG (x := aB (Op.bytesLess x40.Event.toList x44.Event.toList || x40.Event.toList == x44.Event.toList)) rfl rfl ⟨fun h => h, ⟨fun h => h, trivial⟩⟩ rfl) (OkD.q (triAnd rfl rfl (fun h => h) rfl) (OkD.nil (by kernel_rfl) ?_)))))
  refine Ok.cond (b := (decide (s35 > 0)) && (Op.bytesLess x40.Event.toList x44.Event.toList || x40.Event.toList == x44.Event.toList)) rfl (fun h45 => ?_) (fun h45 => ?_)
  have hr := selT h45 hr
  refine Ok.seq (Ok.region (OkOps.x (aI (IntKind.i64.wrap (met + 1))) rfl trivial rfl (OkOps.x (aI (IntKind.i64.wrap (met + 1))) rfl trivial rfl (OkOps.x (aI 10) rfl trivial rfl (OkOps.nil (Ok.ret ?_))))))
  obtain rfl := Option.some.inj hr
  exact ⟨_, rfl, .inl rfl, trivial⟩
  have hr := selF h45 hr
  refine Ok.skip (Ok.seq (Ok.seq (Ok.region (OkOps.x (.c (.loc 1 1)) rfl trivial rfl (OkOps.x (aS x40.Instance) rfl trivial rfl (OkOps.x (aI (x40.Instance.size : Int)) rfl trivial rfl (OkOps.x (aB (decide ((x40.Instance.size : Int) > 400))) rfl trivial rfl (OkOps.x (aB (decide ((x40.Instance.size : Int) > 400))) rfl trivial rfl (OkOps.q (triQG (x := .c (.loc 1 3)) rfl rfl trivial rfl) (OkOps.q (triQG (x := .c (.d (.sl (List.map AValue.cs x40.Args)))) rfl rfl ⟨fun h => h, trivial⟩ rfl) (OkOps.q (triLenG (enc := AValue.cs) x40.Args rfl rfl rfl ⟨fun h => h, trivial⟩ rfl) (OkOps.q (triQG (x := aB (decide ((x40.Args.length : Int) > 100))) rfl rfl ⟨fun h => h, trivial⟩ rfl) ?_))))))))))))
  refine OkOps.q (triOr rfl rfl (fun h => by rw [h]; rfl) rfl) ?_
  refine OkOps.nil ?_
  refine Ok.cond (b := (decide ((x40.Instance.size : Int) > 400)) || (decide ((x40.Args.length : Int) > 100))) rfl (fun h46 => ?_) (fun h46 => ?_)
  have hr := selT h46 hr
  refine Ok.seq (Ok.region (OkOps.x (aI (IntKind.i64.wrap (met + 1))) rfl trivial rfl (OkOps.x (aI (IntKind.i64.wrap (met + 1))) rfl trivial rfl (OkOps.x (aI 2) rfl trivial rfl (OkOps.nil (Ok.ret ?_))))))
  obtain rfl := Option.some.inj hr
  exact ⟨_, rfl, .inl rfl, trivial⟩
  have hr := selF h46 hr
  refine Ok.skip (Ok.seq (Ok.region (OkOps.x (aI 0) rfl trivial rfl (OkOps.nil ?_))))
  obtain ⟨k48, hk48, hr⟩ := jn_some hr
  refine Ok.joinEnd (fun (s47 : Unit) => ⟨[(1, .s (aI depth)), (2, .s (aI (IntKind.i64.wrap (met + 1)))), (3, .s (.c (.loc 0 0))), (10, .s (aI s35))], [(0, .blk [cI v.Kind, cS v.Key, .d (.sl (List.map Attr.cs v.Attrs)), .d (.sl (List.map Action.cs v.Actions)), .d (.sl (List.map View.cs v.Kids))] 31)], 0⟩) k48 r (fun s47 hr => ?_) ?_
  rw [hk48] at hr
  exact ⟨(), hr, (Conv.mk (tau []) ⟨⟨_, rfl, .inl rfl⟩, ⟨_, rfl, .inl rfl⟩, ⟨_, rfl, .inl rfl⟩, ⟨_, rfl, .inl rfl⟩, trivial⟩ ⟨rfl, trivial⟩ rfl rfl rfl rfl)⟩
  clear hk48
  refine Ok.block (Ok.loopK (fun (s49 : Int) => ⟨[(1, .s (aI depth)), (2, .s (aI (IntKind.i64.wrap (met + 1)))), (3, .s (.c (.loc 0 0))), (10, .s (aI s35)), (11, .s (.c (.loc 1 0))), (12, .s (aI s49))], [(0, .blk [cI v.Kind, cS v.Key, .d (.sl (List.map Attr.cs v.Attrs)), .d (.sl (List.map Action.cs v.Actions)), .d (.sl (List.map View.cs v.Kids))] 31), (1, .blk [cS x40.Event, cS x40.Instance, cS x40.Handler, .d (.sl (List.map AValue.cs x40.Args))] 45)], 0⟩) hr (Conv.mk (tau []) ⟨⟨_, rfl, .inl rfl⟩, ⟨_, rfl, .inl rfl⟩, ⟨_, rfl, .inl rfl⟩, ⟨_, rfl, .inl rfl⟩, ⟨_, rfl, .inl rfl⟩, ⟨_, rfl, .inl rfl⟩, trivial⟩ ⟨rfl, rfl, trivial⟩ rfl rfl rfl rfl) ?_)
  clear hr
  intro again50 s49 hr
  unfold r14_validate_L4 at hr
  refine Ok.seq (Ok.seq (Ok.region (OkOps.x (aI s49) rfl trivial rfl (OkOps.x (.c (.loc 1 3)) rfl trivial rfl (OkOps.x (.c (.d (.sl (List.map AValue.cs x40.Args)))) rfl trivial rfl (OkOps.q (triLen (enc := AValue.cs) x40.Args rfl rfl trivial rfl) (OkOps.x (aB (decide (s49 < (x40.Args.length : Int)))) rfl trivial rfl (OkOps.nil ?_))))))))
  refine Ok.cond (b := decide (s49 < (x40.Args.length : Int))) rfl (fun h51 => ?_) (fun h51 => ?_)
  have hr := selT h51 hr
  refine Ok.skip (Ok.seq (Ok.block (Ok.seq (Ok.region (OkOps.x (.c (.loc 1 3)) rfl trivial rfl (OkOps.x (.c (.d (.sl (List.map AValue.cs x40.Args)))) rfl trivial rfl (OkOps.x (aI s49) rfl trivial rfl ?_)))))))
  obtain ⟨x52, hx52, hr⟩ := bind_some hr
  refine OkOps.q (triIdx (enc := AValue.cs) (L := x40.Args) (row := [dI x52.Kind, dI x52.N, dS x52.S, .sl (List.map AValue.cs x52.L)]) hx52 (AValue.cs_eq _) rfl rfl rfl (fun x => by rw [AValue.cs_eq]; rfl) trivial rfl) ?_
  refine OkOps.x (.agg [cI x52.Kind, cI x52.N, cS x52.S, .d (.sl (List.map AValue.cs x52.L))]) rfl trivial rfl ?_
  obtain ⟨x53, hx53, hr⟩ := bind_some hr
  refine OkOps.q (triCall (tau []) (.s (aI x53)) [] (r11_Check_c _ hx53) rfl ⟨.inl rfl, trivial⟩ trivial entry80 trivial rfl rfl rfl rfl trivial rfl rfl rfl) (OkOps.x (aI x53) rfl trivial rfl (OkOps.nil (Ok.seq (Ok.region (OkOps.x (aI x53) rfl trivial rfl (OkOps.x (aB (x53 != 0)) rfl trivial rfl (OkOps.nil ?_)))))))
  refine Ok.cond (b := x53 != 0) rfl (fun h54 => ?_) (fun h54 => ?_)
  have hr := selT h54 hr
  refine Ok.seq (Ok.region (OkOps.x (aI (IntKind.i64.wrap (met + 1))) rfl trivial rfl (OkOps.x (aI x53) rfl trivial rfl (OkOps.x (aI (IntKind.i64.wrap (met + 1))) rfl trivial rfl (OkOps.x (aI x53) rfl trivial rfl (OkOps.nil (Ok.ret ?_)))))))
  obtain rfl := Option.some.inj hr
  exact ⟨_, rfl, .inl rfl, trivial⟩
  have hr := selF h54 hr
  refine Ok.skip (Ok.region (OkOps.x (aI s49) rfl trivial rfl (OkOps.x (aI (IntKind.i64.wrap (s49 + 1))) rfl trivial rfl (OkOps.x (aI (IntKind.i64.wrap (s49 + 1))) rfl trivial rfl (OkOps.nil ?_)))))
  exact ⟨IntKind.i64.wrap (s49 + 1), hr, (Conv.mk (tau []) ⟨⟨_, rfl, .inl rfl⟩, ⟨_, rfl, .inl rfl⟩, ⟨_, rfl, .inl rfl⟩, ⟨_, rfl, .inl rfl⟩, ⟨_, rfl, .inl rfl⟩, ⟨_, rfl, .inl rfl⟩, trivial⟩ ⟨rfl, rfl, trivial⟩ rfl rfl rfl rfl)⟩
  have hr := selF h51 hr
  refine Ok.exit ?_
  exact ⟨(), hr, (Conv.mk (tau []) ⟨⟨_, rfl, .inl rfl⟩, ⟨_, rfl, .inl rfl⟩, ⟨_, rfl, .inl rfl⟩, ⟨_, rfl, .inl rfl⟩, trivial⟩ ⟨rfl, trivial⟩ rfl rfl rfl rfl)⟩
  have hr := selF h37 hr
  refine Ok.exit ?_
  exact ⟨(), hr, (Conv.mk (tau []) ⟨⟨_, rfl, .inl rfl⟩, ⟨_, rfl, .inl rfl⟩, ⟨_, rfl, .inl rfl⟩, trivial⟩ ⟨rfl, trivial⟩ rfl rfl rfl rfl)⟩
  clear hk8
  refine Ok.seq (Ok.region (OkOps.x (aI 0) rfl trivial rfl (OkOps.nil (Ok.block (Ok.loopK (fun (s55 : Int) => ⟨[(1, .s (aI depth)), (2, .s (aI (IntKind.i64.wrap (met + 1)))), (3, .s (.c (.loc 0 0))), (8, .s (aI s55))], [(0, .blk [cI v.Kind, cS v.Key, .d (.sl (List.map Attr.cs v.Attrs)), .d (.sl (List.map Action.cs v.Actions)), .d (.sl (List.map View.cs v.Kids))] 31)], 0⟩) hr (Conv.mk (tau []) ⟨⟨_, rfl, .inl rfl⟩, ⟨_, rfl, .inl rfl⟩, ⟨_, rfl, .inl rfl⟩, ⟨_, rfl, .inl rfl⟩, trivial⟩ ⟨rfl, trivial⟩ rfl rfl rfl rfl) ?_)))))
  clear hr
  intro again56 s55 hr
  unfold r14_validate_L6 at hr
  refine Ok.seq (Ok.seq (Ok.region (OkOps.x (aI s55) rfl trivial rfl (OkOps.x (.c (.loc 0 2)) rfl trivial rfl (OkOps.x (.c (.d (.sl (List.map Attr.cs v.Attrs)))) rfl trivial rfl (OkOps.q (triLen (enc := Attr.cs) v.Attrs rfl rfl trivial rfl) (OkOps.x (aB (decide (s55 < (v.Attrs.length : Int)))) rfl trivial rfl (OkOps.nil ?_))))))))
  refine Ok.cond (b := decide (s55 < (v.Attrs.length : Int))) rfl (fun h57 => ?_) (fun h57 => ?_)
  have hr := selT h57 hr
  refine Ok.skip (Ok.seq (Ok.block (Ok.seq (Ok.seq (Ok.region (OkOps.x (.c (.loc 0 2)) rfl trivial rfl (OkOps.x (.c (.d (.sl (List.map Attr.cs v.Attrs)))) rfl trivial rfl (OkOps.x (aI s55) rfl trivial rfl ?_))))))))
  obtain ⟨x58, hx58, hr⟩ := bind_some hr
  refine OkOps.q (triIdx (enc := Attr.cs) (L := v.Attrs) (row := [dS x58.Name, dI x58.Value.Kind, dI x58.Value.N, dS x58.Value.S, .sl (List.map AValue.cs x58.Value.L)]) hx58 rfl rfl rfl rfl (fun _ => rfl) trivial rfl) (OkOps.x (.c (.pt [dS x58.Name, dI x58.Value.Kind, dI x58.Value.N, dS x58.Value.S, .sl (List.map AValue.cs x58.Value.L)])) rfl trivial rfl (OkOps.x (aS x58.Name) rfl trivial rfl ?_))
  obtain ⟨x59, hx59, hr⟩ := bind_some hr
  refine OkOps.q (triCall (tau []) (.s (aB x59)) [] (r11_Name_c _ hx59) rfl ⟨.inl rfl, trivial⟩ trivial entry79 trivial rfl rfl rfl rfl trivial rfl rfl rfl) (OkOps.x (aB (!x59)) rfl trivial rfl (OkOps.nil ?_))
  refine Ok.cond (b := !x59) rfl (fun h60 => ?_) (fun h60 => ?_)
  have hr := selT h60 hr
  refine Ok.seq (Ok.region (OkOps.x (aI (IntKind.i64.wrap (met + 1))) rfl trivial rfl (OkOps.x (aI (IntKind.i64.wrap (met + 1))) rfl trivial rfl (OkOps.x (aI 4) rfl trivial rfl (OkOps.nil (Ok.ret ?_))))))
  obtain rfl := Option.some.inj hr
  exact ⟨_, rfl, .inl rfl, trivial⟩
  have hr := selF h60 hr
  refine Ok.skip (Ok.seq (Ok.seq (Ok.regionD (by kernel_rfl) (OkD.x (aI s55) rfl trivial rfl (OkD.x (aB (decide (s55 > 0))) rfl trivial rfl (OkD.x (aB (decide (s55 > 0))) rfl trivial rfl (OkD.q (triQG (x := .c (.loc 0 2)) rfl rfl trivial rfl) (OkD.q (triQG (x := .c (.d (.sl (List.map Attr.cs v.Attrs)))) rfl rfl ⟨fun h => h, trivial⟩ rfl) (OkD.q (triQG (x := aI s55) rfl rfl trivial rfl) ?_)))))))))
  obtain ⟨x61, hx61, hr⟩ := bind_some hr
  refine OkD.q (triIdxG (enc := Attr.cs) (L := v.Attrs) (row := [dS x61.Name, dI x61.Value.Kind, dI x61.Value.N, dS x61.Value.S, .sl (List.map AValue.cs x61.Value.L)]) (gO_t hx61) rfl rfl rfl rfl rfl (fun _ => rfl) ⟨fun h => h, ⟨fun h => h, trivial⟩⟩ rfl) (OkD.q (triQG (x := .c (.pt [dS x61.Name, dI x61.Value.Kind, dI x61.Value.N, dS x61.Value.S, .sl (List.map AValue.cs x61.Value.L)])) rfl rfl ⟨fun h => h, trivial⟩ rfl) (OkD.q (triQG (x := aS x61.Name) rfl rfl ⟨fun h => h, trivial⟩ rfl) (OkD.q (triQG (x := .c (.loc 0 2)) rfl rfl trivial rfl) (OkD.q (triQG (x := .c (.d (.sl (List.map Attr.cs v.Attrs)))) rfl rfl ⟨fun h => h, trivial⟩ rfl) (OkD.q (triQG (x := aI s55) rfl rfl trivial rfl) (OkD.q (triQG (x := aI (IntKind.i64.wrap (s55 - 1))) rfl rfl ⟨fun h => h, trivial⟩ rfl) ?_))))))
  obtain ⟨x62, hx62, hr⟩ := bind_some hr
  refine OkD.q (triIdxG (enc := Attr.cs) (L := v.Attrs) (row := [dS x62.Name, dI x62.Value.Kind, dI x62.Value.N, dS x62.Value.S, .sl (List.map AValue.cs x62.Value.L)]) (gO_t hx62) rfl rfl rfl rfl rfl (fun _ => rfl) ⟨fun h => h, ⟨fun h => h, trivial⟩⟩ rfl) (OkD.q (triQG (x := .c (.pt [dS x62.Name, dI x62.Value.Kind, dI x62.Value.N, dS x62.Value.S, .sl (List.map AValue.cs x62.Value.L)])) rfl rfl ⟨fun h => h, trivial⟩ rfl) (OkD.q (triQG (x := aS x62.Name) rfl rfl ⟨fun h => h, trivial⟩ rfl) (OkD.q (triQG (x := aB (Op.bytesLess x61.Name.toList x62.Name.toList || x61.Name.toList == x62.Name.toList)) rfl rfl ⟨fun h => h, ⟨fun h => h, trivial⟩⟩ rfl) (OkD.q (triAnd rfl rfl (fun h => h) rfl) (OkD.nil (by kernel_rfl) ?_)))))
  refine Ok.cond (b := (decide (s55 > 0)) && (Op.bytesLess x61.Name.toList x62.Name.toList || x61.Name.toList == x62.Name.toList)) rfl (fun h63 => ?_) (fun h63 => ?_)
  have hr := selT h63 hr
  refine Ok.seq (Ok.region (OkOps.x (aI (IntKind.i64.wrap (met + 1))) rfl trivial rfl (OkOps.x (aI (IntKind.i64.wrap (met + 1))) rfl trivial rfl (OkOps.x (aI 10) rfl trivial rfl (OkOps.nil (Ok.ret ?_))))))
  obtain rfl := Option.some.inj hr
  exact ⟨_, rfl, .inl rfl, trivial⟩
  have hr := selF h63 hr
  refine Ok.skip (Ok.seq (Ok.region (OkOps.x (.c (.loc 0 2)) rfl trivial rfl (OkOps.x (.c (.d (.sl (List.map Attr.cs v.Attrs)))) rfl trivial rfl (OkOps.x (aI s55) rfl trivial rfl ?_)))))
  obtain ⟨x64, hx64, hr⟩ := bind_some hr
  refine OkOps.q (triIdx (enc := Attr.cs) (L := v.Attrs) (row := [dS x64.Name, dI x64.Value.Kind, dI x64.Value.N, dS x64.Value.S, .sl (List.map AValue.cs x64.Value.L)]) hx64 rfl rfl rfl rfl (fun _ => rfl) trivial rfl) (OkOps.x (.c (.pt [dI x64.Value.Kind, dI x64.Value.N, dS x64.Value.S, .sl (List.map AValue.cs x64.Value.L)])) rfl trivial rfl (OkOps.x (.agg [cI x64.Value.Kind, cI x64.Value.N, cS x64.Value.S, .d (.sl (List.map AValue.cs x64.Value.L))]) rfl trivial rfl ?_))
  obtain ⟨x65, hx65, hr⟩ := bind_some hr
  refine OkOps.q (triCall (tau []) (.s (aI x65)) [] (r11_Check_c _ hx65) rfl ⟨.inl rfl, trivial⟩ trivial entry80 trivial rfl rfl rfl rfl trivial rfl rfl rfl) (OkOps.x (aI x65) rfl trivial rfl (OkOps.nil (Ok.seq (Ok.region (OkOps.x (aI x65) rfl trivial rfl (OkOps.x (aB (x65 != 0)) rfl trivial rfl (OkOps.nil ?_)))))))
  refine Ok.cond (b := x65 != 0) rfl (fun h66 => ?_) (fun h66 => ?_)
  have hr := selT h66 hr
  refine Ok.seq (Ok.region (OkOps.x (aI (IntKind.i64.wrap (met + 1))) rfl trivial rfl (OkOps.x (aI x65) rfl trivial rfl (OkOps.x (aI (IntKind.i64.wrap (met + 1))) rfl trivial rfl (OkOps.x (aI x65) rfl trivial rfl (OkOps.nil (Ok.ret ?_)))))))
  obtain rfl := Option.some.inj hr
  exact ⟨_, rfl, .inl rfl, trivial⟩
  have hr := selF h66 hr
  refine Ok.skip (Ok.region (OkOps.x (aI s55) rfl trivial rfl (OkOps.x (aI (IntKind.i64.wrap (s55 + 1))) rfl trivial rfl (OkOps.x (aI (IntKind.i64.wrap (s55 + 1))) rfl trivial rfl (OkOps.nil ?_)))))
  exact ⟨IntKind.i64.wrap (s55 + 1), hr, (Conv.mk (tau []) ⟨⟨_, rfl, .inl rfl⟩, ⟨_, rfl, .inl rfl⟩, ⟨_, rfl, .inl rfl⟩, ⟨_, rfl, .inl rfl⟩, trivial⟩ ⟨rfl, trivial⟩ rfl rfl rfl rfl)⟩
  have hr := selF h57 hr
  refine Ok.exit ?_
  exact ⟨(), hr, (Conv.mk (tau []) ⟨⟨_, rfl, .inl rfl⟩, ⟨_, rfl, .inl rfl⟩, ⟨_, rfl, .inl rfl⟩, trivial⟩ ⟨rfl, trivial⟩ rfl rfl rfl rfl)⟩
theorem r14_validate_all : ∀ n : Nat, (∀ (v : View) (depth : Int) (met : Int) {r : Int × Int}, r14_validate n v depth met = some r → Con Tryd.prog 54 [.agg [cI v.Kind, cS v.Key, .d (.sl (List.map Attr.cs v.Attrs)), .d (.sl (List.map Action.cs v.Actions)), .d (.sl (List.map View.cs v.Kids))], aI depth, aI met] [] (.tup [aI r.1, aI r.2]) []) ∧ True := by
  intro n
  induction n with
  | zero => exact ⟨(by intros; rename_i hr; cases hr), trivial⟩
  | succ n ih => exact ⟨(by intros; rename_i hr; exact r14_validate_B_c _ ih.1 _ _ _ hr), trivial⟩
theorem r14_validate_c (n : Nat) (v : View) (depth : Int) (met : Int) {r : Int × Int} (hr : r14_validate n v depth met = some r) : Con Tryd.prog 54 [.agg [cI v.Kind, cS v.Key, .d (.sl (List.map Attr.cs v.Attrs)), .d (.sl (List.map Action.cs v.Actions)), .d (.sl (List.map View.cs v.Kids))], aI depth, aI met] [] (.tup [aI r.1, aI r.2]) [] := (r14_validate_all n).1 v depth met hr
theorem r14_Validate_c (v : View) {r : Int} (hr : r14_Validate v = some r) : Con Tryd.prog 23 [.agg [cI v.Kind, cS v.Key, .d (.sl (List.map Attr.cs v.Attrs)), .d (.sl (List.map Action.cs v.Actions)), .d (.sl (List.map View.cs v.Kids))]] [] (.s (aI r)) [] := by
  unfold r14_Validate at hr
  refine Con.of_ok 11 0 [.tmp 2] [(0, .s (.agg [cI v.Kind, cS v.Key, .d (.sl (List.map Attr.cs v.Attrs)), .d (.sl (List.map Action.cs v.Actions)), .d (.sl (List.map View.cs v.Kids))]))] Tryd.func23 rfl rfl rfl rfl rfl rfl rfl rfl fun w g M ρ _ => (Ok.seq (Ok.region (OkOps.m 0 (triBox (j := 0) (cs := [cI v.Kind, cS v.Key, .d (.sl (List.map Attr.cs v.Attrs)), .d (.sl (List.map Action.cs v.Actions)), .d (.sl (List.map View.cs v.Kids))]) rfl rfl rfl rfl rfl) (OkOps.x (aI 0) rfl trivial rfl (OkOps.nil (Ok.seq (Ok.region (OkOps.x (.agg [cI v.Kind, cS v.Key, .d (.sl (List.map Attr.cs v.Attrs)), .d (.sl (List.map Action.cs v.Actions)), .d (.sl (List.map View.cs v.Kids))]) rfl trivial rfl ?_))))))))
  obtain ⟨x1, hx1, hr⟩ := bind_some hr
  refine OkOps.q (triCall (tau []) (.tup [aI x1.1, aI x1.2]) [] (r14_validate_c _ _ _ _ hx1) rfl ⟨.inl rfl, .inl rfl, .inl rfl, trivial⟩ trivial entry54 trivial rfl rfl rfl rfl trivial rfl rfl rfl) (OkOps.q (triMv (v := .tup [aI x1.1, aI x1.2]) rfl rfl) (OkOps.x (aI x1.1) rfl trivial rfl (OkOps.x (aI x1.2) rfl trivial rfl (OkOps.x (aI x1.1) rfl trivial rfl (OkOps.x (aI x1.2) rfl trivial rfl (OkOps.nil (Ok.seq (Ok.region (OkOps.x (aI x1.2) rfl trivial rfl (OkOps.x (aI x1.2) rfl trivial rfl (OkOps.nil (Ok.ret ?_))))))))))))
  obtain rfl := Option.some.inj hr
  exact ⟨_, rfl, .inl rfl, trivial⟩
theorem entry23 : Entry Tryd.prog 23 := ⟨_, Tryd.func23, by kernel_rfl, by kernel_rfl⟩
theorem r14_SameAttrs_c (a : (List Attr)) (b : (List Attr)) {r : Bool} (hr : r14_SameAttrs a b = some r) : Con Tryd.prog 62 [.c (.d (.sl (List.map Attr.cs a))), .c (.d (.sl (List.map Attr.cs b)))] [] (.s (aB r)) [] := by
  unfold r14_SameAttrs at hr
  refine Con.of_ok 42 0 [.tmp 4] [(0, .s (.c (.d (.sl (List.map Attr.cs a))))), (1, .s (.c (.d (.sl (List.map Attr.cs b)))))] Tryd.func62 rfl rfl rfl rfl rfl rfl rfl rfl fun w g M ρ _ => (Ok.seq (Ok.region (OkOps.x (aB false) rfl trivial rfl (OkOps.nil (Ok.seq (Ok.seq (Ok.region (OkOps.x (.c (.d (.sl (List.map Attr.cs a)))) rfl trivial rfl (OkOps.q (triLen (enc := Attr.cs) a rfl rfl trivial rfl) (OkOps.x (.c (.d (.sl (List.map Attr.cs b)))) rfl trivial rfl (OkOps.q (triLen (enc := Attr.cs) b rfl rfl trivial rfl) (OkOps.x (aB ((a.length : Int) != (b.length : Int))) rfl trivial rfl (OkOps.nil ?_)))))))))))))
  refine Ok.cond (b := (a.length : Int) != (b.length : Int)) rfl (fun h1 => ?_) (fun h1 => ?_)
  have hr := selT h1 hr
  refine Ok.seq (Ok.region (OkOps.x (aB false) rfl trivial rfl (OkOps.nil (Ok.ret ?_))))
  obtain rfl := Option.some.inj hr
  exact ⟨_, rfl, .inl rfl, trivial⟩
  have hr := selF h1 hr
  refine Ok.skip ?_
  obtain ⟨k3, hk3, hr⟩ := jn_some hr
  refine Ok.join (fun (s2 : Unit) => ⟨[], [], 0⟩) k3 r (fun s2 hr => ?_) ?_
  rw [hk3] at hr
  refine Ok.seq (Ok.region (OkOps.x (aB true) rfl trivial rfl (OkOps.nil (Ok.ret ?_))))
  obtain rfl := Option.some.inj hr
  exact ⟨_, rfl, .inl rfl, trivial⟩
  clear hk3
  refine Ok.seq (Ok.region (OkOps.x (aI 0) rfl trivial rfl (OkOps.nil (Ok.block (Ok.loopK (fun (s4 : Int) => ⟨[(0, .s (.c (.d (.sl (List.map Attr.cs a))))), (1, .s (.c (.d (.sl (List.map Attr.cs b))))), (5, .s (aI s4))], [], 0⟩) hr (Conv.mk (tau []) ⟨⟨_, rfl, .inl rfl⟩, ⟨_, rfl, .inl rfl⟩, ⟨_, rfl, .inl rfl⟩, trivial⟩ trivial rfl rfl rfl rfl) ?_)))))
  clear hr
  intro again5 s4 hr
  unfold r14_SameAttrs_L1 at hr
  refine Ok.seq (Ok.seq (Ok.region (OkOps.x (aI s4) rfl trivial rfl (OkOps.x (.c (.d (.sl (List.map Attr.cs a)))) rfl trivial rfl (OkOps.q (triLen (enc := Attr.cs) a rfl rfl trivial rfl) (OkOps.x (aB (decide (s4 < (a.length : Int)))) rfl trivial rfl (OkOps.nil ?_)))))))
  refine Ok.cond (b := decide (s4 < (a.length : Int))) rfl (fun h6 => ?_) (fun h6 => ?_)
  have hr := selT h6 hr
  refine Ok.skip (Ok.seq (Ok.block (Ok.seq (Ok.regionD (by kernel_rfl) (OkD.x (.c (.d (.sl (List.map Attr.cs a)))) rfl trivial rfl (OkD.x (aI s4) rfl trivial rfl ?_))))))
  obtain ⟨x7, hx7, hr⟩ := bind_some hr
  refine OkD.q (triIdx (enc := Attr.cs) (L := a) (row := [dS x7.Name, dI x7.Value.Kind, dI x7.Value.N, dS x7.Value.S, .sl (List.map AValue.cs x7.Value.L)]) hx7 rfl rfl rfl rfl (fun _ => rfl) trivial rfl) (OkD.x (.c (.pt [dS x7.Name, dI x7.Value.Kind, dI x7.Value.N, dS x7.Value.S, .sl (List.map AValue.cs x7.Value.L)])) rfl trivial rfl (OkD.x (aS x7.Name) rfl trivial rfl (OkD.x (.c (.d (.sl (List.map Attr.cs b)))) rfl trivial rfl (OkD.x (aI s4) rfl trivial rfl ?_))))
  obtain ⟨x8, hx8, hr⟩ := bind_some hr
  refine OkD.q (triIdx (enc := Attr.cs) (L := b) (row := [dS x8.Name, dI x8.Value.Kind, dI x8.Value.N, dS x8.Value.S, .sl (List.map AValue.cs x8.Value.L)]) hx8 rfl rfl rfl rfl (fun _ => rfl) trivial rfl) (OkD.x (.c (.pt [dS x8.Name, dI x8.Value.Kind, dI x8.Value.N, dS x8.Value.S, .sl (List.map AValue.cs x8.Value.L)])) rfl trivial rfl (OkD.x (aS x8.Name) rfl trivial rfl (OkD.x (aB (!(x7.Name.toList == x8.Name.toList))) rfl trivial rfl (OkD.x (aB (!(x7.Name.toList == x8.Name.toList))) rfl trivial rfl (OkD.q (triQG (x := .c (.d (.sl (List.map Attr.cs a)))) rfl rfl trivial rfl) (OkD.q (triQG (x := aI s4) rfl rfl trivial rfl) ?_))))))
  obtain ⟨x9, hx9, hr⟩ := bind_some hr
  refine OkD.q (triIdxG (enc := Attr.cs) (L := a) (row := [dS x9.Name, dI x9.Value.Kind, dI x9.Value.N, dS x9.Value.S, .sl (List.map AValue.cs x9.Value.L)]) (gO_t hx9) rfl rfl rfl rfl rfl (fun _ => rfl) ⟨fun h => h, ⟨fun h => h, trivial⟩⟩ rfl) (OkD.q (triQG (x := .c (.pt [dI x9.Value.Kind, dI x9.Value.N, dS x9.Value.S, .sl (List.map AValue.cs x9.Value.L)])) rfl rfl ⟨fun h => h, trivial⟩ rfl) (OkD.q (triQG (x := .agg [cI x9.Value.Kind, cI x9.Value.N, cS x9.Value.S, .d (.sl (List.map AValue.cs x9.Value.L))]) rfl rfl ⟨fun h => h, trivial⟩ rfl) (OkD.q (triQG (x := .c (.d (.sl (List.map Attr.cs b)))) rfl rfl trivial rfl) (OkD.q (triQG (x := aI s4) rfl rfl trivial rfl) ?_))))
  obtain ⟨x10, hx10, hr⟩ := bind_some hr
  refine OkD.q (triIdxG (enc := Attr.cs) (L := b) (row := [dS x10.Name, dI x10.Value.Kind, dI x10.Value.N, dS x10.Value.S, .sl (List.map AValue.cs x10.Value.L)]) (gO_t hx10) rfl rfl rfl rfl rfl (fun _ => rfl) ⟨fun h => h, ⟨fun h => h, trivial⟩⟩ rfl) (OkD.q (triQG (x := .c (.pt [dI x10.Value.Kind, dI x10.Value.N, dS x10.Value.S, .sl (List.map AValue.cs x10.Value.L)])) rfl rfl ⟨fun h => h, trivial⟩ rfl) (OkD.q (triQG (x := .agg [cI x10.Value.Kind, cI x10.Value.N, cS x10.Value.S, .d (.sl (List.map AValue.cs x10.Value.L))]) rfl rfl ⟨fun h => h, trivial⟩ rfl) ?_))
  obtain ⟨x11, hx11, hr⟩ := bind_some hr
  refine OkD.q (triCallG (x := aB x11) (fun hg => r11_Same_c _ _ _ (gO_t hx11 hg)) rfl rfl ⟨.inl rfl, .inl rfl, trivial⟩ ⟨fun h => h, ⟨fun h => h, trivial⟩⟩ entry30 rfl rfl rfl) (OkD.q (triQG (x := aB (!x11)) rfl rfl ⟨fun h => h, trivial⟩ rfl) ?_)
  refine OkD.q (triOr rfl rfl (fun h => by rw [h]; rfl) rfl) ?_
  refine OkD.nil (by kernel_rfl) ?_
  refine Ok.cond (b := (!(x7.Name.toList == x8.Name.toList)) || (!x11)) rfl (fun h12 => ?_) (fun h12 => ?_)
  have hr := selT h12 hr
  refine Ok.seq (Ok.region (OkOps.x (aB false) rfl trivial rfl (OkOps.nil (Ok.ret ?_))))
  obtain rfl := Option.some.inj hr
  exact ⟨_, rfl, .inl rfl, trivial⟩
  have hr := selF h12 hr
  refine Ok.skip (Ok.region (OkOps.x (aI s4) rfl trivial rfl (OkOps.x (aI (IntKind.i64.wrap (s4 + 1))) rfl trivial rfl (OkOps.x (aI (IntKind.i64.wrap (s4 + 1))) rfl trivial rfl (OkOps.nil ?_)))))
  exact ⟨IntKind.i64.wrap (s4 + 1), hr, (Conv.mk (tau []) ⟨⟨_, rfl, .inl rfl⟩, ⟨_, rfl, .inl rfl⟩, ⟨_, rfl, .inl rfl⟩, trivial⟩ trivial rfl rfl rfl rfl)⟩
  have hr := selF h6 hr
  refine Ok.exit ?_
  exact ⟨(), hr, (Conv.mk (tau []) trivial trivial rfl rfl rfl rfl)⟩
theorem entry62 : Entry Tryd.prog 62 := ⟨_, Tryd.func62, by kernel_rfl, by kernel_rfl⟩
theorem r14_SameActions_c (a : (List Action)) (b : (List Action)) {r : Bool} (hr : r14_SameActions a b = some r) : Con Tryd.prog 63 [.c (.d (.sl (List.map Action.cs a))), .c (.d (.sl (List.map Action.cs b)))] [] (.s (aB r)) [] := by
  unfold r14_SameActions at hr
  refine Con.of_ok 68 0 [.tmp 4] [(0, .s (.c (.d (.sl (List.map Action.cs a))))), (1, .s (.c (.d (.sl (List.map Action.cs b)))))] Tryd.func63 rfl rfl rfl rfl rfl rfl rfl rfl fun w g M ρ _ => (Ok.seq (Ok.region (OkOps.x (aB false) rfl trivial rfl (OkOps.nil (Ok.seq (Ok.seq (Ok.region (OkOps.x (.c (.d (.sl (List.map Action.cs a)))) rfl trivial rfl (OkOps.q (triLen (enc := Action.cs) a rfl rfl trivial rfl) (OkOps.x (.c (.d (.sl (List.map Action.cs b)))) rfl trivial rfl (OkOps.q (triLen (enc := Action.cs) b rfl rfl trivial rfl) (OkOps.x (aB ((a.length : Int) != (b.length : Int))) rfl trivial rfl (OkOps.nil ?_)))))))))))))
  refine Ok.cond (b := (a.length : Int) != (b.length : Int)) rfl (fun h1 => ?_) (fun h1 => ?_)
  have hr := selT h1 hr
  refine Ok.seq (Ok.region (OkOps.x (aB false) rfl trivial rfl (OkOps.nil (Ok.ret ?_))))
  obtain rfl := Option.some.inj hr
  exact ⟨_, rfl, .inl rfl, trivial⟩
  have hr := selF h1 hr
  refine Ok.skip ?_
  obtain ⟨k3, hk3, hr⟩ := jn_some hr
  refine Ok.join (fun (s2 : Unit) => ⟨[], [], 0⟩) k3 r (fun s2 hr => ?_) ?_
  rw [hk3] at hr
  refine Ok.seq (Ok.region (OkOps.x (aB true) rfl trivial rfl (OkOps.nil (Ok.ret ?_))))
  obtain rfl := Option.some.inj hr
  exact ⟨_, rfl, .inl rfl, trivial⟩
  clear hk3
  refine Ok.seq (Ok.region (OkOps.x (aI 0) rfl trivial rfl (OkOps.nil (Ok.block (Ok.loopK (fun (s4 : Int) => ⟨[(0, .s (.c (.d (.sl (List.map Action.cs a))))), (1, .s (.c (.d (.sl (List.map Action.cs b))))), (5, .s (aI s4))], [], 0⟩) hr (Conv.mk (tau []) ⟨⟨_, rfl, .inl rfl⟩, ⟨_, rfl, .inl rfl⟩, ⟨_, rfl, .inl rfl⟩, trivial⟩ trivial rfl rfl rfl rfl) ?_)))))
  clear hr
  intro again5 s4 hr
  unfold r14_SameActions_L1 at hr
  refine Ok.seq (Ok.seq (Ok.region (OkOps.x (aI s4) rfl trivial rfl (OkOps.x (.c (.d (.sl (List.map Action.cs a)))) rfl trivial rfl (OkOps.q (triLen (enc := Action.cs) a rfl rfl trivial rfl) (OkOps.x (aB (decide (s4 < (a.length : Int)))) rfl trivial rfl (OkOps.nil ?_)))))))
  refine Ok.cond (b := decide (s4 < (a.length : Int))) rfl (fun h6 => ?_) (fun h6 => ?_)
  have hr := selT h6 hr
  refine Ok.skip (Ok.seq (Ok.block (Ok.seq (Ok.regionD (by kernel_rfl) (OkD.x (.c (.d (.sl (List.map Action.cs a)))) rfl trivial rfl (OkD.x (aI s4) rfl trivial rfl ?_))))))
  obtain ⟨x7, hx7, hr⟩ := bind_some hr
  refine OkD.q (triIdx (enc := Action.cs) (L := a) (row := [dS x7.Event, dS x7.Instance, dS x7.Handler, .sl (List.map AValue.cs x7.Args)]) hx7 rfl rfl rfl rfl (fun _ => rfl) trivial rfl) (OkD.x (.c (.pt [dS x7.Event, dS x7.Instance, dS x7.Handler, .sl (List.map AValue.cs x7.Args)])) rfl trivial rfl (OkD.x (aS x7.Event) rfl trivial rfl (OkD.x (.c (.d (.sl (List.map Action.cs b)))) rfl trivial rfl (OkD.x (aI s4) rfl trivial rfl ?_))))
  obtain ⟨x8, hx8, hr⟩ := bind_some hr
  refine OkD.q (triIdx (enc := Action.cs) (L := b) (row := [dS x8.Event, dS x8.Instance, dS x8.Handler, .sl (List.map AValue.cs x8.Args)]) hx8 rfl rfl rfl rfl (fun _ => rfl) trivial rfl) (OkD.x (.c (.pt [dS x8.Event, dS x8.Instance, dS x8.Handler, .sl (List.map AValue.cs x8.Args)])) rfl trivial rfl (OkD.x (aS x8.Event) rfl trivial rfl (OkD.x (aB (!(x7.Event.toList == x8.Event.toList))) rfl trivial rfl (OkD.x (aB (!(x7.Event.toList == x8.Event.toList))) rfl trivial rfl (OkD.q (triQG (x := .c (.d (.sl (List.map Action.cs a)))) rfl rfl trivial rfl) (OkD.q (triQG (x := aI s4) rfl rfl trivial rfl) ?_))))))
  obtain ⟨x9, hx9, hr⟩ := bind_some hr
  refine OkD.q (triIdxG (enc := Action.cs) (L := a) (row := [dS x9.Event, dS x9.Instance, dS x9.Handler, .sl (List.map AValue.cs x9.Args)]) (gO_t hx9) rfl rfl rfl rfl rfl (fun _ => rfl) ⟨fun h => h, ⟨fun h => h, trivial⟩⟩ rfl) (OkD.q (triQG (x := .c (.pt [dS x9.Instance, dS x9.Handler, .sl (List.map AValue.cs x9.Args)])) rfl rfl ⟨fun h => h, trivial⟩ rfl) (OkD.q (triQG (x := aS x9.Instance) rfl rfl ⟨fun h => h, trivial⟩ rfl) (OkD.q (triQG (x := .c (.d (.sl (List.map Action.cs b)))) rfl rfl trivial rfl) (OkD.q (triQG (x := aI s4) rfl rfl trivial rfl) ?_))))
  obtain ⟨x10, hx10, hr⟩ := bind_some hr
  refine OkD.q (triIdxG (enc := Action.cs) (L := b) (row := [dS x10.Event, dS x10.Instance, dS x10.Handler, .sl (List.map AValue.cs x10.Args)]) (gO_t hx10) rfl rfl rfl rfl rfl (fun _ => rfl) ⟨fun h => h, ⟨fun h => h, trivial⟩⟩ rfl) (OkD.q (triQG (x := .c (.pt [dS x10.Instance, dS x10.Handler, .sl (List.map AValue.cs x10.Args)])) rfl rfl ⟨fun h => h, trivial⟩ rfl) (OkD.q (triQG (x := aS x10.Instance) rfl rfl ⟨fun h => h, trivial⟩ rfl) (OkD.q (triQG (x := aB (!(x9.Instance.toList == x10.Instance.toList))) rfl rfl ⟨fun h => h, ⟨fun h => h, trivial⟩⟩ rfl) ?_)))
  refine OkD.q (triOr rfl rfl (fun h => by rw [h]; rfl) rfl) ?_
  refine OkD.x (aB ((!(x7.Event.toList == x8.Event.toList)) || (!(x9.Instance.toList == x10.Instance.toList)))) rfl trivial rfl (OkD.q (triQG (x := .c (.d (.sl (List.map Action.cs a)))) rfl rfl trivial rfl) (OkD.q (triQG (x := aI s4) rfl rfl trivial rfl) ?_))
  obtain ⟨x11, hx11, hr⟩ := bind_some hr
  refine OkD.q (triIdxG (enc := Action.cs) (L := a) (row := [dS x11.Event, dS x11.Instance, dS x11.Handler, .sl (List.map AValue.cs x11.Args)]) (gO_t hx11) rfl rfl rfl rfl rfl (fun _ => rfl) ⟨fun h => h, ⟨fun h => h, trivial⟩⟩ rfl) (OkD.q (triQG (x := .c (.pt [dS x11.Handler, .sl (List.map AValue.cs x11.Args)])) rfl rfl ⟨fun h => h, trivial⟩ rfl) (OkD.q (triQG (x := aS x11.Handler) rfl rfl ⟨fun h => h, trivial⟩ rfl) (OkD.q (triQG (x := .c (.d (.sl (List.map Action.cs b)))) rfl rfl trivial rfl) (OkD.q (triQG (x := aI s4) rfl rfl trivial rfl) ?_))))
  obtain ⟨x12, hx12, hr⟩ := bind_some hr
  refine OkD.q (triIdxG (enc := Action.cs) (L := b) (row := [dS x12.Event, dS x12.Instance, dS x12.Handler, .sl (List.map AValue.cs x12.Args)]) (gO_t hx12) rfl rfl rfl rfl rfl (fun _ => rfl) ⟨fun h => h, ⟨fun h => h, trivial⟩⟩ rfl) (OkD.q (triQG (x := .c (.pt [dS x12.Handler, .sl (List.map AValue.cs x12.Args)])) rfl rfl ⟨fun h => h, trivial⟩ rfl) (OkD.q (triQG (x := aS x12.Handler) rfl rfl ⟨fun h => h, trivial⟩ rfl) (OkD.q (triQG (x := aB (!(x11.Handler.toList == x12.Handler.toList))) rfl rfl ⟨fun h => h, ⟨fun h => h, trivial⟩⟩ rfl) ?_)))
  refine OkD.q (triOr rfl rfl (fun h => by rw [h]; rfl) rfl) ?_
  refine OkD.x (aB (((!(x7.Event.toList == x8.Event.toList)) || (!(x9.Instance.toList == x10.Instance.toList))) || (!(x11.Handler.toList == x12.Handler.toList)))) rfl trivial rfl (OkD.q (triQG (x := .c (.d (.sl (List.map Action.cs a)))) rfl rfl trivial rfl) (OkD.q (triQG (x := aI s4) rfl rfl trivial rfl) ?_))
  obtain ⟨x13, hx13, hr⟩ := bind_some hr
  refine OkD.q (triIdxG (enc := Action.cs) (L := a) (row := [dS x13.Event, dS x13.Instance, dS x13.Handler, .sl (List.map AValue.cs x13.Args)]) (gO_t hx13) rfl rfl rfl rfl rfl (fun _ => rfl) ⟨fun h => h, ⟨fun h => h, trivial⟩⟩ rfl) (OkD.q (triQG (x := .c (.pt [.sl (List.map AValue.cs x13.Args)])) rfl rfl ⟨fun h => h, trivial⟩ rfl) (OkD.q (triQG (x := .c (.d (.sl (List.map AValue.cs x13.Args)))) rfl rfl ⟨fun h => h, trivial⟩ rfl) (OkD.q (triQG (x := .c (.d (.sl (List.map Action.cs b)))) rfl rfl trivial rfl) (OkD.q (triQG (x := aI s4) rfl rfl trivial rfl) ?_))))
  obtain ⟨x14, hx14, hr⟩ := bind_some hr
  refine OkD.q (triIdxG (enc := Action.cs) (L := b) (row := [dS x14.Event, dS x14.Instance, dS x14.Handler, .sl (List.map AValue.cs x14.Args)]) (gO_t hx14) rfl rfl rfl rfl rfl (fun _ => rfl) ⟨fun h => h, ⟨fun h => h, trivial⟩⟩ rfl) (OkD.q (triQG (x := .c (.pt [.sl (List.map AValue.cs x14.Args)])) rfl rfl ⟨fun h => h, trivial⟩ rfl) (OkD.q (triQG (x := .c (.d (.sl (List.map AValue.cs x14.Args)))) rfl rfl ⟨fun h => h, trivial⟩ rfl) ?_))
  obtain ⟨x15, hx15, hr⟩ := bind_some hr
  refine OkD.q (triCallG (x := aB x15) (fun hg => r11_SameValues_c _ _ _ (gO_t hx15 hg)) rfl rfl ⟨.inl rfl, .inl rfl, trivial⟩ ⟨fun h => h, ⟨fun h => h, trivial⟩⟩ entry89 rfl rfl rfl) (OkD.q (triQG (x := aB (!x15)) rfl rfl ⟨fun h => h, trivial⟩ rfl) ?_)
  refine OkD.q (triOr rfl rfl (fun h => by rw [h]; rfl) rfl) ?_
  refine OkD.nil (by kernel_rfl) ?_
  refine Ok.cond (b := (((!(x7.Event.toList == x8.Event.toList)) || (!(x9.Instance.toList == x10.Instance.toList))) || (!(x11.Handler.toList == x12.Handler.toList))) || (!x15)) rfl (fun h16 => ?_) (fun h16 => ?_)
  have hr := selT h16 hr
  refine Ok.seq (Ok.region (OkOps.x (aB false) rfl trivial rfl (OkOps.nil (Ok.ret ?_))))
  obtain rfl := Option.some.inj hr
  exact ⟨_, rfl, .inl rfl, trivial⟩
  have hr := selF h16 hr
  refine Ok.skip (Ok.region (OkOps.x (aI s4) rfl trivial rfl (OkOps.x (aI (IntKind.i64.wrap (s4 + 1))) rfl trivial rfl (OkOps.x (aI (IntKind.i64.wrap (s4 + 1))) rfl trivial rfl (OkOps.nil ?_)))))
  exact ⟨IntKind.i64.wrap (s4 + 1), hr, (Conv.mk (tau []) ⟨⟨_, rfl, .inl rfl⟩, ⟨_, rfl, .inl rfl⟩, ⟨_, rfl, .inl rfl⟩, trivial⟩ trivial rfl rfl rfl rfl)⟩
  have hr := selF h6 hr
  refine Ok.exit ?_
  exact ⟨(), hr, (Conv.mk (tau []) trivial trivial rfl rfl rfl rfl)⟩
theorem entry63 : Entry Tryd.prog 63 := ⟨_, Tryd.func63, by kernel_rfl, by kernel_rfl⟩
theorem entry39 : Entry Tryd.prog 39 := ⟨_, Tryd.func39, by kernel_rfl, by kernel_rfl⟩
theorem r14_Same_B_c (self0 : View → View → Option Bool) (hself0 : ∀ (a : View) (b : View) {r : Bool}, self0 a b = some r → Con Tryd.prog 39 [.agg [cI a.Kind, cS a.Key, .d (.sl (List.map Attr.cs a.Attrs)), .d (.sl (List.map Action.cs a.Actions)), .d (.sl (List.map View.cs a.Kids))], .agg [cI b.Kind, cS b.Key, .d (.sl (List.map Attr.cs b.Attrs)), .d (.sl (List.map Action.cs b.Actions)), .d (.sl (List.map View.cs b.Kids))]] [] (.s (aB r)) []) (a : View) (b : View) {r : Bool} (hr : r14_Same_B self0 a b = some r) : Con Tryd.prog 39 [.agg [cI a.Kind, cS a.Key, .d (.sl (List.map Attr.cs a.Attrs)), .d (.sl (List.map Action.cs a.Actions)), .d (.sl (List.map View.cs a.Kids))], .agg [cI b.Kind, cS b.Key, .d (.sl (List.map Attr.cs b.Attrs)), .d (.sl (List.map Action.cs b.Actions)), .d (.sl (List.map View.cs b.Kids))]] [] (.s (aB r)) [] := by
  unfold r14_Same_B at hr
  refine Con.of_ok 62 0 [.tmp 4] [(0, .s (.agg [cI a.Kind, cS a.Key, .d (.sl (List.map Attr.cs a.Attrs)), .d (.sl (List.map Action.cs a.Actions)), .d (.sl (List.map View.cs a.Kids))])), (1, .s (.agg [cI b.Kind, cS b.Key, .d (.sl (List.map Attr.cs b.Attrs)), .d (.sl (List.map Action.cs b.Actions)), .d (.sl (List.map View.cs b.Kids))]))] Tryd.func39 rfl rfl rfl rfl rfl rfl rfl rfl fun w g M ρ _ => (Ok.seq (Ok.region (OkOps.m 0 (triBox (j := 0) (cs := [cI a.Kind, cS a.Key, .d (.sl (List.map Attr.cs a.Attrs)), .d (.sl (List.map Action.cs a.Actions)), .d (.sl (List.map View.cs a.Kids))]) rfl rfl rfl rfl rfl) (OkOps.m 0 (triBox (j := 1) (cs := [cI b.Kind, cS b.Key, .d (.sl (List.map Attr.cs b.Attrs)), .d (.sl (List.map Action.cs b.Actions)), .d (.sl (List.map View.cs b.Kids))]) rfl rfl rfl rfl rfl) (OkOps.x (aB false) rfl trivial rfl (OkOps.nil (Ok.seq (Ok.seq (Ok.region (OkOps.x (.c (.loc 0 0)) rfl trivial rfl (OkOps.x (aI a.Kind) rfl trivial rfl (OkOps.x (.c (.loc 1 0)) rfl trivial rfl (OkOps.x (aI b.Kind) rfl trivial rfl (OkOps.x (aB (a.Kind != b.Kind)) rfl trivial rfl (OkOps.x (aB (a.Kind != b.Kind)) rfl trivial rfl ?_)))))))))))))))
  refine OkOps.q (triQG (x := .c (.loc 0 1)) rfl rfl trivial rfl) (OkOps.q (triQG (x := aS a.Key) rfl rfl ⟨fun h => h, trivial⟩ rfl) (OkOps.q (triQG (x := .c (.loc 1 1)) rfl rfl trivial rfl) (OkOps.q (triQG (x := aS b.Key) rfl rfl ⟨fun h => h, trivial⟩ rfl) (OkOps.q (triQG (x := aB (!(a.Key.toList == b.Key.toList))) rfl rfl ⟨fun h => h, ⟨fun h => h, trivial⟩⟩ rfl) ?_))))
  refine OkOps.q (triOr rfl rfl (fun h => by rw [h]; rfl) rfl) ?_
  refine OkOps.x (aB ((a.Kind != b.Kind) || (!(a.Key.toList == b.Key.toList)))) rfl trivial rfl (OkOps.q (triQG (x := .c (.loc 0 2)) rfl rfl trivial rfl) (OkOps.q (triQG (x := .c (.d (.sl (List.map Attr.cs a.Attrs)))) rfl rfl ⟨fun h => h, trivial⟩ rfl) (OkOps.q (triQG (x := .c (.loc 1 2)) rfl rfl trivial rfl) (OkOps.q (triQG (x := .c (.d (.sl (List.map Attr.cs b.Attrs)))) rfl rfl ⟨fun h => h, trivial⟩ rfl) ?_))))
  obtain ⟨x1, hx1, hr⟩ := bind_some hr
  refine OkOps.q (triCallG (x := aB x1) (fun hg => r14_SameAttrs_c _ _ (gO_t hx1 hg)) rfl rfl ⟨.inl rfl, .inl rfl, trivial⟩ ⟨fun h => h, ⟨fun h => h, trivial⟩⟩ entry62 rfl rfl rfl) (OkOps.q (triQG (x := aB (!x1)) rfl rfl ⟨fun h => h, trivial⟩ rfl) ?_)
  refine OkOps.q (triOr rfl rfl (fun h => by rw [h]; rfl) rfl) ?_
  refine OkOps.x (aB (((a.Kind != b.Kind) || (!(a.Key.toList == b.Key.toList))) || (!x1))) rfl trivial rfl (OkOps.q (triQG (x := .c (.loc 0 3)) rfl rfl trivial rfl) (OkOps.q (triQG (x := .c (.d (.sl (List.map Action.cs a.Actions)))) rfl rfl ⟨fun h => h, trivial⟩ rfl) (OkOps.q (triQG (x := .c (.loc 1 3)) rfl rfl trivial rfl) (OkOps.q (triQG (x := .c (.d (.sl (List.map Action.cs b.Actions)))) rfl rfl ⟨fun h => h, trivial⟩ rfl) ?_))))
  obtain ⟨x2, hx2, hr⟩ := bind_some hr
  refine OkOps.q (triCallG (x := aB x2) (fun hg => r14_SameActions_c _ _ (gO_t hx2 hg)) rfl rfl ⟨.inl rfl, .inl rfl, trivial⟩ ⟨fun h => h, ⟨fun h => h, trivial⟩⟩ entry63 rfl rfl rfl) (OkOps.q (triQG (x := aB (!x2)) rfl rfl ⟨fun h => h, trivial⟩ rfl) ?_)
  refine OkOps.q (triOr rfl rfl (fun h => by rw [h]; rfl) rfl) ?_
  refine OkOps.x (aB ((((a.Kind != b.Kind) || (!(a.Key.toList == b.Key.toList))) || (!x1)) || (!x2))) rfl trivial rfl (OkOps.q (triQG (x := .c (.loc 0 4)) rfl rfl trivial rfl) (OkOps.q (triQG (x := .c (.d (.sl (List.map View.cs a.Kids)))) rfl rfl ⟨fun h => h, trivial⟩ rfl) (OkOps.q (triLenG (enc := View.cs) a.Kids rfl rfl rfl ⟨fun h => h, trivial⟩ rfl) (OkOps.q (triQG (x := .c (.loc 1 4)) rfl rfl trivial rfl) (OkOps.q (triQG (x := .c (.d (.sl (List.map View.cs b.Kids)))) rfl rfl ⟨fun h => h, trivial⟩ rfl) (OkOps.q (triLenG (enc := View.cs) b.Kids rfl rfl rfl ⟨fun h => h, trivial⟩ rfl) (OkOps.q (triQG (x := aB ((a.Kids.length : Int) != (b.Kids.length : Int))) rfl rfl ⟨fun h => h, ⟨fun h => h, trivial⟩⟩ rfl) ?_)))))))
  refine OkOps.q (triOr rfl rfl (fun h => by rw [h]; rfl) rfl) ?_
  refine OkOps.nil ?_
  refine Ok.cond (b := ((((a.Kind != b.Kind) || (!(a.Key.toList == b.Key.toList))) || (!x1)) || (!x2)) || ((a.Kids.length : Int) != (b.Kids.length : Int))) rfl (fun h3 => ?_) (fun h3 => ?_)
  have hr := selT h3 hr
  refine Ok.seq (Ok.region (OkOps.x (aB false) rfl trivial rfl (OkOps.nil (Ok.ret ?_))))
  obtain rfl := Option.some.inj hr
  exact ⟨_, rfl, .inl rfl, trivial⟩
  have hr := selF h3 hr
  refine Ok.skip ?_
  obtain ⟨k5, hk5, hr⟩ := jn_some hr
  refine Ok.join (fun (s4 : Unit) => ⟨[], [], 0⟩) k5 r (fun s4 hr => ?_) ?_
  rw [hk5] at hr
  refine Ok.seq (Ok.region (OkOps.x (aB true) rfl trivial rfl (OkOps.nil (Ok.ret ?_))))
  obtain rfl := Option.some.inj hr
  exact ⟨_, rfl, .inl rfl, trivial⟩
  clear hk5
  refine Ok.seq (Ok.region (OkOps.x (aI 0) rfl trivial rfl (OkOps.nil (Ok.block (Ok.loopK (fun (s6 : Int) => ⟨[(2, .s (.c (.loc 0 0))), (3, .s (.c (.loc 1 0))), (5, .s (aI s6))], [(0, .blk [cI a.Kind, cS a.Key, .d (.sl (List.map Attr.cs a.Attrs)), .d (.sl (List.map Action.cs a.Actions)), .d (.sl (List.map View.cs a.Kids))] 31), (1, .blk [cI b.Kind, cS b.Key, .d (.sl (List.map Attr.cs b.Attrs)), .d (.sl (List.map Action.cs b.Actions)), .d (.sl (List.map View.cs b.Kids))] 31)], 0⟩) hr (Conv.mk (tau []) ⟨⟨_, rfl, .inl rfl⟩, ⟨_, rfl, .inl rfl⟩, ⟨_, rfl, .inl rfl⟩, trivial⟩ ⟨rfl, rfl, trivial⟩ rfl rfl rfl rfl) ?_)))))
  clear hr
  intro again7 s6 hr
  unfold r14_Same_L1 at hr
  refine Ok.seq (Ok.seq (Ok.region (OkOps.x (aI s6) rfl trivial rfl (OkOps.x (.c (.loc 0 4)) rfl trivial rfl (OkOps.x (.c (.d (.sl (List.map View.cs a.Kids)))) rfl trivial rfl (OkOps.q (triLen (enc := View.cs) a.Kids rfl rfl trivial rfl) (OkOps.x (aB (decide (s6 < (a.Kids.length : Int)))) rfl trivial rfl (OkOps.nil ?_))))))))
  refine Ok.cond (b := decide (s6 < (a.Kids.length : Int))) rfl (fun h8 => ?_) (fun h8 => ?_)
  have hr := selT h8 hr
  refine Ok.skip (Ok.seq (Ok.block (Ok.seq (Ok.regionD (by kernel_rfl) (OkD.x (.c (.loc 0 4)) rfl trivial rfl (OkD.x (.c (.d (.sl (List.map View.cs a.Kids)))) rfl trivial rfl (OkD.x (aI s6) rfl trivial rfl ?_)))))))
  obtain ⟨x9, hx9, hr⟩ := bind_some hr
  refine OkD.q (triIdx (enc := View.cs) (L := a.Kids) (row := [dI x9.Kind, dS x9.Key, .sl (List.map Attr.cs x9.Attrs), .sl (List.map Action.cs x9.Actions), .sl (List.map View.cs x9.Kids)]) hx9 (View.cs_eq _) rfl rfl rfl (fun x => by rw [View.cs_eq]; rfl) trivial rfl) ?_
  refine OkD.x (.agg [cI x9.Kind, cS x9.Key, .d (.sl (List.map Attr.cs x9.Attrs)), .d (.sl (List.map Action.cs x9.Actions)), .d (.sl (List.map View.cs x9.Kids))]) rfl trivial rfl (OkD.x (.c (.loc 1 4)) rfl trivial rfl (OkD.x (.c (.d (.sl (List.map View.cs b.Kids)))) rfl trivial rfl (OkD.x (aI s6) rfl trivial rfl ?_)))
  obtain ⟨x10, hx10, hr⟩ := bind_some hr
  refine OkD.q (triIdx (enc := View.cs) (L := b.Kids) (row := [dI x10.Kind, dS x10.Key, .sl (List.map Attr.cs x10.Attrs), .sl (List.map Action.cs x10.Actions), .sl (List.map View.cs x10.Kids)]) hx10 (View.cs_eq _) rfl rfl rfl (fun x => by rw [View.cs_eq]; rfl) trivial rfl) ?_
  refine OkD.x (.agg [cI x10.Kind, cS x10.Key, .d (.sl (List.map Attr.cs x10.Attrs)), .d (.sl (List.map Action.cs x10.Actions)), .d (.sl (List.map View.cs x10.Kids))]) rfl trivial rfl ?_
  obtain ⟨x11, hx11, hr⟩ := bind_some hr
  refine OkD.q (triCall (tau []) (.s (aB x11)) [] (hself0 _ _ hx11) rfl ⟨.inl rfl, .inl rfl, trivial⟩ trivial entry39 trivial rfl rfl rfl rfl trivial rfl rfl rfl) (OkD.x (aB (!x11)) rfl trivial rfl (OkD.nil (by kernel_rfl) ?_))
  refine Ok.cond (b := !x11) rfl (fun h12 => ?_) (fun h12 => ?_)
  have hr := selT h12 hr
  refine Ok.seq (Ok.region (OkOps.x (aB false) rfl trivial rfl (OkOps.nil (Ok.ret ?_))))
  obtain rfl := Option.some.inj hr
  exact ⟨_, rfl, .inl rfl, trivial⟩
  have hr := selF h12 hr
  refine Ok.skip (Ok.region (OkOps.x (aI s6) rfl trivial rfl (OkOps.x (aI (IntKind.i64.wrap (s6 + 1))) rfl trivial rfl (OkOps.x (aI (IntKind.i64.wrap (s6 + 1))) rfl trivial rfl (OkOps.nil ?_)))))
  exact ⟨IntKind.i64.wrap (s6 + 1), hr, (Conv.mk (tau []) ⟨⟨_, rfl, .inl rfl⟩, ⟨_, rfl, .inl rfl⟩, ⟨_, rfl, .inl rfl⟩, trivial⟩ ⟨rfl, rfl, trivial⟩ rfl rfl rfl rfl)⟩
  have hr := selF h8 hr
  refine Ok.exit ?_
  exact ⟨(), hr, (Conv.mk (tau []) trivial trivial rfl rfl rfl rfl)⟩
theorem r14_Same_all : ∀ n : Nat, (∀ (a : View) (b : View) {r : Bool}, r14_Same n a b = some r → Con Tryd.prog 39 [.agg [cI a.Kind, cS a.Key, .d (.sl (List.map Attr.cs a.Attrs)), .d (.sl (List.map Action.cs a.Actions)), .d (.sl (List.map View.cs a.Kids))], .agg [cI b.Kind, cS b.Key, .d (.sl (List.map Attr.cs b.Attrs)), .d (.sl (List.map Action.cs b.Actions)), .d (.sl (List.map View.cs b.Kids))]] [] (.s (aB r)) []) ∧ True := by
  intro n
  induction n with
  | zero => exact ⟨(by intros; rename_i hr; cases hr), trivial⟩
  | succ n ih => exact ⟨(by intros; rename_i hr; exact r14_Same_B_c _ ih.1 _ _ hr), trivial⟩
theorem r14_Same_c (n : Nat) (a : View) (b : View) {r : Bool} (hr : r14_Same n a b = some r) : Con Tryd.prog 39 [.agg [cI a.Kind, cS a.Key, .d (.sl (List.map Attr.cs a.Attrs)), .d (.sl (List.map Action.cs a.Actions)), .d (.sl (List.map View.cs a.Kids))], .agg [cI b.Kind, cS b.Key, .d (.sl (List.map Attr.cs b.Attrs)), .d (.sl (List.map Action.cs b.Actions)), .d (.sl (List.map View.cs b.Kids))]] [] (.s (aB r)) [] := (r14_Same_all n).1 a b hr
theorem r14_Index_c (t : Tree) (id : Int) {r : Int} (hr : r14_Index t id = some r) : Con Tryd.prog 70 [.agg [cI t.Root, cI t.Next, .d (.sl (List.map Node.cs t.Nodes))], aI id] [] (.s (aI r)) [] := by
  unfold r14_Index at hr
  refine Con.of_ok 22 0 [.tmp 4] [(0, .s (.agg [cI t.Root, cI t.Next, .d (.sl (List.map Node.cs t.Nodes))])), (1, .s (aI id))] Tryd.func70 rfl rfl rfl rfl rfl rfl rfl rfl fun w g M ρ _ => (Ok.seq (Ok.region (OkOps.m 0 (triBox (j := 0) (cs := [cI t.Root, cI t.Next, .d (.sl (List.map Node.cs t.Nodes))]) rfl rfl rfl rfl rfl) (OkOps.x (aI 0) rfl trivial rfl (OkOps.nil ?_)))))
  obtain ⟨k2, hk2, hr⟩ := jn_some hr
  refine Ok.join (fun (s1 : Unit) => ⟨[], [], 0⟩) k2 r (fun s1 hr => ?_) ?_
  rw [hk2] at hr
  refine Ok.seq (Ok.region (OkOps.x (aI (-1)) rfl trivial rfl (OkOps.nil (Ok.ret ?_))))
  obtain rfl := Option.some.inj hr
  exact ⟨_, rfl, .inl rfl, trivial⟩
  clear hk2
  refine Ok.seq (Ok.region (OkOps.x (aI 0) rfl trivial rfl (OkOps.nil (Ok.block (Ok.loopK (fun (s3 : Int) => ⟨[(1, .s (aI id)), (2, .s (.c (.loc 0 0))), (5, .s (aI s3))], [(0, .blk [cI t.Root, cI t.Next, .d (.sl (List.map Node.cs t.Nodes))] 51)], 0⟩) hr (Conv.mk (tau []) ⟨⟨_, rfl, .inl rfl⟩, ⟨_, rfl, .inl rfl⟩, ⟨_, rfl, .inl rfl⟩, trivial⟩ ⟨rfl, trivial⟩ rfl rfl rfl rfl) ?_)))))
  clear hr
  intro again4 s3 hr
  unfold r14_Index_L1 at hr
  refine Ok.seq (Ok.seq (Ok.region (OkOps.x (aI s3) rfl trivial rfl (OkOps.x (.c (.loc 0 2)) rfl trivial rfl (OkOps.x (.c (.d (.sl (List.map Node.cs t.Nodes)))) rfl trivial rfl (OkOps.q (triLen (enc := Node.cs) t.Nodes rfl rfl trivial rfl) (OkOps.x (aB (decide (s3 < (t.Nodes.length : Int)))) rfl trivial rfl (OkOps.nil ?_))))))))
  refine Ok.cond (b := decide (s3 < (t.Nodes.length : Int))) rfl (fun h5 => ?_) (fun h5 => ?_)
  have hr := selT h5 hr
  refine Ok.skip (Ok.seq (Ok.block (Ok.seq (Ok.region (OkOps.x (.c (.loc 0 2)) rfl trivial rfl (OkOps.x (.c (.d (.sl (List.map Node.cs t.Nodes)))) rfl trivial rfl (OkOps.x (aI s3) rfl trivial rfl ?_)))))))
  obtain ⟨x6, hx6, hr⟩ := bind_some hr
  refine OkOps.q (triIdx (enc := Node.cs) (L := t.Nodes) (row := [dI x6.ID, dI x6.Parent, dI x6.Kind, dS x6.Key, .sl (List.map Attr.cs x6.Attrs), .sl (List.map Action.cs x6.Actions), .sl (List.map (eInt .i64) x6.Kids)]) hx6 rfl rfl rfl rfl (fun _ => rfl) trivial rfl) (OkOps.x (.c (.pt [dI x6.ID, dI x6.Parent, dI x6.Kind, dS x6.Key, .sl (List.map Attr.cs x6.Attrs), .sl (List.map Action.cs x6.Actions), .sl (List.map (eInt .i64) x6.Kids)])) rfl trivial rfl (OkOps.x (aI x6.ID) rfl trivial rfl (OkOps.x (aI id) rfl trivial rfl (OkOps.x (aB (x6.ID == id)) rfl trivial rfl (OkOps.nil ?_)))))
  refine Ok.cond (b := x6.ID == id) rfl (fun h7 => ?_) (fun h7 => ?_)
  have hr := selT h7 hr
  refine Ok.seq (Ok.region (OkOps.x (aI s3) rfl trivial rfl (OkOps.x (aI s3) rfl trivial rfl (OkOps.nil (Ok.ret ?_)))))
  obtain rfl := Option.some.inj hr
  exact ⟨_, rfl, .inl rfl, trivial⟩
  have hr := selF h7 hr
  refine Ok.skip (Ok.region (OkOps.x (aI s3) rfl trivial rfl (OkOps.x (aI (IntKind.i64.wrap (s3 + 1))) rfl trivial rfl (OkOps.x (aI (IntKind.i64.wrap (s3 + 1))) rfl trivial rfl (OkOps.nil ?_)))))
  exact ⟨IntKind.i64.wrap (s3 + 1), hr, (Conv.mk (tau []) ⟨⟨_, rfl, .inl rfl⟩, ⟨_, rfl, .inl rfl⟩, ⟨_, rfl, .inl rfl⟩, trivial⟩ ⟨rfl, trivial⟩ rfl rfl rfl rfl)⟩
  have hr := selF h5 hr
  refine Ok.exit ?_
  exact ⟨(), hr, (Conv.mk (tau []) trivial trivial rfl rfl rfl rfl)⟩
theorem entry70 : Entry Tryd.prog 70 := ⟨_, Tryd.func70, by kernel_rfl, by kernel_rfl⟩
theorem r14_Node_c (t : Tree) (id : Int) {r : Node} (hr : r14_Node t id = some r) : Con Tryd.prog 96 [.agg [cI t.Root, cI t.Next, .d (.sl (List.map Node.cs t.Nodes))], aI id] [] (.s (.agg [cI r.ID, cI r.Parent, cI r.Kind, cS r.Key, .d (.sl (List.map Attr.cs r.Attrs)), .d (.sl (List.map Action.cs r.Actions)), .d (.sl (List.map (eInt .i64) r.Kids))])) [] := by
  unfold r14_Node at hr
  refine Con.of_ok 17 0 [.cell 4 55] [(0, .s (.agg [cI t.Root, cI t.Next, .d (.sl (List.map Node.cs t.Nodes))])), (1, .s (aI id))] Tryd.func96 rfl rfl rfl rfl rfl rfl rfl rfl fun w g M ρ _ => (Ok.seq (Ok.region (OkOps.m 0 (triBox (j := 0) (cs := [cI t.Root, cI t.Next, .d (.sl (List.map Node.cs t.Nodes))]) rfl rfl rfl rfl rfl) (OkOps.m 0 (triAlloc (j := 1) (cs := [cI 0, cI 0, cI 0, cS ByteArray.empty, .d (.v (.slice none 0 0)), .d (.v (.slice none 0 0)), .d (.v (.slice none 0 0))]) rfl rfl rfl rfl) (OkOps.nil (Ok.seq (Ok.region (OkOps.x (.agg [cI t.Root, cI t.Next, .d (.sl (List.map Node.cs t.Nodes))]) rfl trivial rfl (OkOps.x (aI id) rfl trivial rfl ?_)))))))))
  obtain ⟨x1, hx1, hr⟩ := bind_some hr
  refine OkOps.q (triCall (tau []) (.s (aI x1)) [] (r14_Index_c _ _ hx1) rfl ⟨.inl rfl, .inl rfl, trivial⟩ trivial entry70 trivial rfl rfl rfl rfl trivial rfl rfl rfl) (OkOps.x (aI x1) rfl trivial rfl (OkOps.nil (Ok.seq (Ok.seq (Ok.region (OkOps.x (aI x1) rfl trivial rfl (OkOps.x (aB (decide (x1 < 0))) rfl trivial rfl (OkOps.nil ?_))))))))
  refine Ok.cond (b := decide (x1 < 0)) rfl (fun h2 => ?_) (fun h2 => ?_)
  have hr := selT h2 hr
  refine Ok.seq (Ok.region (OkOps.x (.agg [cI 0, cI 0, cI 0, cS ByteArray.empty, .d (.v (.slice none 0 0)), .d (.v (.slice none 0 0)), .d (.v (.slice none 0 0))]) rfl trivial rfl (OkOps.w (triStore (cs' := [cI 0, cI 0, cI 0, cS ByteArray.empty, .d (.v (.slice none 0 0)), .d (.v (.slice none 0 0)), .d (.v (.slice none 0 0))]) rfl rfl rfl rfl rfl rfl rfl rfl rfl) (OkOps.nil (Ok.ret ?_)))))
  obtain rfl := Option.some.inj hr
  exact ⟨_, rfl, .inr rfl, trivial⟩
  have hr := selF h2 hr
  refine Ok.skip (Ok.seq (Ok.region (OkOps.x (.c (.loc 0 2)) rfl trivial rfl (OkOps.x (.c (.d (.sl (List.map Node.cs t.Nodes)))) rfl trivial rfl (OkOps.x (aI x1) rfl trivial rfl ?_)))))
  obtain ⟨x3, hx3, hr⟩ := bind_some hr
  refine OkOps.q (triIdx (enc := Node.cs) (L := t.Nodes) (row := [dI x3.ID, dI x3.Parent, dI x3.Kind, dS x3.Key, .sl (List.map Attr.cs x3.Attrs), .sl (List.map Action.cs x3.Actions), .sl (List.map (eInt .i64) x3.Kids)]) hx3 rfl rfl rfl rfl (fun _ => rfl) trivial rfl) (OkOps.x (.agg [cI x3.ID, cI x3.Parent, cI x3.Kind, cS x3.Key, .d (.sl (List.map Attr.cs x3.Attrs)), .d (.sl (List.map Action.cs x3.Actions)), .d (.sl (List.map (eInt .i64) x3.Kids))]) rfl trivial rfl (OkOps.w (triStore (cs' := [cI x3.ID, cI x3.Parent, cI x3.Kind, cS x3.Key, .d (.sl (List.map Attr.cs x3.Attrs)), .d (.sl (List.map Action.cs x3.Actions)), .d (.sl (List.map (eInt .i64) x3.Kids))]) rfl rfl rfl rfl rfl rfl rfl rfl rfl) (OkOps.nil (Ok.ret ?_))))
  obtain rfl := Option.some.inj hr
  exact ⟨_, rfl, .inl rfl, trivial⟩
theorem entry96 : Entry Tryd.prog 96 := ⟨_, Tryd.func96, by kernel_rfl, by kernel_rfl⟩
theorem entry94 : Entry Tryd.prog 94 := ⟨_, Tryd.func94, by kernel_rfl, by kernel_rfl⟩
theorem r14_order_B_c (self0 : Tree → Int → (List Int) → Option (List Int)) (hself0 : ∀ (t : Tree) (id : Int) (l : (List Int)) {r : (List Int)}, self0 t id l = some r → Con Tryd.prog 94 [.agg [cI t.Root, cI t.Next, .d (.sl (List.map Node.cs t.Nodes))], aI id, .c (.tl 0 (List.map (eInt .i64) l))] [(0, .tail 1)] (.s (.c (.tl 2000 (List.map (eInt .i64) r)))) [(0, .dead), (2000, .tail 1)]) (t : Tree) (id : Int) (l : (List Int)) {r : (List Int)} (hr : r14_order_B self0 t id l = some r) : Con Tryd.prog 94 [.agg [cI t.Root, cI t.Next, .d (.sl (List.map Node.cs t.Nodes))], aI id, .c (.tl 0 (List.map (eInt .i64) l))] [(0, .tail 1)] (.s (.c (.tl 2000 (List.map (eInt .i64) r)))) [(0, .dead), (2000, .tail 1)] := by
  unfold r14_order_B at hr
  refine Con.of_ok 32 0 [.tmp 6] [(0, .s (.agg [cI t.Root, cI t.Next, .d (.sl (List.map Node.cs t.Nodes))])), (1, .s (aI id)), (2, .s (.c (.tl 0 (List.map (eInt .i64) l))))] Tryd.func94 rfl rfl rfl rfl rfl rfl rfl rfl fun w g M ρ _ => (Ok.seq (Ok.region (OkOps.m 0 (triBox (j := 1) (cs := [cI t.Root, cI t.Next, .d (.sl (List.map Node.cs t.Nodes))]) rfl rfl rfl rfl rfl) (OkOps.x (.c (.d (.v (.slice none 0 0)))) rfl trivial rfl (OkOps.nil (Ok.seq (Ok.region (OkOps.x (.c (.tl 0 (List.map (eInt .i64) l))) rfl trivial rfl (OkOps.x (aI id) rfl trivial rfl (OkOps.m 0 (triBST (sz := 1) (enc := (eInt .i64)) (j := 2) ([id]) rfl rfl rfl rfl rfl rfl rfl rfl (fun _ => rfl) trivial rfl rfl) ?_))))))))))
  obtain ⟨x1, hx1, hr⟩ := bind_some hr
  refine OkOps.m2 0 (triApp (enc := (eInt .i64)) (L := l) (X := [id]) (j := 0) (j' := 3) hx1 rfl rfl rfl rfl rfl rfl (fun _ => rfl) (fun _ => rfl) (by decide) trivial rfl rfl) (OkOps.x (.c (.tl 3 (List.map (eInt .i64) x1))) rfl trivial rfl (OkOps.nil (Ok.seq (Ok.region (OkOps.x (.agg [cI t.Root, cI t.Next, .d (.sl (List.map Node.cs t.Nodes))]) rfl trivial rfl (OkOps.x (aI id) rfl trivial rfl ?_))))))
  obtain ⟨x2, hx2, hr⟩ := bind_some hr
  refine OkOps.q (triCall (tau []) (.s (.agg [cI x2.ID, cI x2.Parent, cI x2.Kind, cS x2.Key, .d (.sl (List.map Attr.cs x2.Attrs)), .d (.sl (List.map Action.cs x2.Actions)), .d (.sl (List.map (eInt .i64) x2.Kids))])) [] (r14_Node_c _ _ hx2) rfl ⟨.inl rfl, .inl rfl, trivial⟩ trivial entry96 trivial rfl rfl rfl rfl trivial rfl rfl rfl) (OkOps.m 0 (triAlloc (j := 4) (cs := [cI 0, cI 0, cI 0, cS ByteArray.empty, .d (.v (.slice none 0 0)), .d (.v (.slice none 0 0)), .d (.v (.slice none 0 0))]) rfl rfl rfl rfl) (OkOps.w (triStore (cs' := [cI x2.ID, cI x2.Parent, cI x2.Kind, cS x2.Key, .d (.sl (List.map Attr.cs x2.Attrs)), .d (.sl (List.map Action.cs x2.Actions)), .d (.sl (List.map (eInt .i64) x2.Kids))]) rfl rfl rfl rfl rfl rfl rfl rfl rfl) (OkOps.nil ?_)))
  obtain ⟨k4, hk4, hr⟩ := jn_some hr
  refine Ok.join (fun (s3 : (List Int)) => ⟨[(2, .s (.c (.tl 1003 (List.map (eInt .i64) s3))))], [(0, .dead), (1003, .tail 1)], 0⟩) k4 r (fun s3 hr => ?_) ?_
  rw [hk4] at hr
  refine Ok.seq (Ok.region (OkOps.x (.c (.tl 1003 (List.map (eInt .i64) s3))) rfl trivial rfl (OkOps.x (.c (.tl 1003 (List.map (eInt .i64) s3))) rfl trivial rfl (OkOps.nil (Ok.conv (T := ⟨[(6, .s (.c (.tl 2000 (List.map (eInt .i64) s3))))], [(0, .dead), (2000, .tail 1)], 0⟩) (Conv.mk (tau [(2000, 1003)]) ⟨⟨_, rfl, .inl rfl⟩, trivial⟩ ⟨rfl, trivial⟩ rfl rfl rfl rfl) (Ok.ret ?_))))))
  obtain rfl := Option.some.inj hr
  exact ⟨_, rfl, .inl rfl, ⟨(fun h => by cases h), rfl, trivial⟩⟩
  clear hk4
  refine Ok.seq (Ok.region (OkOps.x (aI 0) rfl trivial rfl (OkOps.nil (Ok.block (Ok.loopK (fun (s5 : (List Int) × Int) => ⟨[(2, .s (.c (.tl 1005 (List.map (eInt .i64) s5.1)))), (3, .s (.c (.loc 1 0))), (7, .s (.c (.loc 4 0))), (8, .s (aI s5.2))], [(0, .dead), (1, .blk [cI t.Root, cI t.Next, .d (.sl (List.map Node.cs t.Nodes))] 51), (4, .blk [cI x2.ID, cI x2.Parent, cI x2.Kind, cS x2.Key, .d (.sl (List.map Attr.cs x2.Attrs)), .d (.sl (List.map Action.cs x2.Actions)), .d (.sl (List.map (eInt .i64) x2.Kids))] 55), (1005, .tail 1)], 0⟩) hr (Conv.mk (tau [(1005, 3)]) ⟨⟨_, rfl, .inl rfl⟩, ⟨_, rfl, .inl rfl⟩, ⟨_, rfl, .inl rfl⟩, ⟨_, rfl, .inl rfl⟩, trivial⟩ ⟨rfl, rfl, rfl, trivial⟩ rfl rfl rfl rfl) ?_)))))
  clear hr
  intro again6 s5 hr
  unfold r14_order_L1 at hr
  refine Ok.seq (Ok.seq (Ok.region (OkOps.x (aI s5.2) rfl trivial rfl (OkOps.x (.c (.loc 4 6)) rfl trivial rfl (OkOps.x (.c (.d (.sl (List.map (eInt .i64) x2.Kids)))) rfl trivial rfl (OkOps.q (triLen (enc := (eInt .i64)) x2.Kids rfl rfl trivial rfl) (OkOps.x (aB (decide (s5.2 < (x2.Kids.length : Int)))) rfl trivial rfl (OkOps.nil ?_))))))))
  refine Ok.cond (b := decide (s5.2 < (x2.Kids.length : Int))) rfl (fun h7 => ?_) (fun h7 => ?_)
  have hr := selT h7 hr
  refine Ok.skip (Ok.seq (Ok.block (Ok.regionD (by kernel_rfl) (OkD.x (.agg [cI t.Root, cI t.Next, .d (.sl (List.map Node.cs t.Nodes))]) rfl trivial rfl (OkD.x (.c (.loc 4 6)) rfl trivial rfl (OkD.x (.c (.d (.sl (List.map (eInt .i64) x2.Kids)))) rfl trivial rfl (OkD.x (aI s5.2) rfl trivial rfl ?_)))))))
  obtain ⟨x8, hx8, hr⟩ := bind_some hr
  refine OkD.q (triIdx (enc := (eInt .i64)) (L := x2.Kids) (row := [dI x8]) hx8 rfl rfl rfl rfl (fun _ => rfl) trivial rfl) (OkD.x (aI x8) rfl trivial rfl (OkD.x (.c (.tl 1005 (List.map (eInt .i64) s5.1))) rfl trivial rfl ?_))
  obtain ⟨x9, hx9, hr⟩ := bind_some hr
  refine OkD.m2 0 (triCall (tau [(0, 1005), (2000, 5)]) (.s (.c (.tl 5 (List.map (eInt .i64) x9)))) [(1005, .dead), (5, .tail 1)] (hself0 _ _ _ hx9) rfl ⟨.inl rfl, .inl rfl, .inl rfl, trivial⟩ trivial entry94 ⟨rfl, trivial⟩ rfl rfl rfl rfl ⟨rfl, trivial⟩ rfl rfl rfl) (OkD.x (.c (.tl 5 (List.map (eInt .i64) x9))) rfl trivial rfl (OkD.nil (by kernel_rfl) (Ok.region (OkOps.x (aI s5.2) rfl trivial rfl (OkOps.x (aI (IntKind.i64.wrap (s5.2 + 1))) rfl trivial rfl (OkOps.x (aI (IntKind.i64.wrap (s5.2 + 1))) rfl trivial rfl (OkOps.nil ?_)))))))
  exact ⟨(x9, IntKind.i64.wrap (s5.2 + 1)), hr, (Conv.mk (tau [(1005, 5)]) ⟨⟨_, rfl, .inl rfl⟩, ⟨_, rfl, .inl rfl⟩, ⟨_, rfl, .inl rfl⟩, ⟨_, rfl, .inl rfl⟩, trivial⟩ ⟨rfl, rfl, rfl, trivial⟩ rfl rfl rfl rfl)⟩
  have hr := selF h7 hr
  refine Ok.exit ?_
  exact ⟨s5.1, hr, (Conv.mk (tau [(1003, 1005)]) ⟨⟨_, rfl, .inl rfl⟩, trivial⟩ ⟨rfl, trivial⟩ rfl rfl rfl rfl)⟩
theorem r14_order_all : ∀ n : Nat, (∀ (t : Tree) (id : Int) (l : (List Int)) {r : (List Int)}, r14_order n t id l = some r → Con Tryd.prog 94 [.agg [cI t.Root, cI t.Next, .d (.sl (List.map Node.cs t.Nodes))], aI id, .c (.tl 0 (List.map (eInt .i64) l))] [(0, .tail 1)] (.s (.c (.tl 2000 (List.map (eInt .i64) r)))) [(0, .dead), (2000, .tail 1)]) ∧ True := by
  intro n
  induction n with
  | zero => exact ⟨(by intros; rename_i hr; cases hr), trivial⟩
  | succ n ih => exact ⟨(by intros; rename_i hr; exact r14_order_B_c _ ih.1 _ _ _ hr), trivial⟩
theorem r14_order_c (n : Nat) (t : Tree) (id : Int) (l : (List Int)) {r : (List Int)} (hr : r14_order n t id l = some r) : Con Tryd.prog 94 [.agg [cI t.Root, cI t.Next, .d (.sl (List.map Node.cs t.Nodes))], aI id, .c (.tl 0 (List.map (eInt .i64) l))] [(0, .tail 1)] (.s (.c (.tl 2000 (List.map (eInt .i64) r)))) [(0, .dead), (2000, .tail 1)] := (r14_order_all n).1 t id l hr
theorem r14_shaped_c (t : Tree) {r : Bool} (hr : r14_shaped t = some r) : Con Tryd.prog 93 [.agg [cI t.Root, cI t.Next, .d (.sl (List.map Node.cs t.Nodes))]] [] (.s (aB r)) [] := by
  unfold r14_shaped at hr
  refine Con.of_ok 156 0 [.tmp 2] [(0, .s (.agg [cI t.Root, cI t.Next, .d (.sl (List.map Node.cs t.Nodes))]))] Tryd.func93 rfl rfl rfl rfl rfl rfl rfl rfl fun w g M ρ _ => (Ok.seq (Ok.region (OkOps.m 0 (triBox (j := 0) (cs := [cI t.Root, cI t.Next, .d (.sl (List.map Node.cs t.Nodes))]) rfl rfl rfl rfl rfl) (OkOps.x (aB false) rfl trivial rfl (OkOps.nil (Ok.seq (Ok.seq (Ok.region (OkOps.x (.c (.loc 0 1)) rfl trivial rfl (OkOps.x (aI t.Next) rfl trivial rfl (OkOps.x (aB (decide (t.Next < 2))) rfl trivial rfl (OkOps.x (aB (decide (t.Next < 2))) rfl trivial rfl (OkOps.q (triQG (x := .c (.loc 0 1)) rfl rfl trivial rfl) (OkOps.q (triQG (x := aI t.Next) rfl rfl ⟨fun h => h, trivial⟩ rfl) (OkOps.q (triQG (x := aB (decide (t.Next > 1099511627776))) rfl rfl ⟨fun h => h, trivial⟩ rfl) ?_)))))))))))))))
  refine OkOps.q (triOr rfl rfl (fun h => by rw [h]; rfl) rfl) ?_
  refine OkOps.x (aB ((decide (t.Next < 2)) || (decide (t.Next > 1099511627776)))) rfl trivial rfl (OkOps.q (triQG (x := .c (.loc 0 2)) rfl rfl trivial rfl) (OkOps.q (triQG (x := .c (.d (.sl (List.map Node.cs t.Nodes)))) rfl rfl ⟨fun h => h, trivial⟩ rfl) (OkOps.q (triLenG (enc := Node.cs) t.Nodes rfl rfl rfl ⟨fun h => h, trivial⟩ rfl) (OkOps.q (triQG (x := aB (decide ((t.Nodes.length : Int) < 1))) rfl rfl ⟨fun h => h, trivial⟩ rfl) ?_))))
  refine OkOps.q (triOr rfl rfl (fun h => by rw [h]; rfl) rfl) ?_
  refine OkOps.x (aB (((decide (t.Next < 2)) || (decide (t.Next > 1099511627776))) || (decide ((t.Nodes.length : Int) < 1)))) rfl trivial rfl (OkOps.q (triQG (x := .c (.loc 0 2)) rfl rfl trivial rfl) (OkOps.q (triQG (x := .c (.d (.sl (List.map Node.cs t.Nodes)))) rfl rfl ⟨fun h => h, trivial⟩ rfl) (OkOps.q (triLenG (enc := Node.cs) t.Nodes rfl rfl rfl ⟨fun h => h, trivial⟩ rfl) (OkOps.q (triQG (x := aB (decide ((t.Nodes.length : Int) > 400))) rfl rfl ⟨fun h => h, trivial⟩ rfl) ?_))))
  refine OkOps.q (triOr rfl rfl (fun h => by rw [h]; rfl) rfl) ?_
  refine OkOps.nil ?_
  refine Ok.cond (b := (((decide (t.Next < 2)) || (decide (t.Next > 1099511627776))) || (decide ((t.Nodes.length : Int) < 1))) || (decide ((t.Nodes.length : Int) > 400))) rfl (fun h1 => ?_) (fun h1 => ?_)
  have hr := selT h1 hr
  refine Ok.seq (Ok.region (OkOps.x (aB false) rfl trivial rfl (OkOps.nil (Ok.ret ?_))))
  obtain rfl := Option.some.inj hr
  exact ⟨_, rfl, .inl rfl, trivial⟩
  have hr := selF h1 hr
  refine Ok.skip (Ok.seq (Ok.region (OkOps.x (aI 0) rfl trivial rfl (OkOps.nil ?_))))
  obtain ⟨k3, hk3, hr⟩ := jn_some hr
  refine Ok.join (fun (s2 : Unit) => ⟨[(1, .s (.c (.loc 0 0)))], [(0, .blk [cI t.Root, cI t.Next, .d (.sl (List.map Node.cs t.Nodes))] 51)], 0⟩) k3 r (fun s2 hr => ?_) ?_
  rw [hk3] at hr
  refine Ok.seq (Ok.region (OkOps.x (.agg [cI t.Root, cI t.Next, .d (.sl (List.map Node.cs t.Nodes))]) rfl trivial rfl (OkOps.x (.c (.loc 0 0)) rfl trivial rfl (OkOps.x (aI t.Root) rfl trivial rfl ?_))))
  obtain ⟨x4, hx4, hr⟩ := bind_some hr
  refine OkOps.q (triCall (tau []) (.s (aI x4)) [] (r14_Index_c _ _ hx4) rfl ⟨.inl rfl, .inl rfl, trivial⟩ trivial entry70 trivial rfl rfl rfl rfl trivial rfl rfl rfl) (OkOps.x (aI x4) rfl trivial rfl (OkOps.nil (Ok.seq (Ok.seq (Ok.region (OkOps.x (aI x4) rfl trivial rfl (OkOps.x (aB (decide (x4 < 0))) rfl trivial rfl (OkOps.nil ?_))))))))
  refine Ok.cond (b := decide (x4 < 0)) rfl (fun h5 => ?_) (fun h5 => ?_)
  have hr := selT h5 hr
  refine Ok.seq (Ok.region (OkOps.x (aB false) rfl trivial rfl (OkOps.nil (Ok.ret ?_))))
  obtain rfl := Option.some.inj hr
  exact ⟨_, rfl, .inl rfl, trivial⟩
  have hr := selF h5 hr
  refine Ok.skip (Ok.seq (Ok.region (OkOps.x (aI 0) rfl trivial rfl (OkOps.nil ?_))))
  obtain ⟨k7, hk7, hr⟩ := jn_some hr
  refine Ok.join (fun (s6 : Int) => ⟨[(1, .s (.c (.loc 0 0))), (6, .s (aI s6))], [(0, .blk [cI t.Root, cI t.Next, .d (.sl (List.map Node.cs t.Nodes))] 51)], 0⟩) k7 r (fun s6 hr => ?_) ?_
  rw [hk7] at hr
  refine Ok.seq (Ok.seq (Ok.region (OkOps.x (aI s6) rfl trivial rfl (OkOps.x (.c (.loc 0 2)) rfl trivial rfl (OkOps.x (.c (.d (.sl (List.map Node.cs t.Nodes)))) rfl trivial rfl (OkOps.q (triLen (enc := Node.cs) t.Nodes rfl rfl trivial rfl) (OkOps.x (aI (IntKind.i64.wrap ((t.Nodes.length : Int) - 1))) rfl trivial rfl (OkOps.x (aB (s6 != (IntKind.i64.wrap ((t.Nodes.length : Int) - 1)))) rfl trivial rfl (OkOps.nil ?_)))))))))
  refine Ok.cond (b := s6 != (IntKind.i64.wrap ((t.Nodes.length : Int) - 1))) rfl (fun h8 => ?_) (fun h8 => ?_)
  have hr := selT h8 hr
  refine Ok.seq (Ok.region (OkOps.x (aB false) rfl trivial rfl (OkOps.nil (Ok.ret ?_))))
  obtain rfl := Option.some.inj hr
  exact ⟨_, rfl, .inl rfl, trivial⟩
  have hr := selF h8 hr
  refine Ok.skip (Ok.seq (Ok.regionD (by kernel_rfl) (OkD.x (.agg [cI t.Root, cI t.Next, .d (.sl (List.map Node.cs t.Nodes))]) rfl trivial rfl (OkD.x (.c (.loc 0 0)) rfl trivial rfl (OkD.x (aI t.Root) rfl trivial rfl ?_)))))
  obtain ⟨x9, hx9, hr⟩ := bind_some hr
  refine OkD.m 0 (triCall (tau [(2000, 1)]) (.s (.c (.tl 1 (List.map (eInt .i64) x9)))) [(1, .tail 1)] (Con.nilArg (args' := [.agg [cI t.Root, cI t.Next, .d (.sl (List.map Node.cs t.Nodes))], aI t.Root, .c (.d (.v (.slice none 0 0)))]) 0 (r14_order_c _ _ _ _ hx9) ⟨.inl rfl, .inl rfl, .inr ⟨rfl, .inl rfl⟩, trivial⟩ rfl (nil_tail 1 0) rfl rfl rfl rfl rfl rfl rfl) rfl ⟨.inl rfl, .inl rfl, .inl rfl, trivial⟩ trivial entry94 trivial rfl rfl rfl rfl ⟨rfl, trivial⟩ rfl rfl rfl) (OkD.q (triLen (enc := (eInt .i64)) x9 rfl rfl trivial rfl) (OkD.x (.c (.loc 0 2)) rfl trivial rfl (OkD.x (.c (.d (.sl (List.map Node.cs t.Nodes)))) rfl trivial rfl (OkD.q (triLen (enc := Node.cs) t.Nodes rfl rfl trivial rfl) (OkD.x (aB ((x9.length : Int) == (t.Nodes.length : Int))) rfl trivial rfl (OkD.x (aB ((x9.length : Int) == (t.Nodes.length : Int))) rfl trivial rfl (OkD.nil (by kernel_rfl) (Ok.ret ?_))))))))
  obtain rfl := Option.some.inj hr
  exact ⟨_, rfl, .inl rfl, trivial⟩
  clear hk7
  refine Ok.seq (Ok.region (OkOps.x (aI 0) rfl trivial rfl (OkOps.nil (Ok.block (Ok.loopK (fun (s10 : Int × Int) => ⟨[(1, .s (.c (.loc 0 0))), (5, .s (aI x4)), (6, .s (aI s10.1)), (7, .s (aI s10.2))], [(0, .blk [cI t.Root, cI t.Next, .d (.sl (List.map Node.cs t.Nodes))] 51)], 0⟩) hr (Conv.mk (tau []) ⟨⟨_, rfl, .inl rfl⟩, ⟨_, rfl, .inl rfl⟩, ⟨_, rfl, .inl rfl⟩, ⟨_, rfl, .inl rfl⟩, trivial⟩ ⟨rfl, trivial⟩ rfl rfl rfl rfl) ?_)))))
  clear hr
  intro again11 s10 hr
  unfold r14_shaped_L3 at hr
  refine Ok.seq (Ok.seq (Ok.region (OkOps.x (aI s10.2) rfl trivial rfl (OkOps.x (.c (.loc 0 2)) rfl trivial rfl (OkOps.x (.c (.d (.sl (List.map Node.cs t.Nodes)))) rfl trivial rfl (OkOps.q (triLen (enc := Node.cs) t.Nodes rfl rfl trivial rfl) (OkOps.x (aB (decide (s10.2 < (t.Nodes.length : Int)))) rfl trivial rfl (OkOps.nil ?_))))))))
  refine Ok.cond (b := decide (s10.2 < (t.Nodes.length : Int))) rfl (fun h12 => ?_) (fun h12 => ?_)
  have hr := selT h12 hr
  refine Ok.skip ?_
  obtain ⟨k14, hk14, hr⟩ := jn_some hr
  refine Ok.join (fun (s13 : Int) => ⟨[(1, .s (.c (.loc 0 0))), (5, .s (aI x4)), (6, .s (aI s13)), (7, .s (aI s10.2))], [(0, .blk [cI t.Root, cI t.Next, .d (.sl (List.map Node.cs t.Nodes))] 51)], 0⟩) k14 r (fun s13 hr => ?_) ?_
  rw [hk14] at hr
  refine Ok.region (OkOps.x (aI s10.2) rfl trivial rfl (OkOps.x (aI (IntKind.i64.wrap (s10.2 + 1))) rfl trivial rfl (OkOps.x (aI (IntKind.i64.wrap (s10.2 + 1))) rfl trivial rfl (OkOps.nil ?_))))
  exact ⟨(s13, IntKind.i64.wrap (s10.2 + 1)), hr, (Conv.mk (tau []) ⟨⟨_, rfl, .inl rfl⟩, ⟨_, rfl, .inl rfl⟩, ⟨_, rfl, .inl rfl⟩, ⟨_, rfl, .inl rfl⟩, trivial⟩ ⟨rfl, trivial⟩ rfl rfl rfl rfl)⟩
  clear hk14
  refine Ok.block (Ok.seq (Ok.region (OkOps.x (.c (.loc 0 2)) rfl trivial rfl (OkOps.x (.c (.d (.sl (List.map Node.cs t.Nodes)))) rfl trivial rfl (OkOps.x (aI s10.2) rfl trivial rfl ?_)))))
  obtain ⟨x15, hx15, hr⟩ := bind_some hr
  refine OkOps.q (triIdx (enc := Node.cs) (L := t.Nodes) (row := [dI x15.ID, dI x15.Parent, dI x15.Kind, dS x15.Key, .sl (List.map Attr.cs x15.Attrs), .sl (List.map Action.cs x15.Actions), .sl (List.map (eInt .i64) x15.Kids)]) hx15 rfl rfl rfl rfl (fun _ => rfl) trivial rfl) (OkOps.x (.agg [cI x15.ID, cI x15.Parent, cI x15.Kind, cS x15.Key, .d (.sl (List.map Attr.cs x15.Attrs)), .d (.sl (List.map Action.cs x15.Actions)), .d (.sl (List.map (eInt .i64) x15.Kids))]) rfl trivial rfl (OkOps.m 0 (triAlloc (j := 2) (cs := [cI 0, cI 0, cI 0, cS ByteArray.empty, .d (.v (.slice none 0 0)), .d (.v (.slice none 0 0)), .d (.v (.slice none 0 0))]) rfl rfl rfl rfl) (OkOps.w (triStore (cs' := [cI x15.ID, cI x15.Parent, cI x15.Kind, cS x15.Key, .d (.sl (List.map Attr.cs x15.Attrs)), .d (.sl (List.map Action.cs x15.Actions)), .d (.sl (List.map (eInt .i64) x15.Kids))]) rfl rfl rfl rfl rfl rfl rfl rfl rfl) (OkOps.nil (Ok.seq (Ok.seq (Ok.region (OkOps.x (.c (.loc 2 1)) rfl trivial rfl (OkOps.x (aI x15.Parent) rfl trivial rfl (OkOps.x (aB (x15.Parent == 0)) rfl trivial rfl (OkOps.x (aI s10.2) rfl trivial rfl (OkOps.x (aI x4) rfl trivial rfl (OkOps.x (aB (s10.2 == x4)) rfl trivial rfl (OkOps.x (aB ((x15.Parent == 0) != (s10.2 == x4))) rfl trivial rfl (OkOps.nil ?_)))))))))))))))
  refine Ok.cond (b := (x15.Parent == 0) != (s10.2 == x4)) rfl (fun h16 => ?_) (fun h16 => ?_)
  have hr := selT h16 hr
  refine Ok.seq (Ok.region (OkOps.x (aB false) rfl trivial rfl (OkOps.nil (Ok.ret ?_))))
  obtain rfl := Option.some.inj hr
  exact ⟨_, rfl, .inl rfl, trivial⟩
  have hr := selF h16 hr
  refine Ok.skip (Ok.seq (Ok.seq (Ok.region (OkOps.x (.c (.loc 2 6)) rfl trivial rfl (OkOps.x (.c (.d (.sl (List.map (eInt .i64) x15.Kids)))) rfl trivial rfl (OkOps.q (triLen (enc := (eInt .i64)) x15.Kids rfl rfl trivial rfl) (OkOps.x (.c (.loc 0 2)) rfl trivial rfl (OkOps.x (.c (.d (.sl (List.map Node.cs t.Nodes)))) rfl trivial rfl (OkOps.q (triLen (enc := Node.cs) t.Nodes rfl rfl trivial rfl) (OkOps.x (aB (decide ((x15.Kids.length : Int) > (t.Nodes.length : Int)))) rfl trivial rfl (OkOps.nil ?_)))))))))))
  refine Ok.cond (b := decide ((x15.Kids.length : Int) > (t.Nodes.length : Int))) rfl (fun h17 => ?_) (fun h17 => ?_)
  have hr := selT h17 hr
  refine Ok.seq (Ok.region (OkOps.x (aB false) rfl trivial rfl (OkOps.nil (Ok.ret ?_))))
  obtain rfl := Option.some.inj hr
  exact ⟨_, rfl, .inl rfl, trivial⟩
  have hr := selF h17 hr
  refine Ok.skip (Ok.seq (Ok.region (OkOps.x (aI 0) rfl trivial rfl (OkOps.nil ?_))))
  obtain ⟨k19, hk19, hr⟩ := jn_some hr
  refine Ok.joinEnd (fun (s18 : Int) => ⟨[(1, .s (.c (.loc 0 0))), (5, .s (aI x4)), (6, .s (aI s18)), (7, .s (aI s10.2))], [(0, .blk [cI t.Root, cI t.Next, .d (.sl (List.map Node.cs t.Nodes))] 51)], 0⟩) k19 r (fun s18 hr => ?_) ?_
  rw [hk19] at hr
  exact ⟨s18, hr, (Conv.mk (tau []) ⟨⟨_, rfl, .inl rfl⟩, ⟨_, rfl, .inl rfl⟩, ⟨_, rfl, .inl rfl⟩, ⟨_, rfl, .inl rfl⟩, trivial⟩ ⟨rfl, trivial⟩ rfl rfl rfl rfl)⟩
  clear hk19
  refine Ok.block (Ok.loopK (fun (s20 : Int × Int) => ⟨[(1, .s (.c (.loc 0 0))), (5, .s (aI x4)), (6, .s (aI s20.1)), (7, .s (aI s10.2)), (8, .s (.c (.loc 2 0))), (9, .s (aI s20.2))], [(0, .blk [cI t.Root, cI t.Next, .d (.sl (List.map Node.cs t.Nodes))] 51), (2, .blk [cI x15.ID, cI x15.Parent, cI x15.Kind, cS x15.Key, .d (.sl (List.map Attr.cs x15.Attrs)), .d (.sl (List.map Action.cs x15.Actions)), .d (.sl (List.map (eInt .i64) x15.Kids))] 55)], 0⟩) hr (Conv.mk (tau []) ⟨⟨_, rfl, .inl rfl⟩, ⟨_, rfl, .inl rfl⟩, ⟨_, rfl, .inl rfl⟩, ⟨_, rfl, .inl rfl⟩, ⟨_, rfl, .inl rfl⟩, ⟨_, rfl, .inl rfl⟩, trivial⟩ ⟨rfl, rfl, trivial⟩ rfl rfl rfl rfl) ?_)
  clear hr
  intro again21 s20 hr
  unfold r14_shaped_L2 at hr
  refine Ok.seq (Ok.seq (Ok.region (OkOps.x (aI s20.2) rfl trivial rfl (OkOps.x (.c (.loc 2 6)) rfl trivial rfl (OkOps.x (.c (.d (.sl (List.map (eInt .i64) x15.Kids)))) rfl trivial rfl (OkOps.q (triLen (enc := (eInt .i64)) x15.Kids rfl rfl trivial rfl) (OkOps.x (aB (decide (s20.2 < (x15.Kids.length : Int)))) rfl trivial rfl (OkOps.nil ?_))))))))
  refine Ok.cond (b := decide (s20.2 < (x15.Kids.length : Int))) rfl (fun h22 => ?_) (fun h22 => ?_)
  have hr := selT h22 hr
  refine Ok.skip ?_
  obtain ⟨k24, hk24, hr⟩ := jn_some hr
  refine Ok.join (fun (s23 : Unit) => ⟨[(1, .s (.c (.loc 0 0))), (5, .s (aI x4)), (6, .s (aI (IntKind.i64.wrap (s20.1 + 1)))), (7, .s (aI s10.2)), (8, .s (.c (.loc 2 0))), (9, .s (aI s20.2))], [(0, .blk [cI t.Root, cI t.Next, .d (.sl (List.map Node.cs t.Nodes))] 51), (2, .blk [cI x15.ID, cI x15.Parent, cI x15.Kind, cS x15.Key, .d (.sl (List.map Attr.cs x15.Attrs)), .d (.sl (List.map Action.cs x15.Actions)), .d (.sl (List.map (eInt .i64) x15.Kids))] 55)], 0⟩) k24 r (fun s23 hr => ?_) ?_
  rw [hk24] at hr
  refine Ok.region (OkOps.x (aI s20.2) rfl trivial rfl (OkOps.x (aI (IntKind.i64.wrap (s20.2 + 1))) rfl trivial rfl (OkOps.x (aI (IntKind.i64.wrap (s20.2 + 1))) rfl trivial rfl (OkOps.nil ?_))))
  exact ⟨(IntKind.i64.wrap (s20.1 + 1), IntKind.i64.wrap (s20.2 + 1)), hr, (Conv.mk (tau []) ⟨⟨_, rfl, .inl rfl⟩, ⟨_, rfl, .inl rfl⟩, ⟨_, rfl, .inl rfl⟩, ⟨_, rfl, .inl rfl⟩, ⟨_, rfl, .inl rfl⟩, ⟨_, rfl, .inl rfl⟩, trivial⟩ ⟨rfl, rfl, trivial⟩ rfl rfl rfl rfl)⟩
  clear hk24
  refine Ok.block (Ok.seq (Ok.regionD (by kernel_rfl) (OkD.x (.agg [cI t.Root, cI t.Next, .d (.sl (List.map Node.cs t.Nodes))]) rfl trivial rfl (OkD.x (.c (.loc 2 6)) rfl trivial rfl (OkD.x (.c (.d (.sl (List.map (eInt .i64) x15.Kids)))) rfl trivial rfl (OkD.x (aI s20.2) rfl trivial rfl ?_))))))
  obtain ⟨x25, hx25, hr⟩ := bind_some hr
  refine OkD.q (triIdx (enc := (eInt .i64)) (L := x15.Kids) (row := [dI x25]) hx25 rfl rfl rfl rfl (fun _ => rfl) trivial rfl) (OkD.x (aI x25) rfl trivial rfl ?_)
  obtain ⟨x26, hx26, hr⟩ := bind_some hr
  refine OkD.q (triCall (tau []) (.s (aI x26)) [] (r14_Index_c _ _ hx26) rfl ⟨.inl rfl, .inl rfl, trivial⟩ trivial entry70 trivial rfl rfl rfl rfl trivial rfl rfl rfl) (OkD.x (aI x26) rfl trivial rfl (OkD.nil (by kernel_rfl) (Ok.seq (Ok.seq (Ok.regionD (by kernel_rfl) (OkD.x (aI x26) rfl trivial rfl (OkD.x (aB (decide (x26 < 0))) rfl trivial rfl (OkD.x (aB (decide (x26 < 0))) rfl trivial rfl (OkD.q (triQG (x := .c (.loc 0 2)) rfl rfl trivial rfl) (OkD.q (triQG (x := .c (.d (.sl (List.map Node.cs t.Nodes)))) rfl rfl ⟨fun h => h, trivial⟩ rfl) (OkD.q (triQG (x := aI x26) rfl rfl trivial rfl) ?_)))))))))))
  obtain ⟨x27, hx27, hr⟩ := bind_some hr
  refine OkD.q (triIdxG (enc := Node.cs) (L := t.Nodes) (row := [dI x27.ID, dI x27.Parent, dI x27.Kind, dS x27.Key, .sl (List.map Attr.cs x27.Attrs), .sl (List.map Action.cs x27.Actions), .sl (List.map (eInt .i64) x27.Kids)]) (gO_t hx27) rfl rfl rfl rfl rfl (fun _ => rfl) ⟨fun h => h, ⟨fun h => h, trivial⟩⟩ rfl) (OkD.q (triQG (x := .c (.pt [dI x27.Parent, dI x27.Kind, dS x27.Key, .sl (List.map Attr.cs x27.Attrs), .sl (List.map Action.cs x27.Actions), .sl (List.map (eInt .i64) x27.Kids)])) rfl rfl ⟨fun h => h, trivial⟩ rfl) (OkD.q (triQG (x := aI x27.Parent) rfl rfl ⟨fun h => h, trivial⟩ rfl) (OkD.q (triQG (x := .c (.loc 2 0)) rfl rfl trivial rfl) (OkD.q (triQG (x := aI x15.ID) rfl rfl ⟨fun h => h, trivial⟩ rfl) (OkD.q (triQG (x := aB (x27.Parent != x15.ID)) rfl rfl ⟨fun h => h, ⟨fun h => h, trivial⟩⟩ rfl) ?_)))))
  refine OkD.q (triOr rfl rfl (fun h => by rw [h]; rfl) rfl) ?_
  refine OkD.nil (by kernel_rfl) ?_
  refine Ok.cond (b := (decide (x26 < 0)) || (x27.Parent != x15.ID)) rfl (fun h28 => ?_) (fun h28 => ?_)
  have hr := selT h28 hr
  refine Ok.seq (Ok.region (OkOps.x (aB false) rfl trivial rfl (OkOps.nil (Ok.ret ?_))))
  obtain rfl := Option.some.inj hr
  exact ⟨_, rfl, .inl rfl, trivial⟩
  have hr := selF h28 hr
  refine Ok.skip ?_
  obtain ⟨k30, hk30, hr⟩ := jn_some hr
  refine Ok.join (fun (s29 : Unit) => ⟨[(1, .s (.c (.loc 0 0))), (5, .s (aI x4)), (6, .s (aI s20.1)), (7, .s (aI s10.2)), (8, .s (.c (.loc 2 0))), (9, .s (aI s20.2))], [(0, .blk [cI t.Root, cI t.Next, .d (.sl (List.map Node.cs t.Nodes))] 51), (2, .blk [cI x15.ID, cI x15.Parent, cI x15.Kind, cS x15.Key, .d (.sl (List.map Attr.cs x15.Attrs)), .d (.sl (List.map Action.cs x15.Actions)), .d (.sl (List.map (eInt .i64) x15.Kids))] 55)], 0⟩) k30 r (fun s29 hr => ?_) ?_
  rw [hk30] at hr
  refine Ok.region (OkOps.x (aI s20.1) rfl trivial rfl (OkOps.x (aI (IntKind.i64.wrap (s20.1 + 1))) rfl trivial rfl (OkOps.x (aI (IntKind.i64.wrap (s20.1 + 1))) rfl trivial rfl (OkOps.nil ?_))))
  exact ⟨(), hr, (Conv.mk (tau []) ⟨⟨_, rfl, .inl rfl⟩, ⟨_, rfl, .inl rfl⟩, ⟨_, rfl, .inl rfl⟩, ⟨_, rfl, .inl rfl⟩, ⟨_, rfl, .inl rfl⟩, ⟨_, rfl, .inl rfl⟩, trivial⟩ ⟨rfl, rfl, trivial⟩ rfl rfl rfl rfl)⟩
  clear hk30
  refine Ok.seq (Ok.region (OkOps.x (aI 0) rfl trivial rfl (OkOps.nil (Ok.block (Ok.loopK (fun (s31 : Int) => ⟨[(1, .s (.c (.loc 0 0))), (5, .s (aI x4)), (6, .s (aI s20.1)), (7, .s (aI s10.2)), (8, .s (.c (.loc 2 0))), (9, .s (aI s20.2)), (11, .s (aI s31))], [(0, .blk [cI t.Root, cI t.Next, .d (.sl (List.map Node.cs t.Nodes))] 51), (2, .blk [cI x15.ID, cI x15.Parent, cI x15.Kind, cS x15.Key, .d (.sl (List.map Attr.cs x15.Attrs)), .d (.sl (List.map Action.cs x15.Actions)), .d (.sl (List.map (eInt .i64) x15.Kids))] 55)], 0⟩) hr (Conv.mk (tau []) ⟨⟨_, rfl, .inl rfl⟩, ⟨_, rfl, .inl rfl⟩, ⟨_, rfl, .inl rfl⟩, ⟨_, rfl, .inl rfl⟩, ⟨_, rfl, .inl rfl⟩, ⟨_, rfl, .inl rfl⟩, ⟨_, rfl, .inl rfl⟩, trivial⟩ ⟨rfl, rfl, trivial⟩ rfl rfl rfl rfl) ?_)))))
  clear hr
  intro again32 s31 hr
  unfold r14_shaped_L1 at hr
  refine Ok.seq (Ok.seq (Ok.region (OkOps.x (aI s31) rfl trivial rfl (OkOps.x (aI s20.2) rfl trivial rfl (OkOps.x (aB (decide (s31 < s20.2))) rfl trivial rfl (OkOps.nil ?_))))))
  refine Ok.cond (b := decide (s31 < s20.2)) rfl (fun h33 => ?_) (fun h33 => ?_)
  have hr := selT h33 hr
  refine Ok.skip (Ok.seq (Ok.block (Ok.seq (Ok.regionD (by kernel_rfl) (OkD.x (.c (.loc 2 6)) rfl trivial rfl (OkD.x (.c (.d (.sl (List.map (eInt .i64) x15.Kids)))) rfl trivial rfl (OkD.x (aI s31) rfl trivial rfl ?_)))))))
  obtain ⟨x34, hx34, hr⟩ := bind_some hr
  refine OkD.q (triIdx (enc := (eInt .i64)) (L := x15.Kids) (row := [dI x34]) hx34 rfl rfl rfl rfl (fun _ => rfl) trivial rfl) (OkD.x (aI x34) rfl trivial rfl (OkD.x (.c (.loc 2 6)) rfl trivial rfl (OkD.x (.c (.d (.sl (List.map (eInt .i64) x15.Kids)))) rfl trivial rfl (OkD.x (aI s20.2) rfl trivial rfl ?_))))
  obtain ⟨x35, hx35, hr⟩ := bind_some hr
  refine OkD.q (triIdx (enc := (eInt .i64)) (L := x15.Kids) (row := [dI x35]) hx35 rfl rfl rfl rfl (fun _ => rfl) trivial rfl) (OkD.x (aI x35) rfl trivial rfl (OkD.x (aB (x34 == x35)) rfl trivial rfl (OkD.nil (by kernel_rfl) ?_)))
  refine Ok.cond (b := x34 == x35) rfl (fun h36 => ?_) (fun h36 => ?_)
  have hr := selT h36 hr
  refine Ok.seq (Ok.region (OkOps.x (aB false) rfl trivial rfl (OkOps.nil (Ok.ret ?_))))
  obtain rfl := Option.some.inj hr
  exact ⟨_, rfl, .inl rfl, trivial⟩
  have hr := selF h36 hr
  refine Ok.skip (Ok.region (OkOps.x (aI s31) rfl trivial rfl (OkOps.x (aI (IntKind.i64.wrap (s31 + 1))) rfl trivial rfl (OkOps.x (aI (IntKind.i64.wrap (s31 + 1))) rfl trivial rfl (OkOps.nil ?_)))))
  exact ⟨IntKind.i64.wrap (s31 + 1), hr, (Conv.mk (tau []) ⟨⟨_, rfl, .inl rfl⟩, ⟨_, rfl, .inl rfl⟩, ⟨_, rfl, .inl rfl⟩, ⟨_, rfl, .inl rfl⟩, ⟨_, rfl, .inl rfl⟩, ⟨_, rfl, .inl rfl⟩, ⟨_, rfl, .inl rfl⟩, trivial⟩ ⟨rfl, rfl, trivial⟩ rfl rfl rfl rfl)⟩
  have hr := selF h33 hr
  refine Ok.exit ?_
  exact ⟨(), hr, (Conv.mk (tau []) ⟨⟨_, rfl, .inl rfl⟩, ⟨_, rfl, .inl rfl⟩, ⟨_, rfl, .inl rfl⟩, ⟨_, rfl, .inl rfl⟩, ⟨_, rfl, .inl rfl⟩, ⟨_, rfl, .inl rfl⟩, trivial⟩ ⟨rfl, rfl, trivial⟩ rfl rfl rfl rfl)⟩
  have hr := selF h22 hr
  refine Ok.exit ?_
  exact ⟨s20.1, hr, (Conv.mk (tau []) ⟨⟨_, rfl, .inl rfl⟩, ⟨_, rfl, .inl rfl⟩, ⟨_, rfl, .inl rfl⟩, ⟨_, rfl, .inl rfl⟩, trivial⟩ ⟨rfl, trivial⟩ rfl rfl rfl rfl)⟩
  have hr := selF h12 hr
  refine Ok.exit ?_
  exact ⟨s10.1, hr, (Conv.mk (tau []) ⟨⟨_, rfl, .inl rfl⟩, ⟨_, rfl, .inl rfl⟩, trivial⟩ ⟨rfl, trivial⟩ rfl rfl rfl rfl)⟩
  clear hk3
  refine Ok.seq (Ok.region (OkOps.x (aI 0) rfl trivial rfl (OkOps.nil (Ok.block (Ok.loopK (fun (s37 : Int × Int) => ⟨[(1, .s (.c (.loc 0 0))), (3, .s (aI s37.1)), (4, .s (aI s37.2))], [(0, .blk [cI t.Root, cI t.Next, .d (.sl (List.map Node.cs t.Nodes))] 51)], 0⟩) hr (Conv.mk (tau []) ⟨⟨_, rfl, .inl rfl⟩, ⟨_, rfl, .inl rfl⟩, ⟨_, rfl, .inl rfl⟩, trivial⟩ ⟨rfl, trivial⟩ rfl rfl rfl rfl) ?_)))))
  clear hr
  intro again38 s37 hr
  unfold r14_shaped_L4 at hr
  refine Ok.seq (Ok.seq (Ok.region (OkOps.x (aI s37.2) rfl trivial rfl (OkOps.x (.c (.loc 0 2)) rfl trivial rfl (OkOps.x (.c (.d (.sl (List.map Node.cs t.Nodes)))) rfl trivial rfl (OkOps.q (triLen (enc := Node.cs) t.Nodes rfl rfl trivial rfl) (OkOps.x (aB (decide (s37.2 < (t.Nodes.length : Int)))) rfl trivial rfl (OkOps.nil ?_))))))))
  refine Ok.cond (b := decide (s37.2 < (t.Nodes.length : Int))) rfl (fun h39 => ?_) (fun h39 => ?_)
  have hr := selT h39 hr
  refine Ok.skip (Ok.seq (Ok.block (Ok.seq (Ok.seq (Ok.regionD (by kernel_rfl) (OkD.x (.c (.loc 0 2)) rfl trivial rfl (OkD.x (.c (.d (.sl (List.map Node.cs t.Nodes)))) rfl trivial rfl (OkD.x (aI s37.2) rfl trivial rfl ?_))))))))
  obtain ⟨x40, hx40, hr⟩ := bind_some hr
  refine OkD.q (triIdx (enc := Node.cs) (L := t.Nodes) (row := [dI x40.ID, dI x40.Parent, dI x40.Kind, dS x40.Key, .sl (List.map Attr.cs x40.Attrs), .sl (List.map Action.cs x40.Actions), .sl (List.map (eInt .i64) x40.Kids)]) hx40 rfl rfl rfl rfl (fun _ => rfl) trivial rfl) (OkD.x (.c (.pt [dI x40.ID, dI x40.Parent, dI x40.Kind, dS x40.Key, .sl (List.map Attr.cs x40.Attrs), .sl (List.map Action.cs x40.Actions), .sl (List.map (eInt .i64) x40.Kids)])) rfl trivial rfl (OkD.x (aI x40.ID) rfl trivial rfl (OkD.x (aI s37.1) rfl trivial rfl (OkD.x (aB (decide (x40.ID ≤ s37.1))) rfl trivial rfl (OkD.x (aB (decide (x40.ID ≤ s37.1))) rfl trivial rfl (OkD.q (triQG (x := .c (.loc 0 2)) rfl rfl trivial rfl) (OkD.q (triQG (x := .c (.d (.sl (List.map Node.cs t.Nodes)))) rfl rfl ⟨fun h => h, trivial⟩ rfl) (OkD.q (triQG (x := aI s37.2) rfl rfl trivial rfl) ?_))))))))
  obtain ⟨x41, hx41, hr⟩ := bind_some hr
  refine OkD.q (triIdxG (enc := Node.cs) (L := t.Nodes) (row := [dI x41.ID, dI x41.Parent, dI x41.Kind, dS x41.Key, .sl (List.map Attr.cs x41.Attrs), .sl (List.map Action.cs x41.Actions), .sl (List.map (eInt .i64) x41.Kids)]) (gO_t hx41) rfl rfl rfl rfl rfl (fun _ => rfl) ⟨fun h => h, ⟨fun h => h, trivial⟩⟩ rfl) (OkD.q (triQG (x := .c (.pt [dI x41.ID, dI x41.Parent, dI x41.Kind, dS x41.Key, .sl (List.map Attr.cs x41.Attrs), .sl (List.map Action.cs x41.Actions), .sl (List.map (eInt .i64) x41.Kids)])) rfl rfl ⟨fun h => h, trivial⟩ rfl) (OkD.q (triQG (x := aI x41.ID) rfl rfl ⟨fun h => h, trivial⟩ rfl) (OkD.q (triQG (x := .c (.loc 0 1)) rfl rfl trivial rfl) (OkD.q (triQG (x := aI t.Next) rfl rfl ⟨fun h => h, trivial⟩ rfl) (OkD.q (triQG (x := aB (decide (x41.ID ≥ t.Next))) rfl rfl ⟨fun h => h, ⟨fun h => h, trivial⟩⟩ rfl) ?_)))))
  refine OkD.q (triOr rfl rfl (fun h => by rw [h]; rfl) rfl) ?_
  refine OkD.nil (by kernel_rfl) ?_
  refine Ok.cond (b := (decide (x40.ID ≤ s37.1)) || (decide (x41.ID ≥ t.Next))) rfl (fun h42 => ?_) (fun h42 => ?_)
  have hr := selT h42 hr
  refine Ok.seq (Ok.region (OkOps.x (aB false) rfl trivial rfl (OkOps.nil (Ok.ret ?_))))
  obtain rfl := Option.some.inj hr
  exact ⟨_, rfl, .inl rfl, trivial⟩
  have hr := selF h42 hr
  refine Ok.skip (Ok.region (OkOps.x (.c (.loc 0 2)) rfl trivial rfl (OkOps.x (.c (.d (.sl (List.map Node.cs t.Nodes)))) rfl trivial rfl (OkOps.x (aI s37.2) rfl trivial rfl ?_))))
  obtain ⟨x43, hx43, hr⟩ := bind_some hr
  refine OkOps.q (triIdx (enc := Node.cs) (L := t.Nodes) (row := [dI x43.ID, dI x43.Parent, dI x43.Kind, dS x43.Key, .sl (List.map Attr.cs x43.Attrs), .sl (List.map Action.cs x43.Actions), .sl (List.map (eInt .i64) x43.Kids)]) hx43 rfl rfl rfl rfl (fun _ => rfl) trivial rfl) (OkOps.x (.c (.pt [dI x43.ID, dI x43.Parent, dI x43.Kind, dS x43.Key, .sl (List.map Attr.cs x43.Attrs), .sl (List.map Action.cs x43.Actions), .sl (List.map (eInt .i64) x43.Kids)])) rfl trivial rfl (OkOps.x (aI x43.ID) rfl trivial rfl (OkOps.x (aI x43.ID) rfl trivial rfl (OkOps.nil (Ok.region (OkOps.x (aI s37.2) rfl trivial rfl (OkOps.x (aI (IntKind.i64.wrap (s37.2 + 1))) rfl trivial rfl (OkOps.x (aI (IntKind.i64.wrap (s37.2 + 1))) rfl trivial rfl (OkOps.nil ?_)))))))))
  exact ⟨(x43.ID, IntKind.i64.wrap (s37.2 + 1)), hr, (Conv.mk (tau []) ⟨⟨_, rfl, .inl rfl⟩, ⟨_, rfl, .inl rfl⟩, ⟨_, rfl, .inl rfl⟩, trivial⟩ ⟨rfl, trivial⟩ rfl rfl rfl rfl)⟩
  have hr := selF h39 hr
  refine Ok.exit ?_
  exact ⟨(), hr, (Conv.mk (tau []) ⟨⟨_, rfl, .inl rfl⟩, trivial⟩ ⟨rfl, trivial⟩ rfl rfl rfl rfl)⟩
theorem entry93 : Entry Tryd.prog 93 := ⟨_, Tryd.func93, by kernel_rfl, by kernel_rfl⟩
theorem entry92 : Entry Tryd.prog 92 := ⟨_, Tryd.func92, by kernel_rfl, by kernel_rfl⟩
theorem r14_describe_B_c (self0 : Tree → Int → Option View) (hself0 : ∀ (t : Tree) (id : Int) {r : View}, self0 t id = some r → Con Tryd.prog 92 [.agg [cI t.Root, cI t.Next, .d (.sl (List.map Node.cs t.Nodes))], aI id] [] (.s (.agg [cI r.Kind, cS r.Key, .d (.sl (List.map Attr.cs r.Attrs)), .d (.sl (List.map Action.cs r.Actions)), .d (.sl (List.map View.cs r.Kids))])) []) (t : Tree) (id : Int) {r : View} (hr : r14_describe_B self0 t id = some r) : Con Tryd.prog 92 [.agg [cI t.Root, cI t.Next, .d (.sl (List.map Node.cs t.Nodes))], aI id] [] (.s (.agg [cI r.Kind, cS r.Key, .d (.sl (List.map Attr.cs r.Attrs)), .d (.sl (List.map Action.cs r.Actions)), .d (.sl (List.map View.cs r.Kids))])) [] := by
  unfold r14_describe_B at hr
  refine Con.of_ok 40 0 [.cell 4 31] [(0, .s (.agg [cI t.Root, cI t.Next, .d (.sl (List.map Node.cs t.Nodes))])), (1, .s (aI id))] Tryd.func92 rfl rfl rfl rfl rfl rfl rfl rfl fun w g M ρ _ => (Ok.seq (Ok.region (OkOps.m 0 (triBox (j := 0) (cs := [cI t.Root, cI t.Next, .d (.sl (List.map Node.cs t.Nodes))]) rfl rfl rfl rfl rfl) (OkOps.m 0 (triAlloc (j := 1) (cs := [cI 0, cS ByteArray.empty, .d (.v (.slice none 0 0)), .d (.v (.slice none 0 0)), .d (.v (.slice none 0 0))]) rfl rfl rfl rfl) (OkOps.nil (Ok.seq (Ok.region (OkOps.x (.agg [cI t.Root, cI t.Next, .d (.sl (List.map Node.cs t.Nodes))]) rfl trivial rfl (OkOps.x (aI id) rfl trivial rfl ?_)))))))))
  obtain ⟨x1, hx1, hr⟩ := bind_some hr
  refine OkOps.q (triCall (tau []) (.s (.agg [cI x1.ID, cI x1.Parent, cI x1.Kind, cS x1.Key, .d (.sl (List.map Attr.cs x1.Attrs)), .d (.sl (List.map Action.cs x1.Actions)), .d (.sl (List.map (eInt .i64) x1.Kids))])) [] (r14_Node_c _ _ hx1) rfl ⟨.inl rfl, .inl rfl, trivial⟩ trivial entry96 trivial rfl rfl rfl rfl trivial rfl rfl rfl) (OkOps.m 0 (triAlloc (j := 2) (cs := [cI 0, cI 0, cI 0, cS ByteArray.empty, .d (.v (.slice none 0 0)), .d (.v (.slice none 0 0)), .d (.v (.slice none 0 0))]) rfl rfl rfl rfl) (OkOps.w (triStore (cs' := [cI x1.ID, cI x1.Parent, cI x1.Kind, cS x1.Key, .d (.sl (List.map Attr.cs x1.Attrs)), .d (.sl (List.map Action.cs x1.Actions)), .d (.sl (List.map (eInt .i64) x1.Kids))]) rfl rfl rfl rfl rfl rfl rfl rfl rfl) (OkOps.nil (Ok.seq (Ok.region (OkOps.x (.c (.loc 2 2)) rfl trivial rfl (OkOps.x (aI x1.Kind) rfl trivial rfl (OkOps.x (.c (.loc 2 3)) rfl trivial rfl (OkOps.x (aS x1.Key) rfl trivial rfl (OkOps.x (.c (.loc 2 4)) rfl trivial rfl (OkOps.x (.c (.d (.sl (List.map Attr.cs x1.Attrs)))) rfl trivial rfl (OkOps.x (.c (.loc 2 5)) rfl trivial rfl (OkOps.x (.c (.d (.sl (List.map Action.cs x1.Actions)))) rfl trivial rfl (OkOps.x (.agg [cI x1.Kind, cS x1.Key, .d (.sl (List.map Attr.cs x1.Attrs)), .d (.sl (List.map Action.cs x1.Actions)), .d (.v (.slice none 0 0))]) rfl trivial rfl (OkOps.m 0 (triAlloc (j := 3) (cs := [cI 0, cS ByteArray.empty, .d (.v (.slice none 0 0)), .d (.v (.slice none 0 0)), .d (.v (.slice none 0 0))]) rfl rfl rfl rfl) ?_)))))))))))))))
  refine OkOps.w (triStore (cs' := [cI x1.Kind, cS x1.Key, .d (.sl (List.map Attr.cs x1.Attrs)), .d (.sl (List.map Action.cs x1.Actions)), .d (.v (.slice none 0 0))]) rfl rfl rfl rfl rfl rfl rfl rfl rfl) (OkOps.nil ?_)
  obtain ⟨k3, hk3, hr⟩ := jn_some hr
  refine Ok.join (fun (s2 : (List View)) => ⟨[(4, .s (.c (.loc 1 0))), (6, .s (.c (.loc 3 0)))], [(1, .blk [cI 0, cS ByteArray.empty, .d (.v (.slice none 0 0)), .d (.v (.slice none 0 0)), .d (.v (.slice none 0 0))] 31), (3, .blk [cI x1.Kind, cS x1.Key, .d (.sl (List.map Attr.cs x1.Attrs)), .d (.sl (List.map Action.cs x1.Actions)), .tl 1004 (List.map View.cs s2)] 31), (1004, .tail 5)], 0⟩) k3 r (fun s2 hr => ?_) ?_
  rw [hk3] at hr
  refine Ok.seq (Ok.region (OkOps.x (.agg [cI x1.Kind, cS x1.Key, .d (.sl (List.map Attr.cs x1.Attrs)), .d (.sl (List.map Action.cs x1.Actions)), .tl 1004 (List.map View.cs s2)]) rfl trivial rfl (OkOps.w (triStore (cs' := [cI x1.Kind, cS x1.Key, .d (.sl (List.map Attr.cs x1.Attrs)), .d (.sl (List.map Action.cs x1.Actions)), .tl 1004 (List.map View.cs s2)]) rfl rfl rfl rfl rfl rfl rfl rfl rfl) (OkOps.nil (Ok.ret ?_)))))
  obtain rfl := Option.some.inj hr
  exact ⟨_, rfl, .inr rfl, trivial⟩
  clear hk3
  refine Ok.seq (Ok.region (OkOps.x (aI 0) rfl trivial rfl (OkOps.nil (Ok.block (Ok.loopK (fun (s4 : Int × (List View)) => ⟨[(2, .s (.c (.loc 0 0))), (4, .s (.c (.loc 1 0))), (5, .s (.c (.loc 2 0))), (6, .s (.c (.loc 3 0))), (7, .s (aI s4.1))], [(0, .blk [cI t.Root, cI t.Next, .d (.sl (List.map Node.cs t.Nodes))] 51), (1, .blk [cI 0, cS ByteArray.empty, .d (.v (.slice none 0 0)), .d (.v (.slice none 0 0)), .d (.v (.slice none 0 0))] 31), (2, .blk [cI x1.ID, cI x1.Parent, cI x1.Kind, cS x1.Key, .d (.sl (List.map Attr.cs x1.Attrs)), .d (.sl (List.map Action.cs x1.Actions)), .d (.sl (List.map (eInt .i64) x1.Kids))] 55), (3, .blk [cI x1.Kind, cS x1.Key, .d (.sl (List.map Attr.cs x1.Attrs)), .d (.sl (List.map Action.cs x1.Actions)), .tl 1007 (List.map View.cs s4.2)] 31), (1007, .tail 5)], 0⟩) hr (Conv.trans (Conv.nilO 3 4 1009 5 [cI x1.Kind, cS x1.Key, .d (.sl (List.map Attr.cs x1.Attrs)), .d (.sl (List.map Action.cs x1.Actions)), .d (.v (.slice none 0 0))] [cI x1.Kind, cS x1.Key, .d (.sl (List.map Attr.cs x1.Attrs)), .d (.sl (List.map Action.cs x1.Actions)), .tl 1009 (List.map View.cs ([] : (List View)))] 31 0 rfl rfl rfl rfl) (Conv.mk (tau [(1007, 1009)]) ⟨⟨_, rfl, .inl rfl⟩, ⟨_, rfl, .inl rfl⟩, ⟨_, rfl, .inl rfl⟩, ⟨_, rfl, .inl rfl⟩, ⟨_, rfl, .inl rfl⟩, trivial⟩ ⟨rfl, rfl, rfl, rfl, rfl, trivial⟩ rfl rfl rfl rfl)) ?_)))))
  clear hr
  intro again5 s4 hr
  unfold r14_describe_L1 at hr
  refine Ok.seq (Ok.seq (Ok.region (OkOps.x (aI s4.1) rfl trivial rfl (OkOps.x (.c (.loc 2 6)) rfl trivial rfl (OkOps.x (.c (.d (.sl (List.map (eInt .i64) x1.Kids)))) rfl trivial rfl (OkOps.q (triLen (enc := (eInt .i64)) x1.Kids rfl rfl trivial rfl) (OkOps.x (aB (decide (s4.1 < (x1.Kids.length : Int)))) rfl trivial rfl (OkOps.nil ?_))))))))
  refine Ok.cond (b := decide (s4.1 < (x1.Kids.length : Int))) rfl (fun h6 => ?_) (fun h6 => ?_)
  have hr := selT h6 hr
  refine Ok.skip (Ok.seq (Ok.block (Ok.regionD (by kernel_rfl) (OkD.x (.c (.loc 3 4)) rfl trivial rfl (OkD.x (.c (.tl 1007 (List.map View.cs s4.2))) rfl trivial rfl (OkD.x (.agg [cI t.Root, cI t.Next, .d (.sl (List.map Node.cs t.Nodes))]) rfl trivial rfl (OkD.x (.c (.loc 2 6)) rfl trivial rfl (OkD.x (.c (.d (.sl (List.map (eInt .i64) x1.Kids)))) rfl trivial rfl (OkD.x (aI s4.1) rfl trivial rfl ?_)))))))))
  obtain ⟨x7, hx7, hr⟩ := bind_some hr
  refine OkD.q (triIdx (enc := (eInt .i64)) (L := x1.Kids) (row := [dI x7]) hx7 rfl rfl rfl rfl (fun _ => rfl) trivial rfl) (OkD.x (aI x7) rfl trivial rfl ?_)
  obtain ⟨x8, hx8, hr⟩ := bind_some hr
  refine OkD.q (triCall (tau []) (.s (.agg [cI x8.Kind, cS x8.Key, .d (.sl (List.map Attr.cs x8.Attrs)), .d (.sl (List.map Action.cs x8.Actions)), .d (.sl (List.map View.cs x8.Kids))])) [] (hself0 _ _ hx8) rfl ⟨.inl rfl, .inl rfl, trivial⟩ trivial entry92 trivial rfl rfl rfl rfl trivial rfl rfl rfl) ?_
  refine OkD.m 0 (triBST (sz := 5) (enc := View.cs) (j := 4) ([x8]) rfl rfl rfl rfl rfl (rows := [[dI x8.Kind, dS x8.Key, .sl (List.map Attr.cs x8.Attrs), .sl (List.map Action.cs x8.Actions), .sl (List.map View.cs x8.Kids)]]) (by simp only [List.map, View.cs_eq]) rfl rfl (fun x => by rw [View.cs_eq]; rfl) trivial rfl rfl) ?_
  obtain ⟨x9, hx9, hr⟩ := bind_some hr
  refine OkD.m2 0 (triApp (enc := View.cs) (L := s4.2) (X := [x8]) (j := 1007) (j' := 5) hx9 rfl rfl rfl rfl rfl rfl (fun x => by rw [View.cs_eq]; rfl) (fun x => by rw [View.cs_eq]; rfl) (by decide) trivial rfl rfl) ?_
  refine OkD.x (.c (.loc 3 4)) rfl trivial rfl (OkD.w (triStore (cs' := [cI x1.Kind, cS x1.Key, .d (.sl (List.map Attr.cs x1.Attrs)), .d (.sl (List.map Action.cs x1.Actions)), .tl 5 (List.map View.cs x9)]) rfl rfl rfl rfl rfl rfl rfl rfl rfl) (OkD.nil (by kernel_rfl) (Ok.region (OkOps.x (aI s4.1) rfl trivial rfl (OkOps.x (aI (IntKind.i64.wrap (s4.1 + 1))) rfl trivial rfl (OkOps.x (aI (IntKind.i64.wrap (s4.1 + 1))) rfl trivial rfl (OkOps.nil ?_)))))))
  exact ⟨(IntKind.i64.wrap (s4.1 + 1), x9), hr, (Conv.mk (tau [(1007, 5)]) ⟨⟨_, rfl, .inl rfl⟩, ⟨_, rfl, .inl rfl⟩, ⟨_, rfl, .inl rfl⟩, ⟨_, rfl, .inl rfl⟩, ⟨_, rfl, .inl rfl⟩, trivial⟩ ⟨rfl, rfl, rfl, rfl, rfl, trivial⟩ rfl rfl rfl rfl)⟩
  have hr := selF h6 hr
  refine Ok.exit ?_
  exact ⟨s4.2, hr, (Conv.mk (tau [(1004, 1007)]) ⟨⟨_, rfl, .inl rfl⟩, ⟨_, rfl, .inl rfl⟩, trivial⟩ ⟨rfl, rfl, rfl, trivial⟩ rfl rfl rfl rfl)⟩
theorem r14_describe_all : ∀ n : Nat, (∀ (t : Tree) (id : Int) {r : View}, r14_describe n t id = some r → Con Tryd.prog 92 [.agg [cI t.Root, cI t.Next, .d (.sl (List.map Node.cs t.Nodes))], aI id] [] (.s (.agg [cI r.Kind, cS r.Key, .d (.sl (List.map Attr.cs r.Attrs)), .d (.sl (List.map Action.cs r.Actions)), .d (.sl (List.map View.cs r.Kids))])) []) ∧ True := by
  intro n
  induction n with
  | zero => exact ⟨(by intros; rename_i hr; cases hr), trivial⟩
  | succ n ih => exact ⟨(by intros; rename_i hr; exact r14_describe_B_c _ ih.1 _ _ hr), trivial⟩
theorem r14_describe_c (n : Nat) (t : Tree) (id : Int) {r : View} (hr : r14_describe n t id = some r) : Con Tryd.prog 92 [.agg [cI t.Root, cI t.Next, .d (.sl (List.map Node.cs t.Nodes))], aI id] [] (.s (.agg [cI r.Kind, cS r.Key, .d (.sl (List.map Attr.cs r.Attrs)), .d (.sl (List.map Action.cs r.Actions)), .d (.sl (List.map View.cs r.Kids))])) [] := (r14_describe_all n).1 t id hr
theorem r14_Check_c (t : Tree) {r : Int} (hr : r14_Check t = some r) : Con Tryd.prog 71 [.agg [cI t.Root, cI t.Next, .d (.sl (List.map Node.cs t.Nodes))]] [] (.s (aI r)) [] := by
  unfold r14_Check at hr
  refine Con.of_ok 11 0 [.tmp 2] [(0, .s (.agg [cI t.Root, cI t.Next, .d (.sl (List.map Node.cs t.Nodes))]))] Tryd.func71 rfl rfl rfl rfl rfl rfl rfl rfl fun w g M ρ _ => (Ok.seq (Ok.region (OkOps.m 0 (triBox (j := 0) (cs := [cI t.Root, cI t.Next, .d (.sl (List.map Node.cs t.Nodes))]) rfl rfl rfl rfl rfl) (OkOps.x (aI 0) rfl trivial rfl (OkOps.nil (Ok.seq (Ok.seq (Ok.region (OkOps.x (.agg [cI t.Root, cI t.Next, .d (.sl (List.map Node.cs t.Nodes))]) rfl trivial rfl ?_)))))))))
  obtain ⟨x1, hx1, hr⟩ := bind_some hr
  refine OkOps.q (triCall (tau []) (.s (aB x1)) [] (r14_shaped_c _ hx1) rfl ⟨.inl rfl, trivial⟩ trivial entry93 trivial rfl rfl rfl rfl trivial rfl rfl rfl) (OkOps.x (aB (!x1)) rfl trivial rfl (OkOps.nil ?_))
  refine Ok.cond (b := !x1) rfl (fun h2 => ?_) (fun h2 => ?_)
  have hr := selT h2 hr
  refine Ok.seq (Ok.region (OkOps.x (aI 12) rfl trivial rfl (OkOps.nil (Ok.ret ?_))))
  obtain rfl := Option.some.inj hr
  exact ⟨_, rfl, .inl rfl, trivial⟩
  have hr := selF h2 hr
  refine Ok.skip (Ok.seq (Ok.region (OkOps.x (.agg [cI t.Root, cI t.Next, .d (.sl (List.map Node.cs t.Nodes))]) rfl trivial rfl (OkOps.x (.c (.loc 0 0)) rfl trivial rfl (OkOps.x (aI t.Root) rfl trivial rfl ?_)))))
  obtain ⟨x3, hx3, hr⟩ := bind_some hr
  refine OkOps.q (triCall (tau []) (.s (.agg [cI x3.Kind, cS x3.Key, .d (.sl (List.map Attr.cs x3.Attrs)), .d (.sl (List.map Action.cs x3.Actions)), .d (.sl (List.map View.cs x3.Kids))])) [] (r14_describe_c _ _ _ hx3) rfl ⟨.inl rfl, .inl rfl, trivial⟩ trivial entry92 trivial rfl rfl rfl rfl trivial rfl rfl rfl) ?_
  obtain ⟨x4, hx4, hr⟩ := bind_some hr
  refine OkOps.q (triCall (tau []) (.s (aI x4)) [] (r14_Validate_c _ hx4) rfl ⟨.inl rfl, trivial⟩ trivial entry23 trivial rfl rfl rfl rfl trivial rfl rfl rfl) (OkOps.x (aI x4) rfl trivial rfl (OkOps.nil (Ok.ret ?_)))
  obtain rfl := Option.some.inj hr
  exact ⟨_, rfl, .inl rfl, trivial⟩
theorem entry71 : Entry Tryd.prog 71 := ⟨_, Tryd.func71, by kernel_rfl, by kernel_rfl⟩
theorem r14_Describe_c (t : Tree) {r : View × Int} (hr : r14_Describe t = some r) : Con Tryd.prog 69 [.agg [cI t.Root, cI t.Next, .d (.sl (List.map Node.cs t.Nodes))]] [] (.tup [.agg [cI r.1.Kind, cS r.1.Key, .d (.sl (List.map Attr.cs r.1.Attrs)), .d (.sl (List.map Action.cs r.1.Actions)), .d (.sl (List.map View.cs r.1.Kids))], aI r.2]) [] := by
  unfold r14_Describe at hr
  refine Con.of_ok 15 0 [.cell 2 31, .tmp 3] [(0, .s (.agg [cI t.Root, cI t.Next, .d (.sl (List.map Node.cs t.Nodes))]))] Tryd.func69 rfl rfl rfl rfl rfl rfl rfl rfl fun w g M ρ _ => (Ok.seq (Ok.region (OkOps.m 0 (triBox (j := 0) (cs := [cI t.Root, cI t.Next, .d (.sl (List.map Node.cs t.Nodes))]) rfl rfl rfl rfl rfl) (OkOps.m 0 (triAlloc (j := 1) (cs := [cI 0, cS ByteArray.empty, .d (.v (.slice none 0 0)), .d (.v (.slice none 0 0)), .d (.v (.slice none 0 0))]) rfl rfl rfl rfl) (OkOps.x (aI 0) rfl trivial rfl (OkOps.nil (Ok.seq (Ok.seq (Ok.region (OkOps.x (.agg [cI t.Root, cI t.Next, .d (.sl (List.map Node.cs t.Nodes))]) rfl trivial rfl ?_))))))))))
  obtain ⟨x1, hx1, hr⟩ := bind_some hr
  refine OkOps.q (triCall (tau []) (.s (aI x1)) [] (r14_Check_c _ hx1) rfl ⟨.inl rfl, trivial⟩ trivial entry71 trivial rfl rfl rfl rfl trivial rfl rfl rfl) (OkOps.x (aI x1) rfl trivial rfl (OkOps.nil (Ok.seq (Ok.region (OkOps.x (aI x1) rfl trivial rfl (OkOps.x (aB (x1 != 0)) rfl trivial rfl (OkOps.nil ?_)))))))
  refine Ok.cond (b := x1 != 0) rfl (fun h2 => ?_) (fun h2 => ?_)
  have hr := selT h2 hr
  refine Ok.seq (Ok.region (OkOps.x (.agg [cI 0, cS ByteArray.empty, .d (.v (.slice none 0 0)), .d (.v (.slice none 0 0)), .d (.v (.slice none 0 0))]) rfl trivial rfl (OkOps.x (aI x1) rfl trivial rfl (OkOps.w (triStore (cs' := [cI 0, cS ByteArray.empty, .d (.v (.slice none 0 0)), .d (.v (.slice none 0 0)), .d (.v (.slice none 0 0))]) rfl rfl rfl rfl rfl rfl rfl rfl rfl) (OkOps.x (aI x1) rfl trivial rfl (OkOps.nil (Ok.ret ?_)))))))
  obtain rfl := Option.some.inj hr
  exact ⟨_, rfl, .inr rfl, trivial⟩
  have hr := selF h2 hr
  refine Ok.skip (Ok.seq (Ok.region (OkOps.x (.agg [cI t.Root, cI t.Next, .d (.sl (List.map Node.cs t.Nodes))]) rfl trivial rfl (OkOps.x (.c (.loc 0 0)) rfl trivial rfl (OkOps.x (aI t.Root) rfl trivial rfl ?_)))))
  obtain ⟨x3, hx3, hr⟩ := bind_some hr
  refine OkOps.q (triCall (tau []) (.s (.agg [cI x3.Kind, cS x3.Key, .d (.sl (List.map Attr.cs x3.Attrs)), .d (.sl (List.map Action.cs x3.Actions)), .d (.sl (List.map View.cs x3.Kids))])) [] (r14_describe_c _ _ _ hx3) rfl ⟨.inl rfl, .inl rfl, trivial⟩ trivial entry92 trivial rfl rfl rfl rfl trivial rfl rfl rfl) (OkOps.w (triStore (cs' := [cI x3.Kind, cS x3.Key, .d (.sl (List.map Attr.cs x3.Attrs)), .d (.sl (List.map Action.cs x3.Actions)), .d (.sl (List.map View.cs x3.Kids))]) rfl rfl rfl rfl rfl rfl rfl rfl rfl) (OkOps.x (aI 0) rfl trivial rfl (OkOps.nil (Ok.ret ?_))))
  obtain rfl := Option.some.inj hr
  exact ⟨_, rfl, .inl rfl, trivial⟩
theorem entry69 : Entry Tryd.prog 69 := ⟨_, Tryd.func69, by kernel_rfl, by kernel_rfl⟩
theorem r14_Order_c (t : Tree) {r : (List Int)} (hr : r14_Order t = some r) : Con Tryd.prog 72 [.agg [cI t.Root, cI t.Next, .d (.sl (List.map Node.cs t.Nodes))]] [] (.s (.c (.d (.sl (List.map (eInt .i64) r))))) [] := by
  unfold r14_Order at hr
  refine Con.of_ok 10 0 [.tmp 2] [(0, .s (.agg [cI t.Root, cI t.Next, .d (.sl (List.map Node.cs t.Nodes))]))] Tryd.func72 rfl rfl rfl rfl rfl rfl rfl rfl fun w g M ρ _ => (Ok.seq (Ok.region (OkOps.m 0 (triBox (j := 0) (cs := [cI t.Root, cI t.Next, .d (.sl (List.map Node.cs t.Nodes))]) rfl rfl rfl rfl rfl) (OkOps.x (.c (.d (.v (.slice none 0 0)))) rfl trivial rfl (OkOps.nil (Ok.seq (Ok.seq (Ok.region (OkOps.x (.agg [cI t.Root, cI t.Next, .d (.sl (List.map Node.cs t.Nodes))]) rfl trivial rfl ?_)))))))))
  obtain ⟨x1, hx1, hr⟩ := bind_some hr
  refine OkOps.q (triCall (tau []) (.s (aI x1)) [] (r14_Check_c _ hx1) rfl ⟨.inl rfl, trivial⟩ trivial entry71 trivial rfl rfl rfl rfl trivial rfl rfl rfl) (OkOps.x (aB (x1 != 0)) rfl trivial rfl (OkOps.nil ?_))
  refine Ok.cond (b := x1 != 0) rfl (fun h2 => ?_) (fun h2 => ?_)
  have hr := selT h2 hr
  refine Ok.seq (Ok.region (OkOps.x (.c (.d (.v (.slice none 0 0)))) rfl trivial rfl (OkOps.nil (Ok.ret ?_))))
  obtain rfl := Option.some.inj hr
  exact ⟨_, rfl, .inr rfl, trivial⟩
  have hr := selF h2 hr
  refine Ok.skip (Ok.seq (Ok.region (OkOps.x (.agg [cI t.Root, cI t.Next, .d (.sl (List.map Node.cs t.Nodes))]) rfl trivial rfl (OkOps.x (.c (.loc 0 0)) rfl trivial rfl (OkOps.x (aI t.Root) rfl trivial rfl ?_)))))
  obtain ⟨x3, hx3, hr⟩ := bind_some hr
  refine OkOps.m 0 (triCall (tau [(2000, 1)]) (.s (.c (.tl 1 (List.map (eInt .i64) x3)))) [(1, .tail 1)] (Con.nilArg (args' := [.agg [cI t.Root, cI t.Next, .d (.sl (List.map Node.cs t.Nodes))], aI t.Root, .c (.d (.v (.slice none 0 0)))]) 0 (r14_order_c _ _ _ _ hx3) ⟨.inl rfl, .inl rfl, .inr ⟨rfl, .inl rfl⟩, trivial⟩ rfl (nil_tail 1 0) rfl rfl rfl rfl rfl rfl rfl) rfl ⟨.inl rfl, .inl rfl, .inl rfl, trivial⟩ trivial entry94 trivial rfl rfl rfl rfl ⟨rfl, trivial⟩ rfl rfl rfl) (OkOps.x (.c (.tl 1 (List.map (eInt .i64) x3))) rfl trivial rfl (OkOps.nil (Ok.ret ?_)))
  obtain rfl := Option.some.inj hr
  exact ⟨_, rfl, .inr rfl, trivial⟩
theorem entry72 : Entry Tryd.prog 72 := ⟨_, Tryd.func72, by kernel_rfl, by kernel_rfl⟩
end Go.Proofs.YtcfegecdlbbeaaaDoor
end

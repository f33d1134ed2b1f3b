import Derived.Test.YtcfegecdlbbeaaaDoorAd
import Derived.Test.YtcfegecdlbbeaaaDoorWc
import Derived.Test.YtcfegecdlbbeaaaDoorProg
import Derived.KernelRfl
set_option maxRecDepth 100000
namespace Go.Proofs.YtcfegecdlbbeaaaDoor
open Go Go.E2
theorem entry58 : Entry Tryd.prog 58 := ⟨_, Tryd.func58, by kernel_rfl, by kernel_rfl⟩
theorem vw_Build_1_B_c (self0 : View → Int → Tree → Option (Int × Tree)) (hself0 : ∀ (a0 : View) (a1 : Int) (c0 : Tree) {r : Int × Tree}, self0 a0 a1 c0 = some r → Con Tryd.prog 58 [.agg [cI a0.Kind, cS a0.Key, .d (.sl (List.map Attr.cs a0.Attrs)), .d (.sl (List.map Action.cs a0.Actions)), .d (.sl (List.map View.cs a0.Kids))], aI a1, .c (.loc 0 0), .c (.loc 2 0)] [(0, .blk [cI c0.Root, cI c0.Next, .own 1] 51), (1, .vec 7 (List.map Node.cs c0.Nodes)), (2, .blk [.fn 58 [(0, 0), (2, 0)]] 93)] (.s (aI r.1)) [(0, .blk [cI r.2.Root, cI r.2.Next, .own 3000] 51), (2, .blk [.fn 58 [(0, 0), (2, 0)]] 93), (1, .dead), (3000, .vec 7 (List.map Node.cs r.2.Nodes))]) (a0 : View) (a1 : Int) (c0 : Tree) {r : Int × Tree} (hr : vw_Build_1_B self0 a0 a1 c0 = some r) : Con Tryd.prog 58 [.agg [cI a0.Kind, cS a0.Key, .d (.sl (List.map Attr.cs a0.Attrs)), .d (.sl (List.map Action.cs a0.Actions)), .d (.sl (List.map View.cs a0.Kids))], aI a1, .c (.loc 0 0), .c (.loc 2 0)] [(0, .blk [cI c0.Root, cI c0.Next, .own 1] 51), (1, .vec 7 (List.map Node.cs c0.Nodes)), (2, .blk [.fn 58 [(0, 0), (2, 0)]] 93)] (.s (aI r.1)) [(0, .blk [cI r.2.Root, cI r.2.Next, .own 3000] 51), (2, .blk [.fn 58 [(0, 0), (2, 0)]] 93), (1, .dead), (3000, .vec 7 (List.map Node.cs r.2.Nodes))] := by
  unfold vw_Build_1_B at hr
  refine Con.of_ok 67 0 [.tmp 6] [(0, .s (.agg [cI a0.Kind, cS a0.Key, .d (.sl (List.map Attr.cs a0.Attrs)), .d (.sl (List.map Action.cs a0.Actions)), .d (.sl (List.map View.cs a0.Kids))])), (1, .s (aI a1)), (2, .s (.c (.loc 0 0))), (3, .s (.c (.loc 2 0)))] Tryd.func58 rfl rfl rfl rfl rfl rfl rfl rfl fun w g M ρ _ => ?_
  refine Ok.seq ?_
  refine Ok.region ?_
  refine OkOps.m 0 (triBox (j := 3) (cs := [cI a0.Kind, cS a0.Key, .d (.sl (List.map Attr.cs a0.Attrs)), .d (.sl (List.map Action.cs a0.Actions)), .d (.sl (List.map View.cs a0.Kids))]) rfl rfl rfl rfl rfl) ?_
  refine OkOps.x (aI 0) rfl trivial rfl ?_
  refine OkOps.nil ?_
  refine Ok.seq ?_
  refine Ok.regionD (by kernel_rfl) ?_
  refine OkD.x (.c (.loc 0 1)) rfl trivial rfl ?_
  refine OkD.x (aI c0.Next) rfl trivial rfl ?_
  refine OkD.x (.c (.loc 0 2)) rfl trivial rfl ?_
  refine OkD.x (.c (.own 1)) rfl trivial rfl ?_
  refine OkD.q (triLenV (enc := Node.cs) c0.Nodes rfl rfl rfl rfl) ?_
  refine OkD.x (aI c0.Next) rfl trivial rfl ?_
  refine OkD.x (aI (c0.Nodes.length : Int)) rfl trivial rfl ?_
  refine OkD.nil (by kernel_rfl) ?_
  refine Ok.seq ?_
  refine Ok.region ?_
  refine OkOps.x (.c (.loc 0 1)) rfl trivial rfl ?_
  refine OkOps.x (aI c0.Next) rfl trivial rfl ?_
  refine OkOps.x (aI (IntKind.i64.wrap (c0.Next + 1))) rfl trivial rfl ?_
  refine OkOps.x (.c (.loc 0 1)) rfl trivial rfl ?_
  refine OkOps.w (triStore (cs' := [cI c0.Root, cI (IntKind.i64.wrap (c0.Next + 1)), .own 1]) rfl rfl rfl rfl rfl rfl rfl rfl rfl) ?_
  refine OkOps.nil ?_
  refine Ok.seq ?_
  refine Ok.region ?_
  refine OkOps.x (.c (.loc 3 2)) rfl trivial rfl ?_
  refine OkOps.x (.c (.d (.sl (List.map Attr.cs a0.Attrs)))) rfl trivial rfl ?_
  refine OkOps.x (.c (.loc 3 3)) rfl trivial rfl ?_
  refine OkOps.x (.c (.d (.sl (List.map Action.cs a0.Actions)))) rfl trivial rfl ?_
  obtain ⟨x1, hx1, hr⟩ := bind_some hr
  refine OkOps.q (triCall (tau []) (.tup [.c (.d (.sl (List.map Attr.cs x1.1))), .c (.d (.sl (List.map Action.cs x1.2)))]) [] (vw_copied_c _ _ hx1) rfl ⟨.inl rfl, .inl rfl, trivial⟩ trivial entry59 trivial rfl rfl rfl rfl trivial rfl rfl rfl) ?_
  refine OkOps.q (triMv (v := .tup [.c (.d (.sl (List.map Attr.cs x1.1))), .c (.d (.sl (List.map Action.cs x1.2)))]) rfl rfl) ?_
  refine OkOps.x (.c (.d (.sl (List.map Attr.cs x1.1)))) rfl trivial rfl ?_
  refine OkOps.x (.c (.d (.sl (List.map Action.cs x1.2)))) rfl trivial rfl ?_
  refine OkOps.x (.c (.d (.sl (List.map Attr.cs x1.1)))) rfl trivial rfl ?_
  refine OkOps.x (.c (.d (.sl (List.map Action.cs x1.2)))) rfl trivial rfl ?_
  refine OkOps.nil ?_
  refine Ok.seq ?_
  refine Ok.region ?_
  refine OkOps.x (.c (.loc 0 2)) rfl trivial rfl ?_
  refine OkOps.x (.c (.own 1)) rfl trivial rfl ?_
  refine OkOps.x (aI c0.Next) rfl trivial rfl ?_
  refine OkOps.x (aI a1) rfl trivial rfl ?_
  refine OkOps.x (.c (.loc 3 0)) rfl trivial rfl ?_
  refine OkOps.x (aI a0.Kind) rfl trivial rfl ?_
  refine OkOps.x (.c (.loc 3 1)) rfl trivial rfl ?_
  refine OkOps.x (aS a0.Key) rfl trivial rfl ?_
  refine OkOps.x (.c (.d (.sl (List.map Attr.cs x1.1)))) rfl trivial rfl ?_
  refine OkOps.x (.c (.d (.sl (List.map Action.cs x1.2)))) rfl trivial rfl ?_
  refine OkOps.x (.agg [cI c0.Next, cI a1, cI a0.Kind, cS a0.Key, .d (.sl (List.map Attr.cs x1.1)), .d (.sl (List.map Action.cs x1.2)), .d (.v (.slice none 0 0))]) rfl trivial rfl ?_
  refine OkOps.m 0 (triBST (sz := 7) (enc := Node.cs) (j := 4) ([(Node.mk c0.Next a1 a0.Kind a0.Key x1.1 x1.2 ([] : (List Int)))]) rfl rfl rfl rfl rfl rfl rfl rfl (fun _ => rfl) trivial rfl rfl) ?_
  obtain ⟨x2, hx2, hr⟩ := bind_some hr
  refine OkOps.m2 0 (triAppV (enc := Node.cs) (L := c0.Nodes) (X := [(Node.mk c0.Next a1 a0.Kind a0.Key x1.1 x1.2 ([] : (List Int)))]) (j := 1) (j' := 5) hx2 rfl rfl rfl rfl rfl rfl (fun _ => rfl) (fun _ => rfl) trivial rfl rfl) ?_
  refine OkOps.x (.c (.loc 0 2)) rfl trivial rfl ?_
  refine OkOps.w (triStoreF (cs' := [cI c0.Root, cI (IntKind.i64.wrap (c0.Next + 1)), .own 5]) rfl rfl rfl rfl rfl rfl rfl rfl) ?_
  refine OkOps.nil ?_
  refine Ok.seq ?_
  refine Ok.region ?_
  refine OkOps.x (.c (.d (.v (.slice none 0 0)))) rfl trivial rfl ?_
  refine OkOps.nil ?_
  obtain ⟨k4, hk4, hr⟩ := jn_some hr
  refine Ok.join (fun (s3 : (List Int) × Int × Int × (List Node)) => ⟨[(2, .s (.c (.loc 0 0))), (7, .s (aI c0.Next)), (8, .s (aI (c0.Nodes.length : Int))), (11, .s (.c (.tl 1007 (List.map (eInt .i64) s3.1))))], [(0, .blk [cI s3.2.1, cI s3.2.2.1, .own 1008] 51), (1, .dead), (2, .blk [.fn 58 [(0, 0), (2, 0)]] 93), (1007, .tail 1), (1008, .vec 7 (List.map Node.cs s3.2.2.2))], 0⟩) k4 r (fun s3 hr => ?_) ?_
  · rw [hk4] at hr
    refine Ok.seq ?_
    refine Ok.region ?_
    refine OkOps.x (.c (.loc 0 2)) rfl trivial rfl ?_
    refine OkOps.x (.c (.own 1008)) rfl trivial rfl ?_
    refine OkOps.x (aI (c0.Nodes.length : Int)) rfl trivial rfl ?_
    refine OkOps.x (.c (.tl 1007 (List.map (eInt .i64) s3.1))) rfl trivial rfl ?_
    obtain ⟨x5, hx5, hr⟩ := bind_some hr
    refine OkOps.q (triIdxV (enc := Node.cs) (L := s3.2.2.2) hx5 rfl rfl rfl rfl trivial rfl) ?_
    refine OkOps.q (triFldV (o := 6) (enc := Node.cs) (L := s3.2.2.2) rfl rfl rfl (by have := (ixO_spec hx5).2; omega) rfl) ?_
    obtain ⟨x6, hx6, hr⟩ := bind_some hr
    refine OkOps.w (triStoreVF (n := 1) (enc := Node.cs) (L := s3.2.2.2) (z := (Node.mk x6.ID x6.Parent x6.Kind x6.Key x6.Attrs x6.Actions s3.1)) hx6 rfl rfl rfl rfl rfl rfl rfl rfl (by decide) (fun _ => rfl) rfl) ?_
    refine OkOps.nil ?_
    refine Ok.seq ?_
    refine Ok.region ?_
    refine OkOps.x (aI c0.Next) rfl trivial rfl ?_
    refine OkOps.x (aI c0.Next) rfl trivial rfl ?_
    refine OkOps.nil ?_
    refine Ok.conv (T := ⟨[(6, .s (aI c0.Next))], [(0, .blk [cI s3.2.1, cI s3.2.2.1, .own 3000] 51), (1, .dead), (2, .blk [.fn 58 [(0, 0), (2, 0)]] 93), (3000, .vec 7 (List.map Node.cs (List.set s3.2.2.2 x5 (Node.mk x6.ID x6.Parent x6.Kind x6.Key x6.Attrs x6.Actions s3.1))))], 0⟩) (Conv.mk (tau [(3000, 1008)]) ⟨⟨_, rfl, .inl rfl⟩, trivial⟩ ⟨rfl, rfl, rfl, trivial⟩ rfl rfl rfl rfl) ?_
    refine Ok.ret ?_
    obtain rfl := Option.some.inj hr
    exact ⟨_, rfl, .inl rfl, ⟨rfl, rfl, (fun h => by cases h), rfl, trivial⟩⟩
  · clear hk4
    refine Ok.seq ?_
    refine Ok.region ?_
    refine OkOps.x (.c (.loc 3 4)) rfl trivial rfl ?_
    refine OkOps.x (.c (.d (.sl (List.map View.cs a0.Kids)))) rfl trivial rfl ?_
    refine OkOps.q (triLen (enc := View.cs) a0.Kids rfl rfl trivial rfl) ?_
    refine OkOps.x (aI 0) rfl trivial rfl ?_
    refine OkOps.nil ?_
    refine Ok.block ?_
    refine Ok.loopK (fun (s7 : (List Int) × Int × Int × Int × (List Node)) => ⟨[(2, .s (.c (.loc 0 0))), (3, .s (.c (.loc 2 0))), (7, .s (aI c0.Next)), (8, .s (aI (c0.Nodes.length : Int))), (11, .s (.c (.tl 1012 (List.map (eInt .i64) s7.1)))), (46, .s (.c (.d (.sl (List.map View.cs a0.Kids))))), (47, .s (aI (a0.Kids.length : Int))), (48, .s (aI s7.2.1))], [(0, .blk [cI s7.2.2.1, cI s7.2.2.2.1, .own 1013] 51), (1, .dead), (2, .blk [.fn 58 [(0, 0), (2, 0)]] 93), (1012, .tail 1), (1013, .vec 7 (List.map Node.cs s7.2.2.2.2))], 0⟩) hr (Conv.trans (Conv.nil 11 1016 1 0 rfl rfl) (Conv.mk (tau [(1012, 1016), (1013, 5)]) ⟨⟨_, rfl, .inl rfl⟩, ⟨_, rfl, .inl rfl⟩, ⟨_, rfl, .inl rfl⟩, ⟨_, rfl, .inl rfl⟩, ⟨_, rfl, .inl rfl⟩, ⟨_, rfl, .inl rfl⟩, ⟨_, rfl, .inl rfl⟩, ⟨_, rfl, .inl rfl⟩, trivial⟩ ⟨rfl, rfl, rfl, rfl, trivial⟩ rfl rfl rfl rfl)) ?_
    clear hr
    intro again8 s7 hr
    unfold vw_Build_1_L1 at hr
    refine Ok.seq ?_
    refine Ok.region ?_
    refine OkOps.x (aB (decide (s7.2.1 < (a0.Kids.length : Int)))) rfl trivial rfl ?_
    refine OkOps.nil ?_
    refine Ok.seq ?_
    refine Ok.cond (b := decide (s7.2.1 < (a0.Kids.length : Int))) rfl (fun h9 => ?_) (fun h9 => ?_)
    · have hr := selT h9 hr
      refine Ok.skip ?_
      refine Ok.seq ?_
      refine Ok.block ?_
      refine Ok.seq ?_
      refine Ok.region ?_
      obtain ⟨x10, hx10, hr⟩ := bind_some hr
      refine OkOps.q (triIdx (enc := View.cs) (L := a0.Kids) (row := [dI x10.Kind, dS x10.Key, .sl (List.map Attr.cs x10.Attrs), .sl (List.map Action.cs x10.Actions), .sl (List.map View.cs x10.Kids)]) hx10 (View.cs_eq _) rfl rfl rfl (fun x => by rw [View.cs_eq]; rfl) trivial rfl) ?_
      refine OkOps.x (.agg [cI x10.Kind, cS x10.Key, .d (.sl (List.map Attr.cs x10.Attrs)), .d (.sl (List.map Action.cs x10.Actions)), .d (.sl (List.map View.cs x10.Kids))]) rfl trivial rfl ?_
      refine OkOps.m 0 (triAlloc (j := 6) (cs := [cI 0, cS ByteArray.empty, .d (.v (.slice none 0 0)), .d (.v (.slice none 0 0)), .d (.v (.slice none 0 0))]) rfl rfl rfl rfl) ?_
      refine OkOps.w (triStore (cs' := [cI x10.Kind, cS x10.Key, .d (.sl (List.map Attr.cs x10.Attrs)), .d (.sl (List.map Action.cs x10.Actions)), .d (.sl (List.map View.cs x10.Kids))]) rfl rfl rfl rfl rfl rfl rfl rfl rfl) ?_
      refine OkOps.nil ?_
      refine Ok.region ?_
      refine OkOps.x (.c (.tl 1012 (List.map (eInt .i64) s7.1))) rfl trivial rfl ?_
      refine OkOps.x (.c (.fn 58 [(0, 0), (2, 0)])) rfl trivial rfl ?_
      refine OkOps.x (.agg [cI x10.Kind, cS x10.Key, .d (.sl (List.map Attr.cs x10.Attrs)), .d (.sl (List.map Action.cs x10.Actions)), .d (.sl (List.map View.cs x10.Kids))]) rfl trivial rfl ?_
      refine OkOps.x (aI c0.Next) rfl trivial rfl ?_
      obtain ⟨x11, hx11, hr⟩ := bind_some hr
      refine OkOps.wq [(0, .blk [cI x11.2.Root, cI x11.2.Next, .own 7] 51), (2, .blk [.fn 58 [(0, 0), (2, 0)]] 93), (1013, .dead), (7, .vec 7 (List.map Node.cs x11.2.Nodes))] (triCallF (caps := [(0, 0), (2, 0)]) (tau [(0, 0), (1, 1013), (2, 2), (3000, 7)]) (.s (aI x11.1)) [(0, .blk [cI x11.2.Root, cI x11.2.Next, .own 7] 51), (2, .blk [.fn 58 [(0, 0), (2, 0)]] 93), (1013, .dead), (7, .vec 7 (List.map Node.cs x11.2.Nodes))] rfl (hself0 _ _ _ hx11) rfl ⟨.inl rfl, .inl rfl, .inl rfl, .inl rfl, trivial⟩ trivial entry58 ⟨rfl, rfl, rfl, trivial⟩ rfl rfl rfl rfl ⟨rfl, trivial⟩ rfl rfl rfl) ?_
      refine OkOps.m 0 (triBST (sz := 1) (enc := (eInt .i64)) (j := 8) ([x11.1]) rfl rfl rfl rfl rfl rfl rfl rfl (fun _ => rfl) trivial rfl rfl) ?_
      obtain ⟨x12, hx12, hr⟩ := bind_some hr
      refine OkOps.m2 0 (triApp (enc := (eInt .i64)) (L := s7.1) (X := [x11.1]) (j := 1012) (j' := 9) hx12 rfl rfl rfl rfl rfl rfl (fun _ => rfl) (fun _ => rfl) (by decide) trivial rfl rfl) ?_
      refine OkOps.x (.c (.tl 9 (List.map (eInt .i64) x12))) rfl trivial rfl ?_
      refine OkOps.nil ?_
      refine Ok.region ?_
      refine OkOps.x (aI (IntKind.i64.wrap (s7.2.1 + 1))) rfl trivial rfl ?_
      refine OkOps.x (aI (IntKind.i64.wrap (s7.2.1 + 1))) rfl trivial rfl ?_
      refine OkOps.nil ?_
      exact ⟨(x12, IntKind.i64.wrap (s7.2.1 + 1), x11.2.Root, x11.2.Next, x11.2.Nodes), hr, (Conv.mk (tau [(1012, 9), (1013, 7)]) ⟨⟨_, rfl, .inl rfl⟩, ⟨_, rfl, .inl rfl⟩, ⟨_, rfl, .inl rfl⟩, ⟨_, rfl, .inl rfl⟩, ⟨_, rfl, .inl rfl⟩, ⟨_, rfl, .inl rfl⟩, ⟨_, rfl, .inl rfl⟩, ⟨_, rfl, .inl rfl⟩, trivial⟩ ⟨rfl, rfl, rfl, rfl, trivial⟩ rfl rfl rfl rfl)⟩
    · have hr := selF h9 hr
      refine Ok.exit ?_
      exact ⟨(s7.1, s7.2.2.1, s7.2.2.2.1, s7.2.2.2.2), hr, (Conv.mk (tau [(1007, 1012), (1008, 1013)]) ⟨⟨_, rfl, .inl rfl⟩, ⟨_, rfl, .inl rfl⟩, ⟨_, rfl, .inl rfl⟩, ⟨_, rfl, .inl rfl⟩, trivial⟩ ⟨rfl, rfl, rfl, rfl, trivial⟩ rfl rfl rfl rfl)⟩
theorem vw_Build_1_all : ∀ n : Nat, (∀ (a0 : View) (a1 : Int) (c0 : Tree) {r : Int × Tree}, vw_Build_1 n a0 a1 c0 = some r → Con Tryd.prog 58 [.agg [cI a0.Kind, cS a0.Key, .d (.sl (List.map Attr.cs a0.Attrs)), .d (.sl (List.map Action.cs a0.Actions)), .d (.sl (List.map View.cs a0.Kids))], aI a1, .c (.loc 0 0), .c (.loc 2 0)] [(0, .blk [cI c0.Root, cI c0.Next, .own 1] 51), (1, .vec 7 (List.map Node.cs c0.Nodes)), (2, .blk [.fn 58 [(0, 0), (2, 0)]] 93)] (.s (aI r.1)) [(0, .blk [cI r.2.Root, cI r.2.Next, .own 3000] 51), (2, .blk [.fn 58 [(0, 0), (2, 0)]] 93), (1, .dead), (3000, .vec 7 (List.map Node.cs r.2.Nodes))]) ∧ True := by
  intro n
  induction n with
  | zero => exact ⟨(by intros; rename_i hr; cases hr), trivial⟩
  | succ n ih => exact ⟨(by intros; rename_i hr; exact vw_Build_1_B_c _ ih.1 _ _ _ hr), trivial⟩
theorem vw_Build_1_c (n : Nat) (a0 : View) (a1 : Int) (c0 : Tree) {r : Int × Tree} (hr : vw_Build_1 n a0 a1 c0 = some r) : Con Tryd.prog 58 [.agg [cI a0.Kind, cS a0.Key, .d (.sl (List.map Attr.cs a0.Attrs)), .d (.sl (List.map Action.cs a0.Actions)), .d (.sl (List.map View.cs a0.Kids))], aI a1, .c (.loc 0 0), .c (.loc 2 0)] [(0, .blk [cI c0.Root, cI c0.Next, .own 1] 51), (1, .vec 7 (List.map Node.cs c0.Nodes)), (2, .blk [.fn 58 [(0, 0), (2, 0)]] 93)] (.s (aI r.1)) [(0, .blk [cI r.2.Root, cI r.2.Next, .own 3000] 51), (2, .blk [.fn 58 [(0, 0), (2, 0)]] 93), (1, .dead), (3000, .vec 7 (List.map Node.cs r.2.Nodes))] := (vw_Build_1_all n).1 a0 a1 c0 hr
theorem vw_Build_c (v : View) (next : Int) {r : Tree × Int} (hr : vw_Build v next = some r) : Con Tryd.prog 26 [.agg [cI v.Kind, cS v.Key, .d (.sl (List.map Attr.cs v.Attrs)), .d (.sl (List.map Action.cs v.Actions)), .d (.sl (List.map View.cs v.Kids))], aI next] [] (.tup [.agg [cI r.1.Root, cI r.1.Next, .d (.sl (List.map Node.cs r.1.Nodes))], aI r.2]) [] := by
  unfold vw_Build at hr
  refine Con.of_ok 30 0 [.cell 4 51, .tmp 5] [(0, .s (.agg [cI v.Kind, cS v.Key, .d (.sl (List.map Attr.cs v.Attrs)), .d (.sl (List.map Action.cs v.Actions)), .d (.sl (List.map View.cs v.Kids))])), (1, .s (aI next))] Tryd.func26 rfl rfl rfl rfl rfl rfl rfl rfl fun w g M ρ _ => ?_
  refine Ok.seq ?_
  refine Ok.region ?_
  refine OkOps.m 0 (triBox (j := 0) (cs := [cI v.Kind, cS v.Key, .d (.sl (List.map Attr.cs v.Attrs)), .d (.sl (List.map Action.cs v.Actions)), .d (.sl (List.map View.cs v.Kids))]) rfl rfl rfl rfl rfl) ?_
  refine OkOps.m 0 (triAlloc (j := 1) (cs := [cI 0, cI 0, .d (.v (.slice none 0 0))]) rfl rfl rfl rfl) ?_
  refine OkOps.x (aI 0) rfl trivial rfl ?_
  refine OkOps.nil ?_
  refine Ok.seq ?_
  refine Ok.seq ?_
  refine Ok.region ?_
  refine OkOps.x (.agg [cI v.Kind, cS v.Key, .d (.sl (List.map Attr.cs v.Attrs)), .d (.sl (List.map Action.cs v.Actions)), .d (.sl (List.map View.cs v.Kids))]) rfl trivial rfl ?_
  obtain ⟨x1, hx1, hr⟩ := bind_some hr
  refine OkOps.q (triCall (tau []) (.s (aI x1)) [] (vw_Validate_c _ hx1) rfl ⟨.inl rfl, trivial⟩ trivial entry17 trivial rfl rfl rfl rfl trivial rfl rfl rfl) ?_
  refine OkOps.x (aI x1) rfl trivial rfl ?_
  refine OkOps.nil ?_
  refine Ok.seq ?_
  refine Ok.region ?_
  refine OkOps.x (aI x1) rfl trivial rfl ?_
  refine OkOps.x (aB (x1 != 0)) rfl trivial rfl ?_
  refine OkOps.nil ?_
  refine Ok.cond (b := x1 != 0) rfl (fun h2 => ?_) (fun h2 => ?_)
  · have hr := selT h2 hr
    refine Ok.seq ?_
    refine Ok.region ?_
    refine OkOps.x (.agg [cI 0, cI 0, .d (.v (.slice none 0 0))]) rfl trivial rfl ?_
    refine OkOps.x (aI x1) rfl trivial rfl ?_
    refine OkOps.w (triStore (cs' := [cI 0, cI 0, .d (.v (.slice none 0 0))]) rfl rfl rfl rfl rfl rfl rfl rfl rfl) ?_
    refine OkOps.x (aI x1) rfl trivial rfl ?_
    refine OkOps.nil ?_
    refine Ok.ret ?_
    obtain rfl := Option.some.inj hr
    exact ⟨_, rfl, .inr rfl, trivial⟩
  · have hr := selF h2 hr
    refine Ok.skip ?_
    refine Ok.seq ?_
    refine Ok.seq ?_
    refine Ok.region ?_
    refine OkOps.x (aI next) rfl trivial rfl ?_
    refine OkOps.x (aB (decide (next < 1))) rfl trivial rfl ?_
    refine OkOps.x (aB (decide (next < 1))) rfl trivial rfl ?_
    refine OkOps.q (triQG (x := aI next) rfl rfl trivial rfl) ?_
    refine OkOps.q (triQG (x := aB (decide (next > 1099511627376))) rfl rfl ⟨fun h => h, trivial⟩ rfl) ?_
    refine OkOps.q (triOr rfl rfl (fun h => by rw [h]; rfl) rfl) ?_
    refine OkOps.nil ?_
    refine Ok.cond (b := (decide (next < 1)) || (decide (next > 1099511627376))) rfl (fun h3 => ?_) (fun h3 => ?_)
    · have hr := selT h3 hr
      refine Ok.seq ?_
      refine Ok.region ?_
      refine OkOps.x (.agg [cI 0, cI 0, .d (.v (.slice none 0 0))]) rfl trivial rfl ?_
      refine OkOps.w (triStore (cs' := [cI 0, cI 0, .d (.v (.slice none 0 0))]) rfl rfl rfl rfl rfl rfl rfl rfl rfl) ?_
      refine OkOps.x (aI 1) rfl trivial rfl ?_
      refine OkOps.nil ?_
      refine Ok.ret ?_
      obtain rfl := Option.some.inj hr
      exact ⟨_, rfl, .inr rfl, trivial⟩
    · have hr := selF h3 hr
      refine Ok.skip ?_
      refine Ok.seq ?_
      refine Ok.region ?_
      refine OkOps.x (aI next) rfl trivial rfl ?_
      refine OkOps.x (aI next) rfl trivial rfl ?_
      refine OkOps.x (.agg [cI next, cI next, .d (.v (.slice none 0 0))]) rfl trivial rfl ?_
      refine OkOps.m 0 (triAlloc (j := 2) (cs := [cI 0, cI 0, .d (.v (.slice none 0 0))]) rfl rfl rfl rfl) ?_
      refine OkOps.w (triStore (cs' := [cI next, cI next, .d (.v (.slice none 0 0))]) rfl rfl rfl rfl rfl rfl rfl rfl rfl) ?_
      refine OkOps.nil ?_
      refine Ok.seq ?_
      refine Ok.region ?_
      refine OkOps.m 0 (triAlloc (j := 3) (cs := [.d (.v .nilFunc)]) rfl rfl rfl rfl) ?_
      refine OkOps.nil ?_
      refine Ok.seq ?_
      refine Ok.region ?_
      refine OkOps.q (triMkF [(2, 0), (3, 0)] rfl trivial rfl) ?_
      refine OkOps.w (triStore (cs' := [.fn 58 [(2, 0), (3, 0)]]) rfl rfl rfl rfl rfl rfl rfl rfl rfl) ?_
      refine OkOps.nil ?_
      refine Ok.seq ?_
      refine Ok.region ?_
      refine OkOps.x (.c (.fn 58 [(2, 0), (3, 0)])) rfl trivial rfl ?_
      refine OkOps.x (.agg [cI v.Kind, cS v.Key, .d (.sl (List.map Attr.cs v.Attrs)), .d (.sl (List.map Action.cs v.Actions)), .d (.sl (List.map View.cs v.Kids))]) rfl trivial rfl ?_
      refine OkOps.conv (Conv.nilB 2 2 4 (.vec 7 (List.map Node.cs ([] : (List Node)))) (.own 4) [cI next, cI next, .d (.v (.slice none 0 0))] [cI next, cI next, .own 4] 51 0 rfl rfl rfl rfl (nil_vec Node.cs 7 4) (fun _ _ h => h.symm)) ?_
      obtain ⟨x4, hx4, hr⟩ := bind_some hr
      refine OkOps.wq [(2, .blk [cI x4.2.Root, cI x4.2.Next, .own 5] 51), (3, .blk [.fn 58 [(2, 0), (3, 0)]] 93), (4, .dead), (5, .vec 7 (List.map Node.cs x4.2.Nodes))] (triCallF (caps := [(2, 0), (3, 0)]) (tau [(0, 2), (1, 4), (2, 3), (3000, 5)]) (.s (aI x4.1)) [(2, .blk [cI x4.2.Root, cI x4.2.Next, .own 5] 51), (3, .blk [.fn 58 [(2, 0), (3, 0)]] 93), (4, .dead), (5, .vec 7 (List.map Node.cs x4.2.Nodes))] rfl (vw_Build_1_c _ _ _ _ hx4) rfl ⟨.inl rfl, .inl rfl, .inl rfl, .inl rfl, trivial⟩ trivial entry58 ⟨rfl, rfl, rfl, trivial⟩ rfl rfl rfl rfl ⟨rfl, trivial⟩ rfl rfl rfl) ?_
      refine OkOps.nil ?_
      refine Ok.seq ?_
      refine Ok.region ?_
      refine OkOps.x (.agg [cI x4.2.Root, cI x4.2.Next, .own 5]) rfl trivial rfl ?_
      refine OkOps.w (triStoreF (cs' := [cI x4.2.Root, cI x4.2.Next, .own 5]) rfl rfl rfl rfl rfl rfl rfl rfl) ?_
      refine OkOps.x (aI 0) rfl trivial rfl ?_
      refine OkOps.nil ?_
      refine Ok.conv (Conv.freezeV (enc := Node.cs) (L := x4.2.Nodes) [(29, .s (.agg [cI x4.2.Root, cI x4.2.Next, .d (.sl (List.map Node.cs x4.2.Nodes))]))] [(1, .blk [cI x4.2.Root, cI x4.2.Next, .d (.sl (List.map Node.cs x4.2.Nodes))] 51), (2, .blk [cI x4.2.Root, cI x4.2.Next, .d (.sl (List.map Node.cs x4.2.Nodes))] 51)] 5 0 rfl (fun _ => rfl) ⟨⟨_, rfl, rfl⟩, trivial⟩ ⟨⟨_, _, rfl, rfl⟩, ⟨_, _, rfl, rfl⟩, trivial⟩) ?_
      refine Ok.ret ?_
      obtain rfl := Option.some.inj hr
      exact ⟨_, rfl, .inl rfl, trivial⟩
theorem entry26 : Entry Tryd.prog 26 := ⟨_, Tryd.func26, by kernel_rfl, by kernel_rfl⟩
theorem l14_awake_c  {r : Bool} (hr : l14_awake  = some r) : Con Tryd.prog 14 [] [] (.s (aB r)) [] := by
  unfold l14_awake at hr
  refine Con.of_ok 41 0 [.tmp 0] [] Tryd.func14 rfl rfl rfl rfl rfl rfl rfl rfl fun w g M ρ _ => ?_
  refine Ok.seq ?_
  refine Ok.region ?_
  refine OkOps.x (aB false) rfl trivial rfl ?_
  refine OkOps.nil ?_
  refine Ok.seq ?_
  refine Ok.region ?_
  refine OkOps.x (.agg [cI 2, cS ByteArray.empty, .d (.v (.slice none 0 0)), .d (.v (.slice none 0 0)), .d (.v (.slice none 0 0))]) rfl trivial rfl ?_
  refine OkOps.x (.agg [cI 3, cS (ByteArray.mk #[98]), .d (.v (.slice none 0 0)), .d (.v (.slice none 0 0)), .d (.v (.slice none 0 0))]) rfl trivial rfl ?_
  refine OkOps.m 0 (triBST (sz := 5) (enc := View.cs) (j := 0) ([(View.mk 2 ByteArray.empty ([] : (List Attr)) ([] : (List Action)) ([] : (List View))), (View.mk 3 (ByteArray.mk #[98]) ([] : (List Attr)) ([] : (List Action)) ([] : (List View)))]) rfl rfl rfl rfl rfl (rows := [[dI 2, dS ByteArray.empty, .sl [], .sl [], .sl []], [dI 3, dS (ByteArray.mk #[98]), .sl [], .sl [], .sl []]]) (by simp only [List.map, View.cs_eq]) rfl rfl (fun x => by rw [View.cs_eq]; rfl) trivial rfl rfl) ?_
  refine OkOps.x (.agg [cI 1, cS ByteArray.empty, .d (.v (.slice none 0 0)), .d (.v (.slice none 0 0)), .tl 0 (List.map View.cs ([(View.mk 2 ByteArray.empty ([] : (List Attr)) ([] : (List Action)) ([] : (List View))), (View.mk 3 (ByteArray.mk #[98]) ([] : (List Attr)) ([] : (List Action)) ([] : (List View)))]))]) rfl trivial rfl ?_
  refine OkOps.m 0 (triAlloc (j := 1) (cs := [cI 0, cS ByteArray.empty, .d (.v (.slice none 0 0)), .d (.v (.slice none 0 0)), .d (.v (.slice none 0 0))]) rfl rfl rfl rfl) ?_
  refine OkOps.w (triStore (cs' := [cI 1, cS ByteArray.empty, .d (.v (.slice none 0 0)), .d (.v (.slice none 0 0)), .tl 0 (List.map View.cs ([(View.mk 2 ByteArray.empty ([] : (List Attr)) ([] : (List Action)) ([] : (List View))), (View.mk 3 (ByteArray.mk #[98]) ([] : (List Attr)) ([] : (List Action)) ([] : (List View)))]))]) rfl rfl rfl rfl rfl rfl rfl rfl rfl) ?_
  refine OkOps.nil ?_
  refine Ok.seq ?_
  refine Ok.region ?_
  refine OkOps.x (.agg [cI 1, cS ByteArray.empty, .d (.v (.slice none 0 0)), .d (.v (.slice none 0 0)), .tl 0 (List.map View.cs ([(View.mk 2 ByteArray.empty ([] : (List Attr)) ([] : (List Action)) ([] : (List View))), (View.mk 3 (ByteArray.mk #[98]) ([] : (List Attr)) ([] : (List Action)) ([] : (List View)))]))]) rfl trivial rfl ?_
  obtain ⟨x1, hx1, hr⟩ := bind_some hr
  refine OkOps.q (triCall (tau []) (.tup [.agg [cI x1.1.Root, cI x1.1.Next, .d (.sl (List.map Node.cs x1.1.Nodes))], aI x1.2]) [] (vw_Build_c _ _ hx1) rfl ⟨.inr rfl, .inl rfl, trivial⟩ trivial entry26 trivial rfl rfl rfl rfl trivial rfl rfl rfl) ?_
  refine OkOps.q (triMv (v := .tup [.agg [cI x1.1.Root, cI x1.1.Next, .d (.sl (List.map Node.cs x1.1.Nodes))], aI x1.2]) rfl rfl) ?_
  refine OkOps.x (.agg [cI x1.1.Root, cI x1.1.Next, .d (.sl (List.map Node.cs x1.1.Nodes))]) rfl trivial rfl ?_
  refine OkOps.x (aI x1.2) rfl trivial rfl ?_
  refine OkOps.m 0 (triAlloc (j := 2) (cs := [cI 0, cI 0, .d (.v (.slice none 0 0))]) rfl rfl rfl rfl) ?_
  refine OkOps.w (triStore (cs' := [cI x1.1.Root, cI x1.1.Next, .d (.sl (List.map Node.cs x1.1.Nodes))]) rfl rfl rfl rfl rfl rfl rfl rfl rfl) ?_
  refine OkOps.x (aI x1.2) rfl trivial rfl ?_
  refine OkOps.nil ?_
  refine Ok.seq ?_
  refine Ok.region ?_
  refine OkOps.x (aI x1.2) rfl trivial rfl ?_
  refine OkOps.x (aB (x1.2 == 0)) rfl trivial rfl ?_
  refine OkOps.x (aB (x1.2 == 0)) rfl trivial rfl ?_
  refine OkOps.q (triQG (x := .c (.loc 2 2)) rfl rfl trivial rfl) ?_
  refine OkOps.q (triQG (x := .c (.d (.sl (List.map Node.cs x1.1.Nodes)))) rfl rfl ⟨fun h => h, trivial⟩ rfl) ?_
  refine OkOps.q (triLenG (enc := Node.cs) x1.1.Nodes rfl rfl rfl ⟨fun h => h, trivial⟩ rfl) ?_
  refine OkOps.q (triQG (x := aB ((x1.1.Nodes.length : Int) == 3)) rfl rfl ⟨fun h => h, trivial⟩ rfl) ?_
  refine OkOps.q (triAnd rfl rfl (fun h => h) rfl) ?_
  refine OkOps.x (aB ((x1.2 == 0) && ((x1.1.Nodes.length : Int) == 3))) rfl trivial rfl ?_
  refine OkOps.q (triQG (x := .c (.loc 2 0)) rfl rfl trivial rfl) ?_
  refine OkOps.q (triQG (x := aI x1.1.Root) rfl rfl ⟨fun h => h, trivial⟩ rfl) ?_
  refine OkOps.q (triQG (x := aB (x1.1.Root == 5)) rfl rfl ⟨fun h => h, trivial⟩ rfl) ?_
  refine OkOps.q (triAnd rfl rfl (fun h => h) rfl) ?_
  refine OkOps.x (aB (((x1.2 == 0) && ((x1.1.Nodes.length : Int) == 3)) && (x1.1.Root == 5))) rfl trivial rfl ?_
  refine OkOps.q (triQG (x := .c (.loc 2 1)) rfl rfl trivial rfl) ?_
  refine OkOps.q (triQG (x := aI x1.1.Next) rfl rfl ⟨fun h => h, trivial⟩ rfl) ?_
  refine OkOps.q (triQG (x := aB (x1.1.Next == 8)) rfl rfl ⟨fun h => h, trivial⟩ rfl) ?_
  refine OkOps.q (triAnd rfl rfl (fun h => h) rfl) ?_
  refine OkOps.x (aB ((((x1.2 == 0) && ((x1.1.Nodes.length : Int) == 3)) && (x1.1.Root == 5)) && (x1.1.Next == 8))) rfl trivial rfl ?_
  refine OkOps.q (triQG (x := .agg [cI x1.1.Root, cI x1.1.Next, .d (.sl (List.map Node.cs x1.1.Nodes))]) rfl rfl trivial rfl) ?_
  obtain ⟨x2, hx2, hr⟩ := bind_some hr
  refine OkOps.q (triCallG (x := aS x2) (fun hg => vw_PathName_c _ _ (gO_t hx2 hg)) rfl rfl ⟨.inl rfl, .inl rfl, trivial⟩ ⟨fun h => h, trivial⟩ entry25 rfl rfl rfl) ?_
  refine OkOps.q (triQG (x := aB (x2.toList == (ByteArray.mk #[47, 35, 49, 46, 48, 47, 98]).toList)) rfl rfl ⟨fun h => h, trivial⟩ rfl) ?_
  refine OkOps.q (triAnd rfl rfl (fun h => h) rfl) ?_
  refine OkOps.x (aB (((((x1.2 == 0) && ((x1.1.Nodes.length : Int) == 3)) && (x1.1.Root == 5)) && (x1.1.Next == 8)) && (x2.toList == (ByteArray.mk #[47, 35, 49, 46, 48, 47, 98]).toList))) rfl trivial rfl ?_
  refine OkOps.q (triQG (x := .agg [cI x1.1.Root, cI x1.1.Next, .d (.sl (List.map Node.cs x1.1.Nodes))]) rfl rfl trivial rfl) ?_
  obtain ⟨x3, hx3, hr⟩ := bind_some hr
  refine OkOps.q (triCallG (x := aI x3) (fun hg => vw_Check_c _ (gO_t hx3 hg)) rfl rfl ⟨.inl rfl, trivial⟩ ⟨fun h => h, trivial⟩ entry43 rfl rfl rfl) ?_
  refine OkOps.q (triQG (x := aB (x3 == 0)) rfl rfl ⟨fun h => h, trivial⟩ rfl) ?_
  refine OkOps.q (triAnd rfl rfl (fun h => h) rfl) ?_
  refine OkOps.x (aB ((((((x1.2 == 0) && ((x1.1.Nodes.length : Int) == 3)) && (x1.1.Root == 5)) && (x1.1.Next == 8)) && (x2.toList == (ByteArray.mk #[47, 35, 49, 46, 48, 47, 98]).toList)) && (x3 == 0))) rfl trivial rfl ?_
  refine OkOps.nil ?_
  refine Ok.ret ?_
  obtain rfl := Option.some.inj hr
  exact ⟨_, rfl, .inl rfl, trivial⟩
theorem entry14 : Entry Tryd.prog 14 := ⟨_, Tryd.func14, by kernel_rfl, by kernel_rfl⟩
end Go.Proofs.YtcfegecdlbbeaaaDoor

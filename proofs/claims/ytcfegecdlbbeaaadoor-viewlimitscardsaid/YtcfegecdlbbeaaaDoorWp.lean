import Derived.Test.YtcfegecdlbbeaaaDoorAp
import Derived.Test.YtcfegecdlbbeaaaDoorWl
import Derived.Test.YtcfegecdlbbeaaaDoorProg
import Derived.KernelRfl
set_option maxRecDepth 100000
set_option maxHeartbeats 2000000
namespace Go.Proofs.YtcfegecdlbbeaaaDoor
open Go Go.E2
theorem l14_ViewLimits_c (a0 : Int) {r : Bool} (hr : l14_ViewLimits a0 = some r) : Con Tryd.prog 6 [aI a0] [] (.s (aB r)) [] := by
  unfold l14_ViewLimits at hr
  refine Con.of_ok 93 0 [.tmp 2] [(0, .s (aI a0))] Tryd.func6 rfl rfl rfl rfl rfl rfl rfl rfl fun w g M ρ _ => ?_
  refine Ok.seq ?_
  refine Ok.region ?_
  refine OkOps.x (aB false) rfl trivial rfl ?_
  refine OkOps.nil ?_
  refine Ok.seq ?_
  refine Ok.region ?_
  refine OkOps.x (.agg [cI 11, cS ByteArray.empty, .d (.v (.slice none 0 0)), .d (.v (.slice none 0 0)), .d (.v (.slice none 0 0))]) rfl trivial rfl ?_
  refine OkOps.m 0 (triAlloc (j := 0) (cs := [cI 0, cS ByteArray.empty, .d (.v (.slice none 0 0)), .d (.v (.slice none 0 0)), .d (.v (.slice none 0 0))]) rfl rfl rfl rfl) ?_
  refine OkOps.w (triStore (cs' := [cI 11, cS ByteArray.empty, .d (.v (.slice none 0 0)), .d (.v (.slice none 0 0)), .d (.v (.slice none 0 0))]) rfl rfl rfl rfl rfl rfl rfl rfl rfl) ?_
  refine OkOps.nil ?_
  refine Ok.seq ?_
  refine Ok.region ?_
  refine OkOps.x (.agg [cI 1, cS ByteArray.empty, .d (.v (.slice none 0 0)), .d (.v (.slice none 0 0)), .d (.v (.slice none 0 0))]) rfl trivial rfl ?_
  refine OkOps.m 0 (triAlloc (j := 1) (cs := [cI 0, cS ByteArray.empty, .d (.v (.slice none 0 0)), .d (.v (.slice none 0 0)), .d (.v (.slice none 0 0))]) rfl rfl rfl rfl) ?_
  refine OkOps.w (triStore (cs' := [cI 1, cS ByteArray.empty, .d (.v (.slice none 0 0)), .d (.v (.slice none 0 0)), .d (.v (.slice none 0 0))]) rfl rfl rfl rfl rfl rfl rfl rfl rfl) ?_
  refine OkOps.nil ?_
  obtain ⟨k2, hk2, hr⟩ := jn_some hr
  refine Ok.join (fun (s1 : (List View)) => ⟨[(0, .s (aI a0)), (3, .s (.c (.loc 0 0))), (4, .s (.c (.loc 1 0)))], [(0, .blk [cI 11, cS ByteArray.empty, .d (.v (.slice none 0 0)), .d (.v (.slice none 0 0)), .d (.v (.slice none 0 0))] 31), (1, .blk [cI 1, cS ByteArray.empty, .d (.v (.slice none 0 0)), .d (.v (.slice none 0 0)), .tl 1004 (List.map View.cs s1)] 31), (1004, .tail 5)], 0⟩) k2 r (fun s1 hr => ?_) ?_
  · rw [hk2] at hr
    refine Ok.seq ?_
    refine Ok.region ?_
    refine OkOps.x (.agg [cI 1, cS ByteArray.empty, .d (.v (.slice none 0 0)), .d (.v (.slice none 0 0)), .tl 1004 (List.map View.cs s1)]) rfl trivial rfl ?_
    refine OkOps.x (.agg [cI 1, cS ByteArray.empty, .d (.v (.slice none 0 0)), .d (.v (.slice none 0 0)), .tl 1004 (List.map View.cs s1)]) rfl trivial rfl ?_
    refine OkOps.x (.agg [cI 1, cS ByteArray.empty, .d (.v (.slice none 0 0)), .d (.v (.slice none 0 0)), .tl 1004 (List.map View.cs s1)]) rfl trivial rfl ?_
    refine OkOps.x (.agg [cI 1, cS ByteArray.empty, .d (.v (.slice none 0 0)), .d (.v (.slice none 0 0)), .tl 1004 (List.map View.cs s1)]) rfl trivial rfl ?_
    refine OkOps.m 0 (triBST (sz := 5) (enc := View.cs) (j := 2) ([(View.mk 1 ByteArray.empty ([] : (List Attr)) ([] : (List Action)) s1), (View.mk 1 ByteArray.empty ([] : (List Attr)) ([] : (List Action)) s1), (View.mk 1 ByteArray.empty ([] : (List Attr)) ([] : (List Action)) s1), (View.mk 1 ByteArray.empty ([] : (List Attr)) ([] : (List Action)) s1)]) rfl rfl rfl rfl rfl (rows := [[dI 1, dS ByteArray.empty, .sl [], .sl [], .sl (List.map View.cs s1)], [dI 1, dS ByteArray.empty, .sl [], .sl [], .sl (List.map View.cs s1)], [dI 1, dS ByteArray.empty, .sl [], .sl [], .sl (List.map View.cs s1)], [dI 1, dS ByteArray.empty, .sl [], .sl [], .sl (List.map View.cs s1)]]) (by simp only [List.map, View.cs_eq]) rfl rfl (fun x => by rw [View.cs_eq]; rfl) trivial rfl rfl) ?_
    refine OkOps.x (.agg [cI 1, cS ByteArray.empty, .d (.v (.slice none 0 0)), .d (.v (.slice none 0 0)), .tl 2 (List.map View.cs ([(View.mk 1 ByteArray.empty ([] : (List Attr)) ([] : (List Action)) s1), (View.mk 1 ByteArray.empty ([] : (List Attr)) ([] : (List Action)) s1), (View.mk 1 ByteArray.empty ([] : (List Attr)) ([] : (List Action)) s1), (View.mk 1 ByteArray.empty ([] : (List Attr)) ([] : (List Action)) s1)]))]) rfl trivial rfl ?_
    refine OkOps.m 0 (triAlloc (j := 3) (cs := [cI 0, cS ByteArray.empty, .d (.v (.slice none 0 0)), .d (.v (.slice none 0 0)), .d (.v (.slice none 0 0))]) rfl rfl rfl rfl) ?_
    refine OkOps.w (triStore (cs' := [cI 1, cS ByteArray.empty, .d (.v (.slice none 0 0)), .d (.v (.slice none 0 0)), .tl 2 (List.map View.cs ([(View.mk 1 ByteArray.empty ([] : (List Attr)) ([] : (List Action)) s1), (View.mk 1 ByteArray.empty ([] : (List Attr)) ([] : (List Action)) s1), (View.mk 1 ByteArray.empty ([] : (List Attr)) ([] : (List Action)) s1), (View.mk 1 ByteArray.empty ([] : (List Attr)) ([] : (List Action)) s1)]))]) rfl rfl rfl rfl rfl rfl rfl rfl rfl) ?_
    refine OkOps.nil ?_
    obtain ⟨k4, hk4, hr⟩ := jn_some hr
    refine Ok.join (fun (s3 : (List View)) => ⟨[(0, .s (aI a0)), (3, .s (.c (.loc 0 0))), (6, .s (.c (.loc 3 0)))], [(0, .blk [cI 11, cS ByteArray.empty, .d (.v (.slice none 0 0)), .d (.v (.slice none 0 0)), .d (.v (.slice none 0 0))] 31), (3, .blk [cI 1, cS ByteArray.empty, .d (.v (.slice none 0 0)), .d (.v (.slice none 0 0)), .tl 1008 (List.map View.cs s3)] 31), (1008, .tail 5)], 0⟩) k4 r (fun s3 hr => ?_) ?_
    · rw [hk4] at hr
      refine Ok.seq ?_
      refine Ok.region ?_
      refine OkOps.x (aI a0) rfl trivial rfl ?_
      refine OkOps.x (aI (bAnd .i64 a0 3)) rfl trivial rfl ?_
      refine OkOps.x (aI (IntKind.i64.wrap (399 + (bAnd .i64 a0 3)))) rfl trivial rfl ?_
      refine OkOps.x (aB (decide ((IntKind.i64.wrap (399 + (bAnd .i64 a0 3))) ≤ 400))) rfl trivial rfl ?_
      refine OkOps.x (aB (decide ((IntKind.i64.wrap (399 + (bAnd .i64 a0 3))) ≤ 400))) rfl trivial rfl ?_
      refine OkOps.nil ?_
      refine Ok.seq ?_
      refine Ok.region ?_
      refine OkOps.x (.agg [cI 1, cS ByteArray.empty, .d (.v (.slice none 0 0)), .d (.v (.slice none 0 0)), .tl 1008 (List.map View.cs s3)]) rfl trivial rfl ?_
      obtain ⟨x5, hx5, hr⟩ := bind_some hr
      refine OkOps.q (triCall (tau []) (.tup [.agg [cI x5.1.Root, cI x5.1.Next, .d (.sl (List.map Node.cs x5.1.Nodes))], aI x5.2]) [] (vw_Build_c _ _ hx5) rfl ⟨.inr rfl, .inl rfl, trivial⟩ trivial entry26 trivial rfl rfl rfl rfl trivial rfl rfl rfl) ?_
      refine OkOps.q (triMv (v := .tup [.agg [cI x5.1.Root, cI x5.1.Next, .d (.sl (List.map Node.cs x5.1.Nodes))], aI x5.2]) rfl rfl) ?_
      refine OkOps.x (.agg [cI x5.1.Root, cI x5.1.Next, .d (.sl (List.map Node.cs x5.1.Nodes))]) rfl trivial rfl ?_
      refine OkOps.x (aI x5.2) rfl trivial rfl ?_
      refine OkOps.m 0 (triAlloc (j := 4) (cs := [cI 0, cI 0, .d (.v (.slice none 0 0))]) rfl rfl rfl rfl) ?_
      refine OkOps.w (triStore (cs' := [cI x5.1.Root, cI x5.1.Next, .d (.sl (List.map Node.cs x5.1.Nodes))]) rfl rfl rfl rfl rfl rfl rfl rfl rfl) ?_
      refine OkOps.x (aI x5.2) rfl trivial rfl ?_
      refine OkOps.nil ?_
      refine Ok.seq ?_
      refine Ok.seq ?_
      refine Ok.region ?_
      refine OkOps.x (.agg [cI 1, cS ByteArray.empty, .d (.v (.slice none 0 0)), .d (.v (.slice none 0 0)), .tl 1008 (List.map View.cs s3)]) rfl trivial rfl ?_
      obtain ⟨x6, hx6, hr⟩ := bind_some hr
      refine OkOps.q (triCall (tau []) (.s (aI x6)) [] (vw_Validate_c _ hx6) rfl ⟨.inr rfl, trivial⟩ trivial entry17 trivial rfl rfl rfl rfl trivial rfl rfl rfl) ?_
      refine OkOps.x (aB (x6 == 0)) rfl trivial rfl ?_
      refine OkOps.x (aB (decide ((IntKind.i64.wrap (399 + (bAnd .i64 a0 3))) ≤ 400))) rfl trivial rfl ?_
      refine OkOps.x (aB ((x6 == 0) != (decide ((IntKind.i64.wrap (399 + (bAnd .i64 a0 3))) ≤ 400)))) rfl trivial rfl ?_
      refine OkOps.x (aB ((x6 == 0) != (decide ((IntKind.i64.wrap (399 + (bAnd .i64 a0 3))) ≤ 400)))) rfl trivial rfl ?_
      refine OkOps.q (triQG (x := aI x5.2) rfl rfl trivial rfl) ?_
      refine OkOps.q (triQG (x := aB (x5.2 == 0)) rfl rfl ⟨fun h => h, trivial⟩ rfl) ?_
      refine OkOps.q (triQG (x := aB (decide ((IntKind.i64.wrap (399 + (bAnd .i64 a0 3))) ≤ 400))) rfl rfl trivial rfl) ?_
      refine OkOps.q (triQG (x := aB ((x5.2 == 0) != (decide ((IntKind.i64.wrap (399 + (bAnd .i64 a0 3))) ≤ 400)))) rfl rfl ⟨fun h => h, ⟨fun h => h, trivial⟩⟩ rfl) ?_
      refine OkOps.q (triOr rfl rfl (fun h => by rw [h]; rfl) rfl) ?_
      refine OkOps.x (aB (((x6 == 0) != (decide ((IntKind.i64.wrap (399 + (bAnd .i64 a0 3))) ≤ 400))) || ((x5.2 == 0) != (decide ((IntKind.i64.wrap (399 + (bAnd .i64 a0 3))) ≤ 400))))) rfl trivial rfl ?_
      refine OkOps.q (triQG (x := aB (decide ((IntKind.i64.wrap (399 + (bAnd .i64 a0 3))) ≤ 400))) rfl rfl trivial rfl) ?_
      refine OkOps.q (triQG (x := aB (decide ((IntKind.i64.wrap (399 + (bAnd .i64 a0 3))) ≤ 400))) rfl rfl ⟨fun h => h, trivial⟩ rfl) ?_
      refine OkOps.q (triQG (x := .c (.loc 4 2)) rfl rfl trivial rfl) ?_
      refine OkOps.q (triQG (x := .c (.d (.sl (List.map Node.cs x5.1.Nodes)))) rfl rfl ⟨fun h => h, trivial⟩ rfl) ?_
      refine OkOps.q (triLenG (enc := Node.cs) x5.1.Nodes rfl rfl rfl ⟨fun h => h, trivial⟩ rfl) ?_
      refine OkOps.q (triQG (x := aI a0) rfl rfl trivial rfl) ?_
      refine OkOps.q (triQG (x := aI (bAnd .i64 a0 3)) rfl rfl ⟨fun h => h, trivial⟩ rfl) ?_
      refine OkOps.q (triQG (x := aI (IntKind.i64.wrap (399 + (bAnd .i64 a0 3)))) rfl rfl ⟨fun h => h, trivial⟩ rfl) ?_
      refine OkOps.q (triQG (x := aB ((x5.1.Nodes.length : Int) != (IntKind.i64.wrap (399 + (bAnd .i64 a0 3))))) rfl rfl ⟨fun h => h, ⟨fun h => h, trivial⟩⟩ rfl) ?_
      refine OkOps.q (triAndG rfl rfl rfl (fun h => h) (fun h h2 => by rw [h, h2]; rfl) rfl) ?_
      refine OkOps.q (triOr rfl rfl (fun h => by rw [h]; rfl) rfl) ?_
      refine OkOps.nil ?_
      refine Ok.cond (b := (((x6 == 0) != (decide ((IntKind.i64.wrap (399 + (bAnd .i64 a0 3))) ≤ 400))) || ((x5.2 == 0) != (decide ((IntKind.i64.wrap (399 + (bAnd .i64 a0 3))) ≤ 400)))) || ((decide ((IntKind.i64.wrap (399 + (bAnd .i64 a0 3))) ≤ 400)) && ((x5.1.Nodes.length : Int) != (IntKind.i64.wrap (399 + (bAnd .i64 a0 3)))))) rfl (fun h7 => ?_) (fun h7 => ?_)
      · have hr := selT h7 hr
        refine Ok.seq ?_
        refine Ok.region ?_
        refine OkOps.x (aB false) rfl trivial rfl ?_
        refine OkOps.nil ?_
        refine Ok.ret ?_
        obtain rfl := Option.some.inj hr
        exact ⟨_, rfl, .inl rfl, trivial⟩
      · have hr := selF h7 hr
        refine Ok.skip ?_
        refine Ok.seq ?_
        refine Ok.region ?_
        refine OkOps.x (.agg [cI 11, cS ByteArray.empty, .d (.v (.slice none 0 0)), .d (.v (.slice none 0 0)), .d (.v (.slice none 0 0))]) rfl trivial rfl ?_
        refine OkOps.x (aI a0) rfl trivial rfl ?_
        refine OkOps.x (aI (bAnd .i64 a0 1)) rfl trivial rfl ?_
        refine OkOps.x (aI (IntKind.i64.wrap (1099511627376 + (bAnd .i64 a0 1)))) rfl trivial rfl ?_
        obtain ⟨x8, hx8, hr⟩ := bind_some hr
        refine OkOps.q (triCall (tau []) (.tup [.agg [cI x8.1.Root, cI x8.1.Next, .d (.sl (List.map Node.cs x8.1.Nodes))], aI x8.2]) [] (vw_Build_c _ _ hx8) rfl ⟨.inr rfl, .inl rfl, trivial⟩ trivial entry26 trivial rfl rfl rfl rfl trivial rfl rfl rfl) ?_
        refine OkOps.q (triMv (v := .tup [.agg [cI x8.1.Root, cI x8.1.Next, .d (.sl (List.map Node.cs x8.1.Nodes))], aI x8.2]) rfl rfl) ?_
        refine OkOps.x (.agg [cI x8.1.Root, cI x8.1.Next, .d (.sl (List.map Node.cs x8.1.Nodes))]) rfl trivial rfl ?_
        refine OkOps.x (aI x8.2) rfl trivial rfl ?_
        refine OkOps.m 0 (triAlloc (j := 5) (cs := [cI 0, cI 0, .d (.v (.slice none 0 0))]) rfl rfl rfl rfl) ?_
        refine OkOps.w (triStore (cs' := [cI x8.1.Root, cI x8.1.Next, .d (.sl (List.map Node.cs x8.1.Nodes))]) rfl rfl rfl rfl rfl rfl rfl rfl rfl) ?_
        refine OkOps.x (aI x8.2) rfl trivial rfl ?_
        refine OkOps.nil ?_
        refine Ok.seq ?_
        refine Ok.region ?_
        refine OkOps.x (aI x8.2) rfl trivial rfl ?_
        refine OkOps.x (aB (x8.2 == 0)) rfl trivial rfl ?_
        refine OkOps.x (aI a0) rfl trivial rfl ?_
        refine OkOps.x (aI (bAnd .i64 a0 1)) rfl trivial rfl ?_
        refine OkOps.x (aB ((bAnd .i64 a0 1) == 0)) rfl trivial rfl ?_
        refine OkOps.x (aB ((x8.2 == 0) == ((bAnd .i64 a0 1) == 0))) rfl trivial rfl ?_
        refine OkOps.x (aB ((x8.2 == 0) == ((bAnd .i64 a0 1) == 0))) rfl trivial rfl ?_
        obtain ⟨x9, hx9, hr⟩ := bind_some hr
        refine OkOps.q (triCallG (x := aB x9) (fun hg => l14_awake_c  (gO_t hx9 hg)) rfl rfl trivial trivial entry14 rfl rfl rfl) ?_
        refine OkOps.q (triAnd rfl rfl (fun h => h) rfl) ?_
        refine OkOps.x (aB (((x8.2 == 0) == ((bAnd .i64 a0 1) == 0)) && x9)) rfl trivial rfl ?_
        refine OkOps.nil ?_
        refine Ok.ret ?_
        obtain rfl := Option.some.inj hr
        exact ⟨_, rfl, .inl rfl, trivial⟩
    · clear hk4
      refine Ok.seq ?_
      refine Ok.region ?_
      refine OkOps.x (aI 0) rfl trivial rfl ?_
      refine OkOps.nil ?_
      refine Ok.block ?_
      refine Ok.loopK (fun (s10 : Int × (List View)) => ⟨[(0, .s (aI a0)), (3, .s (.c (.loc 0 0))), (6, .s (.c (.loc 3 0))), (7, .s (aI s10.1))], [(0, .blk [cI 11, cS ByteArray.empty, .d (.v (.slice none 0 0)), .d (.v (.slice none 0 0)), .d (.v (.slice none 0 0))] 31), (3, .blk [cI 1, cS ByteArray.empty, .d (.v (.slice none 0 0)), .d (.v (.slice none 0 0)), .tl 1010 (List.map View.cs s10.2)] 31), (1010, .tail 5)], 0⟩) hr (Conv.mk (tau [(1010, 2)]) ⟨⟨_, rfl, .inl rfl⟩, ⟨_, rfl, .inl rfl⟩, ⟨_, rfl, .inl rfl⟩, ⟨_, rfl, .inl rfl⟩, trivial⟩ ⟨rfl, rfl, rfl, trivial⟩ rfl rfl rfl rfl) ?_
      clear hr
      intro again11 s10 hr
      unfold l14_ViewLimits_L1 at hr
      refine Ok.seq ?_
      refine Ok.seq ?_
      refine Ok.region ?_
      refine OkOps.x (aI s10.1) rfl trivial rfl ?_
      refine OkOps.x (aI a0) rfl trivial rfl ?_
      refine OkOps.x (aI (bAnd .i64 a0 3)) rfl trivial rfl ?_
      refine OkOps.x (aI (IntKind.i64.wrap (2 + (bAnd .i64 a0 3)))) rfl trivial rfl ?_
      refine OkOps.x (aB (decide (s10.1 < (IntKind.i64.wrap (2 + (bAnd .i64 a0 3)))))) rfl trivial rfl ?_
      refine OkOps.nil ?_
      refine Ok.cond (b := decide (s10.1 < (IntKind.i64.wrap (2 + (bAnd .i64 a0 3))))) rfl (fun h12 => ?_) (fun h12 => ?_)
      · have hr := selT h12 hr
        refine Ok.skip ?_
        refine Ok.seq ?_
        refine Ok.block ?_
        refine Ok.region ?_
        refine OkOps.x (.c (.loc 3 4)) rfl trivial rfl ?_
        refine OkOps.x (.c (.tl 1010 (List.map View.cs s10.2))) rfl trivial rfl ?_
        refine OkOps.x (.agg [cI 11, cS ByteArray.empty, .d (.v (.slice none 0 0)), .d (.v (.slice none 0 0)), .d (.v (.slice none 0 0))]) rfl trivial rfl ?_
        refine OkOps.m 0 (triBST (sz := 5) (enc := View.cs) (j := 6) ([(View.mk 11 ByteArray.empty ([] : (List Attr)) ([] : (List Action)) ([] : (List View)))]) rfl rfl rfl rfl rfl (rows := [[dI 11, dS ByteArray.empty, .sl [], .sl [], .sl []]]) (by simp only [List.map, View.cs_eq]) rfl rfl (fun x => by rw [View.cs_eq]; rfl) trivial rfl rfl) ?_
        obtain ⟨x13, hx13, hr⟩ := bind_some hr
        refine OkOps.m2 0 (triApp (enc := View.cs) (L := s10.2) (X := [(View.mk 11 ByteArray.empty ([] : (List Attr)) ([] : (List Action)) ([] : (List View)))]) (j := 1010) (j' := 7) hx13 rfl rfl rfl rfl rfl rfl (fun x => by rw [View.cs_eq]; rfl) (fun x => by rw [View.cs_eq]; rfl) (by decide) trivial rfl rfl) ?_
        refine OkOps.x (.c (.loc 3 4)) rfl trivial rfl ?_
        refine OkOps.w (triStore (cs' := [cI 1, cS ByteArray.empty, .d (.v (.slice none 0 0)), .d (.v (.slice none 0 0)), .tl 7 (List.map View.cs x13)]) rfl rfl rfl rfl rfl rfl rfl rfl rfl) ?_
        refine OkOps.nil ?_
        refine Ok.region ?_
        refine OkOps.x (aI s10.1) rfl trivial rfl ?_
        refine OkOps.x (aI (IntKind.i64.wrap (s10.1 + 1))) rfl trivial rfl ?_
        refine OkOps.x (aI (IntKind.i64.wrap (s10.1 + 1))) rfl trivial rfl ?_
        refine OkOps.nil ?_
        exact ⟨(IntKind.i64.wrap (s10.1 + 1), x13), hr, (Conv.mk (tau [(1010, 7)]) ⟨⟨_, rfl, .inl rfl⟩, ⟨_, rfl, .inl rfl⟩, ⟨_, rfl, .inl rfl⟩, ⟨_, rfl, .inl rfl⟩, trivial⟩ ⟨rfl, rfl, rfl, trivial⟩ rfl rfl rfl rfl)⟩
      · have hr := selF h12 hr
        refine Ok.exit ?_
        exact ⟨s10.2, hr, (Conv.mk (tau [(1008, 1010)]) ⟨⟨_, rfl, .inl rfl⟩, ⟨_, rfl, .inl rfl⟩, ⟨_, rfl, .inl rfl⟩, trivial⟩ ⟨rfl, rfl, rfl, trivial⟩ rfl rfl rfl rfl)⟩
  · clear hk2
    refine Ok.seq ?_
    refine Ok.region ?_
    refine OkOps.x (aI 0) rfl trivial rfl ?_
    refine OkOps.nil ?_
    refine Ok.block ?_
    refine Ok.loopK (fun (s14 : Int × (List View)) => ⟨[(0, .s (aI a0)), (3, .s (.c (.loc 0 0))), (4, .s (.c (.loc 1 0))), (5, .s (aI s14.1))], [(0, .blk [cI 11, cS ByteArray.empty, .d (.v (.slice none 0 0)), .d (.v (.slice none 0 0)), .d (.v (.slice none 0 0))] 31), (1, .blk [cI 1, cS ByteArray.empty, .d (.v (.slice none 0 0)), .d (.v (.slice none 0 0)), .tl 1014 (List.map View.cs s14.2)] 31), (1014, .tail 5)], 0⟩) hr (Conv.trans (Conv.nilO 1 4 1016 5 [cI 1, cS ByteArray.empty, .d (.v (.slice none 0 0)), .d (.v (.slice none 0 0)), .d (.v (.slice none 0 0))] [cI 1, cS ByteArray.empty, .d (.v (.slice none 0 0)), .d (.v (.slice none 0 0)), .tl 1016 (List.map View.cs ([] : (List View)))] 31 0 rfl rfl rfl rfl) (Conv.mk (tau [(1014, 1016)]) ⟨⟨_, rfl, .inl rfl⟩, ⟨_, rfl, .inl rfl⟩, ⟨_, rfl, .inl rfl⟩, ⟨_, rfl, .inl rfl⟩, trivial⟩ ⟨rfl, rfl, rfl, trivial⟩ rfl rfl rfl rfl)) ?_
    clear hr
    intro again15 s14 hr
    unfold l14_ViewLimits_L2 at hr
    refine Ok.seq ?_
    refine Ok.seq ?_
    refine Ok.region ?_
    refine OkOps.x (aI s14.1) rfl trivial rfl ?_
    refine OkOps.x (aB (decide (s14.1 < 98))) rfl trivial rfl ?_
    refine OkOps.nil ?_
    refine Ok.cond (b := decide (s14.1 < 98)) rfl (fun h16 => ?_) (fun h16 => ?_)
    · have hr := selT h16 hr
      refine Ok.skip ?_
      refine Ok.seq ?_
      refine Ok.block ?_
      refine Ok.region ?_
      refine OkOps.x (.c (.loc 1 4)) rfl trivial rfl ?_
      refine OkOps.x (.c (.tl 1014 (List.map View.cs s14.2))) rfl trivial rfl ?_
      refine OkOps.x (.agg [cI 11, cS ByteArray.empty, .d (.v (.slice none 0 0)), .d (.v (.slice none 0 0)), .d (.v (.slice none 0 0))]) rfl trivial rfl ?_
      refine OkOps.m 0 (triBST (sz := 5) (enc := View.cs) (j := 8) ([(View.mk 11 ByteArray.empty ([] : (List Attr)) ([] : (List Action)) ([] : (List View)))]) rfl rfl rfl rfl rfl (rows := [[dI 11, dS ByteArray.empty, .sl [], .sl [], .sl []]]) (by simp only [List.map, View.cs_eq]) rfl rfl (fun x => by rw [View.cs_eq]; rfl) trivial rfl rfl) ?_
      obtain ⟨x17, hx17, hr⟩ := bind_some hr
      refine OkOps.m2 0 (triApp (enc := View.cs) (L := s14.2) (X := [(View.mk 11 ByteArray.empty ([] : (List Attr)) ([] : (List Action)) ([] : (List View)))]) (j := 1014) (j' := 9) hx17 rfl rfl rfl rfl rfl rfl (fun x => by rw [View.cs_eq]; rfl) (fun x => by rw [View.cs_eq]; rfl) (by decide) trivial rfl rfl) ?_
      refine OkOps.x (.c (.loc 1 4)) rfl trivial rfl ?_
      refine OkOps.w (triStore (cs' := [cI 1, cS ByteArray.empty, .d (.v (.slice none 0 0)), .d (.v (.slice none 0 0)), .tl 9 (List.map View.cs x17)]) rfl rfl rfl rfl rfl rfl rfl rfl rfl) ?_
      refine OkOps.nil ?_
      refine Ok.region ?_
      refine OkOps.x (aI s14.1) rfl trivial rfl ?_
      refine OkOps.x (aI (IntKind.i64.wrap (s14.1 + 1))) rfl trivial rfl ?_
      refine OkOps.x (aI (IntKind.i64.wrap (s14.1 + 1))) rfl trivial rfl ?_
      refine OkOps.nil ?_
      exact ⟨(IntKind.i64.wrap (s14.1 + 1), x17), hr, (Conv.mk (tau [(1014, 9)]) ⟨⟨_, rfl, .inl rfl⟩, ⟨_, rfl, .inl rfl⟩, ⟨_, rfl, .inl rfl⟩, ⟨_, rfl, .inl rfl⟩, trivial⟩ ⟨rfl, rfl, rfl, trivial⟩ rfl rfl rfl rfl)⟩
    · have hr := selF h16 hr
      refine Ok.exit ?_
      exact ⟨s14.2, hr, (Conv.mk (tau [(1004, 1014)]) ⟨⟨_, rfl, .inl rfl⟩, ⟨_, rfl, .inl rfl⟩, ⟨_, rfl, .inl rfl⟩, trivial⟩ ⟨rfl, rfl, rfl, trivial⟩ rfl rfl rfl rfl)⟩
theorem entry6 : Entry Tryd.prog 6 := ⟨_, Tryd.func6, by kernel_rfl, by kernel_rfl⟩
end Go.Proofs.YtcfegecdlbbeaaaDoor

import Derived.Test.YtcfegecdlbbeaaaDoorAm
import Derived.Test.YtcfegecdlbbeaaaDoorWl
import Derived.Test.YtcfegecdlbbeaaaDoorWf
import Derived.Test.YtcfegecdlbbeaaaDoorWb
import Derived.Test.YtcfegecdlbbeaaaDoorProg
import Derived.KernelRfl
set_option maxRecDepth 100000
namespace Go.Proofs.YtcfegecdlbbeaaaDoor
open Go Go.E2
theorem l14_ViewAttrs_c (a0 : (List Attr)) (a1 : Str) (a2 : Int) {r : Bool} (hr : l14_ViewAttrs a0 a1 a2 = some r) : Con Tryd.prog 7 [.c (.d (.sl (List.map Attr.cs a0))), aS a1, aI a2] [] (.s (aB r)) [] := by
  unfold l14_ViewAttrs at hr
  refine Con.of_ok 128 0 [.tmp 6] [(0, .s (.c (.d (.sl (List.map Attr.cs a0))))), (1, .s (aS a1)), (2, .s (aI a2))] Tryd.func7 rfl rfl rfl rfl rfl rfl rfl rfl fun w g M ρ _ => ?_
  refine Ok.seq ?_
  refine Ok.region ?_
  refine OkOps.x (aB false) rfl trivial rfl ?_
  refine OkOps.nil ?_
  refine Ok.seq ?_
  refine Ok.seq ?_
  refine Ok.region ?_
  refine OkOps.x (.c (.d (.sl (List.map Attr.cs a0)))) rfl trivial rfl ?_
  refine OkOps.q (triLen (enc := Attr.cs) a0 rfl rfl trivial rfl) ?_
  refine OkOps.x (aB (decide ((a0.length : Int) > 40))) rfl trivial rfl ?_
  refine OkOps.nil ?_
  refine Ok.cond (b := decide ((a0.length : Int) > 40)) rfl (fun h1 => ?_) (fun h1 => ?_)
  · have hr := selT h1 hr
    refine Ok.seq ?_
    refine Ok.region ?_
    refine OkOps.x (aB true) rfl trivial rfl ?_
    refine OkOps.nil ?_
    refine Ok.ret ?_
    obtain rfl := Option.some.inj hr
    exact ⟨_, rfl, .inl rfl, trivial⟩
  · have hr := selF h1 hr
    refine Ok.skip ?_
    obtain ⟨k3, hk3, hr⟩ := jn_some hr
    refine Ok.join (fun (s2 : Unit) => ⟨[(0, .s (.c (.d (.sl (List.map Attr.cs a0))))), (1, .s (aS a1)), (2, .s (aI a2))], [], 0⟩) k3 r (fun s2 hr => ?_) ?_
    · rw [hk3] at hr
      refine Ok.seq ?_
      refine Ok.region ?_
      refine OkOps.x (aS a1) rfl trivial rfl ?_
      refine OkOps.m 0 (triBST (sz := 1) (enc := eStr) (j := 0) ([a1]) rfl rfl rfl rfl rfl rfl rfl rfl (fun _ => rfl) trivial rfl rfl) ?_
      refine OkOps.x (.c (.tl 0 (List.map eStr ([a1])))) rfl trivial rfl ?_
      refine OkOps.nil ?_
      obtain ⟨k5, hk5, hr⟩ := jn_some hr
      refine Ok.join (fun (s4 : (List Str)) => ⟨[(0, .s (.c (.d (.sl (List.map Attr.cs a0))))), (2, .s (aI a2)), (8, .s (.c (.tl 1003 (List.map eStr s4))))], [(1003, .tail 1)], 0⟩) k5 r (fun s4 hr => ?_) ?_
      · rw [hk5] at hr
        obtain ⟨k7, hk7, hr⟩ := jn_some hr
        refine Ok.join (fun (s6 : Unit) => ⟨[], [], 0⟩) k7 r (fun s6 hr => ?_) ?_
        · rw [hk7] at hr
          refine Ok.seq ?_
          refine Ok.region ?_
          obtain ⟨x8, hx8, hr⟩ := bind_some hr
          refine OkOps.q (triCall (tau []) (.s (aB x8)) [] (l14_awake_c  hx8) rfl trivial trivial entry14 trivial rfl rfl rfl rfl trivial rfl rfl rfl) ?_
          refine OkOps.x (aB x8) rfl trivial rfl ?_
          refine OkOps.nil ?_
          refine Ok.ret ?_
          obtain rfl := Option.some.inj hr
          exact ⟨_, rfl, .inl rfl, trivial⟩
        · clear hk7
          refine Ok.seq ?_
          refine Ok.region ?_
          refine OkOps.x (aI 0) rfl trivial rfl ?_
          refine OkOps.nil ?_
          refine Ok.block ?_
          refine Ok.loopK (fun (s9 : Int) => ⟨[(0, .s (.c (.d (.sl (List.map Attr.cs a0))))), (2, .s (aI a2)), (8, .s (.c (.tl 1003 (List.map eStr s4)))), (10, .s (aI s9))], [(1003, .tail 1)], 0⟩) hr (Conv.mk (tau []) ⟨⟨_, rfl, .inl rfl⟩, ⟨_, rfl, .inl rfl⟩, ⟨_, rfl, .inl rfl⟩, ⟨_, rfl, .inl rfl⟩, trivial⟩ ⟨rfl, trivial⟩ rfl rfl rfl rfl) ?_
          clear hr
          intro again10 s9 hr
          unfold l14_ViewAttrs_L1 at hr
          refine Ok.seq ?_
          refine Ok.seq ?_
          refine Ok.region ?_
          refine OkOps.x (aI s9) rfl trivial rfl ?_
          refine OkOps.x (.c (.tl 1003 (List.map eStr s4))) rfl trivial rfl ?_
          refine OkOps.q (triLen (enc := eStr) s4 rfl rfl trivial rfl) ?_
          refine OkOps.x (aB (decide (s9 < (s4.length : Int)))) rfl trivial rfl ?_
          refine OkOps.nil ?_
          refine Ok.cond (b := decide (s9 < (s4.length : Int))) rfl (fun h11 => ?_) (fun h11 => ?_)
          · have hr := selT h11 hr
            refine Ok.skip ?_
            refine Ok.seq ?_
            refine Ok.block ?_
            refine Ok.seq ?_
            refine Ok.region ?_
            refine OkOps.x (.c (.d (.sl (List.map Attr.cs a0)))) rfl trivial rfl ?_
            refine OkOps.x (.c (.tl 1003 (List.map eStr s4))) rfl trivial rfl ?_
            refine OkOps.x (aI s9) rfl trivial rfl ?_
            obtain ⟨x12, hx12, hr⟩ := bind_some hr
            refine OkOps.q (triIdx (enc := eStr) (L := s4) (row := [dS x12]) hx12 rfl rfl rfl rfl (fun _ => rfl) trivial rfl) ?_
            refine OkOps.x (aS x12) rfl trivial rfl ?_
            obtain ⟨x13, hx13, hr⟩ := bind_some hr
            refine OkOps.q (triCall (tau []) (.tup [.agg [cI x13.1.Kind, cI x13.1.N, cS x13.1.S, .d (.sl (List.map AValue.cs x13.1.L))], aB x13.2]) [] (vw_Attr_c _ _ hx13) rfl ⟨.inl rfl, .inl rfl, trivial⟩ trivial entry28 trivial rfl rfl rfl rfl trivial rfl rfl rfl) ?_
            refine OkOps.q (triMv (v := .tup [.agg [cI x13.1.Kind, cI x13.1.N, cS x13.1.S, .d (.sl (List.map AValue.cs x13.1.L))], aB x13.2]) rfl rfl) ?_
            refine OkOps.x (.agg [cI x13.1.Kind, cI x13.1.N, cS x13.1.S, .d (.sl (List.map AValue.cs x13.1.L))]) rfl trivial rfl ?_
            refine OkOps.x (aB x13.2) rfl trivial rfl ?_
            refine OkOps.m 0 (triAlloc (j := 1) (cs := [cI 0, cI 0, cS ByteArray.empty, .d (.v (.slice none 0 0))]) rfl rfl rfl rfl) ?_
            refine OkOps.w (triStore (cs' := [cI x13.1.Kind, cI x13.1.N, cS x13.1.S, .d (.sl (List.map AValue.cs x13.1.L))]) rfl rfl rfl rfl rfl rfl rfl rfl rfl) ?_
            refine OkOps.x (aB x13.2) rfl trivial rfl ?_
            refine OkOps.nil ?_
            refine Ok.seq ?_
            refine Ok.region ?_
            refine OkOps.x (.c (.d (.sl (List.map Attr.cs a0)))) rfl trivial rfl ?_
            refine OkOps.x (.c (.tl 1003 (List.map eStr s4))) rfl trivial rfl ?_
            refine OkOps.x (aI s9) rfl trivial rfl ?_
            obtain ⟨x14, hx14, hr⟩ := bind_some hr
            refine OkOps.q (triIdx (enc := eStr) (L := s4) (row := [dS x14]) hx14 rfl rfl rfl rfl (fun _ => rfl) trivial rfl) ?_
            refine OkOps.x (aS x14) rfl trivial rfl ?_
            obtain ⟨x15, hx15, hr⟩ := bind_some hr
            refine OkOps.q (triCall (tau []) (.tup [.agg [cI x15.1.Kind, cI x15.1.N, cS x15.1.S, .d (.sl (List.map AValue.cs x15.1.L))], aB x15.2]) [] (r14_Attr_c _ _ hx15) rfl ⟨.inl rfl, .inl rfl, trivial⟩ trivial entry29 trivial rfl rfl rfl rfl trivial rfl rfl rfl) ?_
            refine OkOps.q (triMv (v := .tup [.agg [cI x15.1.Kind, cI x15.1.N, cS x15.1.S, .d (.sl (List.map AValue.cs x15.1.L))], aB x15.2]) rfl rfl) ?_
            refine OkOps.x (.agg [cI x15.1.Kind, cI x15.1.N, cS x15.1.S, .d (.sl (List.map AValue.cs x15.1.L))]) rfl trivial rfl ?_
            refine OkOps.x (aB x15.2) rfl trivial rfl ?_
            refine OkOps.m 0 (triAlloc (j := 2) (cs := [cI 0, cI 0, cS ByteArray.empty, .d (.v (.slice none 0 0))]) rfl rfl rfl rfl) ?_
            refine OkOps.w (triStore (cs' := [cI x15.1.Kind, cI x15.1.N, cS x15.1.S, .d (.sl (List.map AValue.cs x15.1.L))]) rfl rfl rfl rfl rfl rfl rfl rfl rfl) ?_
            refine OkOps.x (aB x15.2) rfl trivial rfl ?_
            refine OkOps.nil ?_
            refine Ok.seq ?_
            refine Ok.regionD (by kernel_rfl) ?_
            refine OkD.x (aB x13.2) rfl trivial rfl ?_
            refine OkD.x (aB x15.2) rfl trivial rfl ?_
            refine OkD.x (aB (x13.2 != x15.2)) rfl trivial rfl ?_
            refine OkD.x (aB (x13.2 != x15.2)) rfl trivial rfl ?_
            refine OkD.q (triQG (x := .agg [cI x13.1.Kind, cI x13.1.N, cS x13.1.S, .d (.sl (List.map AValue.cs x13.1.L))]) rfl rfl trivial rfl) ?_
            refine OkD.q (triQG (x := .agg [cI x15.1.Kind, cI x15.1.N, cS x15.1.S, .d (.sl (List.map AValue.cs x15.1.L))]) rfl rfl trivial rfl) ?_
            obtain ⟨x16, hx16, hr⟩ := bind_some hr
            refine OkD.q (triCallG (x := aB x16) (fun hg => r11_Same_c _ _ _ (gO_t hx16 hg)) rfl rfl ⟨.inl rfl, .inl rfl, trivial⟩ ⟨fun h => h, ⟨fun h => h, trivial⟩⟩ entry30 rfl rfl rfl) ?_
            refine OkD.q (triQG (x := aB (!x16)) rfl rfl ⟨fun h => h, trivial⟩ rfl) ?_
            refine OkD.q (triOr rfl rfl (fun h => by rw [h]; rfl) rfl) ?_
            refine OkD.x (aB ((x13.2 != x15.2) || (!x16))) rfl trivial rfl ?_
            refine OkD.q (triQG (x := .c (.d (.sl (List.map Attr.cs a0)))) rfl rfl trivial rfl) ?_
            refine OkD.q (triQG (x := .c (.tl 1003 (List.map eStr s4))) rfl rfl trivial rfl) ?_
            refine OkD.q (triQG (x := aI s9) rfl rfl trivial rfl) ?_
            obtain ⟨x17, hx17, hr⟩ := bind_some hr
            refine OkD.q (triIdxG (enc := eStr) (L := s4) (row := [dS x17]) (gO_t hx17) rfl rfl rfl rfl rfl (fun _ => rfl) ⟨fun h => h, ⟨fun h => h, trivial⟩⟩ rfl) ?_
            refine OkD.q (triQG (x := aS x17) rfl rfl ⟨fun h => h, trivial⟩ rfl) ?_
            obtain ⟨x18, hx18, hr⟩ := bind_some hr
            refine OkD.q (triCallG (x := aS x18) (fun hg => vw_Text_c _ _ (gO_t hx18 hg)) rfl rfl ⟨.inl rfl, .inl rfl, trivial⟩ ⟨fun h => h, ⟨fun h => h, trivial⟩⟩ entry31 rfl rfl rfl) ?_
            refine OkD.q (triQG (x := .c (.d (.sl (List.map Attr.cs a0)))) rfl rfl trivial rfl) ?_
            refine OkD.q (triQG (x := .c (.tl 1003 (List.map eStr s4))) rfl rfl trivial rfl) ?_
            refine OkD.q (triQG (x := aI s9) rfl rfl trivial rfl) ?_
            obtain ⟨x19, hx19, hr⟩ := bind_some hr
            refine OkD.q (triIdxG (enc := eStr) (L := s4) (row := [dS x19]) (gO_t hx19) rfl rfl rfl rfl rfl (fun _ => rfl) ⟨fun h => h, ⟨fun h => h, trivial⟩⟩ rfl) ?_
            refine OkD.q (triQG (x := aS x19) rfl rfl ⟨fun h => h, trivial⟩ rfl) ?_
            obtain ⟨x20, hx20, hr⟩ := bind_some hr
            refine OkD.q (triCallG (x := aS x20) (fun hg => r14_Text_c _ _ (gO_t hx20 hg)) rfl rfl ⟨.inl rfl, .inl rfl, trivial⟩ ⟨fun h => h, ⟨fun h => h, trivial⟩⟩ entry32 rfl rfl rfl) ?_
            refine OkD.q (triQG (x := aB (!(x18.toList == x20.toList))) rfl rfl ⟨fun h => h, ⟨fun h => h, trivial⟩⟩ rfl) ?_
            refine OkD.q (triOr rfl rfl (fun h => by rw [h]; rfl) rfl) ?_
            refine OkD.x (aB (((x13.2 != x15.2) || (!x16)) || (!(x18.toList == x20.toList)))) rfl trivial rfl ?_
            refine OkD.q (triQG (x := .c (.d (.sl (List.map Attr.cs a0)))) rfl rfl trivial rfl) ?_
            refine OkD.q (triQG (x := .c (.tl 1003 (List.map eStr s4))) rfl rfl trivial rfl) ?_
            refine OkD.q (triQG (x := aI s9) rfl rfl trivial rfl) ?_
            obtain ⟨x21, hx21, hr⟩ := bind_some hr
            refine OkD.q (triIdxG (enc := eStr) (L := s4) (row := [dS x21]) (gO_t hx21) rfl rfl rfl rfl rfl (fun _ => rfl) ⟨fun h => h, ⟨fun h => h, trivial⟩⟩ rfl) ?_
            refine OkD.q (triQG (x := aS x21) rfl rfl ⟨fun h => h, trivial⟩ rfl) ?_
            refine OkD.q (triQG (x := aI a2) rfl rfl trivial rfl) ?_
            obtain ⟨x22, hx22, hr⟩ := bind_some hr
            refine OkD.q (triCallG (x := aI x22) (fun hg => vw_Number_c _ _ _ (gO_t hx22 hg)) rfl rfl ⟨.inl rfl, .inl rfl, .inl rfl, trivial⟩ ⟨fun h => h, ⟨fun h => h, ⟨fun h => h, trivial⟩⟩⟩ entry33 rfl rfl rfl) ?_
            refine OkD.q (triQG (x := .c (.d (.sl (List.map Attr.cs a0)))) rfl rfl trivial rfl) ?_
            refine OkD.q (triQG (x := .c (.tl 1003 (List.map eStr s4))) rfl rfl trivial rfl) ?_
            refine OkD.q (triQG (x := aI s9) rfl rfl trivial rfl) ?_
            obtain ⟨x23, hx23, hr⟩ := bind_some hr
            refine OkD.q (triIdxG (enc := eStr) (L := s4) (row := [dS x23]) (gO_t hx23) rfl rfl rfl rfl rfl (fun _ => rfl) ⟨fun h => h, ⟨fun h => h, trivial⟩⟩ rfl) ?_
            refine OkD.q (triQG (x := aS x23) rfl rfl ⟨fun h => h, trivial⟩ rfl) ?_
            refine OkD.q (triQG (x := aI a2) rfl rfl trivial rfl) ?_
            obtain ⟨x24, hx24, hr⟩ := bind_some hr
            refine OkD.q (triCallG (x := aI x24) (fun hg => r14_Number_c _ _ _ (gO_t hx24 hg)) rfl rfl ⟨.inl rfl, .inl rfl, .inl rfl, trivial⟩ ⟨fun h => h, ⟨fun h => h, ⟨fun h => h, trivial⟩⟩⟩ entry34 rfl rfl rfl) ?_
            refine OkD.q (triQG (x := aB (x22 != x24)) rfl rfl ⟨fun h => h, ⟨fun h => h, trivial⟩⟩ rfl) ?_
            refine OkD.q (triOr rfl rfl (fun h => by rw [h]; rfl) rfl) ?_
            refine OkD.x (aB ((((x13.2 != x15.2) || (!x16)) || (!(x18.toList == x20.toList))) || (x22 != x24))) rfl trivial rfl ?_
            refine OkD.q (triQG (x := .c (.d (.sl (List.map Attr.cs a0)))) rfl rfl trivial rfl) ?_
            refine OkD.q (triQG (x := .c (.tl 1003 (List.map eStr s4))) rfl rfl trivial rfl) ?_
            refine OkD.q (triQG (x := aI s9) rfl rfl trivial rfl) ?_
            obtain ⟨x25, hx25, hr⟩ := bind_some hr
            refine OkD.q (triIdxG (enc := eStr) (L := s4) (row := [dS x25]) (gO_t hx25) rfl rfl rfl rfl rfl (fun _ => rfl) ⟨fun h => h, ⟨fun h => h, trivial⟩⟩ rfl) ?_
            refine OkD.q (triQG (x := aS x25) rfl rfl ⟨fun h => h, trivial⟩ rfl) ?_
            obtain ⟨x26, hx26, hr⟩ := bind_some hr
            refine OkD.q (triCallG (x := aB x26) (fun hg => vw_Flag_c _ _ (gO_t hx26 hg)) rfl rfl ⟨.inl rfl, .inl rfl, trivial⟩ ⟨fun h => h, ⟨fun h => h, trivial⟩⟩ entry35 rfl rfl rfl) ?_
            refine OkD.q (triQG (x := .c (.d (.sl (List.map Attr.cs a0)))) rfl rfl trivial rfl) ?_
            refine OkD.q (triQG (x := .c (.tl 1003 (List.map eStr s4))) rfl rfl trivial rfl) ?_
            refine OkD.q (triQG (x := aI s9) rfl rfl trivial rfl) ?_
            obtain ⟨x27, hx27, hr⟩ := bind_some hr
            refine OkD.q (triIdxG (enc := eStr) (L := s4) (row := [dS x27]) (gO_t hx27) rfl rfl rfl rfl rfl (fun _ => rfl) ⟨fun h => h, ⟨fun h => h, trivial⟩⟩ rfl) ?_
            refine OkD.q (triQG (x := aS x27) rfl rfl ⟨fun h => h, trivial⟩ rfl) ?_
            obtain ⟨x28, hx28, hr⟩ := bind_some hr
            refine OkD.q (triCallG (x := aB x28) (fun hg => r14_Flag_c _ _ (gO_t hx28 hg)) rfl rfl ⟨.inl rfl, .inl rfl, trivial⟩ ⟨fun h => h, ⟨fun h => h, trivial⟩⟩ entry36 rfl rfl rfl) ?_
            refine OkD.q (triQG (x := aB (x26 != x28)) rfl rfl ⟨fun h => h, ⟨fun h => h, trivial⟩⟩ rfl) ?_
            refine OkD.q (triOr rfl rfl (fun h => by rw [h]; rfl) rfl) ?_
            refine OkD.nil (by kernel_rfl) ?_
            refine Ok.cond (b := ((((x13.2 != x15.2) || (!x16)) || (!(x18.toList == x20.toList))) || (x22 != x24)) || (x26 != x28)) rfl (fun h29 => ?_) (fun h29 => ?_)
            · have hr := selT h29 hr
              refine Ok.seq ?_
              refine Ok.region ?_
              refine OkOps.x (aB false) rfl trivial rfl ?_
              refine OkOps.nil ?_
              refine Ok.ret ?_
              obtain rfl := Option.some.inj hr
              exact ⟨_, rfl, .inl rfl, trivial⟩
            · have hr := selF h29 hr
              refine Ok.skip ?_
              refine Ok.region ?_
              refine OkOps.x (aI s9) rfl trivial rfl ?_
              refine OkOps.x (aI (IntKind.i64.wrap (s9 + 1))) rfl trivial rfl ?_
              refine OkOps.x (aI (IntKind.i64.wrap (s9 + 1))) rfl trivial rfl ?_
              refine OkOps.nil ?_
              exact ⟨IntKind.i64.wrap (s9 + 1), hr, (Conv.mk (tau []) ⟨⟨_, rfl, .inl rfl⟩, ⟨_, rfl, .inl rfl⟩, ⟨_, rfl, .inl rfl⟩, ⟨_, rfl, .inl rfl⟩, trivial⟩ ⟨rfl, trivial⟩ rfl rfl rfl rfl)⟩
          · have hr := selF h11 hr
            refine Ok.exit ?_
            exact ⟨(), hr, (Conv.mk (tau []) trivial trivial rfl rfl rfl rfl)⟩
      · clear hk5
        refine Ok.seq ?_
        refine Ok.region ?_
        refine OkOps.x (aI 0) rfl trivial rfl ?_
        refine OkOps.nil ?_
        refine Ok.block ?_
        refine Ok.loopK (fun (s30 : (List Str) × Int) => ⟨[(0, .s (.c (.d (.sl (List.map Attr.cs a0))))), (2, .s (aI a2)), (8, .s (.c (.tl 1005 (List.map eStr s30.1)))), (9, .s (aI s30.2))], [(1005, .tail 1)], 0⟩) hr (Conv.mk (tau [(1005, 0)]) ⟨⟨_, rfl, .inl rfl⟩, ⟨_, rfl, .inl rfl⟩, ⟨_, rfl, .inl rfl⟩, ⟨_, rfl, .inl rfl⟩, trivial⟩ ⟨rfl, trivial⟩ rfl rfl rfl rfl) ?_
        clear hr
        intro again31 s30 hr
        unfold l14_ViewAttrs_L2 at hr
        refine Ok.seq ?_
        refine Ok.seq ?_
        refine Ok.region ?_
        refine OkOps.x (aI s30.2) rfl trivial rfl ?_
        refine OkOps.x (.c (.d (.sl (List.map Attr.cs a0)))) rfl trivial rfl ?_
        refine OkOps.q (triLen (enc := Attr.cs) a0 rfl rfl trivial rfl) ?_
        refine OkOps.x (aB (decide (s30.2 < (a0.length : Int)))) rfl trivial rfl ?_
        refine OkOps.nil ?_
        refine Ok.cond (b := decide (s30.2 < (a0.length : Int))) rfl (fun h32 => ?_) (fun h32 => ?_)
        · have hr := selT h32 hr
          refine Ok.skip ?_
          refine Ok.seq ?_
          refine Ok.block ?_
          refine Ok.region ?_
          refine OkOps.x (.c (.tl 1005 (List.map eStr s30.1))) rfl trivial rfl ?_
          refine OkOps.x (.c (.d (.sl (List.map Attr.cs a0)))) rfl trivial rfl ?_
          refine OkOps.x (aI s30.2) rfl trivial rfl ?_
          obtain ⟨x33, hx33, hr⟩ := bind_some hr
          refine OkOps.q (triIdx (enc := Attr.cs) (L := a0) (row := [dS x33.Name, dI x33.Value.Kind, dI x33.Value.N, dS x33.Value.S, .sl (List.map AValue.cs x33.Value.L)]) hx33 rfl rfl rfl rfl (fun _ => rfl) trivial rfl) ?_
          refine OkOps.x (.c (.pt [dS x33.Name, dI x33.Value.Kind, dI x33.Value.N, dS x33.Value.S, .sl (List.map AValue.cs x33.Value.L)])) rfl trivial rfl ?_
          refine OkOps.x (aS x33.Name) rfl trivial rfl ?_
          refine OkOps.m 0 (triBST (sz := 1) (enc := eStr) (j := 3) ([x33.Name]) rfl rfl rfl rfl rfl rfl rfl rfl (fun _ => rfl) trivial rfl rfl) ?_
          obtain ⟨x34, hx34, hr⟩ := bind_some hr
          refine OkOps.m2 0 (triApp (enc := eStr) (L := s30.1) (X := [x33.Name]) (j := 1005) (j' := 4) hx34 rfl rfl rfl rfl rfl rfl (fun _ => rfl) (fun _ => rfl) (by decide) trivial rfl rfl) ?_
          refine OkOps.x (.c (.tl 4 (List.map eStr x34))) rfl trivial rfl ?_
          refine OkOps.nil ?_
          refine Ok.region ?_
          refine OkOps.x (aI s30.2) rfl trivial rfl ?_
          refine OkOps.x (aI (IntKind.i64.wrap (s30.2 + 1))) rfl trivial rfl ?_
          refine OkOps.x (aI (IntKind.i64.wrap (s30.2 + 1))) rfl trivial rfl ?_
          refine OkOps.nil ?_
          exact ⟨(x34, IntKind.i64.wrap (s30.2 + 1)), hr, (Conv.mk (tau [(1005, 4)]) ⟨⟨_, rfl, .inl rfl⟩, ⟨_, rfl, .inl rfl⟩, ⟨_, rfl, .inl rfl⟩, ⟨_, rfl, .inl rfl⟩, trivial⟩ ⟨rfl, trivial⟩ rfl rfl rfl rfl)⟩
        · have hr := selF h32 hr
          refine Ok.exit ?_
          exact ⟨s30.1, hr, (Conv.mk (tau [(1003, 1005)]) ⟨⟨_, rfl, .inl rfl⟩, ⟨_, rfl, .inl rfl⟩, ⟨_, rfl, .inl rfl⟩, trivial⟩ ⟨rfl, trivial⟩ rfl rfl rfl rfl)⟩
    · clear hk3
      refine Ok.seq ?_
      refine Ok.region ?_
      refine OkOps.x (aI 0) rfl trivial rfl ?_
      refine OkOps.nil ?_
      refine Ok.block ?_
      refine Ok.loopK (fun (s35 : Int) => ⟨[(0, .s (.c (.d (.sl (List.map Attr.cs a0))))), (1, .s (aS a1)), (2, .s (aI a2)), (7, .s (aI s35))], [], 0⟩) hr (Conv.mk (tau []) ⟨⟨_, rfl, .inl rfl⟩, ⟨_, rfl, .inl rfl⟩, ⟨_, rfl, .inl rfl⟩, ⟨_, rfl, .inl rfl⟩, trivial⟩ trivial rfl rfl rfl rfl) ?_
      clear hr
      intro again36 s35 hr
      unfold l14_ViewAttrs_L3 at hr
      refine Ok.seq ?_
      refine Ok.seq ?_
      refine Ok.region ?_
      refine OkOps.x (aI s35) rfl trivial rfl ?_
      refine OkOps.x (.c (.d (.sl (List.map Attr.cs a0)))) rfl trivial rfl ?_
      refine OkOps.q (triLen (enc := Attr.cs) a0 rfl rfl trivial rfl) ?_
      refine OkOps.x (aB (decide (s35 < (a0.length : Int)))) rfl trivial rfl ?_
      refine OkOps.nil ?_
      refine Ok.cond (b := decide (s35 < (a0.length : Int))) rfl (fun h37 => ?_) (fun h37 => ?_)
      · have hr := selT h37 hr
        refine Ok.skip ?_
        refine Ok.seq ?_
        refine Ok.block ?_
        refine Ok.seq ?_
        refine Ok.region ?_
        refine OkOps.x (.c (.d (.sl (List.map Attr.cs a0)))) rfl trivial rfl ?_
        refine OkOps.x (aI s35) rfl trivial rfl ?_
        obtain ⟨x38, hx38, hr⟩ := bind_some hr
        refine OkOps.q (triIdx (enc := Attr.cs) (L := a0) (row := [dS x38.Name, dI x38.Value.Kind, dI x38.Value.N, dS x38.Value.S, .sl (List.map AValue.cs x38.Value.L)]) hx38 rfl rfl rfl rfl (fun _ => rfl) trivial rfl) ?_
        refine OkOps.x (.c (.pt [dI x38.Value.Kind, dI x38.Value.N, dS x38.Value.S, .sl (List.map AValue.cs x38.Value.L)])) rfl trivial rfl ?_
        refine OkOps.x (.agg [cI x38.Value.Kind, cI x38.Value.N, cS x38.Value.S, .d (.sl (List.map AValue.cs x38.Value.L))]) rfl trivial rfl ?_
        obtain ⟨x39, hx39, hr⟩ := bind_some hr
        refine OkOps.q (triCall (tau []) (.s (aI x39)) [] (l14_load_c _ _ _ hx39) rfl ⟨.inl rfl, .inl rfl, trivial⟩ trivial entry27 trivial rfl rfl rfl rfl trivial rfl rfl rfl) ?_
        refine OkOps.x (aB (decide (x39 ≤ 0))) rfl trivial rfl ?_
        refine OkOps.nil ?_
        refine Ok.cond (b := decide (x39 ≤ 0)) rfl (fun h40 => ?_) (fun h40 => ?_)
        · have hr := selT h40 hr
          refine Ok.seq ?_
          refine Ok.region ?_
          refine OkOps.x (aB true) rfl trivial rfl ?_
          refine OkOps.nil ?_
          refine Ok.ret ?_
          obtain rfl := Option.some.inj hr
          exact ⟨_, rfl, .inl rfl, trivial⟩
        · have hr := selF h40 hr
          refine Ok.skip ?_
          refine Ok.region ?_
          refine OkOps.x (aI s35) rfl trivial rfl ?_
          refine OkOps.x (aI (IntKind.i64.wrap (s35 + 1))) rfl trivial rfl ?_
          refine OkOps.x (aI (IntKind.i64.wrap (s35 + 1))) rfl trivial rfl ?_
          refine OkOps.nil ?_
          exact ⟨IntKind.i64.wrap (s35 + 1), hr, (Conv.mk (tau []) ⟨⟨_, rfl, .inl rfl⟩, ⟨_, rfl, .inl rfl⟩, ⟨_, rfl, .inl rfl⟩, ⟨_, rfl, .inl rfl⟩, trivial⟩ trivial rfl rfl rfl rfl)⟩
      · have hr := selF h37 hr
        refine Ok.exit ?_
        exact ⟨(), hr, (Conv.mk (tau []) ⟨⟨_, rfl, .inl rfl⟩, ⟨_, rfl, .inl rfl⟩, ⟨_, rfl, .inl rfl⟩, trivial⟩ trivial rfl rfl rfl rfl)⟩
theorem entry7 : Entry Tryd.prog 7 := ⟨_, Tryd.func7, by kernel_rfl, by kernel_rfl⟩
end Go.Proofs.YtcfegecdlbbeaaaDoor

import Derived.Test.YtcfegecdlbbeaaaDoorAc
import Derived.Test.YtcfegecdlbbeaaaDoorWa
import Derived.Test.YtcfegecdlbbeaaaDoorProg
import Derived.KernelRfl
set_option maxRecDepth 100000
namespace Go.Proofs.YtcfegecdlbbeaaaDoor
open Go Go.E2
theorem vw_attributes_c (l : (List Attr)) {r : Int} (hr : vw_attributes l = some r) : Con Tryd.prog 77 [.c (.d (.sl (List.map Attr.cs l)))] [] (.s (aI r)) [] := by
  unfold vw_attributes at hr
  refine Con.of_ok 39 0 [.tmp 2] [(0, .s (.c (.d (.sl (List.map Attr.cs l)))))] Tryd.func77 rfl rfl rfl rfl rfl rfl rfl rfl fun w g M ρ _ => ?_
  refine Ok.seq ?_
  refine Ok.region ?_
  refine OkOps.x (aI 0) rfl trivial rfl ?_
  refine OkOps.nil ?_
  obtain ⟨k2, hk2, hr⟩ := jn_some hr
  refine Ok.join (fun (s1 : Unit) => ⟨[], [], 0⟩) k2 r (fun s1 hr => ?_) ?_
  · rw [hk2] at hr
    refine Ok.seq ?_
    refine Ok.region ?_
    refine OkOps.x (aI 0) rfl trivial rfl ?_
    refine OkOps.nil ?_
    refine Ok.ret ?_
    obtain rfl := Option.some.inj hr
    exact ⟨_, rfl, .inl rfl, trivial⟩
  · clear hk2
    refine Ok.seq ?_
    refine Ok.region ?_
    refine OkOps.x (.c (.d (.sl (List.map Attr.cs l)))) rfl trivial rfl ?_
    refine OkOps.q (triLen (enc := Attr.cs) l rfl rfl trivial rfl) ?_
    refine OkOps.x (aI 0) rfl trivial rfl ?_
    refine OkOps.nil ?_
    refine Ok.block ?_
    refine Ok.loopK (fun (s3 : Int) => ⟨[(0, .s (.c (.d (.sl (List.map Attr.cs l))))), (6, .s (.c (.d (.sl (List.map Attr.cs l))))), (7, .s (aI (l.length : Int))), (8, .s (aI s3))], [], 0⟩) hr (Conv.mk (tau []) ⟨⟨_, rfl, .inl rfl⟩, ⟨_, rfl, .inl rfl⟩, ⟨_, rfl, .inl rfl⟩, ⟨_, rfl, .inl rfl⟩, trivial⟩ trivial rfl rfl rfl rfl) ?_
    clear hr
    intro again4 s3 hr
    unfold vw_attributes_L1 at hr
    refine Ok.seq ?_
    refine Ok.region ?_
    refine OkOps.x (aB (decide (s3 < (l.length : Int)))) rfl trivial rfl ?_
    refine OkOps.nil ?_
    refine Ok.seq ?_
    refine Ok.cond (b := decide (s3 < (l.length : Int))) rfl (fun h5 => ?_) (fun h5 => ?_)
    · have hr := selT h5 hr
      refine Ok.skip ?_
      refine Ok.seq ?_
      refine Ok.block ?_
      refine Ok.seq ?_
      refine Ok.region ?_
      refine OkOps.x (aI s3) rfl trivial rfl ?_
      obtain ⟨x6, hx6, hr⟩ := bind_some hr
      refine OkOps.q (triIdx (enc := Attr.cs) (L := l) (row := [dS x6.Name, dI x6.Value.Kind, dI x6.Value.N, dS x6.Value.S, .sl (List.map AValue.cs x6.Value.L)]) hx6 rfl rfl rfl rfl (fun _ => rfl) trivial rfl) ?_
      refine OkOps.x (.agg [cS x6.Name, cI x6.Value.Kind, cI x6.Value.N, cS x6.Value.S, .d (.sl (List.map AValue.cs x6.Value.L))]) rfl trivial rfl ?_
      refine OkOps.m 0 (triAlloc (j := 0) (cs := [cS ByteArray.empty, cI 0, cI 0, cS ByteArray.empty, .d (.v (.slice none 0 0))]) rfl rfl rfl rfl) ?_
      refine OkOps.x (aI s3) rfl trivial rfl ?_
      refine OkOps.w (triStore (cs' := [cS x6.Name, cI x6.Value.Kind, cI x6.Value.N, cS x6.Value.S, .d (.sl (List.map AValue.cs x6.Value.L))]) rfl rfl rfl rfl rfl rfl rfl rfl rfl) ?_
      refine OkOps.nil ?_
      refine Ok.seq ?_
      refine Ok.block ?_
      refine Ok.seq ?_
      refine Ok.region ?_
      refine OkOps.x (.c (.loc 0 0)) rfl trivial rfl ?_
      refine OkOps.x (aS x6.Name) rfl trivial rfl ?_
      obtain ⟨x7, hx7, hr⟩ := bind_some hr
      refine OkOps.q (triCall (tau []) (.s (aB x7)) [] (ex_Name_c _ hx7) rfl ⟨.inl rfl, trivial⟩ trivial entry104 trivial rfl rfl rfl rfl trivial rfl rfl rfl) ?_
      refine OkOps.x (aB (!x7)) rfl trivial rfl ?_
      refine OkOps.x (aB (!x7)) rfl trivial rfl ?_
      refine OkOps.nil ?_
      refine Ok.cond (b := !x7) rfl (fun h8 => ?_) (fun h8 => ?_)
      · have hr := selT h8 hr
        refine Ok.seq ?_
        refine Ok.region ?_
        refine OkOps.x (aI 4) rfl trivial rfl ?_
        refine OkOps.nil ?_
        refine Ok.ret ?_
        obtain rfl := Option.some.inj hr
        exact ⟨_, rfl, .inl rfl, trivial⟩
      · have hr := selF h8 hr
        refine Ok.seq ?_
        refine Ok.regionD (by kernel_rfl) ?_
        refine OkD.x (aI s3) rfl trivial rfl ?_
        refine OkD.x (aB (decide (s3 > 0))) rfl trivial rfl ?_
        refine OkD.x (aB (decide (s3 > 0))) rfl trivial rfl ?_
        refine OkD.q (triQG (x := .c (.d (.sl (List.map Attr.cs l)))) rfl rfl trivial rfl) ?_
        refine OkD.q (triQG (x := aI s3) rfl rfl trivial rfl) ?_
        refine OkD.q (triQG (x := aI (IntKind.i64.wrap (s3 - 1))) rfl rfl ⟨fun h => h, trivial⟩ rfl) ?_
        obtain ⟨x9, hx9, hr⟩ := bind_some hr
        refine OkD.q (triIdxG (enc := Attr.cs) (L := l) (row := [dS x9.Name, dI x9.Value.Kind, dI x9.Value.N, dS x9.Value.S, .sl (List.map AValue.cs x9.Value.L)]) (gO_t hx9) rfl rfl rfl rfl rfl (fun _ => rfl) ⟨fun h => h, ⟨fun h => h, trivial⟩⟩ rfl) ?_
        refine OkD.q (triQG (x := .c (.pt [dS x9.Name, dI x9.Value.Kind, dI x9.Value.N, dS x9.Value.S, .sl (List.map AValue.cs x9.Value.L)])) rfl rfl ⟨fun h => h, trivial⟩ rfl) ?_
        refine OkD.q (triQG (x := aS x9.Name) rfl rfl ⟨fun h => h, trivial⟩ rfl) ?_
        refine OkD.q (triQG (x := .c (.loc 0 0)) rfl rfl trivial rfl) ?_
        refine OkD.q (triQG (x := aS x6.Name) rfl rfl ⟨fun h => h, trivial⟩ rfl) ?_
        refine OkD.q (triQG (x := aB (!(Op.bytesLess x9.Name.toList x6.Name.toList))) rfl rfl ⟨fun h => h, ⟨fun h => h, trivial⟩⟩ rfl) ?_
        refine OkD.q (triAnd rfl rfl (fun h => h) rfl) ?_
        refine OkD.x (aB ((decide (s3 > 0)) && (!(Op.bytesLess x9.Name.toList x6.Name.toList)))) rfl trivial rfl ?_
        refine OkD.nil (by kernel_rfl) ?_
        refine Ok.cond (b := (decide (s3 > 0)) && (!(Op.bytesLess x9.Name.toList x6.Name.toList))) rfl (fun h10 => ?_) (fun h10 => ?_)
        · have hr := selT h10 hr
          refine Ok.seq ?_
          refine Ok.region ?_
          refine OkOps.x (aI 10) rfl trivial rfl ?_
          refine OkOps.nil ?_
          refine Ok.ret ?_
          obtain rfl := Option.some.inj hr
          exact ⟨_, rfl, .inl rfl, trivial⟩
        · have hr := selF h10 hr
          refine Ok.skip ?_
          refine Ok.seq ?_
          refine Ok.region ?_
          refine OkOps.x (.c (.loc 0 1)) rfl trivial rfl ?_
          refine OkOps.x (.agg [cI x6.Value.Kind, cI x6.Value.N, cS x6.Value.S, .d (.sl (List.map AValue.cs x6.Value.L))]) rfl trivial rfl ?_
          obtain ⟨x11, hx11, hr⟩ := bind_some hr
          refine OkOps.q (triCall (tau []) (.s (aI x11)) [] (ex_Check_c _ hx11) rfl ⟨.inl rfl, trivial⟩ trivial entry105 trivial rfl rfl rfl rfl trivial rfl rfl rfl) ?_
          refine OkOps.x (aI x11) rfl trivial rfl ?_
          refine OkOps.nil ?_
          refine Ok.seq ?_
          refine Ok.region ?_
          refine OkOps.x (aI x11) rfl trivial rfl ?_
          refine OkOps.x (aB (x11 != 0)) rfl trivial rfl ?_
          refine OkOps.nil ?_
          refine Ok.cond (b := x11 != 0) rfl (fun h12 => ?_) (fun h12 => ?_)
          · have hr := selT h12 hr
            refine Ok.seq ?_
            refine Ok.region ?_
            refine OkOps.x (aI x11) rfl trivial rfl ?_
            refine OkOps.x (aI x11) rfl trivial rfl ?_
            refine OkOps.nil ?_
            refine Ok.ret ?_
            obtain rfl := Option.some.inj hr
            exact ⟨_, rfl, .inl rfl, trivial⟩
          · have hr := selF h12 hr
            refine Ok.skip ?_
            refine Ok.region ?_
            refine OkOps.x (aI (IntKind.i64.wrap (s3 + 1))) rfl trivial rfl ?_
            refine OkOps.x (aI (IntKind.i64.wrap (s3 + 1))) rfl trivial rfl ?_
            refine OkOps.nil ?_
            exact ⟨IntKind.i64.wrap (s3 + 1), hr, (Conv.mk (tau []) ⟨⟨_, rfl, .inl rfl⟩, ⟨_, rfl, .inl rfl⟩, ⟨_, rfl, .inl rfl⟩, ⟨_, rfl, .inl rfl⟩, trivial⟩ trivial rfl rfl rfl rfl)⟩
    · have hr := selF h5 hr
      refine Ok.exit ?_
      exact ⟨(), hr, (Conv.mk (tau []) trivial trivial rfl rfl rfl rfl)⟩
theorem entry77 : Entry Tryd.prog 77 := ⟨_, Tryd.func77, by kernel_rfl, by kernel_rfl⟩
theorem vw_actions_c (a0 : (List Action)) {r : Int} (hr : vw_actions a0 = some r) : Con Tryd.prog 78 [.c (.d (.sl (List.map Action.cs a0)))] [] (.s (aI r)) [] := by
  unfold vw_actions at hr
  refine Con.of_ok 65 0 [.tmp 2] [(0, .s (.c (.d (.sl (List.map Action.cs a0)))))] Tryd.func78 rfl rfl rfl rfl rfl rfl rfl rfl fun w g M ρ _ => ?_
  refine Ok.seq ?_
  refine Ok.region ?_
  refine OkOps.x (aI 0) rfl trivial rfl ?_
  refine OkOps.nil ?_
  obtain ⟨k2, hk2, hr⟩ := jn_some hr
  refine Ok.join (fun (s1 : Unit) => ⟨[], [], 0⟩) k2 r (fun s1 hr => ?_) ?_
  · rw [hk2] at hr
    refine Ok.seq ?_
    refine Ok.region ?_
    refine OkOps.x (aI 0) rfl trivial rfl ?_
    refine OkOps.nil ?_
    refine Ok.ret ?_
    obtain rfl := Option.some.inj hr
    exact ⟨_, rfl, .inl rfl, trivial⟩
  · clear hk2
    refine Ok.seq ?_
    refine Ok.region ?_
    refine OkOps.x (.c (.d (.sl (List.map Action.cs a0)))) rfl trivial rfl ?_
    refine OkOps.q (triLen (enc := Action.cs) a0 rfl rfl trivial rfl) ?_
    refine OkOps.x (aI 0) rfl trivial rfl ?_
    refine OkOps.nil ?_
    refine Ok.block ?_
    refine Ok.loopK (fun (s3 : Int) => ⟨[(0, .s (.c (.d (.sl (List.map Action.cs a0))))), (8, .s (.c (.d (.sl (List.map Action.cs a0))))), (9, .s (aI (a0.length : Int))), (10, .s (aI s3))], [], 0⟩) hr (Conv.mk (tau []) ⟨⟨_, rfl, .inl rfl⟩, ⟨_, rfl, .inl rfl⟩, ⟨_, rfl, .inl rfl⟩, ⟨_, rfl, .inl rfl⟩, trivial⟩ trivial rfl rfl rfl rfl) ?_
    clear hr
    intro again4 s3 hr
    unfold vw_actions_L2 at hr
    refine Ok.seq ?_
    refine Ok.region ?_
    refine OkOps.x (aB (decide (s3 < (a0.length : Int)))) rfl trivial rfl ?_
    refine OkOps.nil ?_
    refine Ok.seq ?_
    refine Ok.cond (b := decide (s3 < (a0.length : Int))) rfl (fun h5 => ?_) (fun h5 => ?_)
    · have hr := selT h5 hr
      refine Ok.skip ?_
      obtain ⟨k7, hk7, hr⟩ := jn_some hr
      refine Ok.join (fun (s6 : Unit) => ⟨[(0, .s (.c (.d (.sl (List.map Action.cs a0))))), (8, .s (.c (.d (.sl (List.map Action.cs a0))))), (9, .s (aI (a0.length : Int))), (10, .s (aI s3))], [], 0⟩) k7 r (fun s6 hr => ?_) ?_
      · rw [hk7] at hr
        refine Ok.region ?_
        refine OkOps.x (aI (IntKind.i64.wrap (s3 + 1))) rfl trivial rfl ?_
        refine OkOps.x (aI (IntKind.i64.wrap (s3 + 1))) rfl trivial rfl ?_
        refine OkOps.nil ?_
        exact ⟨IntKind.i64.wrap (s3 + 1), hr, (Conv.mk (tau []) ⟨⟨_, rfl, .inl rfl⟩, ⟨_, rfl, .inl rfl⟩, ⟨_, rfl, .inl rfl⟩, ⟨_, rfl, .inl rfl⟩, trivial⟩ trivial rfl rfl rfl rfl)⟩
      · clear hk7
        refine Ok.block ?_
        refine Ok.seq ?_
        refine Ok.region ?_
        refine OkOps.x (aI s3) rfl trivial rfl ?_
        obtain ⟨x8, hx8, hr⟩ := bind_some hr
        refine OkOps.q (triIdx (enc := Action.cs) (L := a0) (row := [dS x8.Event, dS x8.Instance, dS x8.Handler, .sl (List.map AValue.cs x8.Args)]) hx8 rfl rfl rfl rfl (fun _ => rfl) trivial rfl) ?_
        refine OkOps.x (.agg [cS x8.Event, cS x8.Instance, cS x8.Handler, .d (.sl (List.map AValue.cs x8.Args))]) rfl trivial rfl ?_
        refine OkOps.m 0 (triAlloc (j := 0) (cs := [cS ByteArray.empty, cS ByteArray.empty, cS ByteArray.empty, .d (.v (.slice none 0 0))]) rfl rfl rfl rfl) ?_
        refine OkOps.x (aI s3) rfl trivial rfl ?_
        refine OkOps.w (triStore (cs' := [cS x8.Event, cS x8.Instance, cS x8.Handler, .d (.sl (List.map AValue.cs x8.Args))]) rfl rfl rfl rfl rfl rfl rfl rfl rfl) ?_
        refine OkOps.nil ?_
        refine Ok.seq ?_
        refine Ok.block ?_
        refine Ok.seq ?_
        refine Ok.region ?_
        refine OkOps.x (.c (.loc 0 0)) rfl trivial rfl ?_
        refine OkOps.x (aS x8.Event) rfl trivial rfl ?_
        obtain ⟨x9, hx9, hr⟩ := bind_some hr
        refine OkOps.q (triCall (tau []) (.s (aB x9)) [] (ex_Name_c _ hx9) rfl ⟨.inl rfl, trivial⟩ trivial entry104 trivial rfl rfl rfl rfl trivial rfl rfl rfl) ?_
        refine OkOps.x (aB (!x9)) rfl trivial rfl ?_
        refine OkOps.x (aB (!x9)) rfl trivial rfl ?_
        refine OkOps.q (triQG (x := .c (.loc 0 2)) rfl rfl trivial rfl) ?_
        refine OkOps.q (triQG (x := aS x8.Handler) rfl rfl ⟨fun h => h, trivial⟩ rfl) ?_
        obtain ⟨x10, hx10, hr⟩ := bind_some hr
        refine OkOps.q (triCallG (x := aB x10) (fun hg => ex_Name_c _ (gO_t hx10 hg)) rfl rfl ⟨.inl rfl, trivial⟩ ⟨fun h => h, trivial⟩ entry104 rfl rfl rfl) ?_
        refine OkOps.q (triQG (x := aB (!x10)) rfl rfl ⟨fun h => h, trivial⟩ rfl) ?_
        refine OkOps.q (triOr rfl rfl (fun h => by rw [h]; rfl) rfl) ?_
        refine OkOps.x (aB ((!x9) || (!x10))) rfl trivial rfl ?_
        refine OkOps.nil ?_
        refine Ok.cond (b := (!x9) || (!x10)) rfl (fun h11 => ?_) (fun h11 => ?_)
        · have hr := selT h11 hr
          refine Ok.seq ?_
          refine Ok.region ?_
          refine OkOps.x (aI 4) rfl trivial rfl ?_
          refine OkOps.nil ?_
          refine Ok.ret ?_
          obtain rfl := Option.some.inj hr
          exact ⟨_, rfl, .inl rfl, trivial⟩
        · have hr := selF h11 hr
          refine Ok.seq ?_
          refine Ok.regionD (by kernel_rfl) ?_
          refine OkD.x (aI s3) rfl trivial rfl ?_
          refine OkD.x (aB (decide (s3 > 0))) rfl trivial rfl ?_
          refine OkD.x (aB (decide (s3 > 0))) rfl trivial rfl ?_
          refine OkD.q (triQG (x := .c (.d (.sl (List.map Action.cs a0)))) rfl rfl trivial rfl) ?_
          refine OkD.q (triQG (x := aI s3) rfl rfl trivial rfl) ?_
          refine OkD.q (triQG (x := aI (IntKind.i64.wrap (s3 - 1))) rfl rfl ⟨fun h => h, trivial⟩ rfl) ?_
          obtain ⟨x12, hx12, hr⟩ := bind_some hr
          refine OkD.q (triIdxG (enc := Action.cs) (L := a0) (row := [dS x12.Event, dS x12.Instance, dS x12.Handler, .sl (List.map AValue.cs x12.Args)]) (gO_t hx12) rfl rfl rfl rfl rfl (fun _ => rfl) ⟨fun h => h, ⟨fun h => h, trivial⟩⟩ rfl) ?_
          refine OkD.q (triQG (x := .c (.pt [dS x12.Event, dS x12.Instance, dS x12.Handler, .sl (List.map AValue.cs x12.Args)])) rfl rfl ⟨fun h => h, trivial⟩ rfl) ?_
          refine OkD.q (triQG (x := aS x12.Event) rfl rfl ⟨fun h => h, trivial⟩ rfl) ?_
          refine OkD.q (triQG (x := .c (.loc 0 0)) rfl rfl trivial rfl) ?_
          refine OkD.q (triQG (x := aS x8.Event) rfl rfl ⟨fun h => h, trivial⟩ rfl) ?_
          refine OkD.q (triQG (x := aB (!(Op.bytesLess x12.Event.toList x8.Event.toList))) rfl rfl ⟨fun h => h, ⟨fun h => h, trivial⟩⟩ rfl) ?_
          refine OkD.q (triAnd rfl rfl (fun h => h) rfl) ?_
          refine OkD.x (aB ((decide (s3 > 0)) && (!(Op.bytesLess x12.Event.toList x8.Event.toList)))) rfl trivial rfl ?_
          refine OkD.nil (by kernel_rfl) ?_
          refine Ok.cond (b := (decide (s3 > 0)) && (!(Op.bytesLess x12.Event.toList x8.Event.toList))) rfl (fun h13 => ?_) (fun h13 => ?_)
          · have hr := selT h13 hr
            refine Ok.seq ?_
            refine Ok.region ?_
            refine OkOps.x (aI 10) rfl trivial rfl ?_
            refine OkOps.nil ?_
            refine Ok.ret ?_
            obtain rfl := Option.some.inj hr
            exact ⟨_, rfl, .inl rfl, trivial⟩
          · have hr := selF h13 hr
            refine Ok.seq ?_
            refine Ok.region ?_
            refine OkOps.x (.c (.loc 0 1)) rfl trivial rfl ?_
            refine OkOps.x (aS x8.Instance) rfl trivial rfl ?_
            refine OkOps.x (aI (x8.Instance.size : Int)) rfl trivial rfl ?_
            refine OkOps.x (aB (decide ((x8.Instance.size : Int) > 400))) rfl trivial rfl ?_
            refine OkOps.x (aB (decide ((x8.Instance.size : Int) > 400))) rfl trivial rfl ?_
            refine OkOps.q (triQG (x := .c (.loc 0 3)) rfl rfl trivial rfl) ?_
            refine OkOps.q (triQG (x := .c (.d (.sl (List.map AValue.cs x8.Args)))) rfl rfl ⟨fun h => h, trivial⟩ rfl) ?_
            refine OkOps.q (triLenG (enc := AValue.cs) x8.Args rfl rfl rfl ⟨fun h => h, trivial⟩ rfl) ?_
            refine OkOps.q (triQG (x := aB (decide ((x8.Args.length : Int) > 100))) rfl rfl ⟨fun h => h, trivial⟩ rfl) ?_
            refine OkOps.q (triOr rfl rfl (fun h => by rw [h]; rfl) rfl) ?_
            refine OkOps.x (aB ((decide ((x8.Instance.size : Int) > 400)) || (decide ((x8.Args.length : Int) > 100)))) rfl trivial rfl ?_
            refine OkOps.nil ?_
            refine Ok.cond (b := (decide ((x8.Instance.size : Int) > 400)) || (decide ((x8.Args.length : Int) > 100))) rfl (fun h14 => ?_) (fun h14 => ?_)
            · have hr := selT h14 hr
              refine Ok.seq ?_
              refine Ok.region ?_
              refine OkOps.x (aI 2) rfl trivial rfl ?_
              refine OkOps.nil ?_
              refine Ok.ret ?_
              obtain rfl := Option.some.inj hr
              exact ⟨_, rfl, .inl rfl, trivial⟩
            · have hr := selF h14 hr
              refine Ok.skip ?_
              refine Ok.seq ?_
              refine Ok.region ?_
              refine OkOps.x (.c (.loc 0 3)) rfl trivial rfl ?_
              refine OkOps.x (.c (.d (.sl (List.map AValue.cs x8.Args)))) rfl trivial rfl ?_
              refine OkOps.q (triLen (enc := AValue.cs) x8.Args rfl rfl trivial rfl) ?_
              refine OkOps.x (aI 0) rfl trivial rfl ?_
              refine OkOps.nil ?_
              obtain ⟨k16, hk16, hr⟩ := jn_some hr
              refine Ok.joinEnd (fun (s15 : Unit) => ⟨[(0, .s (.c (.d (.sl (List.map Action.cs a0))))), (8, .s (.c (.d (.sl (List.map Action.cs a0))))), (9, .s (aI (a0.length : Int))), (10, .s (aI s3))], [], 0⟩) k16 r (fun s15 hr => ?_) ?_
              · rw [hk16] at hr
                exact ⟨(), hr, (Conv.mk (tau []) ⟨⟨_, rfl, .inl rfl⟩, ⟨_, rfl, .inl rfl⟩, ⟨_, rfl, .inl rfl⟩, ⟨_, rfl, .inl rfl⟩, trivial⟩ trivial rfl rfl rfl rfl)⟩
              · clear hk16
                refine Ok.block ?_
                refine Ok.loopK (fun (s17 : Int) => ⟨[(0, .s (.c (.d (.sl (List.map Action.cs a0))))), (8, .s (.c (.d (.sl (List.map Action.cs a0))))), (9, .s (aI (a0.length : Int))), (10, .s (aI s3)), (52, .s (.c (.d (.sl (List.map AValue.cs x8.Args))))), (53, .s (aI (x8.Args.length : Int))), (54, .s (aI s17))], [], 0⟩) hr (Conv.mk (tau []) ⟨⟨_, rfl, .inl rfl⟩, ⟨_, rfl, .inl rfl⟩, ⟨_, rfl, .inl rfl⟩, ⟨_, rfl, .inl rfl⟩, ⟨_, rfl, .inl rfl⟩, ⟨_, rfl, .inl rfl⟩, ⟨_, rfl, .inl rfl⟩, trivial⟩ trivial rfl rfl rfl rfl) ?_
                clear hr
                intro again18 s17 hr
                unfold vw_actions_L1 at hr
                refine Ok.seq ?_
                refine Ok.region ?_
                refine OkOps.x (aB (decide (s17 < (x8.Args.length : Int)))) rfl trivial rfl ?_
                refine OkOps.nil ?_
                refine Ok.seq ?_
                refine Ok.cond (b := decide (s17 < (x8.Args.length : Int))) rfl (fun h19 => ?_) (fun h19 => ?_)
                · have hr := selT h19 hr
                  refine Ok.skip ?_
                  refine Ok.seq ?_
                  refine Ok.block ?_
                  refine Ok.seq ?_
                  refine Ok.region ?_
                  obtain ⟨x20, hx20, hr⟩ := bind_some hr
                  refine OkOps.q (triIdx (enc := AValue.cs) (L := x8.Args) (row := [dI x20.Kind, dI x20.N, dS x20.S, .sl (List.map AValue.cs x20.L)]) hx20 (AValue.cs_eq _) rfl rfl rfl (fun x => by rw [AValue.cs_eq]; rfl) trivial rfl) ?_
                  refine OkOps.x (.agg [cI x20.Kind, cI x20.N, cS x20.S, .d (.sl (List.map AValue.cs x20.L))]) rfl trivial rfl ?_
                  refine OkOps.m 0 (triAlloc (j := 1) (cs := [cI 0, cI 0, cS ByteArray.empty, .d (.v (.slice none 0 0))]) rfl rfl rfl rfl) ?_
                  refine OkOps.w (triStore (cs' := [cI x20.Kind, cI x20.N, cS x20.S, .d (.sl (List.map AValue.cs x20.L))]) rfl rfl rfl rfl rfl rfl rfl rfl rfl) ?_
                  refine OkOps.nil ?_
                  refine Ok.seq ?_
                  refine Ok.region ?_
                  refine OkOps.x (.agg [cI x20.Kind, cI x20.N, cS x20.S, .d (.sl (List.map AValue.cs x20.L))]) rfl trivial rfl ?_
                  obtain ⟨x21, hx21, hr⟩ := bind_some hr
                  refine OkOps.q (triCall (tau []) (.s (aI x21)) [] (ex_Check_c _ hx21) rfl ⟨.inl rfl, trivial⟩ trivial entry105 trivial rfl rfl rfl rfl trivial rfl rfl rfl) ?_
                  refine OkOps.x (aI x21) rfl trivial rfl ?_
                  refine OkOps.nil ?_
                  refine Ok.seq ?_
                  refine Ok.region ?_
                  refine OkOps.x (aI x21) rfl trivial rfl ?_
                  refine OkOps.x (aB (x21 != 0)) rfl trivial rfl ?_
                  refine OkOps.nil ?_
                  refine Ok.cond (b := x21 != 0) rfl (fun h22 => ?_) (fun h22 => ?_)
                  · have hr := selT h22 hr
                    refine Ok.seq ?_
                    refine Ok.region ?_
                    refine OkOps.x (aI x21) rfl trivial rfl ?_
                    refine OkOps.x (aI x21) rfl trivial rfl ?_
                    refine OkOps.nil ?_
                    refine Ok.ret ?_
                    obtain rfl := Option.some.inj hr
                    exact ⟨_, rfl, .inl rfl, trivial⟩
                  · have hr := selF h22 hr
                    refine Ok.skip ?_
                    refine Ok.region ?_
                    refine OkOps.x (aI (IntKind.i64.wrap (s17 + 1))) rfl trivial rfl ?_
                    refine OkOps.x (aI (IntKind.i64.wrap (s17 + 1))) rfl trivial rfl ?_
                    refine OkOps.nil ?_
                    exact ⟨IntKind.i64.wrap (s17 + 1), hr, (Conv.mk (tau []) ⟨⟨_, rfl, .inl rfl⟩, ⟨_, rfl, .inl rfl⟩, ⟨_, rfl, .inl rfl⟩, ⟨_, rfl, .inl rfl⟩, ⟨_, rfl, .inl rfl⟩, ⟨_, rfl, .inl rfl⟩, ⟨_, rfl, .inl rfl⟩, trivial⟩ trivial rfl rfl rfl rfl)⟩
                · have hr := selF h19 hr
                  refine Ok.exit ?_
                  exact ⟨(), hr, (Conv.mk (tau []) ⟨⟨_, rfl, .inl rfl⟩, ⟨_, rfl, .inl rfl⟩, ⟨_, rfl, .inl rfl⟩, ⟨_, rfl, .inl rfl⟩, trivial⟩ trivial rfl rfl rfl rfl)⟩
    · have hr := selF h5 hr
      refine Ok.exit ?_
      exact ⟨(), hr, (Conv.mk (tau []) trivial trivial rfl rfl rfl rfl)⟩
theorem entry78 : Entry Tryd.prog 78 := ⟨_, Tryd.func78, by kernel_rfl, by kernel_rfl⟩
theorem entry52 : Entry Tryd.prog 52 := ⟨_, Tryd.func52, by kernel_rfl, by kernel_rfl⟩
theorem vw_validate_B_c (self0 : View → Int → Int → Option (Int × Int)) (hself0 : ∀ (a0 : View) (a1 : Int) (a2 : Int) {r : Int × Int}, self0 a0 a1 a2 = some r → Con Tryd.prog 52 [.agg [cI a0.Kind, cS a0.Key, .d (.sl (List.map Attr.cs a0.Attrs)), .d (.sl (List.map Action.cs a0.Actions)), .d (.sl (List.map View.cs a0.Kids))], aI a1, .c (.loc 0 0)] [(0, .blk [cI a2] 3)] (.s (aI r.1)) [(0, .blk [cI r.2] 3)]) (a0 : View) (a1 : Int) (a2 : Int) {r : Int × Int} (hr : vw_validate_B self0 a0 a1 a2 = some r) : Con Tryd.prog 52 [.agg [cI a0.Kind, cS a0.Key, .d (.sl (List.map Attr.cs a0.Attrs)), .d (.sl (List.map Action.cs a0.Actions)), .d (.sl (List.map View.cs a0.Kids))], aI a1, .c (.loc 0 0)] [(0, .blk [cI a2] 3)] (.s (aI r.1)) [(0, .blk [cI r.2] 3)] := by
  unfold vw_validate_B at hr
  refine Con.of_ok 108 0 [.tmp 6] [(0, .s (.agg [cI a0.Kind, cS a0.Key, .d (.sl (List.map Attr.cs a0.Attrs)), .d (.sl (List.map Action.cs a0.Actions)), .d (.sl (List.map View.cs a0.Kids))])), (1, .s (aI a1)), (2, .s (.c (.loc 0 0)))] Tryd.func52 rfl rfl rfl rfl rfl rfl rfl rfl fun w g M ρ _ => ?_
  refine Ok.seq ?_
  refine Ok.region ?_
  refine OkOps.m 0 (triBox (j := 1) (cs := [cI a0.Kind, cS a0.Key, .d (.sl (List.map Attr.cs a0.Attrs)), .d (.sl (List.map Action.cs a0.Actions)), .d (.sl (List.map View.cs a0.Kids))]) rfl rfl rfl rfl rfl) ?_
  refine OkOps.x (aI 0) rfl trivial rfl ?_
  refine OkOps.nil ?_
  refine Ok.seq ?_
  refine Ok.region ?_
  refine OkOps.x (.c (.loc 0 0)) rfl trivial rfl ?_
  refine OkOps.x (.c (.loc 0 0)) rfl trivial rfl ?_
  refine OkOps.x (aI a2) rfl trivial rfl ?_
  refine OkOps.x (aI (IntKind.i64.wrap (a2 + 1))) rfl trivial rfl ?_
  refine OkOps.x (.c (.loc 0 0)) rfl trivial rfl ?_
  refine OkOps.w (triStore (cs' := [cI (IntKind.i64.wrap (a2 + 1))]) rfl rfl rfl rfl rfl rfl rfl rfl rfl) ?_
  refine OkOps.nil ?_
  refine Ok.seq ?_
  refine Ok.block ?_
  refine Ok.seq ?_
  refine Ok.region ?_
  refine OkOps.x (aI a1) rfl trivial rfl ?_
  refine OkOps.x (aB (decide (a1 > 16))) rfl trivial rfl ?_
  refine OkOps.x (aB (decide (a1 > 16))) rfl trivial rfl ?_
  refine OkOps.nil ?_
  refine Ok.cond (b := decide (a1 > 16)) rfl (fun h1 => ?_) (fun h1 => ?_)
  · have hr := selT h1 hr
    refine Ok.seq ?_
    refine Ok.region ?_
    refine OkOps.x (aI 8) rfl trivial rfl ?_
    refine OkOps.nil ?_
    refine Ok.ret ?_
    obtain rfl := Option.some.inj hr
    exact ⟨_, rfl, .inl rfl, ⟨rfl, trivial⟩⟩
  · have hr := selF h1 hr
    refine Ok.seq ?_
    refine Ok.region ?_
    refine OkOps.x (.c (.loc 0 0)) rfl trivial rfl ?_
    refine OkOps.x (.c (.loc 0 0)) rfl trivial rfl ?_
    refine OkOps.x (aI (IntKind.i64.wrap (a2 + 1))) rfl trivial rfl ?_
    refine OkOps.x (aB (decide ((IntKind.i64.wrap (a2 + 1)) > 400))) rfl trivial rfl ?_
    refine OkOps.x (aB (decide ((IntKind.i64.wrap (a2 + 1)) > 400))) rfl trivial rfl ?_
    refine OkOps.nil ?_
    refine Ok.cond (b := decide ((IntKind.i64.wrap (a2 + 1)) > 400)) rfl (fun h2 => ?_) (fun h2 => ?_)
    · have hr := selT h2 hr
      refine Ok.seq ?_
      refine Ok.region ?_
      refine OkOps.x (aI 2) rfl trivial rfl ?_
      refine OkOps.nil ?_
      refine Ok.ret ?_
      obtain rfl := Option.some.inj hr
      exact ⟨_, rfl, .inl rfl, ⟨rfl, trivial⟩⟩
    · have hr := selF h2 hr
      refine Ok.seq ?_
      refine Ok.region ?_
      refine OkOps.x (.c (.loc 1 0)) rfl trivial rfl ?_
      refine OkOps.x (aI a0.Kind) rfl trivial rfl ?_
      refine OkOps.x (aB (decide (a0.Kind < 1))) rfl trivial rfl ?_
      refine OkOps.x (aB (decide (a0.Kind < 1))) rfl trivial rfl ?_
      refine OkOps.q (triQG (x := .c (.loc 1 0)) rfl rfl trivial rfl) ?_
      refine OkOps.q (triQG (x := aI a0.Kind) rfl rfl ⟨fun h => h, trivial⟩ rfl) ?_
      refine OkOps.q (triQG (x := aB (decide (a0.Kind > 13))) rfl rfl ⟨fun h => h, trivial⟩ rfl) ?_
      refine OkOps.q (triOr rfl rfl (fun h => by rw [h]; rfl) rfl) ?_
      refine OkOps.x (aB ((decide (a0.Kind < 1)) || (decide (a0.Kind > 13)))) rfl trivial rfl ?_
      refine OkOps.nil ?_
      refine Ok.cond (b := (decide (a0.Kind < 1)) || (decide (a0.Kind > 13))) rfl (fun h3 => ?_) (fun h3 => ?_)
      · have hr := selT h3 hr
        refine Ok.seq ?_
        refine Ok.region ?_
        refine OkOps.x (aI 9) rfl trivial rfl ?_
        refine OkOps.nil ?_
        refine Ok.ret ?_
        obtain rfl := Option.some.inj hr
        exact ⟨_, rfl, .inl rfl, ⟨rfl, trivial⟩⟩
      · have hr := selF h3 hr
        refine Ok.seq ?_
        refine Ok.region ?_
        refine OkOps.x (.c (.loc 1 1)) rfl trivial rfl ?_
        refine OkOps.x (aS a0.Key) rfl trivial rfl ?_
        obtain ⟨x4, hx4, hr⟩ := bind_some hr
        refine OkOps.q (triCall (tau []) (.s (aB x4)) [] (vw_Key_c _ hx4) rfl ⟨.inl rfl, trivial⟩ trivial entry12 trivial rfl rfl rfl rfl trivial rfl rfl rfl) ?_
        refine OkOps.x (aB (!x4)) rfl trivial rfl ?_
        refine OkOps.x (aB (!x4)) rfl trivial rfl ?_
        refine OkOps.nil ?_
        refine Ok.cond (b := !x4) rfl (fun h5 => ?_) (fun h5 => ?_)
        · have hr := selT h5 hr
          refine Ok.seq ?_
          refine Ok.region ?_
          refine OkOps.x (aI 4) rfl trivial rfl ?_
          refine OkOps.nil ?_
          refine Ok.ret ?_
          obtain rfl := Option.some.inj hr
          exact ⟨_, rfl, .inl rfl, ⟨rfl, trivial⟩⟩
        · have hr := selF h5 hr
          refine Ok.seq ?_
          refine Ok.region ?_
          refine OkOps.x (.c (.loc 1 2)) rfl trivial rfl ?_
          refine OkOps.x (.c (.d (.sl (List.map Attr.cs a0.Attrs)))) rfl trivial rfl ?_
          refine OkOps.q (triLen (enc := Attr.cs) a0.Attrs rfl rfl trivial rfl) ?_
          refine OkOps.x (aB (decide ((a0.Attrs.length : Int) > 24))) rfl trivial rfl ?_
          refine OkOps.x (aB (decide ((a0.Attrs.length : Int) > 24))) rfl trivial rfl ?_
          refine OkOps.q (triQG (x := .c (.loc 1 3)) rfl rfl trivial rfl) ?_
          refine OkOps.q (triQG (x := .c (.d (.sl (List.map Action.cs a0.Actions)))) rfl rfl ⟨fun h => h, trivial⟩ rfl) ?_
          refine OkOps.q (triLenG (enc := Action.cs) a0.Actions rfl rfl rfl ⟨fun h => h, trivial⟩ rfl) ?_
          refine OkOps.q (triQG (x := aB (decide ((a0.Actions.length : Int) > 24))) rfl rfl ⟨fun h => h, trivial⟩ rfl) ?_
          refine OkOps.q (triOr rfl rfl (fun h => by rw [h]; rfl) rfl) ?_
          refine OkOps.x (aB ((decide ((a0.Attrs.length : Int) > 24)) || (decide ((a0.Actions.length : Int) > 24)))) rfl trivial rfl ?_
          refine OkOps.q (triQG (x := .c (.loc 1 4)) rfl rfl trivial rfl) ?_
          refine OkOps.q (triQG (x := .c (.d (.sl (List.map View.cs a0.Kids)))) rfl rfl ⟨fun h => h, trivial⟩ rfl) ?_
          refine OkOps.q (triLenG (enc := View.cs) a0.Kids rfl rfl rfl ⟨fun h => h, trivial⟩ rfl) ?_
          refine OkOps.q (triQG (x := aB (decide ((a0.Kids.length : Int) > 100))) rfl rfl ⟨fun h => h, trivial⟩ rfl) ?_
          refine OkOps.q (triOr rfl rfl (fun h => by rw [h]; rfl) rfl) ?_
          refine OkOps.x (aB (((decide ((a0.Attrs.length : Int) > 24)) || (decide ((a0.Actions.length : Int) > 24))) || (decide ((a0.Kids.length : Int) > 100)))) rfl trivial rfl ?_
          refine OkOps.nil ?_
          refine Ok.cond (b := ((decide ((a0.Attrs.length : Int) > 24)) || (decide ((a0.Actions.length : Int) > 24))) || (decide ((a0.Kids.length : Int) > 100))) rfl (fun h6 => ?_) (fun h6 => ?_)
          · have hr := selT h6 hr
            refine Ok.seq ?_
            refine Ok.region ?_
            refine OkOps.x (aI 2) rfl trivial rfl ?_
            refine OkOps.nil ?_
            refine Ok.ret ?_
            obtain rfl := Option.some.inj hr
            exact ⟨_, rfl, .inl rfl, ⟨rfl, trivial⟩⟩
          · have hr := selF h6 hr
            refine Ok.skip ?_
            refine Ok.seq ?_
            refine Ok.seq ?_
            refine Ok.region ?_
            refine OkOps.x (.c (.loc 1 2)) rfl trivial rfl ?_
            refine OkOps.x (.c (.d (.sl (List.map Attr.cs a0.Attrs)))) rfl trivial rfl ?_
            obtain ⟨x7, hx7, hr⟩ := bind_some hr
            refine OkOps.q (triCall (tau []) (.s (aI x7)) [] (vw_attributes_c _ hx7) rfl ⟨.inl rfl, trivial⟩ trivial entry77 trivial rfl rfl rfl rfl trivial rfl rfl rfl) ?_
            refine OkOps.x (aI x7) rfl trivial rfl ?_
            refine OkOps.nil ?_
            refine Ok.seq ?_
            refine Ok.region ?_
            refine OkOps.x (aI x7) rfl trivial rfl ?_
            refine OkOps.x (aB (x7 != 0)) rfl trivial rfl ?_
            refine OkOps.nil ?_
            refine Ok.cond (b := x7 != 0) rfl (fun h8 => ?_) (fun h8 => ?_)
            · have hr := selT h8 hr
              refine Ok.seq ?_
              refine Ok.region ?_
              refine OkOps.x (aI x7) rfl trivial rfl ?_
              refine OkOps.x (aI x7) rfl trivial rfl ?_
              refine OkOps.nil ?_
              refine Ok.ret ?_
              obtain rfl := Option.some.inj hr
              exact ⟨_, rfl, .inl rfl, ⟨rfl, trivial⟩⟩
            · have hr := selF h8 hr
              refine Ok.skip ?_
              refine Ok.seq ?_
              refine Ok.seq ?_
              refine Ok.region ?_
              refine OkOps.x (.c (.loc 1 3)) rfl trivial rfl ?_
              refine OkOps.x (.c (.d (.sl (List.map Action.cs a0.Actions)))) rfl trivial rfl ?_
              obtain ⟨x9, hx9, hr⟩ := bind_some hr
              refine OkOps.q (triCall (tau []) (.s (aI x9)) [] (vw_actions_c _ hx9) rfl ⟨.inl rfl, trivial⟩ trivial entry78 trivial rfl rfl rfl rfl trivial rfl rfl rfl) ?_
              refine OkOps.x (aI x9) rfl trivial rfl ?_
              refine OkOps.nil ?_
              refine Ok.seq ?_
              refine Ok.region ?_
              refine OkOps.x (aI x9) rfl trivial rfl ?_
              refine OkOps.x (aB (x9 != 0)) rfl trivial rfl ?_
              refine OkOps.nil ?_
              refine Ok.cond (b := x9 != 0) rfl (fun h10 => ?_) (fun h10 => ?_)
              · have hr := selT h10 hr
                refine Ok.seq ?_
                refine Ok.region ?_
                refine OkOps.x (aI x9) rfl trivial rfl ?_
                refine OkOps.x (aI x9) rfl trivial rfl ?_
                refine OkOps.nil ?_
                refine Ok.ret ?_
                obtain rfl := Option.some.inj hr
                exact ⟨_, rfl, .inl rfl, ⟨rfl, trivial⟩⟩
              · have hr := selF h10 hr
                refine Ok.skip ?_
                refine Ok.seq ?_
                refine Ok.region ?_
                refine OkOps.m 0 (triMkM (j := 2) false rfl rfl) ?_
                refine OkOps.x (.c (.own 2)) rfl trivial rfl ?_
                refine OkOps.nil ?_
                obtain ⟨k12, hk12, hr⟩ := jn_some hr
                refine Ok.join (fun (s11 : Unit) => ⟨[(1, .s (aI a1)), (2, .s (.c (.loc 0 0))), (3, .s (.c (.loc 1 0)))], [(0, .blk [cI (IntKind.i64.wrap (a2 + 1))] 3), (1, .blk [cI a0.Kind, cS a0.Key, .d (.sl (List.map Attr.cs a0.Attrs)), .d (.sl (List.map Action.cs a0.Actions)), .d (.sl (List.map View.cs a0.Kids))] 31)], 0⟩) k12 r (fun s11 hr => ?_) ?_
                · rw [hk12] at hr
                  obtain ⟨k14, hk14, hr⟩ := jn_some hr
                  refine Ok.join (fun (s13 : Int) => ⟨[], [(0, .blk [cI s13] 3)], 0⟩) k14 r (fun s13 hr => ?_) ?_
                  · rw [hk14] at hr
                    refine Ok.seq ?_
                    refine Ok.region ?_
                    refine OkOps.x (aI 0) rfl trivial rfl ?_
                    refine OkOps.nil ?_
                    refine Ok.ret ?_
                    obtain rfl := Option.some.inj hr
                    exact ⟨_, rfl, .inl rfl, ⟨rfl, trivial⟩⟩
                  · clear hk14
                    refine Ok.seq ?_
                    refine Ok.region ?_
                    refine OkOps.x (.c (.loc 1 4)) rfl trivial rfl ?_
                    refine OkOps.x (.c (.d (.sl (List.map View.cs a0.Kids)))) rfl trivial rfl ?_
                    refine OkOps.q (triLen (enc := View.cs) a0.Kids rfl rfl trivial rfl) ?_
                    refine OkOps.x (aI 0) rfl trivial rfl ?_
                    refine OkOps.nil ?_
                    refine Ok.block ?_
                    refine Ok.loopK (fun (s15 : Int × Int) => ⟨[(1, .s (aI a1)), (2, .s (.c (.loc 0 0))), (93, .s (.c (.d (.sl (List.map View.cs a0.Kids))))), (94, .s (aI (a0.Kids.length : Int))), (95, .s (aI s15.1))], [(0, .blk [cI s15.2] 3)], 0⟩) hr (Conv.mk (tau []) ⟨⟨_, rfl, .inl rfl⟩, ⟨_, rfl, .inl rfl⟩, ⟨_, rfl, .inl rfl⟩, ⟨_, rfl, .inl rfl⟩, ⟨_, rfl, .inl rfl⟩, trivial⟩ ⟨rfl, trivial⟩ rfl rfl rfl rfl) ?_
                    clear hr
                    intro again16 s15 hr
                    unfold vw_validate_L1 at hr
                    refine Ok.seq ?_
                    refine Ok.region ?_
                    refine OkOps.x (aB (decide (s15.1 < (a0.Kids.length : Int)))) rfl trivial rfl ?_
                    refine OkOps.nil ?_
                    refine Ok.seq ?_
                    refine Ok.cond (b := decide (s15.1 < (a0.Kids.length : Int))) rfl (fun h17 => ?_) (fun h17 => ?_)
                    · have hr := selT h17 hr
                      refine Ok.skip ?_
                      refine Ok.seq ?_
                      refine Ok.block ?_
                      refine Ok.seq ?_
                      refine Ok.region ?_
                      obtain ⟨x18, hx18, hr⟩ := bind_some hr
                      refine OkOps.q (triIdx (enc := View.cs) (L := a0.Kids) (row := [dI x18.Kind, dS x18.Key, .sl (List.map Attr.cs x18.Attrs), .sl (List.map Action.cs x18.Actions), .sl (List.map View.cs x18.Kids)]) hx18 (View.cs_eq _) rfl rfl rfl (fun x => by rw [View.cs_eq]; rfl) trivial rfl) ?_
                      refine OkOps.x (.agg [cI x18.Kind, cS x18.Key, .d (.sl (List.map Attr.cs x18.Attrs)), .d (.sl (List.map Action.cs x18.Actions)), .d (.sl (List.map View.cs x18.Kids))]) rfl trivial rfl ?_
                      refine OkOps.m 0 (triAlloc (j := 3) (cs := [cI 0, cS ByteArray.empty, .d (.v (.slice none 0 0)), .d (.v (.slice none 0 0)), .d (.v (.slice none 0 0))]) rfl rfl rfl rfl) ?_
                      refine OkOps.w (triStore (cs' := [cI x18.Kind, cS x18.Key, .d (.sl (List.map Attr.cs x18.Attrs)), .d (.sl (List.map Action.cs x18.Actions)), .d (.sl (List.map View.cs x18.Kids))]) rfl rfl rfl rfl rfl rfl rfl rfl rfl) ?_
                      refine OkOps.nil ?_
                      refine Ok.seq ?_
                      refine Ok.region ?_
                      refine OkOps.x (.agg [cI x18.Kind, cS x18.Key, .d (.sl (List.map Attr.cs x18.Attrs)), .d (.sl (List.map Action.cs x18.Actions)), .d (.sl (List.map View.cs x18.Kids))]) rfl trivial rfl ?_
                      refine OkOps.x (aI a1) rfl trivial rfl ?_
                      refine OkOps.x (aI (IntKind.i64.wrap (a1 + 1))) rfl trivial rfl ?_
                      refine OkOps.x (.c (.loc 0 0)) rfl trivial rfl ?_
                      obtain ⟨x19, hx19, hr⟩ := bind_some hr
                      refine OkOps.m 0 (triCall (tau [(0, 0)]) (.s (aI x19.1)) [(0, .blk [cI x19.2] 3)] (hself0 _ _ _ hx19) rfl ⟨.inl rfl, .inl rfl, .inl rfl, trivial⟩ trivial entry52 ⟨rfl, trivial⟩ rfl rfl rfl rfl trivial rfl rfl rfl) ?_
                      refine OkOps.x (aI x19.1) rfl trivial rfl ?_
                      refine OkOps.nil ?_
                      refine Ok.seq ?_
                      refine Ok.region ?_
                      refine OkOps.x (aI x19.1) rfl trivial rfl ?_
                      refine OkOps.x (aB (x19.1 != 0)) rfl trivial rfl ?_
                      refine OkOps.nil ?_
                      refine Ok.cond (b := x19.1 != 0) rfl (fun h20 => ?_) (fun h20 => ?_)
                      · have hr := selT h20 hr
                        refine Ok.seq ?_
                        refine Ok.region ?_
                        refine OkOps.x (aI x19.1) rfl trivial rfl ?_
                        refine OkOps.x (aI x19.1) rfl trivial rfl ?_
                        refine OkOps.nil ?_
                        refine Ok.ret ?_
                        obtain rfl := Option.some.inj hr
                        exact ⟨_, rfl, .inl rfl, ⟨rfl, trivial⟩⟩
                      · have hr := selF h20 hr
                        refine Ok.skip ?_
                        refine Ok.region ?_
                        refine OkOps.x (aI (IntKind.i64.wrap (s15.1 + 1))) rfl trivial rfl ?_
                        refine OkOps.x (aI (IntKind.i64.wrap (s15.1 + 1))) rfl trivial rfl ?_
                        refine OkOps.nil ?_
                        exact ⟨(IntKind.i64.wrap (s15.1 + 1), x19.2), hr, (Conv.mk (tau []) ⟨⟨_, rfl, .inl rfl⟩, ⟨_, rfl, .inl rfl⟩, ⟨_, rfl, .inl rfl⟩, ⟨_, rfl, .inl rfl⟩, ⟨_, rfl, .inl rfl⟩, trivial⟩ ⟨rfl, trivial⟩ rfl rfl rfl rfl)⟩
                    · have hr := selF h17 hr
                      refine Ok.exit ?_
                      exact ⟨s15.2, hr, (Conv.mk (tau []) trivial ⟨rfl, trivial⟩ rfl rfl rfl rfl)⟩
                · clear hk12
                  refine Ok.seq ?_
                  refine Ok.region ?_
                  refine OkOps.x (.c (.loc 1 4)) rfl trivial rfl ?_
                  refine OkOps.x (.c (.d (.sl (List.map View.cs a0.Kids)))) rfl trivial rfl ?_
                  refine OkOps.q (triLen (enc := View.cs) a0.Kids rfl rfl trivial rfl) ?_
                  refine OkOps.x (aI 0) rfl trivial rfl ?_
                  refine OkOps.nil ?_
                  refine Ok.block ?_
                  refine Ok.loopK (fun (s21 : Int × (List (Str × Bool))) => ⟨[(1, .s (aI a1)), (2, .s (.c (.loc 0 0))), (3, .s (.c (.loc 1 0))), (9, .s (.c (.own 2))), (73, .s (.c (.d (.sl (List.map View.cs a0.Kids))))), (74, .s (aI (a0.Kids.length : Int))), (75, .s (aI s21.1))], [(0, .blk [cI (IntKind.i64.wrap (a2 + 1))] 3), (1, .blk [cI a0.Kind, cS a0.Key, .d (.sl (List.map Attr.cs a0.Attrs)), .d (.sl (List.map Action.cs a0.Actions)), .d (.sl (List.map View.cs a0.Kids))] 31), (2, .mp false (encM kStr eBool s21.2))], 0⟩) hr (Conv.mk (tau []) ⟨⟨_, rfl, .inl rfl⟩, ⟨_, rfl, .inl rfl⟩, ⟨_, rfl, .inl rfl⟩, ⟨_, rfl, .inl rfl⟩, ⟨_, rfl, .inl rfl⟩, ⟨_, rfl, .inl rfl⟩, ⟨_, rfl, .inl rfl⟩, trivial⟩ ⟨rfl, rfl, rfl, trivial⟩ rfl rfl rfl rfl) ?_
                  clear hr
                  intro again22 s21 hr
                  unfold vw_validate_L2 at hr
                  refine Ok.seq ?_
                  refine Ok.region ?_
                  refine OkOps.x (aB (decide (s21.1 < (a0.Kids.length : Int)))) rfl trivial rfl ?_
                  refine OkOps.nil ?_
                  refine Ok.seq ?_
                  refine Ok.cond (b := decide (s21.1 < (a0.Kids.length : Int))) rfl (fun h23 => ?_) (fun h23 => ?_)
                  · have hr := selT h23 hr
                    refine Ok.skip ?_
                    refine Ok.seq ?_
                    refine Ok.block ?_
                    refine Ok.seq ?_
                    refine Ok.region ?_
                    obtain ⟨x24, hx24, hr⟩ := bind_some hr
                    refine OkOps.q (triIdx (enc := View.cs) (L := a0.Kids) (row := [dI x24.Kind, dS x24.Key, .sl (List.map Attr.cs x24.Attrs), .sl (List.map Action.cs x24.Actions), .sl (List.map View.cs x24.Kids)]) hx24 (View.cs_eq _) rfl rfl rfl (fun x => by rw [View.cs_eq]; rfl) trivial rfl) ?_
                    refine OkOps.x (.agg [cI x24.Kind, cS x24.Key, .d (.sl (List.map Attr.cs x24.Attrs)), .d (.sl (List.map Action.cs x24.Actions)), .d (.sl (List.map View.cs x24.Kids))]) rfl trivial rfl ?_
                    refine OkOps.m 0 (triAlloc (j := 4) (cs := [cI 0, cS ByteArray.empty, .d (.v (.slice none 0 0)), .d (.v (.slice none 0 0)), .d (.v (.slice none 0 0))]) rfl rfl rfl rfl) ?_
                    refine OkOps.w (triStore (cs' := [cI x24.Kind, cS x24.Key, .d (.sl (List.map Attr.cs x24.Attrs)), .d (.sl (List.map Action.cs x24.Actions)), .d (.sl (List.map View.cs x24.Kids))]) rfl rfl rfl rfl rfl rfl rfl rfl rfl) ?_
                    refine OkOps.nil ?_
                    refine Ok.seq ?_
                    refine Ok.seq ?_
                    refine Ok.region ?_
                    refine OkOps.x (.c (.loc 4 1)) rfl trivial rfl ?_
                    refine OkOps.x (aS x24.Key) rfl trivial rfl ?_
                    refine OkOps.x (aB (!(x24.Key.toList == (ByteArray.mk #[]).toList))) rfl trivial rfl ?_
                    refine OkOps.x (aB (!(x24.Key.toList == (ByteArray.mk #[]).toList))) rfl trivial rfl ?_
                    refine OkOps.q (triQG (x := .c (.own 2)) rfl rfl trivial rfl) ?_
                    refine OkOps.q (triQG (x := .c (.loc 4 1)) rfl rfl trivial rfl) ?_
                    refine OkOps.q (triQG (x := aS x24.Key) rfl rfl ⟨fun h => h, trivial⟩ rfl) ?_
                    obtain ⟨x25, hx25, hr⟩ := bind_some hr
                    refine OkOps.q (triLookG (agg := false) (ek := kStr) (ev := eBool) (L := s21.2) (r := aB x25.1) (gO_t hx25) rfl rfl rfl rfl (keyStr Tryd.underlying9) rfl rfl (fun _ _ => rfl) rfl ⟨fun h => h, ⟨fun h => h, trivial⟩⟩ rfl) ?_
                    refine OkOps.q (triAnd rfl rfl (fun h => h) rfl) ?_
                    refine OkOps.nil ?_
                    refine Ok.cond (b := (!(x24.Key.toList == (ByteArray.mk #[]).toList)) && x25.1) rfl (fun h26 => ?_) (fun h26 => ?_)
                    · have hr := selT h26 hr
                      refine Ok.seq ?_
                      refine Ok.region ?_
                      refine OkOps.x (aI 6) rfl trivial rfl ?_
                      refine OkOps.nil ?_
                      refine Ok.ret ?_
                      obtain rfl := Option.some.inj hr
                      exact ⟨_, rfl, .inl rfl, ⟨rfl, trivial⟩⟩
                    · have hr := selF h26 hr
                      refine Ok.skip ?_
                      refine Ok.region ?_
                      refine OkOps.x (.c (.own 2)) rfl trivial rfl ?_
                      refine OkOps.x (.c (.loc 4 1)) rfl trivial rfl ?_
                      refine OkOps.x (aS x24.Key) rfl trivial rfl ?_
                      refine OkOps.w (triMapUp (ek := kStr) (ev := eBool) (L := s21.2) (z := true) rfl rfl rfl rfl rfl rfl (keyStr Tryd.underlying9) (fun _ _ => rfl) rfl trivial) ?_
                      refine OkOps.nil ?_
                      refine Ok.region ?_
                      refine OkOps.x (aI (IntKind.i64.wrap (s21.1 + 1))) rfl trivial rfl ?_
                      refine OkOps.x (aI (IntKind.i64.wrap (s21.1 + 1))) rfl trivial rfl ?_
                      refine OkOps.nil ?_
                      exact ⟨(IntKind.i64.wrap (s21.1 + 1), msetL s21.2 x24.Key true), hr, (Conv.mk (tau []) ⟨⟨_, rfl, .inl rfl⟩, ⟨_, rfl, .inl rfl⟩, ⟨_, rfl, .inl rfl⟩, ⟨_, rfl, .inl rfl⟩, ⟨_, rfl, .inl rfl⟩, ⟨_, rfl, .inl rfl⟩, ⟨_, rfl, .inl rfl⟩, trivial⟩ ⟨rfl, rfl, rfl, trivial⟩ rfl rfl rfl rfl)⟩
                  · have hr := selF h23 hr
                    refine Ok.exit ?_
                    exact ⟨(), hr, (Conv.mk (tau []) ⟨⟨_, rfl, .inl rfl⟩, ⟨_, rfl, .inl rfl⟩, ⟨_, rfl, .inl rfl⟩, trivial⟩ ⟨rfl, rfl, trivial⟩ rfl rfl rfl rfl)⟩
theorem vw_validate_all : ∀ n : Nat, (∀ (a0 : View) (a1 : Int) (a2 : Int) {r : Int × Int}, vw_validate n a0 a1 a2 = some r → Con Tryd.prog 52 [.agg [cI a0.Kind, cS a0.Key, .d (.sl (List.map Attr.cs a0.Attrs)), .d (.sl (List.map Action.cs a0.Actions)), .d (.sl (List.map View.cs a0.Kids))], aI a1, .c (.loc 0 0)] [(0, .blk [cI a2] 3)] (.s (aI r.1)) [(0, .blk [cI r.2] 3)]) ∧ True := by
  intro n
  induction n with
  | zero => exact ⟨(by intros; rename_i hr; cases hr), trivial⟩
  | succ n ih => exact ⟨(by intros; rename_i hr; exact vw_validate_B_c _ ih.1 _ _ _ hr), trivial⟩
theorem vw_validate_c (n : Nat) (a0 : View) (a1 : Int) (a2 : Int) {r : Int × Int} (hr : vw_validate n a0 a1 a2 = some r) : Con Tryd.prog 52 [.agg [cI a0.Kind, cS a0.Key, .d (.sl (List.map Attr.cs a0.Attrs)), .d (.sl (List.map Action.cs a0.Actions)), .d (.sl (List.map View.cs a0.Kids))], aI a1, .c (.loc 0 0)] [(0, .blk [cI a2] 3)] (.s (aI r.1)) [(0, .blk [cI r.2] 3)] := (vw_validate_all n).1 a0 a1 a2 hr
theorem vw_Validate_c (v : View) {r : Int} (hr : vw_Validate v = some r) : Con Tryd.prog 17 [.agg [cI v.Kind, cS v.Key, .d (.sl (List.map Attr.cs v.Attrs)), .d (.sl (List.map Action.cs v.Actions)), .d (.sl (List.map View.cs v.Kids))]] [] (.s (aI r)) [] := by
  unfold vw_Validate at hr
  refine Con.of_ok 6 0 [.tmp 2] [(0, .s (.agg [cI v.Kind, cS v.Key, .d (.sl (List.map Attr.cs v.Attrs)), .d (.sl (List.map Action.cs v.Actions)), .d (.sl (List.map View.cs v.Kids))]))] Tryd.func17 rfl rfl rfl rfl rfl rfl rfl rfl fun w g M ρ _ => ?_
  refine Ok.seq ?_
  refine Ok.region ?_
  refine OkOps.m 0 (triBox (j := 0) (cs := [cI v.Kind, cS v.Key, .d (.sl (List.map Attr.cs v.Attrs)), .d (.sl (List.map Action.cs v.Actions)), .d (.sl (List.map View.cs v.Kids))]) rfl rfl rfl rfl rfl) ?_
  refine OkOps.x (aI 0) rfl trivial rfl ?_
  refine OkOps.nil ?_
  refine Ok.seq ?_
  refine Ok.region ?_
  refine OkOps.m 0 (triAlloc (j := 1) (cs := [cI 0]) rfl rfl rfl rfl) ?_
  refine OkOps.w (triStore (cs' := [cI 0]) rfl rfl rfl rfl rfl rfl rfl rfl rfl) ?_
  refine OkOps.nil ?_
  refine Ok.seq ?_
  refine Ok.region ?_
  refine OkOps.x (.agg [cI v.Kind, cS v.Key, .d (.sl (List.map Attr.cs v.Attrs)), .d (.sl (List.map Action.cs v.Actions)), .d (.sl (List.map View.cs v.Kids))]) rfl trivial rfl ?_
  obtain ⟨x1, hx1, hr⟩ := bind_some hr
  refine OkOps.m 0 (triCall (tau [(0, 1)]) (.s (aI x1.1)) [(1, .blk [cI x1.2] 3)] (vw_validate_c _ _ _ _ hx1) rfl ⟨.inl rfl, .inl rfl, .inl rfl, trivial⟩ trivial entry52 ⟨rfl, trivial⟩ rfl rfl rfl rfl trivial rfl rfl rfl) ?_
  refine OkOps.x (aI x1.1) rfl trivial rfl ?_
  refine OkOps.nil ?_
  refine Ok.ret ?_
  obtain rfl := Option.some.inj hr
  exact ⟨_, rfl, .inl rfl, trivial⟩
theorem entry17 : Entry Tryd.prog 17 := ⟨_, Tryd.func17, by kernel_rfl, by kernel_rfl⟩
theorem entry60 : Entry Tryd.prog 60 := ⟨_, Tryd.func60, by kernel_rfl, by kernel_rfl⟩
theorem entry83 : Entry Tryd.prog 83 := ⟨_, Tryd.func83, by kernel_rfl, by kernel_rfl⟩
theorem vw_value_B_c (self0 : AValue → Option AValue) (self1 : (List AValue) → Option (List AValue)) (_hself0 : ∀ (v : AValue) {r : AValue}, self0 v = some r → Con Tryd.prog 60 [.agg [cI v.Kind, cI v.N, cS v.S, .d (.sl (List.map AValue.cs v.L))]] [] (.s (.agg [cI r.Kind, cI r.N, cS r.S, .d (.sl (List.map AValue.cs r.L))])) []) (hself1 : ∀ (l : (List AValue)) {r : (List AValue)}, self1 l = some r → Con Tryd.prog 83 [.c (.d (.sl (List.map AValue.cs l)))] [] (.s (.c (.d (.sl (List.map AValue.cs r))))) []) (v : AValue) {r : AValue} (hr : vw_value_B self0 self1 v = some r) : Con Tryd.prog 60 [.agg [cI v.Kind, cI v.N, cS v.S, .d (.sl (List.map AValue.cs v.L))]] [] (.s (.agg [cI r.Kind, cI r.N, cS r.S, .d (.sl (List.map AValue.cs r.L))])) [] := by
  unfold vw_value_B at hr
  refine Con.of_ok 8 0 [.cell 2 40] [(0, .s (.agg [cI v.Kind, cI v.N, cS v.S, .d (.sl (List.map AValue.cs v.L))]))] Tryd.func60 rfl rfl rfl rfl rfl rfl rfl rfl fun w g M ρ _ => ?_
  refine Ok.seq ?_
  refine Ok.region ?_
  refine OkOps.m 0 (triBox (j := 0) (cs := [cI v.Kind, cI v.N, cS v.S, .d (.sl (List.map AValue.cs v.L))]) rfl rfl rfl rfl rfl) ?_
  refine OkOps.m 0 (triAlloc (j := 1) (cs := [cI 0, cI 0, cS ByteArray.empty, .d (.v (.slice none 0 0))]) rfl rfl rfl rfl) ?_
  refine OkOps.nil ?_
  refine Ok.seq ?_
  refine Ok.region ?_
  refine OkOps.x (.c (.loc 0 3)) rfl trivial rfl ?_
  refine OkOps.x (.c (.d (.sl (List.map AValue.cs v.L)))) rfl trivial rfl ?_
  obtain ⟨x1, hx1, hr⟩ := bind_some hr
  refine OkOps.q (triCall (tau []) (.s (.c (.d (.sl (List.map AValue.cs x1))))) [] (hself1 _ hx1) rfl ⟨.inl rfl, trivial⟩ trivial entry83 trivial rfl rfl rfl rfl trivial rfl rfl rfl) ?_
  refine OkOps.x (.c (.loc 0 3)) rfl trivial rfl ?_
  refine OkOps.w (triStore (cs' := [cI v.Kind, cI v.N, cS v.S, .d (.sl (List.map AValue.cs x1))]) rfl rfl rfl rfl rfl rfl rfl rfl rfl) ?_
  refine OkOps.nil ?_
  refine Ok.seq ?_
  refine Ok.region ?_
  refine OkOps.x (.agg [cI v.Kind, cI v.N, cS v.S, .d (.sl (List.map AValue.cs x1))]) rfl trivial rfl ?_
  refine OkOps.w (triStore (cs' := [cI v.Kind, cI v.N, cS v.S, .d (.sl (List.map AValue.cs x1))]) rfl rfl rfl rfl rfl rfl rfl rfl rfl) ?_
  refine OkOps.nil ?_
  refine Ok.ret ?_
  obtain rfl := Option.some.inj hr
  exact ⟨_, rfl, .inl rfl, trivial⟩
theorem vw_values_B_c (self0 : AValue → Option AValue) (self1 : (List AValue) → Option (List AValue)) (hself0 : ∀ (v : AValue) {r : AValue}, self0 v = some r → Con Tryd.prog 60 [.agg [cI v.Kind, cI v.N, cS v.S, .d (.sl (List.map AValue.cs v.L))]] [] (.s (.agg [cI r.Kind, cI r.N, cS r.S, .d (.sl (List.map AValue.cs r.L))])) []) (_hself1 : ∀ (l : (List AValue)) {r : (List AValue)}, self1 l = some r → Con Tryd.prog 83 [.c (.d (.sl (List.map AValue.cs l)))] [] (.s (.c (.d (.sl (List.map AValue.cs r))))) []) (l : (List AValue)) {r : (List AValue)} (hr : vw_values_B self0 self1 l = some r) : Con Tryd.prog 83 [.c (.d (.sl (List.map AValue.cs l)))] [] (.s (.c (.d (.sl (List.map AValue.cs r))))) [] := by
  unfold vw_values_B at hr
  refine Con.of_ok 19 0 [.tmp 2] [(0, .s (.c (.d (.sl (List.map AValue.cs l)))))] Tryd.func83 rfl rfl rfl rfl rfl rfl rfl rfl fun w g M ρ _ => ?_
  refine Ok.seq ?_
  refine Ok.region ?_
  refine OkOps.x (.c (.d (.v (.slice none 0 0)))) rfl trivial rfl ?_
  refine OkOps.nil ?_
  refine Ok.seq ?_
  refine Ok.region ?_
  refine OkOps.x (.c (.d (.v (.slice none 0 0)))) rfl trivial rfl ?_
  refine OkOps.nil ?_
  obtain ⟨k2, hk2, hr⟩ := jn_some hr
  refine Ok.join (fun (s1 : (List AValue)) => ⟨[(3, .s (.c (.tl 1004 (List.map AValue.cs s1))))], [(1004, .tail 4)], 0⟩) k2 r (fun s1 hr => ?_) ?_
  · rw [hk2] at hr
    refine Ok.seq ?_
    refine Ok.region ?_
    refine OkOps.x (.c (.tl 1004 (List.map AValue.cs s1))) rfl trivial rfl ?_
    refine OkOps.x (.c (.tl 1004 (List.map AValue.cs s1))) rfl trivial rfl ?_
    refine OkOps.nil ?_
    refine Ok.ret ?_
    obtain rfl := Option.some.inj hr
    exact ⟨_, rfl, .inr rfl, trivial⟩
  · clear hk2
    refine Ok.seq ?_
    refine Ok.region ?_
    refine OkOps.x (.c (.d (.sl (List.map AValue.cs l)))) rfl trivial rfl ?_
    refine OkOps.q (triLen (enc := AValue.cs) l rfl rfl trivial rfl) ?_
    refine OkOps.x (aI 0) rfl trivial rfl ?_
    refine OkOps.nil ?_
    refine Ok.block ?_
    refine Ok.loopK (fun (s3 : (List AValue) × Int) => ⟨[(3, .s (.c (.tl 1007 (List.map AValue.cs s3.1)))), (6, .s (.c (.d (.sl (List.map AValue.cs l))))), (7, .s (aI (l.length : Int))), (8, .s (aI s3.2))], [(1007, .tail 4)], 0⟩) hr (Conv.trans (Conv.nil 3 1009 4 0 rfl rfl) (Conv.mk (tau [(1007, 1009)]) ⟨⟨_, rfl, .inl rfl⟩, ⟨_, rfl, .inl rfl⟩, ⟨_, rfl, .inl rfl⟩, ⟨_, rfl, .inl rfl⟩, trivial⟩ ⟨rfl, trivial⟩ rfl rfl rfl rfl)) ?_
    clear hr
    intro again4 s3 hr
    unfold vw_values_L1 at hr
    refine Ok.seq ?_
    refine Ok.region ?_
    refine OkOps.x (aB (decide (s3.2 < (l.length : Int)))) rfl trivial rfl ?_
    refine OkOps.nil ?_
    refine Ok.seq ?_
    refine Ok.cond (b := decide (s3.2 < (l.length : Int))) rfl (fun h5 => ?_) (fun h5 => ?_)
    · have hr := selT h5 hr
      refine Ok.skip ?_
      refine Ok.seq ?_
      refine Ok.block ?_
      refine Ok.seq ?_
      refine Ok.region ?_
      obtain ⟨x6, hx6, hr⟩ := bind_some hr
      refine OkOps.q (triIdx (enc := AValue.cs) (L := l) (row := [dI x6.Kind, dI x6.N, dS x6.S, .sl (List.map AValue.cs x6.L)]) hx6 (AValue.cs_eq _) rfl rfl rfl (fun x => by rw [AValue.cs_eq]; rfl) trivial rfl) ?_
      refine OkOps.x (.agg [cI x6.Kind, cI x6.N, cS x6.S, .d (.sl (List.map AValue.cs x6.L))]) rfl trivial rfl ?_
      refine OkOps.m 0 (triAlloc (j := 0) (cs := [cI 0, cI 0, cS ByteArray.empty, .d (.v (.slice none 0 0))]) rfl rfl rfl rfl) ?_
      refine OkOps.w (triStore (cs' := [cI x6.Kind, cI x6.N, cS x6.S, .d (.sl (List.map AValue.cs x6.L))]) rfl rfl rfl rfl rfl rfl rfl rfl rfl) ?_
      refine OkOps.nil ?_
      refine Ok.region ?_
      refine OkOps.x (.c (.tl 1007 (List.map AValue.cs s3.1))) rfl trivial rfl ?_
      refine OkOps.x (.agg [cI x6.Kind, cI x6.N, cS x6.S, .d (.sl (List.map AValue.cs x6.L))]) rfl trivial rfl ?_
      obtain ⟨x7, hx7, hr⟩ := bind_some hr
      refine OkOps.q (triCall (tau []) (.s (.agg [cI x7.Kind, cI x7.N, cS x7.S, .d (.sl (List.map AValue.cs x7.L))])) [] (hself0 _ hx7) rfl ⟨.inl rfl, trivial⟩ trivial entry60 trivial rfl rfl rfl rfl trivial rfl rfl rfl) ?_
      refine OkOps.m 0 (triBST (sz := 4) (enc := AValue.cs) (j := 1) ([x7]) rfl rfl rfl rfl rfl (rows := [[dI x7.Kind, dI x7.N, dS x7.S, .sl (List.map AValue.cs x7.L)]]) (by simp only [List.map, AValue.cs_eq]) rfl rfl (fun x => by rw [AValue.cs_eq]; rfl) trivial rfl rfl) ?_
      obtain ⟨x8, hx8, hr⟩ := bind_some hr
      refine OkOps.m2 0 (triApp (enc := AValue.cs) (L := s3.1) (X := [x7]) (j := 1007) (j' := 2) hx8 rfl rfl rfl rfl rfl rfl (fun x => by rw [AValue.cs_eq]; rfl) (fun x => by rw [AValue.cs_eq]; rfl) (by decide) trivial rfl rfl) ?_
      refine OkOps.x (.c (.tl 2 (List.map AValue.cs x8))) rfl trivial rfl ?_
      refine OkOps.nil ?_
      refine Ok.region ?_
      refine OkOps.x (aI (IntKind.i64.wrap (s3.2 + 1))) rfl trivial rfl ?_
      refine OkOps.x (aI (IntKind.i64.wrap (s3.2 + 1))) rfl trivial rfl ?_
      refine OkOps.nil ?_
      exact ⟨(x8, IntKind.i64.wrap (s3.2 + 1)), hr, (Conv.mk (tau [(1007, 2)]) ⟨⟨_, rfl, .inl rfl⟩, ⟨_, rfl, .inl rfl⟩, ⟨_, rfl, .inl rfl⟩, ⟨_, rfl, .inl rfl⟩, trivial⟩ ⟨rfl, trivial⟩ rfl rfl rfl rfl)⟩
    · have hr := selF h5 hr
      refine Ok.exit ?_
      exact ⟨s3.1, hr, (Conv.mk (tau [(1004, 1007)]) ⟨⟨_, rfl, .inl rfl⟩, trivial⟩ ⟨rfl, trivial⟩ rfl rfl rfl rfl)⟩
theorem vw_value_all : ∀ n : Nat, (∀ (v : AValue) {r : AValue}, vw_value n v = some r → Con Tryd.prog 60 [.agg [cI v.Kind, cI v.N, cS v.S, .d (.sl (List.map AValue.cs v.L))]] [] (.s (.agg [cI r.Kind, cI r.N, cS r.S, .d (.sl (List.map AValue.cs r.L))])) []) ∧ (∀ (l : (List AValue)) {r : (List AValue)}, vw_values n l = some r → Con Tryd.prog 83 [.c (.d (.sl (List.map AValue.cs l)))] [] (.s (.c (.d (.sl (List.map AValue.cs r))))) []) ∧ True := by
  intro n
  induction n with
  | zero => exact ⟨(by intros; rename_i hr; cases hr), (by intros; rename_i hr; cases hr), trivial⟩
  | succ n ih => exact ⟨(by intros; rename_i hr; exact vw_value_B_c _ _ ih.1 ih.2.1 _ hr), (by intros; rename_i hr; exact vw_values_B_c _ _ ih.1 ih.2.1 _ hr), trivial⟩
theorem vw_value_c (n : Nat) (v : AValue) {r : AValue} (hr : vw_value n v = some r) : Con Tryd.prog 60 [.agg [cI v.Kind, cI v.N, cS v.S, .d (.sl (List.map AValue.cs v.L))]] [] (.s (.agg [cI r.Kind, cI r.N, cS r.S, .d (.sl (List.map AValue.cs r.L))])) [] := (vw_value_all n).1 v hr
theorem vw_values_c (n : Nat) (l : (List AValue)) {r : (List AValue)} (hr : vw_values n l = some r) : Con Tryd.prog 83 [.c (.d (.sl (List.map AValue.cs l)))] [] (.s (.c (.d (.sl (List.map AValue.cs r))))) [] := (vw_value_all n).2.1 l hr
theorem vw_copied_c (attrs : (List Attr)) (acts : (List Action)) {r : (List Attr) × (List Action)} (hr : vw_copied attrs acts = some r) : Con Tryd.prog 59 [.c (.d (.sl (List.map Attr.cs attrs))), .c (.d (.sl (List.map Action.cs acts)))] [] (.tup [.c (.d (.sl (List.map Attr.cs r.1))), .c (.d (.sl (List.map Action.cs r.2)))]) [] := by
  unfold vw_copied at hr
  refine Con.of_ok 45 0 [.tmp 4, .tmp 5] [(0, .s (.c (.d (.sl (List.map Attr.cs attrs))))), (1, .s (.c (.d (.sl (List.map Action.cs acts)))))] Tryd.func59 rfl rfl rfl rfl rfl rfl rfl rfl fun w g M ρ _ => ?_
  refine Ok.seq ?_
  refine Ok.region ?_
  refine OkOps.x (.c (.d (.v (.slice none 0 0)))) rfl trivial rfl ?_
  refine OkOps.x (.c (.d (.v (.slice none 0 0)))) rfl trivial rfl ?_
  refine OkOps.nil ?_
  refine Ok.seq ?_
  refine Ok.region ?_
  refine OkOps.x (.c (.d (.v (.slice none 0 0)))) rfl trivial rfl ?_
  refine OkOps.nil ?_
  obtain ⟨k2, hk2, hr⟩ := jn_some hr
  refine Ok.join (fun (s1 : (List Attr)) => ⟨[(1, .s (.c (.d (.sl (List.map Action.cs acts))))), (6, .s (.c (.tl 1004 (List.map Attr.cs s1))))], [(1004, .tail 5)], 0⟩) k2 r (fun s1 hr => ?_) ?_
  · rw [hk2] at hr
    refine Ok.seq ?_
    refine Ok.region ?_
    refine OkOps.x (.c (.d (.v (.slice none 0 0)))) rfl trivial rfl ?_
    refine OkOps.nil ?_
    obtain ⟨k4, hk4, hr⟩ := jn_some hr
    refine Ok.join (fun (s3 : (List Action)) => ⟨[(6, .s (.c (.tl 1004 (List.map Attr.cs s1)))), (9, .s (.c (.tl 1009 (List.map Action.cs s3))))], [(1004, .tail 5), (1009, .tail 4)], 0⟩) k4 r (fun s3 hr => ?_) ?_
    · rw [hk4] at hr
      refine Ok.seq ?_
      refine Ok.region ?_
      refine OkOps.x (.c (.tl 1004 (List.map Attr.cs s1))) rfl trivial rfl ?_
      refine OkOps.x (.c (.tl 1009 (List.map Action.cs s3))) rfl trivial rfl ?_
      refine OkOps.x (.c (.tl 1004 (List.map Attr.cs s1))) rfl trivial rfl ?_
      refine OkOps.x (.c (.tl 1009 (List.map Action.cs s3))) rfl trivial rfl ?_
      refine OkOps.nil ?_
      refine Ok.ret ?_
      obtain rfl := Option.some.inj hr
      exact ⟨_, rfl, .inr rfl, trivial⟩
    · clear hk4
      refine Ok.seq ?_
      refine Ok.region ?_
      refine OkOps.x (.c (.d (.sl (List.map Action.cs acts)))) rfl trivial rfl ?_
      refine OkOps.q (triLen (enc := Action.cs) acts rfl rfl trivial rfl) ?_
      refine OkOps.x (aI 0) rfl trivial rfl ?_
      refine OkOps.nil ?_
      refine Ok.block ?_
      refine Ok.loopK (fun (s5 : (List Action) × Int) => ⟨[(6, .s (.c (.tl 1004 (List.map Attr.cs s1)))), (9, .s (.c (.tl 1012 (List.map Action.cs s5.1)))), (28, .s (.c (.d (.sl (List.map Action.cs acts))))), (29, .s (aI (acts.length : Int))), (30, .s (aI s5.2))], [(1004, .tail 5), (1012, .tail 4)], 0⟩) hr (Conv.trans (Conv.nil 9 1014 4 0 rfl rfl) (Conv.mk (tau [(1012, 1014)]) ⟨⟨_, rfl, .inl rfl⟩, ⟨_, rfl, .inl rfl⟩, ⟨_, rfl, .inl rfl⟩, ⟨_, rfl, .inl rfl⟩, ⟨_, rfl, .inl rfl⟩, trivial⟩ ⟨rfl, rfl, trivial⟩ rfl rfl rfl rfl)) ?_
      clear hr
      intro again6 s5 hr
      unfold vw_copied_L1 at hr
      refine Ok.seq ?_
      refine Ok.region ?_
      refine OkOps.x (aB (decide (s5.2 < (acts.length : Int)))) rfl trivial rfl ?_
      refine OkOps.nil ?_
      refine Ok.seq ?_
      refine Ok.cond (b := decide (s5.2 < (acts.length : Int))) rfl (fun h7 => ?_) (fun h7 => ?_)
      · have hr := selT h7 hr
        refine Ok.skip ?_
        refine Ok.seq ?_
        refine Ok.block ?_
        refine Ok.seq ?_
        refine Ok.region ?_
        obtain ⟨x8, hx8, hr⟩ := bind_some hr
        refine OkOps.q (triIdx (enc := Action.cs) (L := acts) (row := [dS x8.Event, dS x8.Instance, dS x8.Handler, .sl (List.map AValue.cs x8.Args)]) hx8 rfl rfl rfl rfl (fun _ => rfl) trivial rfl) ?_
        refine OkOps.x (.agg [cS x8.Event, cS x8.Instance, cS x8.Handler, .d (.sl (List.map AValue.cs x8.Args))]) rfl trivial rfl ?_
        refine OkOps.m 0 (triAlloc (j := 0) (cs := [cS ByteArray.empty, cS ByteArray.empty, cS ByteArray.empty, .d (.v (.slice none 0 0))]) rfl rfl rfl rfl) ?_
        refine OkOps.w (triStore (cs' := [cS x8.Event, cS x8.Instance, cS x8.Handler, .d (.sl (List.map AValue.cs x8.Args))]) rfl rfl rfl rfl rfl rfl rfl rfl rfl) ?_
        refine OkOps.nil ?_
        refine Ok.seq ?_
        refine Ok.region ?_
        refine OkOps.x (.c (.loc 0 3)) rfl trivial rfl ?_
        refine OkOps.x (.c (.d (.sl (List.map AValue.cs x8.Args)))) rfl trivial rfl ?_
        obtain ⟨x9, hx9, hr⟩ := bind_some hr
        refine OkOps.q (triCall (tau []) (.s (.c (.d (.sl (List.map AValue.cs x9))))) [] (vw_values_c _ _ hx9) rfl ⟨.inl rfl, trivial⟩ trivial entry83 trivial rfl rfl rfl rfl trivial rfl rfl rfl) ?_
        refine OkOps.x (.c (.loc 0 3)) rfl trivial rfl ?_
        refine OkOps.w (triStore (cs' := [cS x8.Event, cS x8.Instance, cS x8.Handler, .d (.sl (List.map AValue.cs x9))]) rfl rfl rfl rfl rfl rfl rfl rfl rfl) ?_
        refine OkOps.nil ?_
        refine Ok.region ?_
        refine OkOps.x (.c (.tl 1012 (List.map Action.cs s5.1))) rfl trivial rfl ?_
        refine OkOps.x (.agg [cS x8.Event, cS x8.Instance, cS x8.Handler, .d (.sl (List.map AValue.cs x9))]) rfl trivial rfl ?_
        refine OkOps.m 0 (triBST (sz := 4) (enc := Action.cs) (j := 1) ([(Action.mk x8.Event x8.Instance x8.Handler x9)]) rfl rfl rfl rfl rfl rfl rfl rfl (fun _ => rfl) trivial rfl rfl) ?_
        obtain ⟨x10, hx10, hr⟩ := bind_some hr
        refine OkOps.m2 0 (triApp (enc := Action.cs) (L := s5.1) (X := [(Action.mk x8.Event x8.Instance x8.Handler x9)]) (j := 1012) (j' := 2) hx10 rfl rfl rfl rfl rfl rfl (fun _ => rfl) (fun _ => rfl) (by decide) trivial rfl rfl) ?_
        refine OkOps.x (.c (.tl 2 (List.map Action.cs x10))) rfl trivial rfl ?_
        refine OkOps.nil ?_
        refine Ok.region ?_
        refine OkOps.x (aI (IntKind.i64.wrap (s5.2 + 1))) rfl trivial rfl ?_
        refine OkOps.x (aI (IntKind.i64.wrap (s5.2 + 1))) rfl trivial rfl ?_
        refine OkOps.nil ?_
        exact ⟨(x10, IntKind.i64.wrap (s5.2 + 1)), hr, (Conv.mk (tau [(1012, 2)]) ⟨⟨_, rfl, .inl rfl⟩, ⟨_, rfl, .inl rfl⟩, ⟨_, rfl, .inl rfl⟩, ⟨_, rfl, .inl rfl⟩, ⟨_, rfl, .inl rfl⟩, trivial⟩ ⟨rfl, rfl, trivial⟩ rfl rfl rfl rfl)⟩
      · have hr := selF h7 hr
        refine Ok.exit ?_
        exact ⟨s5.1, hr, (Conv.mk (tau [(1009, 1012)]) ⟨⟨_, rfl, .inl rfl⟩, ⟨_, rfl, .inl rfl⟩, trivial⟩ ⟨rfl, rfl, trivial⟩ rfl rfl rfl rfl)⟩
  · clear hk2
    refine Ok.seq ?_
    refine Ok.region ?_
    refine OkOps.x (.c (.d (.sl (List.map Attr.cs attrs)))) rfl trivial rfl ?_
    refine OkOps.q (triLen (enc := Attr.cs) attrs rfl rfl trivial rfl) ?_
    refine OkOps.x (aI 0) rfl trivial rfl ?_
    refine OkOps.nil ?_
    refine Ok.block ?_
    refine Ok.loopK (fun (s11 : (List Attr) × Int) => ⟨[(1, .s (.c (.d (.sl (List.map Action.cs acts))))), (6, .s (.c (.tl 1017 (List.map Attr.cs s11.1)))), (12, .s (.c (.d (.sl (List.map Attr.cs attrs))))), (13, .s (aI (attrs.length : Int))), (14, .s (aI s11.2))], [(1017, .tail 5)], 0⟩) hr (Conv.trans (Conv.nil 6 1019 5 0 rfl rfl) (Conv.mk (tau [(1017, 1019)]) ⟨⟨_, rfl, .inl rfl⟩, ⟨_, rfl, .inl rfl⟩, ⟨_, rfl, .inl rfl⟩, ⟨_, rfl, .inl rfl⟩, ⟨_, rfl, .inl rfl⟩, trivial⟩ ⟨rfl, trivial⟩ rfl rfl rfl rfl)) ?_
    clear hr
    intro again12 s11 hr
    unfold vw_copied_L2 at hr
    refine Ok.seq ?_
    refine Ok.region ?_
    refine OkOps.x (aB (decide (s11.2 < (attrs.length : Int)))) rfl trivial rfl ?_
    refine OkOps.nil ?_
    refine Ok.seq ?_
    refine Ok.cond (b := decide (s11.2 < (attrs.length : Int))) rfl (fun h13 => ?_) (fun h13 => ?_)
    · have hr := selT h13 hr
      refine Ok.skip ?_
      refine Ok.seq ?_
      refine Ok.block ?_
      refine Ok.seq ?_
      refine Ok.region ?_
      obtain ⟨x14, hx14, hr⟩ := bind_some hr
      refine OkOps.q (triIdx (enc := Attr.cs) (L := attrs) (row := [dS x14.Name, dI x14.Value.Kind, dI x14.Value.N, dS x14.Value.S, .sl (List.map AValue.cs x14.Value.L)]) hx14 rfl rfl rfl rfl (fun _ => rfl) trivial rfl) ?_
      refine OkOps.x (.agg [cS x14.Name, cI x14.Value.Kind, cI x14.Value.N, cS x14.Value.S, .d (.sl (List.map AValue.cs x14.Value.L))]) rfl trivial rfl ?_
      refine OkOps.m 0 (triAlloc (j := 3) (cs := [cS ByteArray.empty, cI 0, cI 0, cS ByteArray.empty, .d (.v (.slice none 0 0))]) rfl rfl rfl rfl) ?_
      refine OkOps.w (triStore (cs' := [cS x14.Name, cI x14.Value.Kind, cI x14.Value.N, cS x14.Value.S, .d (.sl (List.map AValue.cs x14.Value.L))]) rfl rfl rfl rfl rfl rfl rfl rfl rfl) ?_
      refine OkOps.nil ?_
      refine Ok.regionD (by kernel_rfl) ?_
      refine OkD.x (.c (.tl 1017 (List.map Attr.cs s11.1))) rfl trivial rfl ?_
      refine OkD.x (.c (.loc 3 0)) rfl trivial rfl ?_
      refine OkD.x (aS x14.Name) rfl trivial rfl ?_
      refine OkD.x (.c (.loc 3 1)) rfl trivial rfl ?_
      refine OkD.x (.agg [cI x14.Value.Kind, cI x14.Value.N, cS x14.Value.S, .d (.sl (List.map AValue.cs x14.Value.L))]) rfl trivial rfl ?_
      obtain ⟨x15, hx15, hr⟩ := bind_some hr
      refine OkD.q (triCall (tau []) (.s (.agg [cI x15.Kind, cI x15.N, cS x15.S, .d (.sl (List.map AValue.cs x15.L))])) [] (vw_value_c _ _ hx15) rfl ⟨.inl rfl, trivial⟩ trivial entry60 trivial rfl rfl rfl rfl trivial rfl rfl rfl) ?_
      refine OkD.x (.agg [cS x14.Name, cI x15.Kind, cI x15.N, cS x15.S, .d (.sl (List.map AValue.cs x15.L))]) rfl trivial rfl ?_
      refine OkD.m 0 (triBST (sz := 5) (enc := Attr.cs) (j := 4) ([(Attr.mk x14.Name x15)]) rfl rfl rfl rfl rfl rfl rfl rfl (fun _ => rfl) trivial rfl rfl) ?_
      obtain ⟨x16, hx16, hr⟩ := bind_some hr
      refine OkD.m2 0 (triApp (enc := Attr.cs) (L := s11.1) (X := [(Attr.mk x14.Name x15)]) (j := 1017) (j' := 5) hx16 rfl rfl rfl rfl rfl rfl (fun _ => rfl) (fun _ => rfl) (by decide) trivial rfl rfl) ?_
      refine OkD.x (.c (.tl 5 (List.map Attr.cs x16))) rfl trivial rfl ?_
      refine OkD.nil (by kernel_rfl) ?_
      refine Ok.region ?_
      refine OkOps.x (aI (IntKind.i64.wrap (s11.2 + 1))) rfl trivial rfl ?_
      refine OkOps.x (aI (IntKind.i64.wrap (s11.2 + 1))) rfl trivial rfl ?_
      refine OkOps.nil ?_
      exact ⟨(x16, IntKind.i64.wrap (s11.2 + 1)), hr, (Conv.mk (tau [(1017, 5)]) ⟨⟨_, rfl, .inl rfl⟩, ⟨_, rfl, .inl rfl⟩, ⟨_, rfl, .inl rfl⟩, ⟨_, rfl, .inl rfl⟩, ⟨_, rfl, .inl rfl⟩, trivial⟩ ⟨rfl, trivial⟩ rfl rfl rfl rfl)⟩
    · have hr := selF h13 hr
      refine Ok.exit ?_
      exact ⟨s11.1, hr, (Conv.mk (tau [(1004, 1017)]) ⟨⟨_, rfl, .inl rfl⟩, ⟨_, rfl, .inl rfl⟩, trivial⟩ ⟨rfl, trivial⟩ rfl rfl rfl rfl)⟩
theorem entry59 : Entry Tryd.prog 59 := ⟨_, Tryd.func59, by kernel_rfl, by kernel_rfl⟩
theorem entry67 : Entry Tryd.prog 67 := ⟨_, Tryd.func67, by kernel_rfl, by kernel_rfl⟩
theorem vw_preorder_B_c (self0 : (List (Int × Node)) → Int → Option (List Int)) (hself0 : ∀ (nodes : (List (Int × Node))) (id : Int) {r : (List Int)}, self0 nodes id = some r → Con Tryd.prog 67 [.c (.d (.mp true (encM (kInt .i64) Node.cs nodes))), aI id] [] (.s (.c (.d (.sl (List.map (eInt .i64) r))))) []) (nodes : (List (Int × Node))) (id : Int) {r : (List Int)} (hr : vw_preorder_B self0 nodes id = some r) : Con Tryd.prog 67 [.c (.d (.mp true (encM (kInt .i64) Node.cs nodes))), aI id] [] (.s (.c (.d (.sl (List.map (eInt .i64) r))))) [] := by
  unfold vw_preorder_B at hr
  refine Con.of_ok 26 0 [.tmp 4] [(0, .s (.c (.d (.mp true (encM (kInt .i64) Node.cs nodes))))), (1, .s (aI id))] Tryd.func67 rfl rfl rfl rfl rfl rfl rfl rfl fun w g M ρ _ => ?_
  refine Ok.seq ?_
  refine Ok.region ?_
  refine OkOps.x (.c (.d (.v (.slice none 0 0)))) rfl trivial rfl ?_
  refine OkOps.nil ?_
  refine Ok.seq ?_
  refine Ok.region ?_
  refine OkOps.x (aI id) rfl trivial rfl ?_
  refine OkOps.m 0 (triBST (sz := 1) (enc := (eInt .i64)) (j := 0) ([id]) rfl rfl rfl rfl rfl rfl rfl rfl (fun _ => rfl) trivial rfl rfl) ?_
  refine OkOps.x (.c (.tl 0 (List.map (eInt .i64) ([id])))) rfl trivial rfl ?_
  refine OkOps.nil ?_
  obtain ⟨k2, hk2, hr⟩ := jn_some hr
  refine Ok.join (fun (s1 : (List Int)) => ⟨[(5, .s (.c (.tl 1003 (List.map (eInt .i64) s1))))], [(1003, .tail 1)], 0⟩) k2 r (fun s1 hr => ?_) ?_
  · rw [hk2] at hr
    refine Ok.seq ?_
    refine Ok.region ?_
    refine OkOps.x (.c (.tl 1003 (List.map (eInt .i64) s1))) rfl trivial rfl ?_
    refine OkOps.x (.c (.tl 1003 (List.map (eInt .i64) s1))) rfl trivial rfl ?_
    refine OkOps.nil ?_
    refine Ok.ret ?_
    obtain rfl := Option.some.inj hr
    exact ⟨_, rfl, .inr rfl, trivial⟩
  · clear hk2
    refine Ok.seq ?_
    refine Ok.region ?_
    refine OkOps.x (.c (.d (.mp true (encM (kInt .i64) Node.cs nodes)))) rfl trivial rfl ?_
    refine OkOps.x (aI id) rfl trivial rfl ?_
    obtain ⟨x3, hx3, hr⟩ := bind_some hr
    refine OkOps.q (triLook (agg := true) (ek := (kInt .i64)) (ev := Node.cs) (L := nodes) (r := .agg [cI x3.1.ID, cI x3.1.Parent, cI x3.1.Kind, cS x3.1.Key, .d (.sl (List.map Attr.cs x3.1.Attrs)), .d (.sl (List.map Action.cs x3.1.Actions)), .d (.sl (List.map (eInt .i64) x3.1.Kids))]) hx3 rfl rfl rfl (keyInt Tryd.underlying3) rfl rfl (fun h => by cases h) rfl trivial rfl) ?_
    refine OkOps.x (.c (.d (.sl (List.map (eInt .i64) x3.1.Kids)))) rfl trivial rfl ?_
    refine OkOps.q (triLen (enc := (eInt .i64)) x3.1.Kids rfl rfl trivial rfl) ?_
    refine OkOps.x (aI 0) rfl trivial rfl ?_
    refine OkOps.nil ?_
    refine Ok.block ?_
    refine Ok.loopK (fun (s4 : (List Int) × Int) => ⟨[(0, .s (.c (.d (.mp true (encM (kInt .i64) Node.cs nodes))))), (5, .s (.c (.tl 1005 (List.map (eInt .i64) s4.1)))), (13, .s (.c (.d (.sl (List.map (eInt .i64) x3.1.Kids))))), (14, .s (aI (x3.1.Kids.length : Int))), (15, .s (aI s4.2))], [(1005, .tail 1)], 0⟩) hr (Conv.mk (tau [(1005, 0)]) ⟨⟨_, rfl, .inl rfl⟩, ⟨_, rfl, .inl rfl⟩, ⟨_, rfl, .inl rfl⟩, ⟨_, rfl, .inl rfl⟩, ⟨_, rfl, .inl rfl⟩, trivial⟩ ⟨rfl, trivial⟩ rfl rfl rfl rfl) ?_
    clear hr
    intro again5 s4 hr
    unfold vw_preorder_L1 at hr
    refine Ok.seq ?_
    refine Ok.region ?_
    refine OkOps.x (aB (decide (s4.2 < (x3.1.Kids.length : Int)))) rfl trivial rfl ?_
    refine OkOps.nil ?_
    refine Ok.seq ?_
    refine Ok.cond (b := decide (s4.2 < (x3.1.Kids.length : Int))) rfl (fun h6 => ?_) (fun h6 => ?_)
    · have hr := selT h6 hr
      refine Ok.skip ?_
      refine Ok.seq ?_
      refine Ok.block ?_
      refine Ok.seq ?_
      refine Ok.region ?_
      obtain ⟨x7, hx7, hr⟩ := bind_some hr
      refine OkOps.q (triIdx (enc := (eInt .i64)) (L := x3.1.Kids) (row := [dI x7]) hx7 rfl rfl rfl rfl (fun _ => rfl) trivial rfl) ?_
      refine OkOps.x (aI x7) rfl trivial rfl ?_
      refine OkOps.x (aI x7) rfl trivial rfl ?_
      refine OkOps.nil ?_
      refine Ok.region ?_
      refine OkOps.x (.c (.tl 1005 (List.map (eInt .i64) s4.1))) rfl trivial rfl ?_
      refine OkOps.x (.c (.d (.mp true (encM (kInt .i64) Node.cs nodes)))) rfl trivial rfl ?_
      refine OkOps.x (aI x7) rfl trivial rfl ?_
      obtain ⟨x8, hx8, hr⟩ := bind_some hr
      refine OkOps.q (triCall (tau []) (.s (.c (.d (.sl (List.map (eInt .i64) x8))))) [] (hself0 _ _ hx8) rfl ⟨.inl rfl, .inl rfl, trivial⟩ trivial entry67 trivial rfl rfl rfl rfl trivial rfl rfl rfl) ?_
      obtain ⟨x9, hx9, hr⟩ := bind_some hr
      refine OkOps.m2 0 (triApp (enc := (eInt .i64)) (L := s4.1) (X := x8) (j := 1005) (j' := 1) hx9 rfl rfl rfl rfl rfl rfl (fun _ => rfl) (fun _ => rfl) (by decide) trivial rfl rfl) ?_
      refine OkOps.x (.c (.tl 1 (List.map (eInt .i64) x9))) rfl trivial rfl ?_
      refine OkOps.nil ?_
      refine Ok.region ?_
      refine OkOps.x (aI (IntKind.i64.wrap (s4.2 + 1))) rfl trivial rfl ?_
      refine OkOps.x (aI (IntKind.i64.wrap (s4.2 + 1))) rfl trivial rfl ?_
      refine OkOps.nil ?_
      exact ⟨(x9, IntKind.i64.wrap (s4.2 + 1)), hr, (Conv.mk (tau [(1005, 1)]) ⟨⟨_, rfl, .inl rfl⟩, ⟨_, rfl, .inl rfl⟩, ⟨_, rfl, .inl rfl⟩, ⟨_, rfl, .inl rfl⟩, ⟨_, rfl, .inl rfl⟩, trivial⟩ ⟨rfl, trivial⟩ rfl rfl rfl rfl)⟩
    · have hr := selF h6 hr
      refine Ok.exit ?_
      exact ⟨s4.1, hr, (Conv.mk (tau [(1003, 1005)]) ⟨⟨_, rfl, .inl rfl⟩, trivial⟩ ⟨rfl, trivial⟩ rfl rfl rfl rfl)⟩
theorem vw_preorder_all : ∀ n : Nat, (∀ (nodes : (List (Int × Node))) (id : Int) {r : (List Int)}, vw_preorder n nodes id = some r → Con Tryd.prog 67 [.c (.d (.mp true (encM (kInt .i64) Node.cs nodes))), aI id] [] (.s (.c (.d (.sl (List.map (eInt .i64) r))))) []) ∧ True := by
  intro n
  induction n with
  | zero => exact ⟨(by intros; rename_i hr; cases hr), trivial⟩
  | succ n ih => exact ⟨(by intros; rename_i hr; exact vw_preorder_B_c _ ih.1 _ _ hr), trivial⟩
theorem vw_preorder_c (n : Nat) (nodes : (List (Int × Node))) (id : Int) {r : (List Int)} (hr : vw_preorder n nodes id = some r) : Con Tryd.prog 67 [.c (.d (.mp true (encM (kInt .i64) Node.cs nodes))), aI id] [] (.s (.c (.d (.sl (List.map (eInt .i64) r))))) [] := (vw_preorder_all n).1 nodes id hr
theorem vw_graph_c (a0 : Tree) {r : (List (Int × Node)) × Bool} (hr : vw_graph a0 = some r) : Con Tryd.prog 90 [.agg [cI a0.Root, cI a0.Next, .d (.sl (List.map Node.cs a0.Nodes))]] [] (.tup [.c (.d (.mp true (encM (kInt .i64) Node.cs r.1))), aB r.2]) [] := by
  unfold vw_graph at hr
  refine Con.of_ok 139 0 [.tmp 2, .tmp 3] [(0, .s (.agg [cI a0.Root, cI a0.Next, .d (.sl (List.map Node.cs a0.Nodes))]))] Tryd.func90 rfl rfl rfl rfl rfl rfl rfl rfl fun w g M ρ _ => ?_
  refine Ok.seq ?_
  refine Ok.region ?_
  refine OkOps.m 0 (triBox (j := 0) (cs := [cI a0.Root, cI a0.Next, .d (.sl (List.map Node.cs a0.Nodes))]) rfl rfl rfl rfl rfl) ?_
  refine OkOps.x (.c (.d (.v (.map none)))) rfl trivial rfl ?_
  refine OkOps.x (aB false) rfl trivial rfl ?_
  refine OkOps.nil ?_
  refine Ok.seq ?_
  refine Ok.seq ?_
  refine Ok.region ?_
  refine OkOps.x (.c (.loc 0 1)) rfl trivial rfl ?_
  refine OkOps.x (aI a0.Next) rfl trivial rfl ?_
  refine OkOps.x (aB (decide (a0.Next < 2))) rfl trivial rfl ?_
  refine OkOps.x (aB (decide (a0.Next < 2))) rfl trivial rfl ?_
  refine OkOps.q (triQG (x := .c (.loc 0 1)) rfl rfl trivial rfl) ?_
  refine OkOps.q (triQG (x := aI a0.Next) rfl rfl ⟨fun h => h, trivial⟩ rfl) ?_
  refine OkOps.q (triQG (x := aB (decide (a0.Next > 1099511627776))) rfl rfl ⟨fun h => h, trivial⟩ rfl) ?_
  refine OkOps.q (triOr rfl rfl (fun h => by rw [h]; rfl) rfl) ?_
  refine OkOps.x (aB ((decide (a0.Next < 2)) || (decide (a0.Next > 1099511627776)))) rfl trivial rfl ?_
  refine OkOps.q (triQG (x := .c (.loc 0 2)) rfl rfl trivial rfl) ?_
  refine OkOps.q (triQG (x := .c (.d (.sl (List.map Node.cs a0.Nodes)))) rfl rfl ⟨fun h => h, trivial⟩ rfl) ?_
  refine OkOps.q (triLenG (enc := Node.cs) a0.Nodes rfl rfl rfl ⟨fun h => h, trivial⟩ rfl) ?_
  refine OkOps.q (triQG (x := aB (decide ((a0.Nodes.length : Int) < 1))) rfl rfl ⟨fun h => h, trivial⟩ rfl) ?_
  refine OkOps.q (triOr rfl rfl (fun h => by rw [h]; rfl) rfl) ?_
  refine OkOps.x (aB (((decide (a0.Next < 2)) || (decide (a0.Next > 1099511627776))) || (decide ((a0.Nodes.length : Int) < 1)))) rfl trivial rfl ?_
  refine OkOps.q (triQG (x := .c (.loc 0 2)) rfl rfl trivial rfl) ?_
  refine OkOps.q (triQG (x := .c (.d (.sl (List.map Node.cs a0.Nodes)))) rfl rfl ⟨fun h => h, trivial⟩ rfl) ?_
  refine OkOps.q (triLenG (enc := Node.cs) a0.Nodes rfl rfl rfl ⟨fun h => h, trivial⟩ rfl) ?_
  refine OkOps.q (triQG (x := aB (decide ((a0.Nodes.length : Int) > 400))) rfl rfl ⟨fun h => h, trivial⟩ rfl) ?_
  refine OkOps.q (triOr rfl rfl (fun h => by rw [h]; rfl) rfl) ?_
  refine OkOps.nil ?_
  refine Ok.cond (b := (((decide (a0.Next < 2)) || (decide (a0.Next > 1099511627776))) || (decide ((a0.Nodes.length : Int) < 1))) || (decide ((a0.Nodes.length : Int) > 400))) rfl (fun h1 => ?_) (fun h1 => ?_)
  · have hr := selT h1 hr
    refine Ok.seq ?_
    refine Ok.region ?_
    refine OkOps.x (.c (.d (.v (.map none)))) rfl trivial rfl ?_
    refine OkOps.x (aB false) rfl trivial rfl ?_
    refine OkOps.nil ?_
    refine Ok.conv (Conv.nilM 2 true rfl) ?_
    refine Ok.ret ?_
    obtain rfl := Option.some.inj hr
    exact ⟨_, rfl, .inl rfl, trivial⟩
  · have hr := selF h1 hr
    refine Ok.skip ?_
    refine Ok.seq ?_
    refine Ok.region ?_
    refine OkOps.m 0 (triMkM (j := 1) true rfl rfl) ?_
    refine OkOps.x (.c (.own 1)) rfl trivial rfl ?_
    refine OkOps.nil ?_
    refine Ok.seq ?_
    refine Ok.region ?_
    refine OkOps.x (aI 0) rfl trivial rfl ?_
    refine OkOps.nil ?_
    obtain ⟨k3, hk3, hr⟩ := jn_some hr
    refine Ok.join (fun (s2 : (List (Int × Node))) => ⟨[(1, .s (.c (.loc 0 0))), (4, .s (.c (.own 1)))], [(0, .blk [cI a0.Root, cI a0.Next, .d (.sl (List.map Node.cs a0.Nodes))] 51), (1, .mp true (encM (kInt .i64) Node.cs s2))], 0⟩) k3 r (fun s2 hr => ?_) ?_
    · rw [hk3] at hr
      refine Ok.seq ?_
      refine Ok.seq ?_
      refine Ok.region ?_
      refine OkOps.x (.c (.own 1)) rfl trivial rfl ?_
      refine OkOps.x (.c (.loc 0 0)) rfl trivial rfl ?_
      refine OkOps.x (aI a0.Root) rfl trivial rfl ?_
      obtain ⟨x4, hx4, hr⟩ := bind_some hr
      refine OkOps.q (triLookT (agg := true) (ek := (kInt .i64)) (ev := Node.cs) (L := s2) (r := .agg [cI x4.1.ID, cI x4.1.Parent, cI x4.1.Kind, cS x4.1.Key, .d (.sl (List.map Attr.cs x4.1.Attrs)), .d (.sl (List.map Action.cs x4.1.Actions)), .d (.sl (List.map (eInt .i64) x4.1.Kids))]) hx4 rfl rfl rfl (keyInt Tryd.underlying3) rfl rfl (fun h => by cases h) rfl trivial rfl) ?_
      refine OkOps.q (triMv (v := .tup [.agg [cI x4.1.ID, cI x4.1.Parent, cI x4.1.Kind, cS x4.1.Key, .d (.sl (List.map Attr.cs x4.1.Attrs)), .d (.sl (List.map Action.cs x4.1.Actions)), .d (.sl (List.map (eInt .i64) x4.1.Kids))], aB x4.2]) rfl rfl) ?_
      refine OkOps.x (.agg [cI x4.1.ID, cI x4.1.Parent, cI x4.1.Kind, cS x4.1.Key, .d (.sl (List.map Attr.cs x4.1.Attrs)), .d (.sl (List.map Action.cs x4.1.Actions)), .d (.sl (List.map (eInt .i64) x4.1.Kids))]) rfl trivial rfl ?_
      refine OkOps.x (aB x4.2) rfl trivial rfl ?_
      refine OkOps.m 0 (triAlloc (j := 2) (cs := [cI 0, cI 0, cI 0, cS ByteArray.empty, .d (.v (.slice none 0 0)), .d (.v (.slice none 0 0)), .d (.v (.slice none 0 0))]) rfl rfl rfl rfl) ?_
      refine OkOps.w (triStore (cs' := [cI x4.1.ID, cI x4.1.Parent, cI x4.1.Kind, cS x4.1.Key, .d (.sl (List.map Attr.cs x4.1.Attrs)), .d (.sl (List.map Action.cs x4.1.Actions)), .d (.sl (List.map (eInt .i64) x4.1.Kids))]) rfl rfl rfl rfl rfl rfl rfl rfl rfl) ?_
      refine OkOps.x (aB x4.2) rfl trivial rfl ?_
      refine OkOps.nil ?_
      refine Ok.seq ?_
      refine Ok.region ?_
      refine OkOps.x (aB x4.2) rfl trivial rfl ?_
      refine OkOps.x (aB (!x4.2)) rfl trivial rfl ?_
      refine OkOps.nil ?_
      refine Ok.cond (b := !x4.2) rfl (fun h5 => ?_) (fun h5 => ?_)
      · have hr := selT h5 hr
        refine Ok.seq ?_
        refine Ok.region ?_
        refine OkOps.x (.c (.d (.v (.map none)))) rfl trivial rfl ?_
        refine OkOps.x (aB false) rfl trivial rfl ?_
        refine OkOps.nil ?_
        refine Ok.conv (Conv.nilM 2 true rfl) ?_
        refine Ok.ret ?_
        obtain rfl := Option.some.inj hr
        exact ⟨_, rfl, .inl rfl, trivial⟩
      · have hr := selF h5 hr
        refine Ok.skip ?_
        refine Ok.seq ?_
        refine Ok.region ?_
        refine OkOps.m 0 (triMkM (j := 3) false rfl rfl) ?_
        refine OkOps.x (.c (.loc 0 0)) rfl trivial rfl ?_
        refine OkOps.x (aI a0.Root) rfl trivial rfl ?_
        refine OkOps.w (triMapIns (ek := (kInt .i64)) (ev := eBool) (L := ([] : (List (Int × Bool)))) (z := true) rfl rfl rfl rfl rfl rfl (keyInt Tryd.underlying3) (fun _ _ => rfl) rfl trivial) ?_
        refine OkOps.x (.c (.own 3)) rfl trivial rfl ?_
        refine OkOps.x (.c (.own 3)) rfl trivial rfl ?_
        refine OkOps.nil ?_
        obtain ⟨k7, hk7, hr⟩ := jn_some hr
        refine Ok.join (fun (s6 : (List (Int × Bool))) => ⟨[(1, .s (.c (.loc 0 0))), (4, .s (.c (.own 1))), (10, .s (.c (.own 3)))], [(0, .blk [cI a0.Root, cI a0.Next, .d (.sl (List.map Node.cs a0.Nodes))] 51), (1, .mp true (encM (kInt .i64) Node.cs s2)), (3, .mp false (encM (kInt .i64) eBool s6))], 0⟩) k7 r (fun s6 hr => ?_) ?_
        · rw [hk7] at hr
          refine Ok.seq ?_
          refine Ok.seq ?_
          refine Ok.region ?_
          refine OkOps.x (.c (.own 3)) rfl trivial rfl ?_
          refine OkOps.q (triLenM (ek := (kInt .i64)) (ev := eBool) s6 rfl rfl trivial rfl) ?_
          refine OkOps.x (.c (.own 1)) rfl trivial rfl ?_
          refine OkOps.q (triLenM (ek := (kInt .i64)) (ev := Node.cs) s2 rfl rfl trivial rfl) ?_
          refine OkOps.x (aB ((s6.length : Int) != (s2.length : Int))) rfl trivial rfl ?_
          refine OkOps.nil ?_
          refine Ok.cond (b := (s6.length : Int) != (s2.length : Int)) rfl (fun h8 => ?_) (fun h8 => ?_)
          · have hr := selT h8 hr
            refine Ok.seq ?_
            refine Ok.region ?_
            refine OkOps.x (.c (.d (.v (.map none)))) rfl trivial rfl ?_
            refine OkOps.x (aB false) rfl trivial rfl ?_
            refine OkOps.nil ?_
            refine Ok.conv (Conv.nilM 2 true rfl) ?_
            refine Ok.ret ?_
            obtain rfl := Option.some.inj hr
            exact ⟨_, rfl, .inl rfl, trivial⟩
          · have hr := selF h8 hr
            refine Ok.skip ?_
            refine Ok.seq ?_
            refine Ok.region ?_
            refine OkOps.x (.c (.own 1)) rfl trivial rfl ?_
            refine OkOps.x (.c (.own 1)) rfl trivial rfl ?_
            refine OkOps.x (.c (.loc 0 0)) rfl trivial rfl ?_
            refine OkOps.x (aI a0.Root) rfl trivial rfl ?_
            refine OkOps.conv (Conv.freezeM [(4, .s (.c (.d (.mp true (encM (kInt .i64) Node.cs s2))))), (127, .s (.c (.d (.mp true (encM (kInt .i64) Node.cs s2))))), (130, .s (.c (.d (.mp true (encM (kInt .i64) Node.cs s2))))), (131, .s (.c (.d (.mp true (encM (kInt .i64) Node.cs s2)))))] [] 1 0 rfl ⟨⟨_, rfl, rfl⟩, ⟨_, rfl, rfl⟩, ⟨_, rfl, rfl⟩, ⟨_, rfl, rfl⟩, trivial⟩ trivial) ?_
            obtain ⟨x9, hx9, hr⟩ := bind_some hr
            refine OkOps.q (triCall (tau []) (.s (.c (.d (.sl (List.map (eInt .i64) x9))))) [] (vw_preorder_c _ _ _ hx9) rfl ⟨.inl rfl, .inl rfl, trivial⟩ trivial entry67 trivial rfl rfl rfl rfl trivial rfl rfl rfl) ?_
            refine OkOps.q (triLen (enc := (eInt .i64)) x9 rfl rfl trivial rfl) ?_
            refine OkOps.x (.c (.d (.mp true (encM (kInt .i64) Node.cs s2)))) rfl trivial rfl ?_
            refine OkOps.q (triLenM (ek := (kInt .i64)) (ev := Node.cs) s2 rfl rfl trivial rfl) ?_
            refine OkOps.x (aB ((x9.length : Int) == (s2.length : Int))) rfl trivial rfl ?_
            refine OkOps.x (.c (.d (.mp true (encM (kInt .i64) Node.cs s2)))) rfl trivial rfl ?_
            refine OkOps.x (aB ((x9.length : Int) == (s2.length : Int))) rfl trivial rfl ?_
            refine OkOps.nil ?_
            refine Ok.ret ?_
            obtain rfl := Option.some.inj hr
            exact ⟨_, rfl, .inl rfl, trivial⟩
        · clear hk7
          refine Ok.seq ?_
          refine Ok.region ?_
          refine OkOps.x (.c (.loc 0 2)) rfl trivial rfl ?_
          refine OkOps.x (.c (.d (.sl (List.map Node.cs a0.Nodes)))) rfl trivial rfl ?_
          refine OkOps.q (triLen (enc := Node.cs) a0.Nodes rfl rfl trivial rfl) ?_
          refine OkOps.x (aI 0) rfl trivial rfl ?_
          refine OkOps.nil ?_
          refine Ok.block ?_
          refine Ok.loopK (fun (s10 : Int × (List (Int × Bool))) => ⟨[(1, .s (.c (.loc 0 0))), (4, .s (.c (.own 1))), (10, .s (.c (.own 3))), (88, .s (.c (.d (.sl (List.map Node.cs a0.Nodes))))), (89, .s (aI (a0.Nodes.length : Int))), (90, .s (aI s10.1))], [(0, .blk [cI a0.Root, cI a0.Next, .d (.sl (List.map Node.cs a0.Nodes))] 51), (1, .mp true (encM (kInt .i64) Node.cs s2)), (3, .mp false (encM (kInt .i64) eBool s10.2))], 0⟩) hr (Conv.mk (tau []) ⟨⟨_, rfl, .inl rfl⟩, ⟨_, rfl, .inl rfl⟩, ⟨_, rfl, .inl rfl⟩, ⟨_, rfl, .inl rfl⟩, ⟨_, rfl, .inl rfl⟩, ⟨_, rfl, .inl rfl⟩, trivial⟩ ⟨rfl, rfl, rfl, trivial⟩ rfl rfl rfl rfl) ?_
          clear hr
          intro again11 s10 hr
          unfold vw_graph_L2 at hr
          refine Ok.seq ?_
          refine Ok.region ?_
          refine OkOps.x (aB (decide (s10.1 < (a0.Nodes.length : Int)))) rfl trivial rfl ?_
          refine OkOps.nil ?_
          refine Ok.seq ?_
          refine Ok.cond (b := decide (s10.1 < (a0.Nodes.length : Int))) rfl (fun h12 => ?_) (fun h12 => ?_)
          · have hr := selT h12 hr
            refine Ok.skip ?_
            obtain ⟨k14, hk14, hr⟩ := jn_some hr
            refine Ok.join (fun (s13 : (List (Int × Bool))) => ⟨[(1, .s (.c (.loc 0 0))), (4, .s (.c (.own 1))), (10, .s (.c (.own 3))), (88, .s (.c (.d (.sl (List.map Node.cs a0.Nodes))))), (89, .s (aI (a0.Nodes.length : Int))), (90, .s (aI s10.1))], [(0, .blk [cI a0.Root, cI a0.Next, .d (.sl (List.map Node.cs a0.Nodes))] 51), (1, .mp true (encM (kInt .i64) Node.cs s2)), (3, .mp false (encM (kInt .i64) eBool s13))], 0⟩) k14 r (fun s13 hr => ?_) ?_
            · rw [hk14] at hr
              refine Ok.region ?_
              refine OkOps.x (aI (IntKind.i64.wrap (s10.1 + 1))) rfl trivial rfl ?_
              refine OkOps.x (aI (IntKind.i64.wrap (s10.1 + 1))) rfl trivial rfl ?_
              refine OkOps.nil ?_
              exact ⟨(IntKind.i64.wrap (s10.1 + 1), s13), hr, (Conv.mk (tau []) ⟨⟨_, rfl, .inl rfl⟩, ⟨_, rfl, .inl rfl⟩, ⟨_, rfl, .inl rfl⟩, ⟨_, rfl, .inl rfl⟩, ⟨_, rfl, .inl rfl⟩, ⟨_, rfl, .inl rfl⟩, trivial⟩ ⟨rfl, rfl, rfl, trivial⟩ rfl rfl rfl rfl)⟩
            · clear hk14
              refine Ok.block ?_
              refine Ok.seq ?_
              refine Ok.region ?_
              obtain ⟨x15, hx15, hr⟩ := bind_some hr
              refine OkOps.q (triIdx (enc := Node.cs) (L := a0.Nodes) (row := [dI x15.ID, dI x15.Parent, dI x15.Kind, dS x15.Key, .sl (List.map Attr.cs x15.Attrs), .sl (List.map Action.cs x15.Actions), .sl (List.map (eInt .i64) x15.Kids)]) hx15 rfl rfl rfl rfl (fun _ => rfl) trivial rfl) ?_
              refine OkOps.x (.agg [cI x15.ID, cI x15.Parent, cI x15.Kind, cS x15.Key, .d (.sl (List.map Attr.cs x15.Attrs)), .d (.sl (List.map Action.cs x15.Actions)), .d (.sl (List.map (eInt .i64) x15.Kids))]) rfl trivial rfl ?_
              refine OkOps.m 0 (triAlloc (j := 4) (cs := [cI 0, cI 0, cI 0, cS ByteArray.empty, .d (.v (.slice none 0 0)), .d (.v (.slice none 0 0)), .d (.v (.slice none 0 0))]) rfl rfl rfl rfl) ?_
              refine OkOps.w (triStore (cs' := [cI x15.ID, cI x15.Parent, cI x15.Kind, cS x15.Key, .d (.sl (List.map Attr.cs x15.Attrs)), .d (.sl (List.map Action.cs x15.Actions)), .d (.sl (List.map (eInt .i64) x15.Kids))]) rfl rfl rfl rfl rfl rfl rfl rfl rfl) ?_
              refine OkOps.nil ?_
              refine Ok.seq ?_
              refine Ok.region ?_
              refine OkOps.x (.c (.loc 4 6)) rfl trivial rfl ?_
              refine OkOps.x (.c (.d (.sl (List.map (eInt .i64) x15.Kids)))) rfl trivial rfl ?_
              refine OkOps.q (triLen (enc := (eInt .i64)) x15.Kids rfl rfl trivial rfl) ?_
              refine OkOps.x (aI 0) rfl trivial rfl ?_
              refine OkOps.nil ?_
              obtain ⟨k17, hk17, hr⟩ := jn_some hr
              refine Ok.joinEnd (fun (s16 : (List (Int × Bool))) => ⟨[(1, .s (.c (.loc 0 0))), (4, .s (.c (.own 1))), (10, .s (.c (.own 3))), (88, .s (.c (.d (.sl (List.map Node.cs a0.Nodes))))), (89, .s (aI (a0.Nodes.length : Int))), (90, .s (aI s10.1))], [(0, .blk [cI a0.Root, cI a0.Next, .d (.sl (List.map Node.cs a0.Nodes))] 51), (1, .mp true (encM (kInt .i64) Node.cs s2)), (3, .mp false (encM (kInt .i64) eBool s16))], 0⟩) k17 r (fun s16 hr => ?_) ?_
              · rw [hk17] at hr
                exact ⟨s16, hr, (Conv.mk (tau []) ⟨⟨_, rfl, .inl rfl⟩, ⟨_, rfl, .inl rfl⟩, ⟨_, rfl, .inl rfl⟩, ⟨_, rfl, .inl rfl⟩, ⟨_, rfl, .inl rfl⟩, ⟨_, rfl, .inl rfl⟩, trivial⟩ ⟨rfl, rfl, rfl, trivial⟩ rfl rfl rfl rfl)⟩
              · clear hk17
                refine Ok.block ?_
                refine Ok.loopK (fun (s18 : Int × (List (Int × Bool))) => ⟨[(1, .s (.c (.loc 0 0))), (4, .s (.c (.own 1))), (10, .s (.c (.own 3))), (12, .s (.c (.loc 4 0))), (88, .s (.c (.d (.sl (List.map Node.cs a0.Nodes))))), (89, .s (aI (a0.Nodes.length : Int))), (90, .s (aI s10.1)), (95, .s (.c (.d (.sl (List.map (eInt .i64) x15.Kids))))), (96, .s (aI (x15.Kids.length : Int))), (97, .s (aI s18.1))], [(0, .blk [cI a0.Root, cI a0.Next, .d (.sl (List.map Node.cs a0.Nodes))] 51), (1, .mp true (encM (kInt .i64) Node.cs s2)), (3, .mp false (encM (kInt .i64) eBool s18.2)), (4, .blk [cI x15.ID, cI x15.Parent, cI x15.Kind, cS x15.Key, .d (.sl (List.map Attr.cs x15.Attrs)), .d (.sl (List.map Action.cs x15.Actions)), .d (.sl (List.map (eInt .i64) x15.Kids))] 55)], 0⟩) hr (Conv.mk (tau []) ⟨⟨_, rfl, .inl rfl⟩, ⟨_, rfl, .inl rfl⟩, ⟨_, rfl, .inl rfl⟩, ⟨_, rfl, .inl rfl⟩, ⟨_, rfl, .inl rfl⟩, ⟨_, rfl, .inl rfl⟩, ⟨_, rfl, .inl rfl⟩, ⟨_, rfl, .inl rfl⟩, ⟨_, rfl, .inl rfl⟩, ⟨_, rfl, .inl rfl⟩, trivial⟩ ⟨rfl, rfl, rfl, rfl, trivial⟩ rfl rfl rfl rfl) ?_
                clear hr
                intro again19 s18 hr
                unfold vw_graph_L1 at hr
                refine Ok.seq ?_
                refine Ok.region ?_
                refine OkOps.x (aB (decide (s18.1 < (x15.Kids.length : Int)))) rfl trivial rfl ?_
                refine OkOps.nil ?_
                refine Ok.seq ?_
                refine Ok.cond (b := decide (s18.1 < (x15.Kids.length : Int))) rfl (fun h20 => ?_) (fun h20 => ?_)
                · have hr := selT h20 hr
                  refine Ok.skip ?_
                  refine Ok.seq ?_
                  refine Ok.block ?_
                  refine Ok.seq ?_
                  refine Ok.region ?_
                  obtain ⟨x21, hx21, hr⟩ := bind_some hr
                  refine OkOps.q (triIdx (enc := (eInt .i64)) (L := x15.Kids) (row := [dI x21]) hx21 rfl rfl rfl rfl (fun _ => rfl) trivial rfl) ?_
                  refine OkOps.x (aI x21) rfl trivial rfl ?_
                  refine OkOps.x (aI x21) rfl trivial rfl ?_
                  refine OkOps.nil ?_
                  refine Ok.seq ?_
                  refine Ok.seq ?_
                  refine Ok.region ?_
                  refine OkOps.x (.c (.own 1)) rfl trivial rfl ?_
                  refine OkOps.x (aI x21) rfl trivial rfl ?_
                  obtain ⟨x22, hx22, hr⟩ := bind_some hr
                  refine OkOps.q (triLookT (agg := true) (ek := (kInt .i64)) (ev := Node.cs) (L := s2) (r := .agg [cI x22.1.ID, cI x22.1.Parent, cI x22.1.Kind, cS x22.1.Key, .d (.sl (List.map Attr.cs x22.1.Attrs)), .d (.sl (List.map Action.cs x22.1.Actions)), .d (.sl (List.map (eInt .i64) x22.1.Kids))]) hx22 rfl rfl rfl (keyInt Tryd.underlying3) rfl rfl (fun h => by cases h) rfl trivial rfl) ?_
                  refine OkOps.q (triMv (v := .tup [.agg [cI x22.1.ID, cI x22.1.Parent, cI x22.1.Kind, cS x22.1.Key, .d (.sl (List.map Attr.cs x22.1.Attrs)), .d (.sl (List.map Action.cs x22.1.Actions)), .d (.sl (List.map (eInt .i64) x22.1.Kids))], aB x22.2]) rfl rfl) ?_
                  refine OkOps.x (.agg [cI x22.1.ID, cI x22.1.Parent, cI x22.1.Kind, cS x22.1.Key, .d (.sl (List.map Attr.cs x22.1.Attrs)), .d (.sl (List.map Action.cs x22.1.Actions)), .d (.sl (List.map (eInt .i64) x22.1.Kids))]) rfl trivial rfl ?_
                  refine OkOps.x (aB x22.2) rfl trivial rfl ?_
                  refine OkOps.m 0 (triAlloc (j := 5) (cs := [cI 0, cI 0, cI 0, cS ByteArray.empty, .d (.v (.slice none 0 0)), .d (.v (.slice none 0 0)), .d (.v (.slice none 0 0))]) rfl rfl rfl rfl) ?_
                  refine OkOps.w (triStore (cs' := [cI x22.1.ID, cI x22.1.Parent, cI x22.1.Kind, cS x22.1.Key, .d (.sl (List.map Attr.cs x22.1.Attrs)), .d (.sl (List.map Action.cs x22.1.Actions)), .d (.sl (List.map (eInt .i64) x22.1.Kids))]) rfl rfl rfl rfl rfl rfl rfl rfl rfl) ?_
                  refine OkOps.x (aB x22.2) rfl trivial rfl ?_
                  refine OkOps.nil ?_
                  refine Ok.seq ?_
                  refine Ok.region ?_
                  refine OkOps.x (aB x22.2) rfl trivial rfl ?_
                  refine OkOps.x (aB (!x22.2)) rfl trivial rfl ?_
                  refine OkOps.x (aB (!x22.2)) rfl trivial rfl ?_
                  refine OkOps.q (triQG (x := .c (.loc 5 1)) rfl rfl trivial rfl) ?_
                  refine OkOps.q (triQG (x := aI x22.1.Parent) rfl rfl ⟨fun h => h, trivial⟩ rfl) ?_
                  refine OkOps.q (triQG (x := .c (.loc 4 0)) rfl rfl trivial rfl) ?_
                  refine OkOps.q (triQG (x := aI x15.ID) rfl rfl ⟨fun h => h, trivial⟩ rfl) ?_
                  refine OkOps.q (triQG (x := aB (x22.1.Parent != x15.ID)) rfl rfl ⟨fun h => h, ⟨fun h => h, trivial⟩⟩ rfl) ?_
                  refine OkOps.q (triOr rfl rfl (fun h => by rw [h]; rfl) rfl) ?_
                  refine OkOps.x (aB ((!x22.2) || (x22.1.Parent != x15.ID))) rfl trivial rfl ?_
                  refine OkOps.q (triQG (x := .c (.own 3)) rfl rfl trivial rfl) ?_
                  refine OkOps.q (triQG (x := aI x21) rfl rfl trivial rfl) ?_
                  obtain ⟨x23, hx23, hr⟩ := bind_some hr
                  refine OkOps.q (triLookG (agg := false) (ek := (kInt .i64)) (ev := eBool) (L := s18.2) (r := aB x23.1) (gO_t hx23) rfl rfl rfl rfl (keyInt Tryd.underlying3) rfl rfl (fun _ _ => rfl) rfl ⟨fun h => h, ⟨fun h => h, trivial⟩⟩ rfl) ?_
                  refine OkOps.q (triOr rfl rfl (fun h => by rw [h]; rfl) rfl) ?_
                  refine OkOps.nil ?_
                  refine Ok.cond (b := ((!x22.2) || (x22.1.Parent != x15.ID)) || x23.1) rfl (fun h24 => ?_) (fun h24 => ?_)
                  · have hr := selT h24 hr
                    refine Ok.seq ?_
                    refine Ok.region ?_
                    refine OkOps.x (.c (.d (.v (.map none)))) rfl trivial rfl ?_
                    refine OkOps.x (aB false) rfl trivial rfl ?_
                    refine OkOps.nil ?_
                    refine Ok.conv (Conv.nilM 2 true rfl) ?_
                    refine Ok.ret ?_
                    obtain rfl := Option.some.inj hr
                    exact ⟨_, rfl, .inl rfl, trivial⟩
                  · have hr := selF h24 hr
                    refine Ok.skip ?_
                    refine Ok.region ?_
                    refine OkOps.x (.c (.own 3)) rfl trivial rfl ?_
                    refine OkOps.x (aI x21) rfl trivial rfl ?_
                    refine OkOps.w (triMapUp (ek := (kInt .i64)) (ev := eBool) (L := s18.2) (z := true) rfl rfl rfl rfl rfl rfl (keyInt Tryd.underlying3) (fun _ _ => rfl) rfl trivial) ?_
                    refine OkOps.nil ?_
                    refine Ok.region ?_
                    refine OkOps.x (aI (IntKind.i64.wrap (s18.1 + 1))) rfl trivial rfl ?_
                    refine OkOps.x (aI (IntKind.i64.wrap (s18.1 + 1))) rfl trivial rfl ?_
                    refine OkOps.nil ?_
                    exact ⟨(IntKind.i64.wrap (s18.1 + 1), msetL s18.2 x21 true), hr, (Conv.mk (tau []) ⟨⟨_, rfl, .inl rfl⟩, ⟨_, rfl, .inl rfl⟩, ⟨_, rfl, .inl rfl⟩, ⟨_, rfl, .inl rfl⟩, ⟨_, rfl, .inl rfl⟩, ⟨_, rfl, .inl rfl⟩, ⟨_, rfl, .inl rfl⟩, ⟨_, rfl, .inl rfl⟩, ⟨_, rfl, .inl rfl⟩, ⟨_, rfl, .inl rfl⟩, trivial⟩ ⟨rfl, rfl, rfl, rfl, trivial⟩ rfl rfl rfl rfl)⟩
                · have hr := selF h20 hr
                  refine Ok.exit ?_
                  exact ⟨s18.2, hr, (Conv.mk (tau []) ⟨⟨_, rfl, .inl rfl⟩, ⟨_, rfl, .inl rfl⟩, ⟨_, rfl, .inl rfl⟩, ⟨_, rfl, .inl rfl⟩, ⟨_, rfl, .inl rfl⟩, ⟨_, rfl, .inl rfl⟩, trivial⟩ ⟨rfl, rfl, rfl, trivial⟩ rfl rfl rfl rfl)⟩
          · have hr := selF h12 hr
            refine Ok.exit ?_
            exact ⟨s10.2, hr, (Conv.mk (tau []) ⟨⟨_, rfl, .inl rfl⟩, ⟨_, rfl, .inl rfl⟩, ⟨_, rfl, .inl rfl⟩, trivial⟩ ⟨rfl, rfl, rfl, trivial⟩ rfl rfl rfl rfl)⟩
    · clear hk3
      refine Ok.seq ?_
      refine Ok.region ?_
      refine OkOps.x (.c (.loc 0 2)) rfl trivial rfl ?_
      refine OkOps.x (.c (.d (.sl (List.map Node.cs a0.Nodes)))) rfl trivial rfl ?_
      refine OkOps.q (triLen (enc := Node.cs) a0.Nodes rfl rfl trivial rfl) ?_
      refine OkOps.x (aI 0) rfl trivial rfl ?_
      refine OkOps.nil ?_
      refine Ok.block ?_
      refine Ok.loopK (fun (s25 : Int × Int × (List (Int × Node))) => ⟨[(1, .s (.c (.loc 0 0))), (4, .s (.c (.own 1))), (5, .s (aI s25.1)), (39, .s (.c (.d (.sl (List.map Node.cs a0.Nodes))))), (40, .s (aI (a0.Nodes.length : Int))), (41, .s (aI s25.2.1))], [(0, .blk [cI a0.Root, cI a0.Next, .d (.sl (List.map Node.cs a0.Nodes))] 51), (1, .mp true (encM (kInt .i64) Node.cs s25.2.2))], 0⟩) hr (Conv.mk (tau []) ⟨⟨_, rfl, .inl rfl⟩, ⟨_, rfl, .inl rfl⟩, ⟨_, rfl, .inl rfl⟩, ⟨_, rfl, .inl rfl⟩, ⟨_, rfl, .inl rfl⟩, ⟨_, rfl, .inl rfl⟩, trivial⟩ ⟨rfl, rfl, trivial⟩ rfl rfl rfl rfl) ?_
      clear hr
      intro again26 s25 hr
      unfold vw_graph_L3 at hr
      refine Ok.seq ?_
      refine Ok.region ?_
      refine OkOps.x (aB (decide (s25.2.1 < (a0.Nodes.length : Int)))) rfl trivial rfl ?_
      refine OkOps.nil ?_
      refine Ok.seq ?_
      refine Ok.cond (b := decide (s25.2.1 < (a0.Nodes.length : Int))) rfl (fun h27 => ?_) (fun h27 => ?_)
      · have hr := selT h27 hr
        refine Ok.skip ?_
        refine Ok.seq ?_
        refine Ok.block ?_
        refine Ok.seq ?_
        refine Ok.region ?_
        obtain ⟨x28, hx28, hr⟩ := bind_some hr
        refine OkOps.q (triIdx (enc := Node.cs) (L := a0.Nodes) (row := [dI x28.ID, dI x28.Parent, dI x28.Kind, dS x28.Key, .sl (List.map Attr.cs x28.Attrs), .sl (List.map Action.cs x28.Actions), .sl (List.map (eInt .i64) x28.Kids)]) hx28 rfl rfl rfl rfl (fun _ => rfl) trivial rfl) ?_
        refine OkOps.x (.agg [cI x28.ID, cI x28.Parent, cI x28.Kind, cS x28.Key, .d (.sl (List.map Attr.cs x28.Attrs)), .d (.sl (List.map Action.cs x28.Actions)), .d (.sl (List.map (eInt .i64) x28.Kids))]) rfl trivial rfl ?_
        refine OkOps.m 0 (triAlloc (j := 6) (cs := [cI 0, cI 0, cI 0, cS ByteArray.empty, .d (.v (.slice none 0 0)), .d (.v (.slice none 0 0)), .d (.v (.slice none 0 0))]) rfl rfl rfl rfl) ?_
        refine OkOps.w (triStore (cs' := [cI x28.ID, cI x28.Parent, cI x28.Kind, cS x28.Key, .d (.sl (List.map Attr.cs x28.Attrs)), .d (.sl (List.map Action.cs x28.Actions)), .d (.sl (List.map (eInt .i64) x28.Kids))]) rfl rfl rfl rfl rfl rfl rfl rfl rfl) ?_
        refine OkOps.nil ?_
        refine Ok.seq ?_
        refine Ok.seq ?_
        refine Ok.region ?_
        refine OkOps.x (.c (.loc 6 0)) rfl trivial rfl ?_
        refine OkOps.x (aI x28.ID) rfl trivial rfl ?_
        refine OkOps.x (aI s25.1) rfl trivial rfl ?_
        refine OkOps.x (aB (decide (x28.ID ≤ s25.1))) rfl trivial rfl ?_
        refine OkOps.x (aB (decide (x28.ID ≤ s25.1))) rfl trivial rfl ?_
        refine OkOps.q (triQG (x := .c (.loc 6 0)) rfl rfl trivial rfl) ?_
        refine OkOps.q (triQG (x := aI x28.ID) rfl rfl ⟨fun h => h, trivial⟩ rfl) ?_
        refine OkOps.q (triQG (x := .c (.loc 0 1)) rfl rfl trivial rfl) ?_
        refine OkOps.q (triQG (x := aI a0.Next) rfl rfl ⟨fun h => h, trivial⟩ rfl) ?_
        refine OkOps.q (triQG (x := aB (decide (x28.ID ≥ a0.Next))) rfl rfl ⟨fun h => h, ⟨fun h => h, trivial⟩⟩ rfl) ?_
        refine OkOps.q (triOr rfl rfl (fun h => by rw [h]; rfl) rfl) ?_
        refine OkOps.x (aB ((decide (x28.ID ≤ s25.1)) || (decide (x28.ID ≥ a0.Next)))) rfl trivial rfl ?_
        refine OkOps.q (triQG (x := .c (.loc 6 1)) rfl rfl trivial rfl) ?_
        refine OkOps.q (triQG (x := aI x28.Parent) rfl rfl ⟨fun h => h, trivial⟩ rfl) ?_
        refine OkOps.q (triQG (x := aB (x28.Parent == 0)) rfl rfl ⟨fun h => h, trivial⟩ rfl) ?_
        refine OkOps.q (triQG (x := .c (.loc 6 0)) rfl rfl trivial rfl) ?_
        refine OkOps.q (triQG (x := aI x28.ID) rfl rfl ⟨fun h => h, trivial⟩ rfl) ?_
        refine OkOps.q (triQG (x := .c (.loc 0 0)) rfl rfl trivial rfl) ?_
        refine OkOps.q (triQG (x := aI a0.Root) rfl rfl ⟨fun h => h, trivial⟩ rfl) ?_
        refine OkOps.q (triQG (x := aB (x28.ID == a0.Root)) rfl rfl ⟨fun h => h, ⟨fun h => h, trivial⟩⟩ rfl) ?_
        refine OkOps.q (triQG (x := aB ((x28.Parent == 0) != (x28.ID == a0.Root))) rfl rfl ⟨fun h => h, ⟨fun h => h, trivial⟩⟩ rfl) ?_
        refine OkOps.q (triOr rfl rfl (fun h => by rw [h]; rfl) rfl) ?_
        refine OkOps.nil ?_
        refine Ok.cond (b := ((decide (x28.ID ≤ s25.1)) || (decide (x28.ID ≥ a0.Next))) || ((x28.Parent == 0) != (x28.ID == a0.Root))) rfl (fun h29 => ?_) (fun h29 => ?_)
        · have hr := selT h29 hr
          refine Ok.seq ?_
          refine Ok.region ?_
          refine OkOps.x (.c (.d (.v (.map none)))) rfl trivial rfl ?_
          refine OkOps.x (aB false) rfl trivial rfl ?_
          refine OkOps.nil ?_
          refine Ok.conv (Conv.nilM 2 true rfl) ?_
          refine Ok.ret ?_
          obtain rfl := Option.some.inj hr
          exact ⟨_, rfl, .inl rfl, trivial⟩
        · have hr := selF h29 hr
          refine Ok.skip ?_
          refine Ok.seq ?_
          refine Ok.region ?_
          refine OkOps.x (.c (.loc 6 0)) rfl trivial rfl ?_
          refine OkOps.x (aI x28.ID) rfl trivial rfl ?_
          refine OkOps.x (aI x28.ID) rfl trivial rfl ?_
          refine OkOps.nil ?_
          refine Ok.region ?_
          refine OkOps.x (.c (.own 1)) rfl trivial rfl ?_
          refine OkOps.x (.c (.loc 6 0)) rfl trivial rfl ?_
          refine OkOps.x (aI x28.ID) rfl trivial rfl ?_
          refine OkOps.x (.agg [cI x28.ID, cI x28.Parent, cI x28.Kind, cS x28.Key, .d (.sl (List.map Attr.cs x28.Attrs)), .d (.sl (List.map Action.cs x28.Actions)), .d (.sl (List.map (eInt .i64) x28.Kids))]) rfl trivial rfl ?_
          refine OkOps.w (triMapUp (ek := (kInt .i64)) (ev := Node.cs) (L := s25.2.2) (z := x28) rfl rfl rfl rfl rfl rfl (keyInt Tryd.underlying3) (fun h => by cases h) rfl trivial) ?_
          refine OkOps.nil ?_
          refine Ok.region ?_
          refine OkOps.x (aI (IntKind.i64.wrap (s25.2.1 + 1))) rfl trivial rfl ?_
          refine OkOps.x (aI (IntKind.i64.wrap (s25.2.1 + 1))) rfl trivial rfl ?_
          refine OkOps.nil ?_
          exact ⟨(x28.ID, IntKind.i64.wrap (s25.2.1 + 1), msetL s25.2.2 x28.ID x28), hr, (Conv.mk (tau []) ⟨⟨_, rfl, .inl rfl⟩, ⟨_, rfl, .inl rfl⟩, ⟨_, rfl, .inl rfl⟩, ⟨_, rfl, .inl rfl⟩, ⟨_, rfl, .inl rfl⟩, ⟨_, rfl, .inl rfl⟩, trivial⟩ ⟨rfl, rfl, trivial⟩ rfl rfl rfl rfl)⟩
      · have hr := selF h27 hr
        refine Ok.exit ?_
        exact ⟨s25.2.2, hr, (Conv.mk (tau []) ⟨⟨_, rfl, .inl rfl⟩, ⟨_, rfl, .inl rfl⟩, trivial⟩ ⟨rfl, rfl, trivial⟩ rfl rfl rfl rfl)⟩
theorem entry90 : Entry Tryd.prog 90 := ⟨_, Tryd.func90, by kernel_rfl, by kernel_rfl⟩
theorem entry91 : Entry Tryd.prog 91 := ⟨_, Tryd.func91, by kernel_rfl, by kernel_rfl⟩
theorem vw_described_B_c (self0 : (List (Int × Node)) → Int → Option View) (hself0 : ∀ (nodes : (List (Int × Node))) (id : Int) {r : View}, self0 nodes id = some r → Con Tryd.prog 91 [.c (.d (.mp true (encM (kInt .i64) Node.cs nodes))), aI id] [] (.s (.agg [cI r.Kind, cS r.Key, .d (.sl (List.map Attr.cs r.Attrs)), .d (.sl (List.map Action.cs r.Actions)), .d (.sl (List.map View.cs r.Kids))])) []) (nodes : (List (Int × Node))) (id : Int) {r : View} (hr : vw_described_B self0 nodes id = some r) : Con Tryd.prog 91 [.c (.d (.mp true (encM (kInt .i64) Node.cs nodes))), aI id] [] (.s (.agg [cI r.Kind, cS r.Key, .d (.sl (List.map Attr.cs r.Attrs)), .d (.sl (List.map Action.cs r.Actions)), .d (.sl (List.map View.cs r.Kids))])) [] := by
  unfold vw_described_B at hr
  refine Con.of_ok 38 0 [.cell 4 31] [(0, .s (.c (.d (.mp true (encM (kInt .i64) Node.cs nodes))))), (1, .s (aI id))] Tryd.func91 rfl rfl rfl rfl rfl rfl rfl rfl fun w g M ρ _ => ?_
  refine Ok.seq ?_
  refine Ok.region ?_
  refine OkOps.m 0 (triAlloc (j := 0) (cs := [cI 0, cS ByteArray.empty, .d (.v (.slice none 0 0)), .d (.v (.slice none 0 0)), .d (.v (.slice none 0 0))]) rfl rfl rfl rfl) ?_
  refine OkOps.nil ?_
  refine Ok.seq ?_
  refine Ok.region ?_
  refine OkOps.x (.c (.d (.mp true (encM (kInt .i64) Node.cs nodes)))) rfl trivial rfl ?_
  refine OkOps.x (aI id) rfl trivial rfl ?_
  obtain ⟨x1, hx1, hr⟩ := bind_some hr
  refine OkOps.q (triLook (agg := true) (ek := (kInt .i64)) (ev := Node.cs) (L := nodes) (r := .agg [cI x1.1.ID, cI x1.1.Parent, cI x1.1.Kind, cS x1.1.Key, .d (.sl (List.map Attr.cs x1.1.Attrs)), .d (.sl (List.map Action.cs x1.1.Actions)), .d (.sl (List.map (eInt .i64) x1.1.Kids))]) hx1 rfl rfl rfl (keyInt Tryd.underlying3) rfl rfl (fun h => by cases h) rfl trivial rfl) ?_
  refine OkOps.m 0 (triAlloc (j := 1) (cs := [cI 0, cI 0, cI 0, cS ByteArray.empty, .d (.v (.slice none 0 0)), .d (.v (.slice none 0 0)), .d (.v (.slice none 0 0))]) rfl rfl rfl rfl) ?_
  refine OkOps.w (triStore (cs' := [cI x1.1.ID, cI x1.1.Parent, cI x1.1.Kind, cS x1.1.Key, .d (.sl (List.map Attr.cs x1.1.Attrs)), .d (.sl (List.map Action.cs x1.1.Actions)), .d (.sl (List.map (eInt .i64) x1.1.Kids))]) rfl rfl rfl rfl rfl rfl rfl rfl rfl) ?_
  refine OkOps.nil ?_
  refine Ok.seq ?_
  refine Ok.region ?_
  refine OkOps.x (.c (.loc 1 2)) rfl trivial rfl ?_
  refine OkOps.x (aI x1.1.Kind) rfl trivial rfl ?_
  refine OkOps.x (.c (.loc 1 3)) rfl trivial rfl ?_
  refine OkOps.x (aS x1.1.Key) rfl trivial rfl ?_
  refine OkOps.x (.c (.loc 1 4)) rfl trivial rfl ?_
  refine OkOps.x (.c (.d (.sl (List.map Attr.cs x1.1.Attrs)))) rfl trivial rfl ?_
  refine OkOps.x (.c (.loc 1 5)) rfl trivial rfl ?_
  refine OkOps.x (.c (.d (.sl (List.map Action.cs x1.1.Actions)))) rfl trivial rfl ?_
  refine OkOps.x (.agg [cI x1.1.Kind, cS x1.1.Key, .d (.sl (List.map Attr.cs x1.1.Attrs)), .d (.sl (List.map Action.cs x1.1.Actions)), .d (.v (.slice none 0 0))]) rfl trivial rfl ?_
  refine OkOps.m 0 (triAlloc (j := 2) (cs := [cI 0, cS ByteArray.empty, .d (.v (.slice none 0 0)), .d (.v (.slice none 0 0)), .d (.v (.slice none 0 0))]) rfl rfl rfl rfl) ?_
  refine OkOps.w (triStore (cs' := [cI x1.1.Kind, cS x1.1.Key, .d (.sl (List.map Attr.cs x1.1.Attrs)), .d (.sl (List.map Action.cs x1.1.Actions)), .d (.v (.slice none 0 0))]) rfl rfl rfl rfl rfl rfl rfl rfl rfl) ?_
  refine OkOps.nil ?_
  obtain ⟨k3, hk3, hr⟩ := jn_some hr
  refine Ok.join (fun (s2 : (List View)) => ⟨[(4, .s (.c (.loc 0 0))), (6, .s (.c (.loc 2 0)))], [(0, .blk [cI 0, cS ByteArray.empty, .d (.v (.slice none 0 0)), .d (.v (.slice none 0 0)), .d (.v (.slice none 0 0))] 31), (2, .blk [cI x1.1.Kind, cS x1.1.Key, .d (.sl (List.map Attr.cs x1.1.Attrs)), .d (.sl (List.map Action.cs x1.1.Actions)), .tl 1004 (List.map View.cs s2)] 31), (1004, .tail 5)], 0⟩) k3 r (fun s2 hr => ?_) ?_
  · rw [hk3] at hr
    refine Ok.seq ?_
    refine Ok.region ?_
    refine OkOps.x (.agg [cI x1.1.Kind, cS x1.1.Key, .d (.sl (List.map Attr.cs x1.1.Attrs)), .d (.sl (List.map Action.cs x1.1.Actions)), .tl 1004 (List.map View.cs s2)]) rfl trivial rfl ?_
    refine OkOps.w (triStore (cs' := [cI x1.1.Kind, cS x1.1.Key, .d (.sl (List.map Attr.cs x1.1.Attrs)), .d (.sl (List.map Action.cs x1.1.Actions)), .tl 1004 (List.map View.cs s2)]) rfl rfl rfl rfl rfl rfl rfl rfl rfl) ?_
    refine OkOps.nil ?_
    refine Ok.ret ?_
    obtain rfl := Option.some.inj hr
    exact ⟨_, rfl, .inr rfl, trivial⟩
  · clear hk3
    refine Ok.seq ?_
    refine Ok.region ?_
    refine OkOps.x (.c (.loc 1 6)) rfl trivial rfl ?_
    refine OkOps.x (.c (.d (.sl (List.map (eInt .i64) x1.1.Kids)))) rfl trivial rfl ?_
    refine OkOps.q (triLen (enc := (eInt .i64)) x1.1.Kids rfl rfl trivial rfl) ?_
    refine OkOps.x (aI 0) rfl trivial rfl ?_
    refine OkOps.nil ?_
    refine Ok.block ?_
    refine Ok.loopK (fun (s4 : Int × (List View)) => ⟨[(0, .s (.c (.d (.mp true (encM (kInt .i64) Node.cs nodes))))), (4, .s (.c (.loc 0 0))), (6, .s (.c (.loc 2 0))), (22, .s (.c (.d (.sl (List.map (eInt .i64) x1.1.Kids))))), (23, .s (aI (x1.1.Kids.length : Int))), (24, .s (aI s4.1))], [(0, .blk [cI 0, cS ByteArray.empty, .d (.v (.slice none 0 0)), .d (.v (.slice none 0 0)), .d (.v (.slice none 0 0))] 31), (2, .blk [cI x1.1.Kind, cS x1.1.Key, .d (.sl (List.map Attr.cs x1.1.Attrs)), .d (.sl (List.map Action.cs x1.1.Actions)), .tl 1007 (List.map View.cs s4.2)] 31), (1007, .tail 5)], 0⟩) hr (Conv.trans (Conv.nilO 2 4 1009 5 [cI x1.1.Kind, cS x1.1.Key, .d (.sl (List.map Attr.cs x1.1.Attrs)), .d (.sl (List.map Action.cs x1.1.Actions)), .d (.v (.slice none 0 0))] [cI x1.1.Kind, cS x1.1.Key, .d (.sl (List.map Attr.cs x1.1.Attrs)), .d (.sl (List.map Action.cs x1.1.Actions)), .tl 1009 (List.map View.cs ([] : (List View)))] 31 0 rfl rfl rfl rfl) (Conv.mk (tau [(1007, 1009)]) ⟨⟨_, rfl, .inl rfl⟩, ⟨_, rfl, .inl rfl⟩, ⟨_, rfl, .inl rfl⟩, ⟨_, rfl, .inl rfl⟩, ⟨_, rfl, .inl rfl⟩, ⟨_, rfl, .inl rfl⟩, trivial⟩ ⟨rfl, rfl, rfl, trivial⟩ rfl rfl rfl rfl)) ?_
    clear hr
    intro again5 s4 hr
    unfold vw_described_L1 at hr
    refine Ok.seq ?_
    refine Ok.region ?_
    refine OkOps.x (aB (decide (s4.1 < (x1.1.Kids.length : Int)))) rfl trivial rfl ?_
    refine OkOps.nil ?_
    refine Ok.seq ?_
    refine Ok.cond (b := decide (s4.1 < (x1.1.Kids.length : Int))) rfl (fun h6 => ?_) (fun h6 => ?_)
    · have hr := selT h6 hr
      refine Ok.skip ?_
      refine Ok.seq ?_
      refine Ok.block ?_
      refine Ok.seq ?_
      refine Ok.region ?_
      obtain ⟨x7, hx7, hr⟩ := bind_some hr
      refine OkOps.q (triIdx (enc := (eInt .i64)) (L := x1.1.Kids) (row := [dI x7]) hx7 rfl rfl rfl rfl (fun _ => rfl) trivial rfl) ?_
      refine OkOps.x (aI x7) rfl trivial rfl ?_
      refine OkOps.x (aI x7) rfl trivial rfl ?_
      refine OkOps.nil ?_
      refine Ok.regionD (by kernel_rfl) ?_
      refine OkD.x (.c (.loc 2 4)) rfl trivial rfl ?_
      refine OkD.x (.c (.tl 1007 (List.map View.cs s4.2))) rfl trivial rfl ?_
      refine OkD.x (.c (.d (.mp true (encM (kInt .i64) Node.cs nodes)))) rfl trivial rfl ?_
      refine OkD.x (aI x7) rfl trivial rfl ?_
      obtain ⟨x8, hx8, hr⟩ := bind_some hr
      refine OkD.q (triCall (tau []) (.s (.agg [cI x8.Kind, cS x8.Key, .d (.sl (List.map Attr.cs x8.Attrs)), .d (.sl (List.map Action.cs x8.Actions)), .d (.sl (List.map View.cs x8.Kids))])) [] (hself0 _ _ hx8) rfl ⟨.inl rfl, .inl rfl, trivial⟩ trivial entry91 trivial rfl rfl rfl rfl trivial rfl rfl rfl) ?_
      refine OkD.m 0 (triBST (sz := 5) (enc := View.cs) (j := 3) ([x8]) rfl rfl rfl rfl rfl (rows := [[dI x8.Kind, dS x8.Key, .sl (List.map Attr.cs x8.Attrs), .sl (List.map Action.cs x8.Actions), .sl (List.map View.cs x8.Kids)]]) (by simp only [List.map, View.cs_eq]) rfl rfl (fun x => by rw [View.cs_eq]; rfl) trivial rfl rfl) ?_
      obtain ⟨x9, hx9, hr⟩ := bind_some hr
      refine OkD.m2 0 (triApp (enc := View.cs) (L := s4.2) (X := [x8]) (j := 1007) (j' := 4) hx9 rfl rfl rfl rfl rfl rfl (fun x => by rw [View.cs_eq]; rfl) (fun x => by rw [View.cs_eq]; rfl) (by decide) trivial rfl rfl) ?_
      refine OkD.x (.c (.loc 2 4)) rfl trivial rfl ?_
      refine OkD.w (triStore (cs' := [cI x1.1.Kind, cS x1.1.Key, .d (.sl (List.map Attr.cs x1.1.Attrs)), .d (.sl (List.map Action.cs x1.1.Actions)), .tl 4 (List.map View.cs x9)]) rfl rfl rfl rfl rfl rfl rfl rfl rfl) ?_
      refine OkD.nil (by kernel_rfl) ?_
      refine Ok.region ?_
      refine OkOps.x (aI (IntKind.i64.wrap (s4.1 + 1))) rfl trivial rfl ?_
      refine OkOps.x (aI (IntKind.i64.wrap (s4.1 + 1))) rfl trivial rfl ?_
      refine OkOps.nil ?_
      exact ⟨(IntKind.i64.wrap (s4.1 + 1), x9), hr, (Conv.mk (tau [(1007, 4)]) ⟨⟨_, rfl, .inl rfl⟩, ⟨_, rfl, .inl rfl⟩, ⟨_, rfl, .inl rfl⟩, ⟨_, rfl, .inl rfl⟩, ⟨_, rfl, .inl rfl⟩, ⟨_, rfl, .inl rfl⟩, trivial⟩ ⟨rfl, rfl, rfl, trivial⟩ rfl rfl rfl rfl)⟩
    · have hr := selF h6 hr
      refine Ok.exit ?_
      exact ⟨s4.2, hr, (Conv.mk (tau [(1004, 1007)]) ⟨⟨_, rfl, .inl rfl⟩, ⟨_, rfl, .inl rfl⟩, trivial⟩ ⟨rfl, rfl, rfl, trivial⟩ rfl rfl rfl rfl)⟩
theorem vw_described_all : ∀ n : Nat, (∀ (nodes : (List (Int × Node))) (id : Int) {r : View}, vw_described n nodes id = some r → Con Tryd.prog 91 [.c (.d (.mp true (encM (kInt .i64) Node.cs nodes))), aI id] [] (.s (.agg [cI r.Kind, cS r.Key, .d (.sl (List.map Attr.cs r.Attrs)), .d (.sl (List.map Action.cs r.Actions)), .d (.sl (List.map View.cs r.Kids))])) []) ∧ True := by
  intro n
  induction n with
  | zero => exact ⟨(by intros; rename_i hr; cases hr), trivial⟩
  | succ n ih => exact ⟨(by intros; rename_i hr; exact vw_described_B_c _ ih.1 _ _ hr), trivial⟩
theorem vw_described_c (n : Nat) (nodes : (List (Int × Node))) (id : Int) {r : View} (hr : vw_described n nodes id = some r) : Con Tryd.prog 91 [.c (.d (.mp true (encM (kInt .i64) Node.cs nodes))), aI id] [] (.s (.agg [cI r.Kind, cS r.Key, .d (.sl (List.map Attr.cs r.Attrs)), .d (.sl (List.map Action.cs r.Actions)), .d (.sl (List.map View.cs r.Kids))])) [] := (vw_described_all n).1 nodes id hr
theorem vw_examine_c (t : Tree) {r : (List (Int × Node)) × View × Int} (hr : vw_examine t = some r) : Con Tryd.prog 65 [.agg [cI t.Root, cI t.Next, .d (.sl (List.map Node.cs t.Nodes))]] [] (.tup [.c (.d (.mp true (encM (kInt .i64) Node.cs r.1))), .agg [cI r.2.1.Kind, cS r.2.1.Key, .d (.sl (List.map Attr.cs r.2.1.Attrs)), .d (.sl (List.map Action.cs r.2.1.Actions)), .d (.sl (List.map View.cs r.2.1.Kids))], aI r.2.2]) [] := by
  unfold vw_examine at hr
  refine Con.of_ok 24 0 [.tmp 2, .cell 3 31, .tmp 4] [(0, .s (.agg [cI t.Root, cI t.Next, .d (.sl (List.map Node.cs t.Nodes))]))] Tryd.func65 rfl rfl rfl rfl rfl rfl rfl rfl fun w g M ρ _ => ?_
  refine Ok.seq ?_
  refine Ok.region ?_
  refine OkOps.m 0 (triBox (j := 0) (cs := [cI t.Root, cI t.Next, .d (.sl (List.map Node.cs t.Nodes))]) rfl rfl rfl rfl rfl) ?_
  refine OkOps.x (.c (.d (.v (.map none)))) rfl trivial rfl ?_
  refine OkOps.m 0 (triAlloc (j := 1) (cs := [cI 0, cS ByteArray.empty, .d (.v (.slice none 0 0)), .d (.v (.slice none 0 0)), .d (.v (.slice none 0 0))]) rfl rfl rfl rfl) ?_
  refine OkOps.x (aI 0) rfl trivial rfl ?_
  refine OkOps.nil ?_
  refine Ok.seq ?_
  refine Ok.region ?_
  refine OkOps.x (.agg [cI t.Root, cI t.Next, .d (.sl (List.map Node.cs t.Nodes))]) rfl trivial rfl ?_
  obtain ⟨x1, hx1, hr⟩ := bind_some hr
  refine OkOps.q (triCall (tau []) (.tup [.c (.d (.mp true (encM (kInt .i64) Node.cs x1.1))), aB x1.2]) [] (vw_graph_c _ hx1) rfl ⟨.inl rfl, trivial⟩ trivial entry90 trivial rfl rfl rfl rfl trivial rfl rfl rfl) ?_
  refine OkOps.q (triMv (v := .tup [.c (.d (.mp true (encM (kInt .i64) Node.cs x1.1))), aB x1.2]) rfl rfl) ?_
  refine OkOps.x (.c (.d (.mp true (encM (kInt .i64) Node.cs x1.1)))) rfl trivial rfl ?_
  refine OkOps.x (aB x1.2) rfl trivial rfl ?_
  refine OkOps.x (.c (.d (.mp true (encM (kInt .i64) Node.cs x1.1)))) rfl trivial rfl ?_
  refine OkOps.x (aB x1.2) rfl trivial rfl ?_
  refine OkOps.nil ?_
  refine Ok.seq ?_
  refine Ok.seq ?_
  refine Ok.region ?_
  refine OkOps.x (aB x1.2) rfl trivial rfl ?_
  refine OkOps.x (aB (!x1.2)) rfl trivial rfl ?_
  refine OkOps.nil ?_
  refine Ok.cond (b := !x1.2) rfl (fun h2 => ?_) (fun h2 => ?_)
  · have hr := selT h2 hr
    refine Ok.seq ?_
    refine Ok.region ?_
    refine OkOps.x (.agg [cI 0, cS ByteArray.empty, .d (.v (.slice none 0 0)), .d (.v (.slice none 0 0)), .d (.v (.slice none 0 0))]) rfl trivial rfl ?_
    refine OkOps.x (.c (.d (.v (.map none)))) rfl trivial rfl ?_
    refine OkOps.w (triStore (cs' := [cI 0, cS ByteArray.empty, .d (.v (.slice none 0 0)), .d (.v (.slice none 0 0)), .d (.v (.slice none 0 0))]) rfl rfl rfl rfl rfl rfl rfl rfl rfl) ?_
    refine OkOps.x (aI 12) rfl trivial rfl ?_
    refine OkOps.nil ?_
    refine Ok.conv (Conv.nilM 2 true rfl) ?_
    refine Ok.ret ?_
    obtain rfl := Option.some.inj hr
    exact ⟨_, rfl, .inr rfl, trivial⟩
  · have hr := selF h2 hr
    refine Ok.skip ?_
    refine Ok.seq ?_
    refine Ok.region ?_
    refine OkOps.x (.c (.d (.mp true (encM (kInt .i64) Node.cs x1.1)))) rfl trivial rfl ?_
    refine OkOps.x (.c (.loc 0 0)) rfl trivial rfl ?_
    refine OkOps.x (aI t.Root) rfl trivial rfl ?_
    obtain ⟨x3, hx3, hr⟩ := bind_some hr
    refine OkOps.q (triCall (tau []) (.s (.agg [cI x3.Kind, cS x3.Key, .d (.sl (List.map Attr.cs x3.Attrs)), .d (.sl (List.map Action.cs x3.Actions)), .d (.sl (List.map View.cs x3.Kids))])) [] (vw_described_c _ _ _ hx3) rfl ⟨.inl rfl, .inl rfl, trivial⟩ trivial entry91 trivial rfl rfl rfl rfl trivial rfl rfl rfl) ?_
    refine OkOps.m 0 (triAlloc (j := 2) (cs := [cI 0, cS ByteArray.empty, .d (.v (.slice none 0 0)), .d (.v (.slice none 0 0)), .d (.v (.slice none 0 0))]) rfl rfl rfl rfl) ?_
    refine OkOps.w (triStore (cs' := [cI x3.Kind, cS x3.Key, .d (.sl (List.map Attr.cs x3.Attrs)), .d (.sl (List.map Action.cs x3.Actions)), .d (.sl (List.map View.cs x3.Kids))]) rfl rfl rfl rfl rfl rfl rfl rfl rfl) ?_
    refine OkOps.nil ?_
    refine Ok.seq ?_
    refine Ok.regionD (by kernel_rfl) ?_
    refine OkD.x (.c (.d (.mp true (encM (kInt .i64) Node.cs x1.1)))) rfl trivial rfl ?_
    refine OkD.x (.agg [cI x3.Kind, cS x3.Key, .d (.sl (List.map Attr.cs x3.Attrs)), .d (.sl (List.map Action.cs x3.Actions)), .d (.sl (List.map View.cs x3.Kids))]) rfl trivial rfl ?_
    refine OkD.x (.agg [cI x3.Kind, cS x3.Key, .d (.sl (List.map Attr.cs x3.Attrs)), .d (.sl (List.map Action.cs x3.Actions)), .d (.sl (List.map View.cs x3.Kids))]) rfl trivial rfl ?_
    obtain ⟨x4, hx4, hr⟩ := bind_some hr
    refine OkD.q (triCall (tau []) (.s (aI x4)) [] (vw_Validate_c _ hx4) rfl ⟨.inl rfl, trivial⟩ trivial entry17 trivial rfl rfl rfl rfl trivial rfl rfl rfl) ?_
    refine OkD.x (.c (.d (.mp true (encM (kInt .i64) Node.cs x1.1)))) rfl trivial rfl ?_
    refine OkD.w (triStore (cs' := [cI x3.Kind, cS x3.Key, .d (.sl (List.map Attr.cs x3.Attrs)), .d (.sl (List.map Action.cs x3.Actions)), .d (.sl (List.map View.cs x3.Kids))]) rfl rfl rfl rfl rfl rfl rfl rfl rfl) ?_
    refine OkD.x (aI x4) rfl trivial rfl ?_
    refine OkD.nil (by kernel_rfl) ?_
    refine Ok.ret ?_
    obtain rfl := Option.some.inj hr
    exact ⟨_, rfl, .inl rfl, trivial⟩
theorem entry65 : Entry Tryd.prog 65 := ⟨_, Tryd.func65, by kernel_rfl, by kernel_rfl⟩
theorem vw_Check_c (t : Tree) {r : Int} (hr : vw_Check t = some r) : Con Tryd.prog 43 [.agg [cI t.Root, cI t.Next, .d (.sl (List.map Node.cs t.Nodes))]] [] (.s (aI r)) [] := by
  unfold vw_Check at hr
  refine Con.of_ok 13 0 [.tmp 2] [(0, .s (.agg [cI t.Root, cI t.Next, .d (.sl (List.map Node.cs t.Nodes))]))] Tryd.func43 rfl rfl rfl rfl rfl rfl rfl rfl fun w g M ρ _ => ?_
  refine Ok.seq ?_
  refine Ok.region ?_
  refine OkOps.m 0 (triBox (j := 0) (cs := [cI t.Root, cI t.Next, .d (.sl (List.map Node.cs t.Nodes))]) rfl rfl rfl rfl rfl) ?_
  refine OkOps.x (aI 0) rfl trivial rfl ?_
  refine OkOps.nil ?_
  refine Ok.seq ?_
  refine Ok.region ?_
  refine OkOps.x (.agg [cI t.Root, cI t.Next, .d (.sl (List.map Node.cs t.Nodes))]) rfl trivial rfl ?_
  obtain ⟨x1, hx1, hr⟩ := bind_some hr
  refine OkOps.q (triCall (tau []) (.tup [.c (.d (.mp true (encM (kInt .i64) Node.cs x1.1))), .agg [cI x1.2.1.Kind, cS x1.2.1.Key, .d (.sl (List.map Attr.cs x1.2.1.Attrs)), .d (.sl (List.map Action.cs x1.2.1.Actions)), .d (.sl (List.map View.cs x1.2.1.Kids))], aI x1.2.2]) [] (vw_examine_c _ hx1) rfl ⟨.inl rfl, trivial⟩ trivial entry65 trivial rfl rfl rfl rfl trivial rfl rfl rfl) ?_
  refine OkOps.q (triMv (v := .tup [.c (.d (.mp true (encM (kInt .i64) Node.cs x1.1))), .agg [cI x1.2.1.Kind, cS x1.2.1.Key, .d (.sl (List.map Attr.cs x1.2.1.Attrs)), .d (.sl (List.map Action.cs x1.2.1.Actions)), .d (.sl (List.map View.cs x1.2.1.Kids))], aI x1.2.2]) rfl rfl) ?_
  refine OkOps.x (.c (.d (.mp true (encM (kInt .i64) Node.cs x1.1)))) rfl trivial rfl ?_
  refine OkOps.x (.agg [cI x1.2.1.Kind, cS x1.2.1.Key, .d (.sl (List.map Attr.cs x1.2.1.Attrs)), .d (.sl (List.map Action.cs x1.2.1.Actions)), .d (.sl (List.map View.cs x1.2.1.Kids))]) rfl trivial rfl ?_
  refine OkOps.x (aI x1.2.2) rfl trivial rfl ?_
  refine OkOps.m 0 (triAlloc (j := 1) (cs := [cI 0, cS ByteArray.empty, .d (.v (.slice none 0 0)), .d (.v (.slice none 0 0)), .d (.v (.slice none 0 0))]) rfl rfl rfl rfl) ?_
  refine OkOps.x (.c (.d (.mp true (encM (kInt .i64) Node.cs x1.1)))) rfl trivial rfl ?_
  refine OkOps.w (triStore (cs' := [cI x1.2.1.Kind, cS x1.2.1.Key, .d (.sl (List.map Attr.cs x1.2.1.Attrs)), .d (.sl (List.map Action.cs x1.2.1.Actions)), .d (.sl (List.map View.cs x1.2.1.Kids))]) rfl rfl rfl rfl rfl rfl rfl rfl rfl) ?_
  refine OkOps.x (aI x1.2.2) rfl trivial rfl ?_
  refine OkOps.nil ?_
  refine Ok.seq ?_
  refine Ok.region ?_
  refine OkOps.x (aI x1.2.2) rfl trivial rfl ?_
  refine OkOps.x (aI x1.2.2) rfl trivial rfl ?_
  refine OkOps.nil ?_
  refine Ok.ret ?_
  obtain rfl := Option.some.inj hr
  exact ⟨_, rfl, .inl rfl, trivial⟩
theorem entry43 : Entry Tryd.prog 43 := ⟨_, Tryd.func43, by kernel_rfl, by kernel_rfl⟩
theorem vw_valid_c (t : Tree) {r : (List (Int × Node)) × Bool} (hr : vw_valid t = some r) : Con Tryd.prog 55 [.agg [cI t.Root, cI t.Next, .d (.sl (List.map Node.cs t.Nodes))]] [] (.tup [.c (.d (.mp true (encM (kInt .i64) Node.cs r.1))), aB r.2]) [] := by
  unfold vw_valid at hr
  refine Con.of_ok 16 0 [.tmp 2, .tmp 3] [(0, .s (.agg [cI t.Root, cI t.Next, .d (.sl (List.map Node.cs t.Nodes))]))] Tryd.func55 rfl rfl rfl rfl rfl rfl rfl rfl fun w g M ρ _ => ?_
  refine Ok.seq ?_
  refine Ok.region ?_
  refine OkOps.m 0 (triBox (j := 0) (cs := [cI t.Root, cI t.Next, .d (.sl (List.map Node.cs t.Nodes))]) rfl rfl rfl rfl rfl) ?_
  refine OkOps.x (.c (.d (.v (.map none)))) rfl trivial rfl ?_
  refine OkOps.x (aB false) rfl trivial rfl ?_
  refine OkOps.nil ?_
  refine Ok.seq ?_
  refine Ok.region ?_
  refine OkOps.x (.agg [cI t.Root, cI t.Next, .d (.sl (List.map Node.cs t.Nodes))]) rfl trivial rfl ?_
  obtain ⟨x1, hx1, hr⟩ := bind_some hr
  refine OkOps.q (triCall (tau []) (.tup [.c (.d (.mp true (encM (kInt .i64) Node.cs x1.1))), .agg [cI x1.2.1.Kind, cS x1.2.1.Key, .d (.sl (List.map Attr.cs x1.2.1.Attrs)), .d (.sl (List.map Action.cs x1.2.1.Actions)), .d (.sl (List.map View.cs x1.2.1.Kids))], aI x1.2.2]) [] (vw_examine_c _ hx1) rfl ⟨.inl rfl, trivial⟩ trivial entry65 trivial rfl rfl rfl rfl trivial rfl rfl rfl) ?_
  refine OkOps.q (triMv (v := .tup [.c (.d (.mp true (encM (kInt .i64) Node.cs x1.1))), .agg [cI x1.2.1.Kind, cS x1.2.1.Key, .d (.sl (List.map Attr.cs x1.2.1.Attrs)), .d (.sl (List.map Action.cs x1.2.1.Actions)), .d (.sl (List.map View.cs x1.2.1.Kids))], aI x1.2.2]) rfl rfl) ?_
  refine OkOps.x (.c (.d (.mp true (encM (kInt .i64) Node.cs x1.1)))) rfl trivial rfl ?_
  refine OkOps.x (.agg [cI x1.2.1.Kind, cS x1.2.1.Key, .d (.sl (List.map Attr.cs x1.2.1.Attrs)), .d (.sl (List.map Action.cs x1.2.1.Actions)), .d (.sl (List.map View.cs x1.2.1.Kids))]) rfl trivial rfl ?_
  refine OkOps.x (aI x1.2.2) rfl trivial rfl ?_
  refine OkOps.m 0 (triAlloc (j := 1) (cs := [cI 0, cS ByteArray.empty, .d (.v (.slice none 0 0)), .d (.v (.slice none 0 0)), .d (.v (.slice none 0 0))]) rfl rfl rfl rfl) ?_
  refine OkOps.x (.c (.d (.mp true (encM (kInt .i64) Node.cs x1.1)))) rfl trivial rfl ?_
  refine OkOps.w (triStore (cs' := [cI x1.2.1.Kind, cS x1.2.1.Key, .d (.sl (List.map Attr.cs x1.2.1.Attrs)), .d (.sl (List.map Action.cs x1.2.1.Actions)), .d (.sl (List.map View.cs x1.2.1.Kids))]) rfl rfl rfl rfl rfl rfl rfl rfl rfl) ?_
  refine OkOps.x (aI x1.2.2) rfl trivial rfl ?_
  refine OkOps.nil ?_
  refine Ok.seq ?_
  refine Ok.region ?_
  refine OkOps.x (.c (.d (.mp true (encM (kInt .i64) Node.cs x1.1)))) rfl trivial rfl ?_
  refine OkOps.x (aI x1.2.2) rfl trivial rfl ?_
  refine OkOps.x (aB (x1.2.2 == 0)) rfl trivial rfl ?_
  refine OkOps.x (.c (.d (.mp true (encM (kInt .i64) Node.cs x1.1)))) rfl trivial rfl ?_
  refine OkOps.x (aB (x1.2.2 == 0)) rfl trivial rfl ?_
  refine OkOps.nil ?_
  refine Ok.ret ?_
  obtain rfl := Option.some.inj hr
  exact ⟨_, rfl, .inl rfl, trivial⟩
theorem entry55 : Entry Tryd.prog 55 := ⟨_, Tryd.func55, by kernel_rfl, by kernel_rfl⟩
theorem slices_Reverse_Sl_int_int_c (p_s : (List Int)) {r : (List Int)} (hr : slices_Reverse_Sl_int_int p_s = some r) : Con Tryd.prog 81 [.c (.own 0)] [(0, .vec 1 (List.map (eInt .i64) p_s))] (.tup []) [(0, .vec 1 (List.map (eInt .i64) r))] := by
  unfold slices_Reverse_Sl_int_int at hr
  refine Con.of_ok 28 0 [] [(0, .s (.c (.own 0)))] Tryd.func81 rfl rfl rfl rfl rfl rfl rfl rfl fun w g M ρ _ => ?_
  refine Ok.seq ?_
  refine Ok.region ?_
  refine OkOps.x (.c (.own 0)) rfl trivial rfl ?_
  refine OkOps.q (triLenV (enc := (eInt .i64)) p_s rfl rfl rfl rfl) ?_
  refine OkOps.x (aI (IntKind.i64.wrap ((p_s.length : Int) - 1))) rfl trivial rfl ?_
  refine OkOps.x (aI 0) rfl trivial rfl ?_
  refine OkOps.x (aI (IntKind.i64.wrap ((p_s.length : Int) - 1))) rfl trivial rfl ?_
  refine OkOps.nil ?_
  obtain ⟨k2, hk2, hr⟩ := jn_some hr
  refine Ok.joinEnd (fun (s1 : (List Int)) => ⟨[], [(0, .vec 1 (List.map (eInt .i64) s1))], 0⟩) k2 r (fun s1 hr => ?_) ?_
  · rw [hk2] at hr
    obtain rfl := Option.some.inj hr
    exact ⟨_, rfl, .inl rfl, ⟨rfl, trivial⟩⟩
  · clear hk2
    refine Ok.block ?_
    refine Ok.loopK (fun (s3 : Int × Int × (List Int)) => ⟨[(0, .s (.c (.own 0))), (2, .s (aI s3.1)), (3, .s (aI s3.2.1))], [(0, .vec 1 (List.map (eInt .i64) s3.2.2))], 0⟩) hr (Conv.mk (tau []) ⟨⟨_, rfl, .inl rfl⟩, ⟨_, rfl, .inl rfl⟩, ⟨_, rfl, .inl rfl⟩, trivial⟩ ⟨rfl, trivial⟩ rfl rfl rfl rfl) ?_
    clear hr
    intro again4 s3 hr
    unfold slices_Reverse_Sl_int_int_L1 at hr
    refine Ok.seq ?_
    refine Ok.seq ?_
    refine Ok.region ?_
    refine OkOps.x (aI s3.1) rfl trivial rfl ?_
    refine OkOps.x (aI s3.2.1) rfl trivial rfl ?_
    refine OkOps.x (aB (decide (s3.1 < s3.2.1))) rfl trivial rfl ?_
    refine OkOps.nil ?_
    refine Ok.cond (b := decide (s3.1 < s3.2.1)) rfl (fun h5 => ?_) (fun h5 => ?_)
    · have hr := selT h5 hr
      refine Ok.skip ?_
      refine Ok.seq ?_
      refine Ok.block ?_
      refine Ok.regionD (by kernel_rfl) ?_
      refine OkD.x (.c (.own 0)) rfl trivial rfl ?_
      refine OkD.x (aI s3.1) rfl trivial rfl ?_
      refine OkD.x (.c (.own 0)) rfl trivial rfl ?_
      refine OkD.x (aI s3.2.1) rfl trivial rfl ?_
      refine OkD.x (.c (.own 0)) rfl trivial rfl ?_
      refine OkD.x (aI s3.2.1) rfl trivial rfl ?_
      obtain ⟨x6, hx6, hr⟩ := bind_some hr
      refine OkD.q (triIdxV (enc := (eInt .i64)) (L := s3.2.2) hx6 rfl rfl rfl rfl trivial rfl) ?_
      obtain ⟨x7, hx7, hr⟩ := bind_some hr
      refine OkD.q (triLoadV (enc := (eInt .i64)) (L := s3.2.2) (row := [dI x7]) (r := aI x7) hx7 rfl rfl rfl (fun _ => rfl) rfl  rfl) ?_
      refine OkD.x (.c (.own 0)) rfl trivial rfl ?_
      refine OkD.x (aI s3.1) rfl trivial rfl ?_
      obtain ⟨x8, hx8, hr⟩ := bind_some hr
      refine OkD.q (triIdxV (enc := (eInt .i64)) (L := s3.2.2) hx8 rfl rfl rfl rfl trivial rfl) ?_
      obtain ⟨x9, hx9, hr⟩ := bind_some hr
      refine OkD.q (triLoadV (enc := (eInt .i64)) (L := s3.2.2) (row := [dI x9]) (r := aI x9) hx9 rfl rfl rfl (fun _ => rfl) rfl  rfl) ?_
      obtain ⟨x10, hx10, hr⟩ := bind_some hr
      refine OkD.q (triIdxV (enc := (eInt .i64)) (L := s3.2.2) hx10 rfl rfl rfl rfl trivial rfl) ?_
      refine OkD.w (triStoreV (enc := (eInt .i64)) (L := s3.2.2) x7 (.inr (ixO_spec hx10).2) rfl rfl rfl rfl rfl rfl (fun _ => rfl) rfl) ?_
      obtain ⟨x11, hx11, hr⟩ := bind_some hr
      refine OkD.q (triIdxV (enc := (eInt .i64)) (L := List.set s3.2.2 x10 x7) hx11 rfl rfl rfl rfl trivial rfl) ?_
      refine OkD.w (triStoreV (enc := (eInt .i64)) (L := List.set s3.2.2 x10 x7) x9 (.inr (ixO_spec hx11).2) rfl rfl rfl rfl rfl rfl (fun _ => rfl) rfl) ?_
      refine OkD.nil (by kernel_rfl) ?_
      refine Ok.region ?_
      refine OkOps.x (aI s3.1) rfl trivial rfl ?_
      refine OkOps.x (aI (IntKind.i64.wrap (s3.1 + 1))) rfl trivial rfl ?_
      refine OkOps.x (aI s3.2.1) rfl trivial rfl ?_
      refine OkOps.x (aI (IntKind.i64.wrap (s3.2.1 - 1))) rfl trivial rfl ?_
      refine OkOps.x (aI (IntKind.i64.wrap (s3.1 + 1))) rfl trivial rfl ?_
      refine OkOps.x (aI (IntKind.i64.wrap (s3.2.1 - 1))) rfl trivial rfl ?_
      refine OkOps.nil ?_
      exact ⟨(IntKind.i64.wrap (s3.1 + 1), IntKind.i64.wrap (s3.2.1 - 1), List.set (List.set s3.2.2 x10 x7) x11 x9), hr, (Conv.mk (tau []) ⟨⟨_, rfl, .inl rfl⟩, ⟨_, rfl, .inl rfl⟩, ⟨_, rfl, .inl rfl⟩, trivial⟩ ⟨rfl, trivial⟩ rfl rfl rfl rfl)⟩
    · have hr := selF h5 hr
      refine Ok.exit ?_
      exact ⟨s3.2.2, hr, (Conv.mk (tau []) trivial ⟨rfl, trivial⟩ rfl rfl rfl rfl)⟩
theorem entry81 : Entry Tryd.prog 81 := ⟨_, Tryd.func81, by kernel_rfl, by kernel_rfl⟩
theorem vw_path_c (nodes : (List (Int × Node))) (id : Int) {r : (List Int)} (hr : vw_path nodes id = some r) : Con Tryd.prog 56 [.c (.d (.mp true (encM (kInt .i64) Node.cs nodes))), aI id] [] (.s (.c (.d (.sl (List.map (eInt .i64) r))))) [] := by
  unfold vw_path at hr
  refine Con.of_ok 31 0 [.tmp 4] [(0, .s (.c (.d (.mp true (encM (kInt .i64) Node.cs nodes))))), (1, .s (aI id))] Tryd.func56 rfl rfl rfl rfl rfl rfl rfl rfl fun w g M ρ _ => ?_
  refine Ok.seq ?_
  refine Ok.region ?_
  refine OkOps.x (.c (.d (.v (.slice none 0 0)))) rfl trivial rfl ?_
  refine OkOps.nil ?_
  refine Ok.seq ?_
  refine Ok.region ?_
  refine OkOps.x (.c (.d (.v (.slice none 0 0)))) rfl trivial rfl ?_
  refine OkOps.conv (Conv.nilV (enc := (eInt .i64)) 5 0 1 0 rfl rfl) ?_
  refine OkOps.nil ?_
  obtain ⟨k2, hk2, hr⟩ := jn_some hr
  refine Ok.join (fun (s1 : (List Int)) => ⟨[(5, .s (.c (.own 1006)))], [(1006, .vec 1 (List.map (eInt .i64) s1))], 0⟩) k2 r (fun s1 hr => ?_) ?_
  · rw [hk2] at hr
    refine Ok.seq ?_
    refine Ok.region ?_
    refine OkOps.x (.c (.own 1006)) rfl trivial rfl ?_
    obtain ⟨x3, hx3, hr⟩ := bind_some hr
    refine OkOps.m 0 (triCall (tau [(0, 1006)]) (.tup []) [(1006, .vec 1 (List.map (eInt .i64) x3))] (slices_Reverse_Sl_int_int_c _ hx3) rfl ⟨.inl rfl, trivial⟩ trivial entry81 ⟨rfl, trivial⟩ rfl rfl rfl rfl trivial rfl rfl rfl) ?_
    refine OkOps.nil ?_
    refine Ok.seq ?_
    refine Ok.region ?_
    refine OkOps.x (.c (.own 1006)) rfl trivial rfl ?_
    refine OkOps.x (.c (.own 1006)) rfl trivial rfl ?_
    refine OkOps.nil ?_
    refine Ok.conv (Conv.freeze (enc := (eInt .i64)) (L := x3) [4, 5, 28, 30] 1006 1 1 0 ⟨rfl, rfl, rfl, rfl, trivial⟩ rfl (fun _ => rfl) rfl) ?_
    refine Ok.ret ?_
    obtain rfl := Option.some.inj hr
    exact ⟨_, rfl, .inr rfl, trivial⟩
  · clear hk2
    refine Ok.seq ?_
    refine Ok.region ?_
    refine OkOps.x (.c (.d (.mp true (encM (kInt .i64) Node.cs nodes)))) rfl trivial rfl ?_
    refine OkOps.x (aI id) rfl trivial rfl ?_
    obtain ⟨x4, hx4, hr⟩ := bind_some hr
    refine OkOps.q (triLookT (agg := true) (ek := (kInt .i64)) (ev := Node.cs) (L := nodes) (r := .agg [cI x4.1.ID, cI x4.1.Parent, cI x4.1.Kind, cS x4.1.Key, .d (.sl (List.map Attr.cs x4.1.Attrs)), .d (.sl (List.map Action.cs x4.1.Actions)), .d (.sl (List.map (eInt .i64) x4.1.Kids))]) hx4 rfl rfl rfl (keyInt Tryd.underlying3) rfl rfl (fun h => by cases h) rfl trivial rfl) ?_
    refine OkOps.q (triMv (v := .tup [.agg [cI x4.1.ID, cI x4.1.Parent, cI x4.1.Kind, cS x4.1.Key, .d (.sl (List.map Attr.cs x4.1.Attrs)), .d (.sl (List.map Action.cs x4.1.Actions)), .d (.sl (List.map (eInt .i64) x4.1.Kids))], aB x4.2]) rfl rfl) ?_
    refine OkOps.x (.agg [cI x4.1.ID, cI x4.1.Parent, cI x4.1.Kind, cS x4.1.Key, .d (.sl (List.map Attr.cs x4.1.Attrs)), .d (.sl (List.map Action.cs x4.1.Actions)), .d (.sl (List.map (eInt .i64) x4.1.Kids))]) rfl trivial rfl ?_
    refine OkOps.x (aB x4.2) rfl trivial rfl ?_
    refine OkOps.m 0 (triAlloc (j := 2) (cs := [cI 0, cI 0, cI 0, cS ByteArray.empty, .d (.v (.slice none 0 0)), .d (.v (.slice none 0 0)), .d (.v (.slice none 0 0))]) rfl rfl rfl rfl) ?_
    refine OkOps.w (triStore (cs' := [cI x4.1.ID, cI x4.1.Parent, cI x4.1.Kind, cS x4.1.Key, .d (.sl (List.map Attr.cs x4.1.Attrs)), .d (.sl (List.map Action.cs x4.1.Actions)), .d (.sl (List.map (eInt .i64) x4.1.Kids))]) rfl rfl rfl rfl rfl rfl rfl rfl rfl) ?_
    refine OkOps.x (aB x4.2) rfl trivial rfl ?_
    refine OkOps.nil ?_
    refine Ok.block ?_
    refine Ok.loopK (fun (s5 : (List Int) × Int × Int × Int × Str × (List Attr) × (List Action) × (List Int) × Bool) => ⟨[(0, .s (.c (.d (.mp true (encM (kInt .i64) Node.cs nodes))))), (5, .s (.c (.own 1009))), (6, .s (.c (.loc 1010 0))), (7, .s (aB s5.2.2.2.2.2.2.2.2))], [(1009, .vec 1 (List.map (eInt .i64) s5.1)), (1010, .blk [cI s5.2.1, cI s5.2.2.1, cI s5.2.2.2.1, cS s5.2.2.2.2.1, .d (.sl (List.map Attr.cs s5.2.2.2.2.2.1)), .d (.sl (List.map Action.cs s5.2.2.2.2.2.2.1)), .d (.sl (List.map (eInt .i64) s5.2.2.2.2.2.2.2.1))] 55)], 0⟩) hr (Conv.mk (tau [(1009, 0), (1010, 2)]) ⟨⟨_, rfl, .inl rfl⟩, ⟨_, rfl, .inl rfl⟩, ⟨_, rfl, .inl rfl⟩, ⟨_, rfl, .inl rfl⟩, trivial⟩ ⟨rfl, rfl, trivial⟩ rfl rfl rfl rfl) ?_
    clear hr
    intro again6 s5 hr
    unfold vw_path_L1 at hr
    refine Ok.seq ?_
    refine Ok.seq ?_
    refine Ok.region ?_
    refine OkOps.x (aB s5.2.2.2.2.2.2.2.2) rfl trivial rfl ?_
    refine OkOps.nil ?_
    refine Ok.cond (b := s5.2.2.2.2.2.2.2.2) rfl (fun h7 => ?_) (fun h7 => ?_)
    · have hr := selT h7 hr
      refine Ok.skip ?_
      refine Ok.seq ?_
      refine Ok.block ?_
      refine Ok.region ?_
      refine OkOps.x (.c (.own 1009)) rfl trivial rfl ?_
      refine OkOps.x (.c (.loc 1010 0)) rfl trivial rfl ?_
      refine OkOps.x (aI s5.2.1) rfl trivial rfl ?_
      refine OkOps.m 0 (triBST (sz := 1) (enc := (eInt .i64)) (j := 3) ([s5.2.1]) rfl rfl rfl rfl rfl rfl rfl rfl (fun _ => rfl) trivial rfl rfl) ?_
      obtain ⟨x8, hx8, hr⟩ := bind_some hr
      refine OkOps.m2 0 (triAppV (enc := (eInt .i64)) (L := s5.1) (X := [s5.2.1]) (j := 1009) (j' := 4) hx8 rfl rfl rfl rfl rfl rfl (fun _ => rfl) (fun _ => rfl) trivial rfl rfl) ?_
      refine OkOps.x (.c (.own 4)) rfl trivial rfl ?_
      refine OkOps.nil ?_
      refine Ok.seq ?_
      refine Ok.seq ?_
      refine Ok.region ?_
      refine OkOps.x (.agg [cI s5.2.1, cI s5.2.2.1, cI s5.2.2.2.1, cS s5.2.2.2.2.1, .d (.sl (List.map Attr.cs s5.2.2.2.2.2.1)), .d (.sl (List.map Action.cs s5.2.2.2.2.2.2.1)), .d (.sl (List.map (eInt .i64) s5.2.2.2.2.2.2.2.1))]) rfl trivial rfl ?_
      refine OkOps.nil ?_
      refine Ok.region ?_
      refine OkOps.m 0 (triAlloc (j := 5) (cs := [cI 0, cI 0, cI 0, cS ByteArray.empty, .d (.v (.slice none 0 0)), .d (.v (.slice none 0 0)), .d (.v (.slice none 0 0))]) rfl rfl rfl rfl) ?_
      refine OkOps.w (triStore (cs' := [cI s5.2.1, cI s5.2.2.1, cI s5.2.2.2.1, cS s5.2.2.2.2.1, .d (.sl (List.map Attr.cs s5.2.2.2.2.2.1)), .d (.sl (List.map Action.cs s5.2.2.2.2.2.2.1)), .d (.sl (List.map (eInt .i64) s5.2.2.2.2.2.2.2.1))]) rfl rfl rfl rfl rfl rfl rfl rfl rfl) ?_
      refine OkOps.nil ?_
      refine Ok.region ?_
      refine OkOps.x (.c (.d (.mp true (encM (kInt .i64) Node.cs nodes)))) rfl trivial rfl ?_
      refine OkOps.x (.c (.loc 5 1)) rfl trivial rfl ?_
      refine OkOps.x (aI s5.2.2.1) rfl trivial rfl ?_
      obtain ⟨x9, hx9, hr⟩ := bind_some hr
      refine OkOps.q (triLookT (agg := true) (ek := (kInt .i64)) (ev := Node.cs) (L := nodes) (r := .agg [cI x9.1.ID, cI x9.1.Parent, cI x9.1.Kind, cS x9.1.Key, .d (.sl (List.map Attr.cs x9.1.Attrs)), .d (.sl (List.map Action.cs x9.1.Actions)), .d (.sl (List.map (eInt .i64) x9.1.Kids))]) hx9 rfl rfl rfl (keyInt Tryd.underlying3) rfl rfl (fun h => by cases h) rfl trivial rfl) ?_
      refine OkOps.q (triMv (v := .tup [.agg [cI x9.1.ID, cI x9.1.Parent, cI x9.1.Kind, cS x9.1.Key, .d (.sl (List.map Attr.cs x9.1.Attrs)), .d (.sl (List.map Action.cs x9.1.Actions)), .d (.sl (List.map (eInt .i64) x9.1.Kids))], aB x9.2]) rfl rfl) ?_
      refine OkOps.x (.agg [cI x9.1.ID, cI x9.1.Parent, cI x9.1.Kind, cS x9.1.Key, .d (.sl (List.map Attr.cs x9.1.Attrs)), .d (.sl (List.map Action.cs x9.1.Actions)), .d (.sl (List.map (eInt .i64) x9.1.Kids))]) rfl trivial rfl ?_
      refine OkOps.x (aB x9.2) rfl trivial rfl ?_
      refine OkOps.w (triStore (cs' := [cI x9.1.ID, cI x9.1.Parent, cI x9.1.Kind, cS x9.1.Key, .d (.sl (List.map Attr.cs x9.1.Attrs)), .d (.sl (List.map Action.cs x9.1.Actions)), .d (.sl (List.map (eInt .i64) x9.1.Kids))]) rfl rfl rfl rfl rfl rfl rfl rfl rfl) ?_
      refine OkOps.x (aB x9.2) rfl trivial rfl ?_
      refine OkOps.nil ?_
      exact ⟨(x8, x9.1.ID, x9.1.Parent, x9.1.Kind, x9.1.Key, x9.1.Attrs, x9.1.Actions, x9.1.Kids, x9.2), hr, (Conv.mk (tau [(1009, 4), (1010, 5)]) ⟨⟨_, rfl, .inl rfl⟩, ⟨_, rfl, .inl rfl⟩, ⟨_, rfl, .inl rfl⟩, ⟨_, rfl, .inl rfl⟩, trivial⟩ ⟨rfl, rfl, trivial⟩ rfl rfl rfl rfl)⟩
    · have hr := selF h7 hr
      refine Ok.exit ?_
      exact ⟨s5.1, hr, (Conv.mk (tau [(1006, 1009)]) ⟨⟨_, rfl, .inl rfl⟩, trivial⟩ ⟨rfl, trivial⟩ rfl rfl rfl rfl)⟩
theorem entry56 : Entry Tryd.prog 56 := ⟨_, Tryd.func56, by kernel_rfl, by kernel_rfl⟩
theorem istrconv_small_c (i : Int) {r : Str} (hr : istrconv_small i = some r) : Con Tryd.prog 114 [aI i] [] (.s (aS r)) [] := by
  unfold istrconv_small at hr
  refine Con.of_ok 15 0 [.tmp 2] [(0, .s (aI i))] Tryd.func114 rfl rfl rfl rfl rfl rfl rfl rfl fun w g M ρ _ => ?_
  refine Ok.seq ?_
  refine Ok.region ?_
  refine OkOps.x (aS (ByteArray.mk #[])) rfl trivial rfl ?_
  refine OkOps.nil ?_
  refine Ok.seq ?_
  refine Ok.seq ?_
  refine Ok.region ?_
  refine OkOps.x (aI i) rfl trivial rfl ?_
  refine OkOps.x (aB (decide (i < 10))) rfl trivial rfl ?_
  refine OkOps.nil ?_
  refine Ok.cond (b := decide (i < 10)) rfl (fun h1 => ?_) (fun h1 => ?_)
  · have hr := selT h1 hr
    refine Ok.seq ?_
    refine Ok.region ?_
    refine OkOps.x (aI i) rfl trivial rfl ?_
    refine OkOps.x (aI i) rfl trivial rfl ?_
    refine OkOps.x (aI (IntKind.i64.wrap (i + 1))) rfl trivial rfl ?_
    obtain ⟨x2, hx2, hr⟩ := bind_some hr
    refine OkOps.q (triSSlc hx2 rfl rfl rfl (.inr ⟨_, rfl⟩) (.inr ⟨_, rfl⟩) rfl trivial rfl) ?_
    refine OkOps.x (aS x2) rfl trivial rfl ?_
    refine OkOps.nil ?_
    refine Ok.ret ?_
    obtain rfl := Option.some.inj hr
    exact ⟨_, rfl, .inl rfl, trivial⟩
  · have hr := selF h1 hr
    refine Ok.skip ?_
    refine Ok.seq ?_
    refine Ok.region ?_
    refine OkOps.x (aI i) rfl trivial rfl ?_
    refine OkOps.x (aI (IntKind.i64.wrap (i * 2))) rfl trivial rfl ?_
    refine OkOps.x (aI i) rfl trivial rfl ?_
    refine OkOps.x (aI (IntKind.i64.wrap (i * 2))) rfl trivial rfl ?_
    refine OkOps.x (aI (IntKind.i64.wrap ((IntKind.i64.wrap (i * 2)) + 2))) rfl trivial rfl ?_
    obtain ⟨x3, hx3, hr⟩ := bind_some hr
    refine OkOps.q (triSSlc hx3 rfl rfl rfl (.inr ⟨_, rfl⟩) (.inr ⟨_, rfl⟩) rfl trivial rfl) ?_
    refine OkOps.x (aS x3) rfl trivial rfl ?_
    refine OkOps.nil ?_
    refine Ok.ret ?_
    obtain rfl := Option.some.inj hr
    exact ⟨_, rfl, .inl rfl, trivial⟩
theorem entry114 : Entry Tryd.prog 114 := ⟨_, Tryd.func114, by kernel_rfl, by kernel_rfl⟩
theorem istrconv_FormatInt_c (i : Int) (base : Int) {r : Str} (hr : istrconv_FormatInt i base = some r) : Con Tryd.prog 108 [aI i, aI base] [] (.s (aS r)) [] := by
  unfold istrconv_FormatInt at hr
  refine Con.of_ok 54 0 [.tmp 4] [(0, .s (aI i)), (1, .s (aI base))] Tryd.func108 rfl rfl rfl rfl rfl rfl rfl rfl fun w g M ρ _ => ?_
  refine Ok.seq ?_
  refine Ok.region ?_
  refine OkOps.x (aS (ByteArray.mk #[])) rfl trivial rfl ?_
  refine OkOps.nil ?_
  refine Ok.seq ?_
  refine Ok.seq ?_
  refine Ok.region ?_
  refine OkOps.x (aI base) rfl trivial rfl ?_
  refine OkOps.x (aB (base == 10)) rfl trivial rfl ?_
  refine OkOps.nil ?_
  refine Ok.cond (b := base == 10) rfl (fun h1 => ?_) (fun h1 => ?_)
  · have hr := selT h1 hr
    refine Ok.seq ?_
    refine Ok.seq ?_
    refine Ok.region ?_
    refine OkOps.x (aI i) rfl trivial rfl ?_
    refine OkOps.x (aB (decide (0 ≤ i))) rfl trivial rfl ?_
    refine OkOps.x (aB (decide (0 ≤ i))) rfl trivial rfl ?_
    refine OkOps.q (triQG (x := aI i) rfl rfl trivial rfl) ?_
    refine OkOps.q (triQG (x := aB (decide (i < 100))) rfl rfl ⟨fun h => h, trivial⟩ rfl) ?_
    refine OkOps.q (triAnd rfl rfl (fun h => h) rfl) ?_
    refine OkOps.nil ?_
    refine Ok.cond (b := (decide (0 ≤ i)) && (decide (i < 100))) rfl (fun h2 => ?_) (fun h2 => ?_)
    · have hr := selT h2 hr
      refine Ok.seq ?_
      refine Ok.region ?_
      refine OkOps.x (aI i) rfl trivial rfl ?_
      obtain ⟨x3, hx3, hr⟩ := bind_some hr
      refine OkOps.q (triCall (tau []) (.s (aS x3)) [] (istrconv_small_c _ hx3) rfl ⟨.inl rfl, trivial⟩ trivial entry114 trivial rfl rfl rfl rfl trivial rfl rfl rfl) ?_
      refine OkOps.x (aS x3) rfl trivial rfl ?_
      refine OkOps.nil ?_
      refine Ok.ret ?_
      obtain rfl := Option.some.inj hr
      exact ⟨_, rfl, .inl rfl, trivial⟩
    · have hr := selF h2 hr
      refine Ok.skip ?_
      refine Ok.seq ?_
      refine Ok.region ?_
      refine OkOps.m 0 (triAlloc (j := 0) (cs := ([] ++ (arrC 24 (dInt .u8) (fun _ => 0) ++ []))) rfl rfl rfl rfl) ?_
      refine OkOps.nil ?_
      refine Ok.seq ?_
      refine Ok.region ?_
      refine OkOps.x (aI i) rfl trivial rfl ?_
      refine OkOps.x (.c (.d (.v (.int .u64 (IntKind.u64.wrap i))))) rfl trivial rfl ?_
      refine OkOps.x (.c (.d (.v (.int .u64 (IntKind.u64.wrap i))))) rfl trivial rfl ?_
      refine OkOps.nil ?_
      obtain ⟨k5, hk5, hr⟩ := jn_some hr
      refine Ok.join (fun (s4 : Int) => ⟨[(0, .s (aI i)), (5, .s (.c (.loc 0 0))), (6, .s (.c (.d (.v (.int .u64 s4)))))], [(0, .blk ([] ++ (arrC 24 (dInt .u8) (fun _ => 0) ++ [])) 139)], 0⟩) k5 r (fun s4 hr => ?_) ?_
      · rw [hk5] at hr
        refine Ok.seq ?_
        refine Ok.region ?_
        refine OkOps.x (.c (.d (.v (.int .u64 s4)))) rfl trivial rfl ?_
        cases hr
      · clear hk5
        refine Ok.seq ?_
        refine Ok.region ?_
        refine OkOps.x (aI i) rfl trivial rfl ?_
        refine OkOps.x (aB (decide (i < 0))) rfl trivial rfl ?_
        refine OkOps.nil ?_
        refine Ok.cond (b := decide (i < 0)) rfl (fun h6 => ?_) (fun h6 => ?_)
        · have hr := selT h6 hr
          refine Ok.region ?_
          refine OkOps.x (.c (.d (.v (.int .u64 (IntKind.u64.wrap i))))) rfl trivial rfl ?_
          refine OkOps.x (.c (.d (.v (.int .u64 (IntKind.u64.wrap (0 - (IntKind.u64.wrap i))))))) rfl trivial rfl ?_
          refine OkOps.x (.c (.d (.v (.int .u64 (IntKind.u64.wrap (0 - (IntKind.u64.wrap i))))))) rfl trivial rfl ?_
          refine OkOps.nil ?_
          exact ⟨IntKind.u64.wrap (0 - (IntKind.u64.wrap i)), hr, (Conv.mk (tau []) ⟨⟨_, rfl, .inl rfl⟩, ⟨_, rfl, .inl rfl⟩, ⟨_, rfl, .inl rfl⟩, trivial⟩ ⟨rfl, trivial⟩ rfl rfl rfl rfl)⟩
        · have hr := selF h6 hr
          refine Ok.skip ?_
          exact ⟨IntKind.u64.wrap i, hr, (Conv.mk (tau []) ⟨⟨_, rfl, .inl rfl⟩, ⟨_, rfl, .inl rfl⟩, ⟨_, rfl, .inl rfl⟩, trivial⟩ ⟨rfl, trivial⟩ rfl rfl rfl rfl)⟩
  · have hr := selF h1 hr
    refine Ok.skip ?_
    refine Ok.seq ?_
    refine Ok.region ?_
    refine OkOps.x (aI i) rfl trivial rfl ?_
    refine OkOps.x (.c (.d (.v (.int .u64 (IntKind.u64.wrap i))))) rfl trivial rfl ?_
    refine OkOps.x (aI base) rfl trivial rfl ?_
    refine OkOps.x (aI i) rfl trivial rfl ?_
    refine OkOps.x (aB (decide (i < 0))) rfl trivial rfl ?_
    cases hr
theorem entry108 : Entry Tryd.prog 108 := ⟨_, Tryd.func108, by kernel_rfl, by kernel_rfl⟩
theorem istrconv_Itoa_c (i : Int) {r : Str} (hr : istrconv_Itoa i = some r) : Con Tryd.prog 82 [aI i] [] (.s (aS r)) [] := by
  unfold istrconv_Itoa at hr
  refine Con.of_ok 5 0 [.tmp 2] [(0, .s (aI i))] Tryd.func82 rfl rfl rfl rfl rfl rfl rfl rfl fun w g M ρ _ => ?_
  refine Ok.seq ?_
  refine Ok.region ?_
  refine OkOps.x (aS (ByteArray.mk #[])) rfl trivial rfl ?_
  refine OkOps.nil ?_
  refine Ok.seq ?_
  refine Ok.region ?_
  refine OkOps.x (aI i) rfl trivial rfl ?_
  obtain ⟨x1, hx1, hr⟩ := bind_some hr
  refine OkOps.q (triCall (tau []) (.s (aS x1)) [] (istrconv_FormatInt_c _ _ hx1) rfl ⟨.inl rfl, .inl rfl, trivial⟩ trivial entry108 trivial rfl rfl rfl rfl trivial rfl rfl rfl) ?_
  refine OkOps.x (aS x1) rfl trivial rfl ?_
  refine OkOps.nil ?_
  refine Ok.ret ?_
  obtain rfl := Option.some.inj hr
  exact ⟨_, rfl, .inl rfl, trivial⟩
theorem entry82 : Entry Tryd.prog 82 := ⟨_, Tryd.func82, by kernel_rfl, by kernel_rfl⟩
theorem strconv_Itoa_c (i : Int) {r : Str} (hr : strconv_Itoa i = some r) : Con Tryd.prog 57 [aI i] [] (.s (aS r)) [] := by
  unfold strconv_Itoa at hr
  refine Con.of_ok 5 0 [.tmp 2] [(0, .s (aI i))] Tryd.func57 rfl rfl rfl rfl rfl rfl rfl rfl fun w g M ρ _ => ?_
  refine Ok.seq ?_
  refine Ok.region ?_
  refine OkOps.x (aS (ByteArray.mk #[])) rfl trivial rfl ?_
  refine OkOps.nil ?_
  refine Ok.seq ?_
  refine Ok.region ?_
  refine OkOps.x (aI i) rfl trivial rfl ?_
  obtain ⟨x1, hx1, hr⟩ := bind_some hr
  refine OkOps.q (triCall (tau []) (.s (aS x1)) [] (istrconv_Itoa_c _ hx1) rfl ⟨.inl rfl, trivial⟩ trivial entry82 trivial rfl rfl rfl rfl trivial rfl rfl rfl) ?_
  refine OkOps.x (aS x1) rfl trivial rfl ?_
  refine OkOps.nil ?_
  refine Ok.ret ?_
  obtain rfl := Option.some.inj hr
  exact ⟨_, rfl, .inl rfl, trivial⟩
theorem entry57 : Entry Tryd.prog 57 := ⟨_, Tryd.func57, by kernel_rfl, by kernel_rfl⟩
theorem vw_PathName_c (a0 : Tree) (a1 : Int) {r : Str} (hr : vw_PathName a0 a1 = some r) : Con Tryd.prog 25 [.agg [cI a0.Root, cI a0.Next, .d (.sl (List.map Node.cs a0.Nodes))], aI a1] [] (.s (aS r)) [] := by
  unfold vw_PathName at hr
  refine Con.of_ok 82 0 [.tmp 4] [(0, .s (.agg [cI a0.Root, cI a0.Next, .d (.sl (List.map Node.cs a0.Nodes))])), (1, .s (aI a1))] Tryd.func25 rfl rfl rfl rfl rfl rfl rfl rfl fun w g M ρ _ => ?_
  refine Ok.seq ?_
  refine Ok.region ?_
  refine OkOps.m 0 (triBox (j := 0) (cs := [cI a0.Root, cI a0.Next, .d (.sl (List.map Node.cs a0.Nodes))]) rfl rfl rfl rfl rfl) ?_
  refine OkOps.x (aS (ByteArray.mk #[])) rfl trivial rfl ?_
  refine OkOps.nil ?_
  refine Ok.seq ?_
  refine Ok.region ?_
  refine OkOps.x (.agg [cI a0.Root, cI a0.Next, .d (.sl (List.map Node.cs a0.Nodes))]) rfl trivial rfl ?_
  obtain ⟨x1, hx1, hr⟩ := bind_some hr
  refine OkOps.q (triCall (tau []) (.tup [.c (.d (.mp true (encM (kInt .i64) Node.cs x1.1))), aB x1.2]) [] (vw_valid_c _ hx1) rfl ⟨.inl rfl, trivial⟩ trivial entry55 trivial rfl rfl rfl rfl trivial rfl rfl rfl) ?_
  refine OkOps.q (triMv (v := .tup [.c (.d (.mp true (encM (kInt .i64) Node.cs x1.1))), aB x1.2]) rfl rfl) ?_
  refine OkOps.x (.c (.d (.mp true (encM (kInt .i64) Node.cs x1.1)))) rfl trivial rfl ?_
  refine OkOps.x (aB x1.2) rfl trivial rfl ?_
  refine OkOps.x (.c (.d (.mp true (encM (kInt .i64) Node.cs x1.1)))) rfl trivial rfl ?_
  refine OkOps.x (aB x1.2) rfl trivial rfl ?_
  refine OkOps.nil ?_
  refine Ok.seq ?_
  refine Ok.seq ?_
  refine Ok.region ?_
  refine OkOps.x (aB x1.2) rfl trivial rfl ?_
  refine OkOps.x (aB (!x1.2)) rfl trivial rfl ?_
  refine OkOps.nil ?_
  refine Ok.cond (b := !x1.2) rfl (fun h2 => ?_) (fun h2 => ?_)
  · have hr := selT h2 hr
    refine Ok.seq ?_
    refine Ok.region ?_
    refine OkOps.x (aS (ByteArray.mk #[])) rfl trivial rfl ?_
    refine OkOps.nil ?_
    refine Ok.ret ?_
    obtain rfl := Option.some.inj hr
    exact ⟨_, rfl, .inl rfl, trivial⟩
  · have hr := selF h2 hr
    refine Ok.skip ?_
    refine Ok.seq ?_
    refine Ok.region ?_
    refine OkOps.x (aS (ByteArray.mk #[])) rfl trivial rfl ?_
    refine OkOps.nil ?_
    obtain ⟨k4, hk4, hr⟩ := jn_some hr
    refine Ok.join (fun (s3 : Str) => ⟨[(7, .s (aS s3))], [], 0⟩) k4 r (fun s3 hr => ?_) ?_
    · rw [hk4] at hr
      refine Ok.seq ?_
      refine Ok.region ?_
      refine OkOps.x (aS s3) rfl trivial rfl ?_
      refine OkOps.x (aS s3) rfl trivial rfl ?_
      refine OkOps.nil ?_
      refine Ok.ret ?_
      obtain rfl := Option.some.inj hr
      exact ⟨_, rfl, .inl rfl, trivial⟩
    · clear hk4
      refine Ok.seq ?_
      refine Ok.region ?_
      refine OkOps.x (.c (.d (.mp true (encM (kInt .i64) Node.cs x1.1)))) rfl trivial rfl ?_
      refine OkOps.x (aI a1) rfl trivial rfl ?_
      obtain ⟨x5, hx5, hr⟩ := bind_some hr
      refine OkOps.q (triCall (tau []) (.s (.c (.d (.sl (List.map (eInt .i64) x5))))) [] (vw_path_c _ _ hx5) rfl ⟨.inl rfl, .inl rfl, trivial⟩ trivial entry56 trivial rfl rfl rfl rfl trivial rfl rfl rfl) ?_
      refine OkOps.q (triLen (enc := (eInt .i64)) x5 rfl rfl trivial rfl) ?_
      refine OkOps.x (aI 0) rfl trivial rfl ?_
      refine OkOps.nil ?_
      refine Ok.block ?_
      refine Ok.loopK (fun (s6 : Str × Int) => ⟨[(5, .s (.c (.d (.mp true (encM (kInt .i64) Node.cs x1.1))))), (7, .s (aS s6.1)), (24, .s (.c (.d (.sl (List.map (eInt .i64) x5))))), (25, .s (aI (x5.length : Int))), (26, .s (aI s6.2))], [], 0⟩) hr (Conv.mk (tau []) ⟨⟨_, rfl, .inl rfl⟩, ⟨_, rfl, .inl rfl⟩, ⟨_, rfl, .inl rfl⟩, ⟨_, rfl, .inl rfl⟩, ⟨_, rfl, .inl rfl⟩, trivial⟩ trivial rfl rfl rfl rfl) ?_
      clear hr
      intro again7 s6 hr
      unfold vw_PathName_L2 at hr
      refine Ok.seq ?_
      refine Ok.region ?_
      refine OkOps.x (aB (decide (s6.2 < (x5.length : Int)))) rfl trivial rfl ?_
      refine OkOps.nil ?_
      refine Ok.seq ?_
      refine Ok.cond (b := decide (s6.2 < (x5.length : Int))) rfl (fun h8 => ?_) (fun h8 => ?_)
      · have hr := selT h8 hr
        refine Ok.skip ?_
        obtain ⟨k10, hk10, hr⟩ := jn_some hr
        refine Ok.join (fun (s9 : Str) => ⟨[(5, .s (.c (.d (.mp true (encM (kInt .i64) Node.cs x1.1))))), (7, .s (aS s9)), (24, .s (.c (.d (.sl (List.map (eInt .i64) x5))))), (25, .s (aI (x5.length : Int))), (26, .s (aI s6.2))], [], 0⟩) k10 r (fun s9 hr => ?_) ?_
        · rw [hk10] at hr
          refine Ok.region ?_
          refine OkOps.x (aI (IntKind.i64.wrap (s6.2 + 1))) rfl trivial rfl ?_
          refine OkOps.x (aI (IntKind.i64.wrap (s6.2 + 1))) rfl trivial rfl ?_
          refine OkOps.nil ?_
          exact ⟨(s9, IntKind.i64.wrap (s6.2 + 1)), hr, (Conv.mk (tau []) ⟨⟨_, rfl, .inl rfl⟩, ⟨_, rfl, .inl rfl⟩, ⟨_, rfl, .inl rfl⟩, ⟨_, rfl, .inl rfl⟩, ⟨_, rfl, .inl rfl⟩, trivial⟩ trivial rfl rfl rfl rfl)⟩
        · clear hk10
          refine Ok.block ?_
          refine Ok.seq ?_
          refine Ok.region ?_
          obtain ⟨x11, hx11, hr⟩ := bind_some hr
          refine OkOps.q (triIdx (enc := (eInt .i64)) (L := x5) (row := [dI x11]) hx11 rfl rfl rfl rfl (fun _ => rfl) trivial rfl) ?_
          refine OkOps.x (aI x11) rfl trivial rfl ?_
          refine OkOps.x (aI x11) rfl trivial rfl ?_
          refine OkOps.nil ?_
          refine Ok.seq ?_
          refine Ok.region ?_
          refine OkOps.x (.c (.d (.mp true (encM (kInt .i64) Node.cs x1.1)))) rfl trivial rfl ?_
          refine OkOps.x (aI x11) rfl trivial rfl ?_
          obtain ⟨x12, hx12, hr⟩ := bind_some hr
          refine OkOps.q (triLook (agg := true) (ek := (kInt .i64)) (ev := Node.cs) (L := x1.1) (r := .agg [cI x12.1.ID, cI x12.1.Parent, cI x12.1.Kind, cS x12.1.Key, .d (.sl (List.map Attr.cs x12.1.Attrs)), .d (.sl (List.map Action.cs x12.1.Actions)), .d (.sl (List.map (eInt .i64) x12.1.Kids))]) hx12 rfl rfl rfl (keyInt Tryd.underlying3) rfl rfl (fun h => by cases h) rfl trivial rfl) ?_
          refine OkOps.m 0 (triAlloc (j := 1) (cs := [cI 0, cI 0, cI 0, cS ByteArray.empty, .d (.v (.slice none 0 0)), .d (.v (.slice none 0 0)), .d (.v (.slice none 0 0))]) rfl rfl rfl rfl) ?_
          refine OkOps.w (triStore (cs' := [cI x12.1.ID, cI x12.1.Parent, cI x12.1.Kind, cS x12.1.Key, .d (.sl (List.map Attr.cs x12.1.Attrs)), .d (.sl (List.map Action.cs x12.1.Actions)), .d (.sl (List.map (eInt .i64) x12.1.Kids))]) rfl rfl rfl rfl rfl rfl rfl rfl rfl) ?_
          refine OkOps.nil ?_
          refine Ok.seq ?_
          refine Ok.seq ?_
          refine Ok.region ?_
          refine OkOps.x (.c (.loc 1 3)) rfl trivial rfl ?_
          refine OkOps.x (aS x12.1.Key) rfl trivial rfl ?_
          refine OkOps.x (aB (!(x12.1.Key.toList == (ByteArray.mk #[]).toList))) rfl trivial rfl ?_
          refine OkOps.nil ?_
          refine Ok.cond (b := !(x12.1.Key.toList == (ByteArray.mk #[]).toList)) rfl (fun h13 => ?_) (fun h13 => ?_)
          · have hr := selT h13 hr
            refine Ok.seq ?_
            refine Ok.region ?_
            refine OkOps.x (aS s6.1) rfl trivial rfl ?_
            refine OkOps.x (.c (.loc 1 3)) rfl trivial rfl ?_
            refine OkOps.x (aS x12.1.Key) rfl trivial rfl ?_
            obtain ⟨x14, hx14, hr⟩ := bind_some hr
            refine OkOps.q (triCat hx14 rfl rfl trivial rfl) ?_
            obtain ⟨x15, hx15, hr⟩ := bind_some hr
            refine OkOps.q (triCat hx15 rfl rfl trivial rfl) ?_
            refine OkOps.x (aS x15) rfl trivial rfl ?_
            refine OkOps.nil ?_
            refine Ok.exit ?_
            exact ⟨x15, hr, (Conv.mk (tau []) ⟨⟨_, rfl, .inl rfl⟩, ⟨_, rfl, .inl rfl⟩, ⟨_, rfl, .inl rfl⟩, ⟨_, rfl, .inl rfl⟩, ⟨_, rfl, .inl rfl⟩, trivial⟩ trivial rfl rfl rfl rfl)⟩
          · have hr := selF h13 hr
            refine Ok.skip ?_
            refine Ok.seq ?_
            refine Ok.region ?_
            refine OkOps.x (aI 0) rfl trivial rfl ?_
            refine OkOps.nil ?_
            obtain ⟨k17, hk17, hr⟩ := jn_some hr
            refine Ok.join (fun (s16 : Int) => ⟨[(5, .s (.c (.d (.mp true (encM (kInt .i64) Node.cs x1.1))))), (7, .s (aS s6.1)), (10, .s (.c (.loc 1 0))), (11, .s (aI s16)), (24, .s (.c (.d (.sl (List.map (eInt .i64) x5))))), (25, .s (aI (x5.length : Int))), (26, .s (aI s6.2))], [(1, .blk [cI x12.1.ID, cI x12.1.Parent, cI x12.1.Kind, cS x12.1.Key, .d (.sl (List.map Attr.cs x12.1.Attrs)), .d (.sl (List.map Action.cs x12.1.Actions)), .d (.sl (List.map (eInt .i64) x12.1.Kids))] 55)], 0⟩) k17 r (fun s16 hr => ?_) ?_
            · rw [hk17] at hr
              refine Ok.region ?_
              refine OkOps.x (aS s6.1) rfl trivial rfl ?_
              refine OkOps.x (.c (.loc 1 2)) rfl trivial rfl ?_
              refine OkOps.x (aI x12.1.Kind) rfl trivial rfl ?_
              obtain ⟨x18, hx18, hr⟩ := bind_some hr
              refine OkOps.q (triCall (tau []) (.s (aS x18)) [] (strconv_Itoa_c _ hx18) rfl ⟨.inl rfl, trivial⟩ trivial entry57 trivial rfl rfl rfl rfl trivial rfl rfl rfl) ?_
              obtain ⟨x19, hx19, hr⟩ := bind_some hr
              refine OkOps.q (triCat hx19 rfl rfl trivial rfl) ?_
              obtain ⟨x20, hx20, hr⟩ := bind_some hr
              refine OkOps.q (triCat hx20 rfl rfl trivial rfl) ?_
              refine OkOps.x (aI s16) rfl trivial rfl ?_
              obtain ⟨x21, hx21, hr⟩ := bind_some hr
              refine OkOps.q (triCall (tau []) (.s (aS x21)) [] (strconv_Itoa_c _ hx21) rfl ⟨.inl rfl, trivial⟩ trivial entry57 trivial rfl rfl rfl rfl trivial rfl rfl rfl) ?_
              obtain ⟨x22, hx22, hr⟩ := bind_some hr
              refine OkOps.q (triCat hx22 rfl rfl trivial rfl) ?_
              obtain ⟨x23, hx23, hr⟩ := bind_some hr
              refine OkOps.q (triCat hx23 rfl rfl trivial rfl) ?_
              refine OkOps.x (aS x23) rfl trivial rfl ?_
              refine OkOps.nil ?_
              exact ⟨x23, hr, (Conv.mk (tau []) ⟨⟨_, rfl, .inl rfl⟩, ⟨_, rfl, .inl rfl⟩, ⟨_, rfl, .inl rfl⟩, ⟨_, rfl, .inl rfl⟩, ⟨_, rfl, .inl rfl⟩, trivial⟩ trivial rfl rfl rfl rfl)⟩
            · clear hk17
              refine Ok.seq ?_
              refine Ok.region ?_
              refine OkOps.x (.c (.d (.mp true (encM (kInt .i64) Node.cs x1.1)))) rfl trivial rfl ?_
              refine OkOps.x (.c (.loc 1 1)) rfl trivial rfl ?_
              refine OkOps.x (aI x12.1.Parent) rfl trivial rfl ?_
              obtain ⟨x24, hx24, hr⟩ := bind_some hr
              refine OkOps.q (triLook (agg := true) (ek := (kInt .i64)) (ev := Node.cs) (L := x1.1) (r := .agg [cI x24.1.ID, cI x24.1.Parent, cI x24.1.Kind, cS x24.1.Key, .d (.sl (List.map Attr.cs x24.1.Attrs)), .d (.sl (List.map Action.cs x24.1.Actions)), .d (.sl (List.map (eInt .i64) x24.1.Kids))]) hx24 rfl rfl rfl (keyInt Tryd.underlying3) rfl rfl (fun h => by cases h) rfl trivial rfl) ?_
              refine OkOps.x (.c (.d (.sl (List.map (eInt .i64) x24.1.Kids)))) rfl trivial rfl ?_
              refine OkOps.q (triLen (enc := (eInt .i64)) x24.1.Kids rfl rfl trivial rfl) ?_
              refine OkOps.x (aI 0) rfl trivial rfl ?_
              refine OkOps.nil ?_
              refine Ok.block ?_
              refine Ok.loopK (fun (s25 : Int × Int) => ⟨[(5, .s (.c (.d (.mp true (encM (kInt .i64) Node.cs x1.1))))), (7, .s (aS s6.1)), (9, .s (aI x11)), (10, .s (.c (.loc 1 0))), (11, .s (aI s25.1)), (24, .s (.c (.d (.sl (List.map (eInt .i64) x5))))), (25, .s (aI (x5.length : Int))), (26, .s (aI s6.2)), (45, .s (.c (.d (.sl (List.map (eInt .i64) x24.1.Kids))))), (46, .s (aI (x24.1.Kids.length : Int))), (47, .s (aI s25.2))], [(1, .blk [cI x12.1.ID, cI x12.1.Parent, cI x12.1.Kind, cS x12.1.Key, .d (.sl (List.map Attr.cs x12.1.Attrs)), .d (.sl (List.map Action.cs x12.1.Actions)), .d (.sl (List.map (eInt .i64) x12.1.Kids))] 55)], 0⟩) hr (Conv.mk (tau []) ⟨⟨_, rfl, .inl rfl⟩, ⟨_, rfl, .inl rfl⟩, ⟨_, rfl, .inl rfl⟩, ⟨_, rfl, .inl rfl⟩, ⟨_, rfl, .inl rfl⟩, ⟨_, rfl, .inl rfl⟩, ⟨_, rfl, .inl rfl⟩, ⟨_, rfl, .inl rfl⟩, ⟨_, rfl, .inl rfl⟩, ⟨_, rfl, .inl rfl⟩, ⟨_, rfl, .inl rfl⟩, trivial⟩ ⟨rfl, trivial⟩ rfl rfl rfl rfl) ?_
              clear hr
              intro again26 s25 hr
              unfold vw_PathName_L1 at hr
              refine Ok.seq ?_
              refine Ok.region ?_
              refine OkOps.x (aB (decide (s25.2 < (x24.1.Kids.length : Int)))) rfl trivial rfl ?_
              refine OkOps.nil ?_
              refine Ok.seq ?_
              refine Ok.cond (b := decide (s25.2 < (x24.1.Kids.length : Int))) rfl (fun h27 => ?_) (fun h27 => ?_)
              · have hr := selT h27 hr
                refine Ok.skip ?_
                obtain ⟨k29, hk29, hr⟩ := jn_some hr
                refine Ok.join (fun (s28 : Int) => ⟨[(5, .s (.c (.d (.mp true (encM (kInt .i64) Node.cs x1.1))))), (7, .s (aS s6.1)), (9, .s (aI x11)), (10, .s (.c (.loc 1 0))), (11, .s (aI s28)), (24, .s (.c (.d (.sl (List.map (eInt .i64) x5))))), (25, .s (aI (x5.length : Int))), (26, .s (aI s6.2)), (45, .s (.c (.d (.sl (List.map (eInt .i64) x24.1.Kids))))), (46, .s (aI (x24.1.Kids.length : Int))), (47, .s (aI s25.2))], [(1, .blk [cI x12.1.ID, cI x12.1.Parent, cI x12.1.Kind, cS x12.1.Key, .d (.sl (List.map Attr.cs x12.1.Attrs)), .d (.sl (List.map Action.cs x12.1.Actions)), .d (.sl (List.map (eInt .i64) x12.1.Kids))] 55)], 0⟩) k29 r (fun s28 hr => ?_) ?_
                · rw [hk29] at hr
                  refine Ok.region ?_
                  refine OkOps.x (aI (IntKind.i64.wrap (s25.2 + 1))) rfl trivial rfl ?_
                  refine OkOps.x (aI (IntKind.i64.wrap (s25.2 + 1))) rfl trivial rfl ?_
                  refine OkOps.nil ?_
                  exact ⟨(s28, IntKind.i64.wrap (s25.2 + 1)), hr, (Conv.mk (tau []) ⟨⟨_, rfl, .inl rfl⟩, ⟨_, rfl, .inl rfl⟩, ⟨_, rfl, .inl rfl⟩, ⟨_, rfl, .inl rfl⟩, ⟨_, rfl, .inl rfl⟩, ⟨_, rfl, .inl rfl⟩, ⟨_, rfl, .inl rfl⟩, ⟨_, rfl, .inl rfl⟩, ⟨_, rfl, .inl rfl⟩, ⟨_, rfl, .inl rfl⟩, ⟨_, rfl, .inl rfl⟩, trivial⟩ ⟨rfl, trivial⟩ rfl rfl rfl rfl)⟩
                · clear hk29
                  refine Ok.block ?_
                  refine Ok.seq ?_
                  refine Ok.region ?_
                  obtain ⟨x30, hx30, hr⟩ := bind_some hr
                  refine OkOps.q (triIdx (enc := (eInt .i64)) (L := x24.1.Kids) (row := [dI x30]) hx30 rfl rfl rfl rfl (fun _ => rfl) trivial rfl) ?_
                  refine OkOps.x (aI x30) rfl trivial rfl ?_
                  refine OkOps.x (aI x30) rfl trivial rfl ?_
                  refine OkOps.nil ?_
                  refine Ok.seq ?_
                  refine Ok.seq ?_
                  refine Ok.region ?_
                  refine OkOps.x (aI x30) rfl trivial rfl ?_
                  refine OkOps.x (aI x11) rfl trivial rfl ?_
                  refine OkOps.x (aB (x30 == x11)) rfl trivial rfl ?_
                  refine OkOps.nil ?_
                  refine Ok.cond (b := x30 == x11) rfl (fun h31 => ?_) (fun h31 => ?_)
                  · have hr := selT h31 hr
                    refine Ok.exit ?_
                    exact ⟨s25.1, hr, (Conv.mk (tau []) ⟨⟨_, rfl, .inl rfl⟩, ⟨_, rfl, .inl rfl⟩, ⟨_, rfl, .inl rfl⟩, ⟨_, rfl, .inl rfl⟩, ⟨_, rfl, .inl rfl⟩, ⟨_, rfl, .inl rfl⟩, ⟨_, rfl, .inl rfl⟩, trivial⟩ ⟨rfl, trivial⟩ rfl rfl rfl rfl)⟩
                  · have hr := selF h31 hr
                    refine Ok.skip ?_
                    refine Ok.seq ?_
                    refine Ok.region ?_
                    refine OkOps.x (.c (.d (.mp true (encM (kInt .i64) Node.cs x1.1)))) rfl trivial rfl ?_
                    refine OkOps.x (aI x30) rfl trivial rfl ?_
                    obtain ⟨x32, hx32, hr⟩ := bind_some hr
                    refine OkOps.q (triLook (agg := true) (ek := (kInt .i64)) (ev := Node.cs) (L := x1.1) (r := .agg [cI x32.1.ID, cI x32.1.Parent, cI x32.1.Kind, cS x32.1.Key, .d (.sl (List.map Attr.cs x32.1.Attrs)), .d (.sl (List.map Action.cs x32.1.Actions)), .d (.sl (List.map (eInt .i64) x32.1.Kids))]) hx32 rfl rfl rfl (keyInt Tryd.underlying3) rfl rfl (fun h => by cases h) rfl trivial rfl) ?_
                    refine OkOps.m 0 (triAlloc (j := 2) (cs := [cI 0, cI 0, cI 0, cS ByteArray.empty, .d (.v (.slice none 0 0)), .d (.v (.slice none 0 0)), .d (.v (.slice none 0 0))]) rfl rfl rfl rfl) ?_
                    refine OkOps.w (triStore (cs' := [cI x32.1.ID, cI x32.1.Parent, cI x32.1.Kind, cS x32.1.Key, .d (.sl (List.map Attr.cs x32.1.Attrs)), .d (.sl (List.map Action.cs x32.1.Actions)), .d (.sl (List.map (eInt .i64) x32.1.Kids))]) rfl rfl rfl rfl rfl rfl rfl rfl rfl) ?_
                    refine OkOps.nil ?_
                    refine Ok.seq ?_
                    refine Ok.region ?_
                    refine OkOps.x (.c (.loc 2 3)) rfl trivial rfl ?_
                    refine OkOps.x (aS x32.1.Key) rfl trivial rfl ?_
                    refine OkOps.x (aB (x32.1.Key.toList == (ByteArray.mk #[]).toList)) rfl trivial rfl ?_
                    refine OkOps.x (aB (x32.1.Key.toList == (ByteArray.mk #[]).toList)) rfl trivial rfl ?_
                    refine OkOps.q (triQG (x := .c (.loc 2 2)) rfl rfl trivial rfl) ?_
                    refine OkOps.q (triQG (x := aI x32.1.Kind) rfl rfl ⟨fun h => h, trivial⟩ rfl) ?_
                    refine OkOps.q (triQG (x := .c (.loc 1 2)) rfl rfl trivial rfl) ?_
                    refine OkOps.q (triQG (x := aI x12.1.Kind) rfl rfl ⟨fun h => h, trivial⟩ rfl) ?_
                    refine OkOps.q (triQG (x := aB (x32.1.Kind == x12.1.Kind)) rfl rfl ⟨fun h => h, ⟨fun h => h, trivial⟩⟩ rfl) ?_
                    refine OkOps.q (triAnd rfl rfl (fun h => h) rfl) ?_
                    refine OkOps.nil ?_
                    refine Ok.cond (b := (x32.1.Key.toList == (ByteArray.mk #[]).toList) && (x32.1.Kind == x12.1.Kind)) rfl (fun h33 => ?_) (fun h33 => ?_)
                    · have hr := selT h33 hr
                      refine Ok.region ?_
                      refine OkOps.x (aI s25.1) rfl trivial rfl ?_
                      refine OkOps.x (aI (IntKind.i64.wrap (s25.1 + 1))) rfl trivial rfl ?_
                      refine OkOps.x (aI (IntKind.i64.wrap (s25.1 + 1))) rfl trivial rfl ?_
                      refine OkOps.nil ?_
                      exact ⟨IntKind.i64.wrap (s25.1 + 1), hr, (Conv.mk (tau []) ⟨⟨_, rfl, .inl rfl⟩, ⟨_, rfl, .inl rfl⟩, ⟨_, rfl, .inl rfl⟩, ⟨_, rfl, .inl rfl⟩, ⟨_, rfl, .inl rfl⟩, ⟨_, rfl, .inl rfl⟩, ⟨_, rfl, .inl rfl⟩, ⟨_, rfl, .inl rfl⟩, ⟨_, rfl, .inl rfl⟩, ⟨_, rfl, .inl rfl⟩, ⟨_, rfl, .inl rfl⟩, trivial⟩ ⟨rfl, trivial⟩ rfl rfl rfl rfl)⟩
                    · have hr := selF h33 hr
                      refine Ok.skip ?_
                      exact ⟨s25.1, hr, (Conv.mk (tau []) ⟨⟨_, rfl, .inl rfl⟩, ⟨_, rfl, .inl rfl⟩, ⟨_, rfl, .inl rfl⟩, ⟨_, rfl, .inl rfl⟩, ⟨_, rfl, .inl rfl⟩, ⟨_, rfl, .inl rfl⟩, ⟨_, rfl, .inl rfl⟩, ⟨_, rfl, .inl rfl⟩, ⟨_, rfl, .inl rfl⟩, ⟨_, rfl, .inl rfl⟩, ⟨_, rfl, .inl rfl⟩, trivial⟩ ⟨rfl, trivial⟩ rfl rfl rfl rfl)⟩
              · have hr := selF h27 hr
                refine Ok.exit ?_
                exact ⟨s25.1, hr, (Conv.mk (tau []) ⟨⟨_, rfl, .inl rfl⟩, ⟨_, rfl, .inl rfl⟩, ⟨_, rfl, .inl rfl⟩, ⟨_, rfl, .inl rfl⟩, ⟨_, rfl, .inl rfl⟩, ⟨_, rfl, .inl rfl⟩, ⟨_, rfl, .inl rfl⟩, trivial⟩ ⟨rfl, trivial⟩ rfl rfl rfl rfl)⟩
      · have hr := selF h8 hr
        refine Ok.exit ?_
        exact ⟨s6.1, hr, (Conv.mk (tau []) ⟨⟨_, rfl, .inl rfl⟩, trivial⟩ trivial rfl rfl rfl rfl)⟩
theorem entry25 : Entry Tryd.prog 25 := ⟨_, Tryd.func25, by kernel_rfl, by kernel_rfl⟩
end Go.Proofs.YtcfegecdlbbeaaaDoor

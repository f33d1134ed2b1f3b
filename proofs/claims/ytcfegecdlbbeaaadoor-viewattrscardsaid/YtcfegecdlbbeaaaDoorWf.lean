import Derived.Test.YtcfegecdlbbeaaaDoorAf
import Derived.Test.YtcfegecdlbbeaaaDoorWc
import Derived.Test.YtcfegecdlbbeaaaDoorProg
import Derived.KernelRfl
set_option maxRecDepth 100000
namespace Go.Proofs.YtcfegecdlbbeaaaDoor
open Go Go.E2
theorem vw_Attr_c (l : (List Attr)) (name : Str) {r : AValue × Bool} (hr : vw_Attr l name = some r) : Con Tryd.prog 28 [.c (.d (.sl (List.map Attr.cs l))), aS name] [] (.tup [.agg [cI r.1.Kind, cI r.1.N, cS r.1.S, .d (.sl (List.map AValue.cs r.1.L))], aB r.2]) [] := by
  unfold vw_Attr at hr
  refine Con.of_ok 23 0 [.cell 4 40, .tmp 5] [(0, .s (.c (.d (.sl (List.map Attr.cs l))))), (1, .s (aS name))] Tryd.func28 rfl rfl rfl rfl rfl rfl rfl rfl fun w g M ρ _ => ?_
  refine Ok.seq ?_
  refine Ok.region ?_
  refine OkOps.m 0 (triAlloc (j := 0) (cs := [cI 0, cI 0, cS ByteArray.empty, .d (.v (.slice none 0 0))]) rfl rfl rfl rfl) ?_
  refine OkOps.x (aB false) rfl trivial rfl ?_
  refine OkOps.nil ?_
  obtain ⟨k2, hk2, hr⟩ := jn_some hr
  refine Ok.join (fun (s1 : Unit) => ⟨[(4, .s (.c (.loc 0 0)))], [(0, .blk [cI 0, cI 0, cS ByteArray.empty, .d (.v (.slice none 0 0))] 40)], 0⟩) k2 r (fun s1 hr => ?_) ?_
  · rw [hk2] at hr
    refine Ok.seq ?_
    refine Ok.region ?_
    refine OkOps.x (.agg [cI 0, cI 0, cS ByteArray.empty, .d (.v (.slice none 0 0))]) rfl trivial rfl ?_
    refine OkOps.w (triStore (cs' := [cI 0, cI 0, cS ByteArray.empty, .d (.v (.slice none 0 0))]) rfl rfl rfl rfl rfl rfl rfl rfl rfl) ?_
    refine OkOps.x (aB false) rfl trivial rfl ?_
    refine OkOps.nil ?_
    refine Ok.ret ?_
    obtain rfl := Option.some.inj hr
    exact ⟨_, rfl, .inr rfl, trivial⟩
  · clear hk2
    refine Ok.seq ?_
    refine Ok.region ?_
    refine OkOps.x (.c (.d (.sl (List.map Attr.cs l)))) rfl trivial rfl ?_
    refine OkOps.q (triLen (enc := Attr.cs) l rfl rfl trivial rfl) ?_
    refine OkOps.x (aI 0) rfl trivial rfl ?_
    refine OkOps.nil ?_
    refine Ok.block ?_
    refine Ok.loopK (fun (s3 : Int) => ⟨[(1, .s (aS name)), (4, .s (.c (.loc 0 0))), (8, .s (.c (.d (.sl (List.map Attr.cs l))))), (9, .s (aI (l.length : Int))), (10, .s (aI s3))], [(0, .blk [cI 0, cI 0, cS ByteArray.empty, .d (.v (.slice none 0 0))] 40)], 0⟩) hr (Conv.mk (tau []) ⟨⟨_, rfl, .inl rfl⟩, ⟨_, rfl, .inl rfl⟩, ⟨_, rfl, .inl rfl⟩, ⟨_, rfl, .inl rfl⟩, ⟨_, rfl, .inl rfl⟩, trivial⟩ ⟨rfl, trivial⟩ rfl rfl rfl rfl) ?_
    clear hr
    intro again4 s3 hr
    unfold vw_Attr_L1 at hr
    refine Ok.seq ?_
    refine Ok.region ?_
    refine OkOps.x (aB (decide (s3 < (l.length : Int)))) rfl trivial rfl ?_
    refine OkOps.nil ?_
    refine Ok.seq ?_
    refine Ok.cond (b := decide (s3 < (l.length : Int))) rfl (fun h5 => ?_) (fun h5 => ?_)
    · have hr := selT h5 hr
      refine Ok.skip ?_
      refine Ok.seq ?_
      refine Ok.block ?_
      refine Ok.seq ?_
      refine Ok.region ?_
      obtain ⟨x6, hx6, hr⟩ := bind_some hr
      refine OkOps.q (triIdx (enc := Attr.cs) (L := l) (row := [dS x6.Name, dI x6.Value.Kind, dI x6.Value.N, dS x6.Value.S, .sl (List.map AValue.cs x6.Value.L)]) hx6 rfl rfl rfl rfl (fun _ => rfl) trivial rfl) ?_
      refine OkOps.x (.agg [cS x6.Name, cI x6.Value.Kind, cI x6.Value.N, cS x6.Value.S, .d (.sl (List.map AValue.cs x6.Value.L))]) rfl trivial rfl ?_
      refine OkOps.m 0 (triAlloc (j := 1) (cs := [cS ByteArray.empty, cI 0, cI 0, cS ByteArray.empty, .d (.v (.slice none 0 0))]) rfl rfl rfl rfl) ?_
      refine OkOps.w (triStore (cs' := [cS x6.Name, cI x6.Value.Kind, cI x6.Value.N, cS x6.Value.S, .d (.sl (List.map AValue.cs x6.Value.L))]) rfl rfl rfl rfl rfl rfl rfl rfl rfl) ?_
      refine OkOps.nil ?_
      refine Ok.seq ?_
      refine Ok.region ?_
      refine OkOps.x (.c (.loc 1 0)) rfl trivial rfl ?_
      refine OkOps.x (aS x6.Name) rfl trivial rfl ?_
      refine OkOps.x (aS name) rfl trivial rfl ?_
      refine OkOps.x (aB (x6.Name.toList == name.toList)) rfl trivial rfl ?_
      refine OkOps.nil ?_
      refine Ok.cond (b := x6.Name.toList == name.toList) rfl (fun h7 => ?_) (fun h7 => ?_)
      · have hr := selT h7 hr
        refine Ok.seq ?_
        refine Ok.region ?_
        refine OkOps.x (.c (.loc 1 1)) rfl trivial rfl ?_
        refine OkOps.x (.agg [cI x6.Value.Kind, cI x6.Value.N, cS x6.Value.S, .d (.sl (List.map AValue.cs x6.Value.L))]) rfl trivial rfl ?_
        obtain ⟨x8, hx8, hr⟩ := bind_some hr
        refine OkOps.q (triCall (tau []) (.s (.agg [cI x8.Kind, cI x8.N, cS x8.S, .d (.sl (List.map AValue.cs x8.L))])) [] (vw_value_c _ _ hx8) rfl ⟨.inl rfl, trivial⟩ trivial entry60 trivial rfl rfl rfl rfl trivial rfl rfl rfl) ?_
        refine OkOps.w (triStore (cs' := [cI x8.Kind, cI x8.N, cS x8.S, .d (.sl (List.map AValue.cs x8.L))]) rfl rfl rfl rfl rfl rfl rfl rfl rfl) ?_
        refine OkOps.x (aB true) rfl trivial rfl ?_
        refine OkOps.nil ?_
        refine Ok.ret ?_
        obtain rfl := Option.some.inj hr
        exact ⟨_, rfl, .inl rfl, trivial⟩
      · have hr := selF h7 hr
        refine Ok.skip ?_
        refine Ok.region ?_
        refine OkOps.x (aI (IntKind.i64.wrap (s3 + 1))) rfl trivial rfl ?_
        refine OkOps.x (aI (IntKind.i64.wrap (s3 + 1))) rfl trivial rfl ?_
        refine OkOps.nil ?_
        exact ⟨IntKind.i64.wrap (s3 + 1), hr, (Conv.mk (tau []) ⟨⟨_, rfl, .inl rfl⟩, ⟨_, rfl, .inl rfl⟩, ⟨_, rfl, .inl rfl⟩, ⟨_, rfl, .inl rfl⟩, ⟨_, rfl, .inl rfl⟩, trivial⟩ ⟨rfl, trivial⟩ rfl rfl rfl rfl)⟩
    · have hr := selF h5 hr
      refine Ok.exit ?_
      exact ⟨(), hr, (Conv.mk (tau []) ⟨⟨_, rfl, .inl rfl⟩, trivial⟩ ⟨rfl, trivial⟩ rfl rfl rfl rfl)⟩
theorem entry28 : Entry Tryd.prog 28 := ⟨_, Tryd.func28, by kernel_rfl, by kernel_rfl⟩
theorem vw_Text_c (l : (List Attr)) (name : Str) {r : Str} (hr : vw_Text l name = some r) : Con Tryd.prog 31 [.c (.d (.sl (List.map Attr.cs l))), aS name] [] (.s (aS r)) [] := by
  unfold vw_Text at hr
  refine Con.of_ok 18 0 [.tmp 4] [(0, .s (.c (.d (.sl (List.map Attr.cs l))))), (1, .s (aS name))] Tryd.func31 rfl rfl rfl rfl rfl rfl rfl rfl fun w g M ρ _ => ?_
  refine Ok.seq ?_
  refine Ok.region ?_
  refine OkOps.x (aS (ByteArray.mk #[])) rfl trivial rfl ?_
  refine OkOps.nil ?_
  refine Ok.seq ?_
  refine Ok.seq ?_
  refine Ok.region ?_
  refine OkOps.x (.c (.d (.sl (List.map Attr.cs l)))) rfl trivial rfl ?_
  refine OkOps.x (aS name) rfl trivial rfl ?_
  obtain ⟨x1, hx1, hr⟩ := bind_some hr
  refine OkOps.q (triCall (tau []) (.tup [.agg [cI x1.1.Kind, cI x1.1.N, cS x1.1.S, .d (.sl (List.map AValue.cs x1.1.L))], aB x1.2]) [] (vw_Attr_c _ _ hx1) rfl ⟨.inl rfl, .inl rfl, trivial⟩ trivial entry28 trivial rfl rfl rfl rfl trivial rfl rfl rfl) ?_
  refine OkOps.q (triMv (v := .tup [.agg [cI x1.1.Kind, cI x1.1.N, cS x1.1.S, .d (.sl (List.map AValue.cs x1.1.L))], aB x1.2]) rfl rfl) ?_
  refine OkOps.x (.agg [cI x1.1.Kind, cI x1.1.N, cS x1.1.S, .d (.sl (List.map AValue.cs x1.1.L))]) rfl trivial rfl ?_
  refine OkOps.x (aB x1.2) rfl trivial rfl ?_
  refine OkOps.m 0 (triAlloc (j := 0) (cs := [cI 0, cI 0, cS ByteArray.empty, .d (.v (.slice none 0 0))]) rfl rfl rfl rfl) ?_
  refine OkOps.w (triStore (cs' := [cI x1.1.Kind, cI x1.1.N, cS x1.1.S, .d (.sl (List.map AValue.cs x1.1.L))]) rfl rfl rfl rfl rfl rfl rfl rfl rfl) ?_
  refine OkOps.x (aB x1.2) rfl trivial rfl ?_
  refine OkOps.nil ?_
  refine Ok.seq ?_
  refine Ok.region ?_
  refine OkOps.x (.c (.loc 0 0)) rfl trivial rfl ?_
  refine OkOps.x (aI x1.1.Kind) rfl trivial rfl ?_
  refine OkOps.x (aB (x1.1.Kind == 3)) rfl trivial rfl ?_
  refine OkOps.nil ?_
  refine Ok.cond (b := x1.1.Kind == 3) rfl (fun h2 => ?_) (fun h2 => ?_)
  · have hr := selT h2 hr
    refine Ok.seq ?_
    refine Ok.region ?_
    refine OkOps.x (.c (.loc 0 2)) rfl trivial rfl ?_
    refine OkOps.x (aS x1.1.S) rfl trivial rfl ?_
    refine OkOps.x (aS x1.1.S) rfl trivial rfl ?_
    refine OkOps.nil ?_
    refine Ok.ret ?_
    obtain rfl := Option.some.inj hr
    exact ⟨_, rfl, .inl rfl, trivial⟩
  · have hr := selF h2 hr
    refine Ok.skip ?_
    refine Ok.seq ?_
    refine Ok.region ?_
    refine OkOps.x (aS (ByteArray.mk #[])) rfl trivial rfl ?_
    refine OkOps.nil ?_
    refine Ok.ret ?_
    obtain rfl := Option.some.inj hr
    exact ⟨_, rfl, .inl rfl, trivial⟩
theorem entry31 : Entry Tryd.prog 31 := ⟨_, Tryd.func31, by kernel_rfl, by kernel_rfl⟩
theorem vw_Number_c (l : (List Attr)) (name : Str) (other : Int) {r : Int} (hr : vw_Number l name other = some r) : Con Tryd.prog 33 [.c (.d (.sl (List.map Attr.cs l))), aS name, aI other] [] (.s (aI r)) [] := by
  unfold vw_Number at hr
  refine Con.of_ok 21 0 [.tmp 6] [(0, .s (.c (.d (.sl (List.map Attr.cs l))))), (1, .s (aS name)), (2, .s (aI other))] Tryd.func33 rfl rfl rfl rfl rfl rfl rfl rfl fun w g M ρ _ => ?_
  refine Ok.seq ?_
  refine Ok.region ?_
  refine OkOps.x (aI 0) rfl trivial rfl ?_
  refine OkOps.nil ?_
  refine Ok.seq ?_
  refine Ok.seq ?_
  refine Ok.region ?_
  refine OkOps.x (.c (.d (.sl (List.map Attr.cs l)))) rfl trivial rfl ?_
  refine OkOps.x (aS name) rfl trivial rfl ?_
  obtain ⟨x1, hx1, hr⟩ := bind_some hr
  refine OkOps.q (triCall (tau []) (.tup [.agg [cI x1.1.Kind, cI x1.1.N, cS x1.1.S, .d (.sl (List.map AValue.cs x1.1.L))], aB x1.2]) [] (vw_Attr_c _ _ hx1) rfl ⟨.inl rfl, .inl rfl, trivial⟩ trivial entry28 trivial rfl rfl rfl rfl trivial rfl rfl rfl) ?_
  refine OkOps.q (triMv (v := .tup [.agg [cI x1.1.Kind, cI x1.1.N, cS x1.1.S, .d (.sl (List.map AValue.cs x1.1.L))], aB x1.2]) rfl rfl) ?_
  refine OkOps.x (.agg [cI x1.1.Kind, cI x1.1.N, cS x1.1.S, .d (.sl (List.map AValue.cs x1.1.L))]) rfl trivial rfl ?_
  refine OkOps.x (aB x1.2) rfl trivial rfl ?_
  refine OkOps.m 0 (triAlloc (j := 0) (cs := [cI 0, cI 0, cS ByteArray.empty, .d (.v (.slice none 0 0))]) rfl rfl rfl rfl) ?_
  refine OkOps.w (triStore (cs' := [cI x1.1.Kind, cI x1.1.N, cS x1.1.S, .d (.sl (List.map AValue.cs x1.1.L))]) rfl rfl rfl rfl rfl rfl rfl rfl rfl) ?_
  refine OkOps.x (aB x1.2) rfl trivial rfl ?_
  refine OkOps.nil ?_
  refine Ok.seq ?_
  refine Ok.region ?_
  refine OkOps.x (.c (.loc 0 0)) rfl trivial rfl ?_
  refine OkOps.x (aI x1.1.Kind) rfl trivial rfl ?_
  refine OkOps.x (aB (x1.1.Kind == 1)) rfl trivial rfl ?_
  refine OkOps.nil ?_
  refine Ok.cond (b := x1.1.Kind == 1) rfl (fun h2 => ?_) (fun h2 => ?_)
  · have hr := selT h2 hr
    refine Ok.seq ?_
    refine Ok.region ?_
    refine OkOps.x (.c (.loc 0 1)) rfl trivial rfl ?_
    refine OkOps.x (aI x1.1.N) rfl trivial rfl ?_
    refine OkOps.x (aI x1.1.N) rfl trivial rfl ?_
    refine OkOps.nil ?_
    refine Ok.ret ?_
    obtain rfl := Option.some.inj hr
    exact ⟨_, rfl, .inl rfl, trivial⟩
  · have hr := selF h2 hr
    refine Ok.skip ?_
    refine Ok.seq ?_
    refine Ok.region ?_
    refine OkOps.x (aI other) rfl trivial rfl ?_
    refine OkOps.x (aI other) rfl trivial rfl ?_
    refine OkOps.nil ?_
    refine Ok.ret ?_
    obtain rfl := Option.some.inj hr
    exact ⟨_, rfl, .inl rfl, trivial⟩
theorem entry33 : Entry Tryd.prog 33 := ⟨_, Tryd.func33, by kernel_rfl, by kernel_rfl⟩
theorem vw_Flag_c (l : (List Attr)) (name : Str) {r : Bool} (hr : vw_Flag l name = some r) : Con Tryd.prog 35 [.c (.d (.sl (List.map Attr.cs l))), aS name] [] (.s (aB r)) [] := by
  unfold vw_Flag at hr
  refine Con.of_ok 21 0 [.tmp 4] [(0, .s (.c (.d (.sl (List.map Attr.cs l))))), (1, .s (aS name))] Tryd.func35 rfl rfl rfl rfl rfl rfl rfl rfl fun w g M ρ _ => ?_
  refine Ok.seq ?_
  refine Ok.region ?_
  refine OkOps.x (aB false) rfl trivial rfl ?_
  refine OkOps.nil ?_
  refine Ok.seq ?_
  refine Ok.region ?_
  refine OkOps.x (.c (.d (.sl (List.map Attr.cs l)))) rfl trivial rfl ?_
  refine OkOps.x (aS name) rfl trivial rfl ?_
  obtain ⟨x1, hx1, hr⟩ := bind_some hr
  refine OkOps.q (triCall (tau []) (.tup [.agg [cI x1.1.Kind, cI x1.1.N, cS x1.1.S, .d (.sl (List.map AValue.cs x1.1.L))], aB x1.2]) [] (vw_Attr_c _ _ hx1) rfl ⟨.inl rfl, .inl rfl, trivial⟩ trivial entry28 trivial rfl rfl rfl rfl trivial rfl rfl rfl) ?_
  refine OkOps.q (triMv (v := .tup [.agg [cI x1.1.Kind, cI x1.1.N, cS x1.1.S, .d (.sl (List.map AValue.cs x1.1.L))], aB x1.2]) rfl rfl) ?_
  refine OkOps.x (.agg [cI x1.1.Kind, cI x1.1.N, cS x1.1.S, .d (.sl (List.map AValue.cs x1.1.L))]) rfl trivial rfl ?_
  refine OkOps.x (aB x1.2) rfl trivial rfl ?_
  refine OkOps.m 0 (triAlloc (j := 0) (cs := [cI 0, cI 0, cS ByteArray.empty, .d (.v (.slice none 0 0))]) rfl rfl rfl rfl) ?_
  refine OkOps.w (triStore (cs' := [cI x1.1.Kind, cI x1.1.N, cS x1.1.S, .d (.sl (List.map AValue.cs x1.1.L))]) rfl rfl rfl rfl rfl rfl rfl rfl rfl) ?_
  refine OkOps.x (aB x1.2) rfl trivial rfl ?_
  refine OkOps.nil ?_
  refine Ok.seq ?_
  refine Ok.region ?_
  refine OkOps.x (.c (.loc 0 0)) rfl trivial rfl ?_
  refine OkOps.x (aI x1.1.Kind) rfl trivial rfl ?_
  refine OkOps.x (aB (x1.1.Kind == 2)) rfl trivial rfl ?_
  refine OkOps.x (aB (x1.1.Kind == 2)) rfl trivial rfl ?_
  refine OkOps.q (triQG (x := .c (.loc 0 1)) rfl rfl trivial rfl) ?_
  refine OkOps.q (triQG (x := aI x1.1.N) rfl rfl ⟨fun h => h, trivial⟩ rfl) ?_
  refine OkOps.q (triQG (x := aB (x1.1.N == 1)) rfl rfl ⟨fun h => h, trivial⟩ rfl) ?_
  refine OkOps.q (triAnd rfl rfl (fun h => h) rfl) ?_
  refine OkOps.x (aB ((x1.1.Kind == 2) && (x1.1.N == 1))) rfl trivial rfl ?_
  refine OkOps.nil ?_
  refine Ok.ret ?_
  obtain rfl := Option.some.inj hr
  exact ⟨_, rfl, .inl rfl, trivial⟩
theorem entry35 : Entry Tryd.prog 35 := ⟨_, Tryd.func35, by kernel_rfl, by kernel_rfl⟩
theorem r14_Attr_c (l : (List Attr)) (name : Str) {r : AValue × Bool} (hr : r14_Attr l name = some r) : Con Tryd.prog 29 [.c (.d (.sl (List.map Attr.cs l))), aS name] [] (.tup [.agg [cI r.1.Kind, cI r.1.N, cS r.1.S, .d (.sl (List.map AValue.cs r.1.L))], aB r.2]) [] := by
  unfold r14_Attr at hr
  refine Con.of_ok 26 0 [.cell 4 40, .tmp 5] [(0, .s (.c (.d (.sl (List.map Attr.cs l))))), (1, .s (aS name))] Tryd.func29 rfl rfl rfl rfl rfl rfl rfl rfl fun w g M ρ _ => ?_
  refine Ok.seq ?_
  refine Ok.region ?_
  refine OkOps.m 0 (triAlloc (j := 0) (cs := [cI 0, cI 0, cS ByteArray.empty, .d (.v (.slice none 0 0))]) rfl rfl rfl rfl) ?_
  refine OkOps.x (aB false) rfl trivial rfl ?_
  refine OkOps.nil ?_
  obtain ⟨k2, hk2, hr⟩ := jn_some hr
  refine Ok.join (fun (s1 : Unit) => ⟨[(4, .s (.c (.loc 0 0)))], [(0, .blk [cI 0, cI 0, cS ByteArray.empty, .d (.v (.slice none 0 0))] 40)], 0⟩) k2 r (fun s1 hr => ?_) ?_
  · rw [hk2] at hr
    refine Ok.seq ?_
    refine Ok.region ?_
    refine OkOps.x (.agg [cI 0, cI 0, cS ByteArray.empty, .d (.v (.slice none 0 0))]) rfl trivial rfl ?_
    refine OkOps.w (triStore (cs' := [cI 0, cI 0, cS ByteArray.empty, .d (.v (.slice none 0 0))]) rfl rfl rfl rfl rfl rfl rfl rfl rfl) ?_
    refine OkOps.x (aB false) rfl trivial rfl ?_
    refine OkOps.nil ?_
    refine Ok.ret ?_
    obtain rfl := Option.some.inj hr
    exact ⟨_, rfl, .inr rfl, trivial⟩
  · clear hk2
    refine Ok.seq ?_
    refine Ok.region ?_
    refine OkOps.x (aI 0) rfl trivial rfl ?_
    refine OkOps.nil ?_
    refine Ok.block ?_
    refine Ok.loopK (fun (s3 : Int) => ⟨[(0, .s (.c (.d (.sl (List.map Attr.cs l))))), (1, .s (aS name)), (4, .s (.c (.loc 0 0))), (6, .s (aI s3))], [(0, .blk [cI 0, cI 0, cS ByteArray.empty, .d (.v (.slice none 0 0))] 40)], 0⟩) hr (Conv.mk (tau []) ⟨⟨_, rfl, .inl rfl⟩, ⟨_, rfl, .inl rfl⟩, ⟨_, rfl, .inl rfl⟩, ⟨_, rfl, .inl rfl⟩, trivial⟩ ⟨rfl, trivial⟩ rfl rfl rfl rfl) ?_
    clear hr
    intro again4 s3 hr
    unfold r14_Attr_L1 at hr
    refine Ok.seq ?_
    refine Ok.seq ?_
    refine Ok.region ?_
    refine OkOps.x (aI s3) rfl trivial rfl ?_
    refine OkOps.x (.c (.d (.sl (List.map Attr.cs l)))) rfl trivial rfl ?_
    refine OkOps.q (triLen (enc := Attr.cs) l rfl rfl trivial rfl) ?_
    refine OkOps.x (aB (decide (s3 < (l.length : Int)))) rfl trivial rfl ?_
    refine OkOps.nil ?_
    refine Ok.cond (b := decide (s3 < (l.length : Int))) rfl (fun h5 => ?_) (fun h5 => ?_)
    · have hr := selT h5 hr
      refine Ok.skip ?_
      refine Ok.seq ?_
      refine Ok.block ?_
      refine Ok.seq ?_
      refine Ok.region ?_
      refine OkOps.x (.c (.d (.sl (List.map Attr.cs l)))) rfl trivial rfl ?_
      refine OkOps.x (aI s3) rfl trivial rfl ?_
      obtain ⟨x6, hx6, hr⟩ := bind_some hr
      refine OkOps.q (triIdx (enc := Attr.cs) (L := l) (row := [dS x6.Name, dI x6.Value.Kind, dI x6.Value.N, dS x6.Value.S, .sl (List.map AValue.cs x6.Value.L)]) hx6 rfl rfl rfl rfl (fun _ => rfl) trivial rfl) ?_
      refine OkOps.x (.c (.pt [dS x6.Name, dI x6.Value.Kind, dI x6.Value.N, dS x6.Value.S, .sl (List.map AValue.cs x6.Value.L)])) rfl trivial rfl ?_
      refine OkOps.x (aS x6.Name) rfl trivial rfl ?_
      refine OkOps.x (aS name) rfl trivial rfl ?_
      refine OkOps.x (aB (x6.Name.toList == name.toList)) rfl trivial rfl ?_
      refine OkOps.nil ?_
      refine Ok.cond (b := x6.Name.toList == name.toList) rfl (fun h7 => ?_) (fun h7 => ?_)
      · have hr := selT h7 hr
        refine Ok.seq ?_
        refine Ok.region ?_
        refine OkOps.x (.c (.d (.sl (List.map Attr.cs l)))) rfl trivial rfl ?_
        refine OkOps.x (aI s3) rfl trivial rfl ?_
        obtain ⟨x8, hx8, hr⟩ := bind_some hr
        refine OkOps.q (triIdx (enc := Attr.cs) (L := l) (row := [dS x8.Name, dI x8.Value.Kind, dI x8.Value.N, dS x8.Value.S, .sl (List.map AValue.cs x8.Value.L)]) hx8 rfl rfl rfl rfl (fun _ => rfl) trivial rfl) ?_
        refine OkOps.x (.c (.pt [dI x8.Value.Kind, dI x8.Value.N, dS x8.Value.S, .sl (List.map AValue.cs x8.Value.L)])) rfl trivial rfl ?_
        refine OkOps.x (.agg [cI x8.Value.Kind, cI x8.Value.N, cS x8.Value.S, .d (.sl (List.map AValue.cs x8.Value.L))]) rfl trivial rfl ?_
        refine OkOps.w (triStore (cs' := [cI x8.Value.Kind, cI x8.Value.N, cS x8.Value.S, .d (.sl (List.map AValue.cs x8.Value.L))]) rfl rfl rfl rfl rfl rfl rfl rfl rfl) ?_
        refine OkOps.x (aB true) rfl trivial rfl ?_
        refine OkOps.nil ?_
        refine Ok.ret ?_
        obtain rfl := Option.some.inj hr
        exact ⟨_, rfl, .inl rfl, trivial⟩
      · have hr := selF h7 hr
        refine Ok.skip ?_
        refine Ok.region ?_
        refine OkOps.x (aI s3) rfl trivial rfl ?_
        refine OkOps.x (aI (IntKind.i64.wrap (s3 + 1))) rfl trivial rfl ?_
        refine OkOps.x (aI (IntKind.i64.wrap (s3 + 1))) rfl trivial rfl ?_
        refine OkOps.nil ?_
        exact ⟨IntKind.i64.wrap (s3 + 1), hr, (Conv.mk (tau []) ⟨⟨_, rfl, .inl rfl⟩, ⟨_, rfl, .inl rfl⟩, ⟨_, rfl, .inl rfl⟩, ⟨_, rfl, .inl rfl⟩, trivial⟩ ⟨rfl, trivial⟩ rfl rfl rfl rfl)⟩
    · have hr := selF h5 hr
      refine Ok.exit ?_
      exact ⟨(), hr, (Conv.mk (tau []) ⟨⟨_, rfl, .inl rfl⟩, trivial⟩ ⟨rfl, trivial⟩ rfl rfl rfl rfl)⟩
theorem entry29 : Entry Tryd.prog 29 := ⟨_, Tryd.func29, by kernel_rfl, by kernel_rfl⟩
theorem r14_Text_c (l : (List Attr)) (name : Str) {r : Str} (hr : r14_Text l name = some r) : Con Tryd.prog 32 [.c (.d (.sl (List.map Attr.cs l))), aS name] [] (.s (aS r)) [] := by
  unfold r14_Text at hr
  refine Con.of_ok 18 0 [.tmp 4] [(0, .s (.c (.d (.sl (List.map Attr.cs l))))), (1, .s (aS name))] Tryd.func32 rfl rfl rfl rfl rfl rfl rfl rfl fun w g M ρ _ => ?_
  refine Ok.seq ?_
  refine Ok.region ?_
  refine OkOps.x (aS (ByteArray.mk #[])) rfl trivial rfl ?_
  refine OkOps.nil ?_
  refine Ok.seq ?_
  refine Ok.region ?_
  refine OkOps.x (.c (.d (.sl (List.map Attr.cs l)))) rfl trivial rfl ?_
  refine OkOps.x (aS name) rfl trivial rfl ?_
  obtain ⟨x1, hx1, hr⟩ := bind_some hr
  refine OkOps.q (triCall (tau []) (.tup [.agg [cI x1.1.Kind, cI x1.1.N, cS x1.1.S, .d (.sl (List.map AValue.cs x1.1.L))], aB x1.2]) [] (r14_Attr_c _ _ hx1) rfl ⟨.inl rfl, .inl rfl, trivial⟩ trivial entry29 trivial rfl rfl rfl rfl trivial rfl rfl rfl) ?_
  refine OkOps.q (triMv (v := .tup [.agg [cI x1.1.Kind, cI x1.1.N, cS x1.1.S, .d (.sl (List.map AValue.cs x1.1.L))], aB x1.2]) rfl rfl) ?_
  refine OkOps.x (.agg [cI x1.1.Kind, cI x1.1.N, cS x1.1.S, .d (.sl (List.map AValue.cs x1.1.L))]) rfl trivial rfl ?_
  refine OkOps.x (aB x1.2) rfl trivial rfl ?_
  refine OkOps.m 0 (triAlloc (j := 0) (cs := [cI 0, cI 0, cS ByteArray.empty, .d (.v (.slice none 0 0))]) rfl rfl rfl rfl) ?_
  refine OkOps.w (triStore (cs' := [cI x1.1.Kind, cI x1.1.N, cS x1.1.S, .d (.sl (List.map AValue.cs x1.1.L))]) rfl rfl rfl rfl rfl rfl rfl rfl rfl) ?_
  refine OkOps.x (aB x1.2) rfl trivial rfl ?_
  refine OkOps.nil ?_
  refine Ok.seq ?_
  refine Ok.seq ?_
  refine Ok.region ?_
  refine OkOps.x (.c (.loc 0 0)) rfl trivial rfl ?_
  refine OkOps.x (aI x1.1.Kind) rfl trivial rfl ?_
  refine OkOps.x (aB (x1.1.Kind != 3)) rfl trivial rfl ?_
  refine OkOps.nil ?_
  refine Ok.cond (b := x1.1.Kind != 3) rfl (fun h2 => ?_) (fun h2 => ?_)
  · have hr := selT h2 hr
    refine Ok.seq ?_
    refine Ok.region ?_
    refine OkOps.x (aS (ByteArray.mk #[])) rfl trivial rfl ?_
    refine OkOps.nil ?_
    refine Ok.ret ?_
    obtain rfl := Option.some.inj hr
    exact ⟨_, rfl, .inl rfl, trivial⟩
  · have hr := selF h2 hr
    refine Ok.skip ?_
    refine Ok.seq ?_
    refine Ok.region ?_
    refine OkOps.x (.c (.loc 0 2)) rfl trivial rfl ?_
    refine OkOps.x (aS x1.1.S) rfl trivial rfl ?_
    refine OkOps.x (aS x1.1.S) rfl trivial rfl ?_
    refine OkOps.nil ?_
    refine Ok.ret ?_
    obtain rfl := Option.some.inj hr
    exact ⟨_, rfl, .inl rfl, trivial⟩
theorem entry32 : Entry Tryd.prog 32 := ⟨_, Tryd.func32, by kernel_rfl, by kernel_rfl⟩
theorem r14_Number_c (l : (List Attr)) (name : Str) (other : Int) {r : Int} (hr : r14_Number l name other = some r) : Con Tryd.prog 34 [.c (.d (.sl (List.map Attr.cs l))), aS name, aI other] [] (.s (aI r)) [] := by
  unfold r14_Number at hr
  refine Con.of_ok 21 0 [.tmp 6] [(0, .s (.c (.d (.sl (List.map Attr.cs l))))), (1, .s (aS name)), (2, .s (aI other))] Tryd.func34 rfl rfl rfl rfl rfl rfl rfl rfl fun w g M ρ _ => ?_
  refine Ok.seq ?_
  refine Ok.region ?_
  refine OkOps.x (aI 0) rfl trivial rfl ?_
  refine OkOps.nil ?_
  refine Ok.seq ?_
  refine Ok.region ?_
  refine OkOps.x (.c (.d (.sl (List.map Attr.cs l)))) rfl trivial rfl ?_
  refine OkOps.x (aS name) rfl trivial rfl ?_
  obtain ⟨x1, hx1, hr⟩ := bind_some hr
  refine OkOps.q (triCall (tau []) (.tup [.agg [cI x1.1.Kind, cI x1.1.N, cS x1.1.S, .d (.sl (List.map AValue.cs x1.1.L))], aB x1.2]) [] (r14_Attr_c _ _ hx1) rfl ⟨.inl rfl, .inl rfl, trivial⟩ trivial entry29 trivial rfl rfl rfl rfl trivial rfl rfl rfl) ?_
  refine OkOps.q (triMv (v := .tup [.agg [cI x1.1.Kind, cI x1.1.N, cS x1.1.S, .d (.sl (List.map AValue.cs x1.1.L))], aB x1.2]) rfl rfl) ?_
  refine OkOps.x (.agg [cI x1.1.Kind, cI x1.1.N, cS x1.1.S, .d (.sl (List.map AValue.cs x1.1.L))]) rfl trivial rfl ?_
  refine OkOps.x (aB x1.2) rfl trivial rfl ?_
  refine OkOps.m 0 (triAlloc (j := 0) (cs := [cI 0, cI 0, cS ByteArray.empty, .d (.v (.slice none 0 0))]) rfl rfl rfl rfl) ?_
  refine OkOps.w (triStore (cs' := [cI x1.1.Kind, cI x1.1.N, cS x1.1.S, .d (.sl (List.map AValue.cs x1.1.L))]) rfl rfl rfl rfl rfl rfl rfl rfl rfl) ?_
  refine OkOps.x (aB x1.2) rfl trivial rfl ?_
  refine OkOps.nil ?_
  refine Ok.seq ?_
  refine Ok.seq ?_
  refine Ok.region ?_
  refine OkOps.x (.c (.loc 0 0)) rfl trivial rfl ?_
  refine OkOps.x (aI x1.1.Kind) rfl trivial rfl ?_
  refine OkOps.x (aB (x1.1.Kind != 1)) rfl trivial rfl ?_
  refine OkOps.nil ?_
  refine Ok.cond (b := x1.1.Kind != 1) rfl (fun h2 => ?_) (fun h2 => ?_)
  · have hr := selT h2 hr
    refine Ok.seq ?_
    refine Ok.region ?_
    refine OkOps.x (aI other) rfl trivial rfl ?_
    refine OkOps.x (aI other) rfl trivial rfl ?_
    refine OkOps.nil ?_
    refine Ok.ret ?_
    obtain rfl := Option.some.inj hr
    exact ⟨_, rfl, .inl rfl, trivial⟩
  · have hr := selF h2 hr
    refine Ok.skip ?_
    refine Ok.seq ?_
    refine Ok.region ?_
    refine OkOps.x (.c (.loc 0 1)) rfl trivial rfl ?_
    refine OkOps.x (aI x1.1.N) rfl trivial rfl ?_
    refine OkOps.x (aI x1.1.N) rfl trivial rfl ?_
    refine OkOps.nil ?_
    refine Ok.ret ?_
    obtain rfl := Option.some.inj hr
    exact ⟨_, rfl, .inl rfl, trivial⟩
theorem entry34 : Entry Tryd.prog 34 := ⟨_, Tryd.func34, by kernel_rfl, by kernel_rfl⟩
theorem r14_Flag_c (l : (List Attr)) (name : Str) {r : Bool} (hr : r14_Flag l name = some r) : Con Tryd.prog 36 [.c (.d (.sl (List.map Attr.cs l))), aS name] [] (.s (aB r)) [] := by
  unfold r14_Flag at hr
  refine Con.of_ok 21 0 [.tmp 4] [(0, .s (.c (.d (.sl (List.map Attr.cs l))))), (1, .s (aS name))] Tryd.func36 rfl rfl rfl rfl rfl rfl rfl rfl fun w g M ρ _ => ?_
  refine Ok.seq ?_
  refine Ok.region ?_
  refine OkOps.x (aB false) rfl trivial rfl ?_
  refine OkOps.nil ?_
  refine Ok.seq ?_
  refine Ok.region ?_
  refine OkOps.x (.c (.d (.sl (List.map Attr.cs l)))) rfl trivial rfl ?_
  refine OkOps.x (aS name) rfl trivial rfl ?_
  obtain ⟨x1, hx1, hr⟩ := bind_some hr
  refine OkOps.q (triCall (tau []) (.tup [.agg [cI x1.1.Kind, cI x1.1.N, cS x1.1.S, .d (.sl (List.map AValue.cs x1.1.L))], aB x1.2]) [] (r14_Attr_c _ _ hx1) rfl ⟨.inl rfl, .inl rfl, trivial⟩ trivial entry29 trivial rfl rfl rfl rfl trivial rfl rfl rfl) ?_
  refine OkOps.q (triMv (v := .tup [.agg [cI x1.1.Kind, cI x1.1.N, cS x1.1.S, .d (.sl (List.map AValue.cs x1.1.L))], aB x1.2]) rfl rfl) ?_
  refine OkOps.x (.agg [cI x1.1.Kind, cI x1.1.N, cS x1.1.S, .d (.sl (List.map AValue.cs x1.1.L))]) rfl trivial rfl ?_
  refine OkOps.x (aB x1.2) rfl trivial rfl ?_
  refine OkOps.m 0 (triAlloc (j := 0) (cs := [cI 0, cI 0, cS ByteArray.empty, .d (.v (.slice none 0 0))]) rfl rfl rfl rfl) ?_
  refine OkOps.w (triStore (cs' := [cI x1.1.Kind, cI x1.1.N, cS x1.1.S, .d (.sl (List.map AValue.cs x1.1.L))]) rfl rfl rfl rfl rfl rfl rfl rfl rfl) ?_
  refine OkOps.x (aB x1.2) rfl trivial rfl ?_
  refine OkOps.nil ?_
  refine Ok.seq ?_
  refine Ok.region ?_
  refine OkOps.x (.c (.loc 0 0)) rfl trivial rfl ?_
  refine OkOps.x (aI x1.1.Kind) rfl trivial rfl ?_
  refine OkOps.x (aB (x1.1.Kind == 2)) rfl trivial rfl ?_
  refine OkOps.x (aB (x1.1.Kind == 2)) rfl trivial rfl ?_
  refine OkOps.q (triQG (x := .c (.loc 0 1)) rfl rfl trivial rfl) ?_
  refine OkOps.q (triQG (x := aI x1.1.N) rfl rfl ⟨fun h => h, trivial⟩ rfl) ?_
  refine OkOps.q (triQG (x := aB (x1.1.N == 1)) rfl rfl ⟨fun h => h, trivial⟩ rfl) ?_
  refine OkOps.q (triAnd rfl rfl (fun h => h) rfl) ?_
  refine OkOps.x (aB ((x1.1.Kind == 2) && (x1.1.N == 1))) rfl trivial rfl ?_
  refine OkOps.nil ?_
  refine Ok.ret ?_
  obtain rfl := Option.some.inj hr
  exact ⟨_, rfl, .inl rfl, trivial⟩
theorem entry36 : Entry Tryd.prog 36 := ⟨_, Tryd.func36, by kernel_rfl, by kernel_rfl⟩
end Go.Proofs.YtcfegecdlbbeaaaDoor

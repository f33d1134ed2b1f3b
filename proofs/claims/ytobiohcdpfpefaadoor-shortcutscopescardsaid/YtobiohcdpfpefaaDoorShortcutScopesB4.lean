/-
  Part 4 of the texts under the law ShortcutScopes: the calculus, the plain functions, their walks, plain facts.
-/
import Derived.Test.YtobiohcdpfpefaaDoorShortcutScopesB3
import Derived.Test.YtobiohcdpfpefaaDoorProg
import Derived.KernelRfl
import Derived.RangeFuncIn
import Derived.Below
section
set_option maxRecDepth 100000
namespace Go.Proofs.YtobiohcdpfpefaaDoor
open Go Go.E2
theorem vw_attributes_c (l : (List Attr)) {r : Int} (hr : vw_attributes l = some r) : Con Tryd.prog 121 [.c (.d (.sl (List.map Attr.cs l)))] [] (.s (aI r)) [] := by
  unfold vw_attributes at hr
  refine Con.of_ok 39 0 [.tmp 2] [(0, .s (.c (.d (.sl (List.map Attr.cs l)))))] Tryd.func121 rfl rfl rfl rfl rfl rfl rfl rfl fun w g M ρ _ => (Ok.seq (Ok.region (OkOps.y (aI 0) (OkOps.nil ?_))))
  obtain ⟨k2, hk2, hr⟩ := jn_some hr
  refine Ok.join (fun (s1 : Unit) => ⟨[], [], 0⟩) k2 r (fun s1 hr => ?_) ?_
  rw [hk2] at hr
  refine Ok.seq (Ok.region (OkOps.y (aI 0) (OkOps.nil (Ok.ret ?_))))
  obtain rfl := Option.some.inj hr
  exact ⟨_, rfl, .inl rfl, trivial⟩
  clear hk2
  refine Ok.seq (Ok.region (OkOps.y (.c (.d (.sl (List.map Attr.cs l)))) (OkOps.q (triLen (enc := Attr.cs) l rfl rfl trivial rfl) (OkOps.y (aI 0) (OkOps.nil (Ok.block (Ok.loopK (fun (s3 : Int) => ⟨[(0, .s (.c (.d (.sl (List.map Attr.cs l))))), (6, .s (.c (.d (.sl (List.map Attr.cs l))))), (7, .s (aI (l.length : Int))), (8, .s (aI s3))], [], 0⟩) hr (Conv.mk (tau []) ⟨⟨_, rfl, .inl rfl⟩, ⟨_, rfl, .inl rfl⟩, ⟨_, rfl, .inl rfl⟩, ⟨_, rfl, .inl rfl⟩, trivial⟩ trivial rfl rfl rfl rfl) ?_)))))))
  clear hr
  intro again4 s3 hr
  unfold vw_attributes_L1 at hr
  refine Ok.seq (Ok.region (OkOps.y (aB (decide (s3 < (l.length : Int)))) (OkOps.nil (Ok.seq ?_))))
  refine Ok.cond (b := decide (s3 < (l.length : Int))) rfl (fun h5 => ?_) (fun h5 => ?_)
  have hr := selT h5 hr
  refine Ok.skip (Ok.seq (Ok.block (Ok.seq (Ok.region (OkOps.y (aI s3) ?_)))))
  obtain ⟨x6, hx6, hr⟩ := bind_some hr
  refine OkOps.q (triIdx (enc := Attr.cs) (L := l) (row := [dS x6.Name, dI x6.Value.Kind, dI x6.Value.N, dS x6.Value.S, .sl (List.map AValue.cs x6.Value.L)]) hx6 rfl rfl rfl rfl (fun _ => rfl) trivial rfl) (OkOps.y (.agg [cS x6.Name, cI x6.Value.Kind, cI x6.Value.N, cS x6.Value.S, .d (.sl (List.map AValue.cs x6.Value.L))]) (OkOps.m 0 (triAlloc (j := 0) (cs := [cS ByteArray.empty, cI 0, cI 0, cS ByteArray.empty, .d (.v (.slice none 0 0))]) rfl rfl rfl rfl) (OkOps.y (aI s3) (OkOps.w (triStore (cs' := [cS x6.Name, cI x6.Value.Kind, cI x6.Value.N, cS x6.Value.S, .d (.sl (List.map AValue.cs x6.Value.L))]) rfl rfl rfl rfl rfl rfl rfl rfl rfl) (OkOps.nil (Ok.seq (Ok.block (Ok.seq (Ok.region (OkOps.y (.c (.loc 0 0)) (OkOps.y (aS x6.Name) ?_)))))))))))
  obtain ⟨x7, hx7, hr⟩ := bind_some hr
  refine OkOps.q (triCl (tau []) (.s (aB x7)) [] (ex_Name_c _ hx7) rfl ⟨.inl rfl, trivial⟩ trivial entry123 trivial) (OkOps.y (aB (!x7)) (OkOps.y (aB (!x7)) (OkOps.nil ?_)))
  refine Ok.cond (b := !x7) rfl (fun h8 => ?_) (fun h8 => ?_)
  have hr := selT h8 hr
  refine Ok.seq (Ok.region (OkOps.y (aI 4) (OkOps.nil (Ok.ret ?_))))
  obtain rfl := Option.some.inj hr
  exact ⟨_, rfl, .inl rfl, trivial⟩
  have hr := selF h8 hr
  refine Ok.seq (Ok.regionD (by kernel_rfl) (OkD.x (aI s3) rfl trivial rfl (OkD.x (aB (decide (s3 > 0))) rfl trivial rfl (OkD.x (aB (decide (s3 > 0))) rfl trivial rfl (OkD.q (triQG (x := .c (.d (.sl (List.map Attr.cs l)))) rfl rfl trivial rfl) (OkD.q (triQG (x := aI s3) rfl rfl trivial rfl) (OkD.q (triQG (x := aI (IntKind.i64.wrap (s3 - 1))) rfl rfl ⟨fun h => h, trivial⟩ rfl) ?_)))))))
  obtain ⟨x9, hx9, hr⟩ := bind_some hr
  refine OkD.q (triIdxG (enc := Attr.cs) (L := l) (row := [dS x9.Name, dI x9.Value.Kind, dI x9.Value.N, dS x9.Value.S, .sl (List.map AValue.cs x9.Value.L)]) (gO_t hx9) rfl rfl rfl rfl rfl (fun _ => rfl) ⟨fun h => h, ⟨fun h => h, trivial⟩⟩ rfl) (OkD.q (triQG (x := .c (.pt [dS x9.Name, dI x9.Value.Kind, dI x9.Value.N, dS x9.Value.S, .sl (List.map AValue.cs x9.Value.L)])) rfl rfl ⟨fun h => h, trivial⟩ rfl) (OkD.q (triQG (x := aS x9.Name) rfl rfl ⟨fun h => h, trivial⟩ rfl) (OkD.q (triQG (x := .c (.loc 0 0)) rfl rfl trivial rfl) (OkD.q (triQG (x := aS x6.Name) rfl rfl ⟨fun h => h, trivial⟩ rfl) (OkD.q (triQG (x := aB (!(Op.bytesLess x9.Name.toList x6.Name.toList))) rfl rfl ⟨fun h => h, ⟨fun h => h, trivial⟩⟩ rfl) (OkD.q (triAnd rfl rfl (fun h => h) rfl) (OkD.x (aB ((decide (s3 > 0)) && (!(Op.bytesLess x9.Name.toList x6.Name.toList)))) rfl trivial rfl (OkD.nil (by kernel_rfl) ?_))))))))
  refine Ok.cond (b := (decide (s3 > 0)) && (!(Op.bytesLess x9.Name.toList x6.Name.toList))) rfl (fun h10 => ?_) (fun h10 => ?_)
  have hr := selT h10 hr
  refine Ok.seq (Ok.region (OkOps.y (aI 10) (OkOps.nil (Ok.ret ?_))))
  obtain rfl := Option.some.inj hr
  exact ⟨_, rfl, .inl rfl, trivial⟩
  have hr := selF h10 hr
  refine Ok.skip (Ok.seq (Ok.region (OkOps.y (.c (.loc 0 1)) (OkOps.y (.agg [cI x6.Value.Kind, cI x6.Value.N, cS x6.Value.S, .d (.sl (List.map AValue.cs x6.Value.L))]) ?_))))
  obtain ⟨x11, hx11, hr⟩ := bind_some hr
  refine OkOps.q (triCl (tau []) (.s (aI x11)) [] (ex_Check_c _ hx11) rfl ⟨.inl rfl, trivial⟩ trivial entry124 trivial) (OkOps.y (aI x11) (OkOps.nil (Ok.seq (Ok.region (OkOps.y (aI x11) (OkOps.y (aB (x11 != 0)) (OkOps.nil ?_)))))))
  refine Ok.cond (b := x11 != 0) rfl (fun h12 => ?_) (fun h12 => ?_)
  have hr := selT h12 hr
  refine Ok.seq (Ok.region (OkOps.y (aI x11) (OkOps.y (aI x11) (OkOps.nil (Ok.ret ?_)))))
  obtain rfl := Option.some.inj hr
  exact ⟨_, rfl, .inl rfl, trivial⟩
  have hr := selF h12 hr
  refine Ok.skip (Ok.region (OkOps.y (aI (IntKind.i64.wrap (s3 + 1))) (OkOps.y (aI (IntKind.i64.wrap (s3 + 1))) (OkOps.nil ?_))))
  exact ⟨IntKind.i64.wrap (s3 + 1), hr, (Conv.mk (tau []) ⟨⟨_, rfl, .inl rfl⟩, ⟨_, rfl, .inl rfl⟩, ⟨_, rfl, .inl rfl⟩, ⟨_, rfl, .inl rfl⟩, trivial⟩ trivial rfl rfl rfl rfl)⟩
  have hr := selF h5 hr
  refine Ok.exit ?_
  exact ⟨(), hr, (Conv.mk (tau []) trivial trivial rfl rfl rfl rfl)⟩
theorem vw_actions_c (l : (List Action)) {r : Int} (hr : vw_actions l = some r) : Con Tryd.prog 122 [.c (.d (.sl (List.map Action.cs l)))] [] (.s (aI r)) [] := by
  unfold vw_actions at hr
  refine Con.of_ok 65 0 [.tmp 2] [(0, .s (.c (.d (.sl (List.map Action.cs l)))))] Tryd.func122 rfl rfl rfl rfl rfl rfl rfl rfl fun w g M ρ _ => (Ok.seq (Ok.region (OkOps.y (aI 0) (OkOps.nil ?_))))
  obtain ⟨k2, hk2, hr⟩ := jn_some hr
  refine Ok.join (fun (s1 : Unit) => ⟨[], [], 0⟩) k2 r (fun s1 hr => ?_) ?_
  rw [hk2] at hr
  refine Ok.seq (Ok.region (OkOps.y (aI 0) (OkOps.nil (Ok.ret ?_))))
  obtain rfl := Option.some.inj hr
  exact ⟨_, rfl, .inl rfl, trivial⟩
  clear hk2
  refine Ok.seq (Ok.region (OkOps.y (.c (.d (.sl (List.map Action.cs l)))) (OkOps.q (triLen (enc := Action.cs) l rfl rfl trivial rfl) (OkOps.y (aI 0) (OkOps.nil (Ok.block (Ok.loopK (fun (s3 : Int) => ⟨[(0, .s (.c (.d (.sl (List.map Action.cs l))))), (8, .s (.c (.d (.sl (List.map Action.cs l))))), (9, .s (aI (l.length : Int))), (10, .s (aI s3))], [], 0⟩) hr (Conv.mk (tau []) ⟨⟨_, rfl, .inl rfl⟩, ⟨_, rfl, .inl rfl⟩, ⟨_, rfl, .inl rfl⟩, ⟨_, rfl, .inl rfl⟩, trivial⟩ trivial rfl rfl rfl rfl) ?_)))))))
  clear hr
  intro again4 s3 hr
  unfold vw_actions_L2 at hr
  refine Ok.seq (Ok.region (OkOps.y (aB (decide (s3 < (l.length : Int)))) (OkOps.nil (Ok.seq ?_))))
  refine Ok.cond (b := decide (s3 < (l.length : Int))) rfl (fun h5 => ?_) (fun h5 => ?_)
  have hr := selT h5 hr
  refine Ok.skip ?_
  obtain ⟨k7, hk7, hr⟩ := jn_some hr
  refine Ok.join (fun (s6 : Unit) => ⟨[(0, .s (.c (.d (.sl (List.map Action.cs l))))), (8, .s (.c (.d (.sl (List.map Action.cs l))))), (9, .s (aI (l.length : Int))), (10, .s (aI s3))], [], 0⟩) k7 r (fun s6 hr => ?_) ?_
  rw [hk7] at hr
  refine Ok.region (OkOps.y (aI (IntKind.i64.wrap (s3 + 1))) (OkOps.y (aI (IntKind.i64.wrap (s3 + 1))) (OkOps.nil ?_)))
  exact ⟨IntKind.i64.wrap (s3 + 1), hr, (Conv.mk (tau []) ⟨⟨_, rfl, .inl rfl⟩, ⟨_, rfl, .inl rfl⟩, ⟨_, rfl, .inl rfl⟩, ⟨_, rfl, .inl rfl⟩, trivial⟩ trivial rfl rfl rfl rfl)⟩
  clear hk7
  refine Ok.block (Ok.seq (Ok.region (OkOps.y (aI s3) ?_)))
  obtain ⟨x8, hx8, hr⟩ := bind_some hr
  refine OkOps.q (triIdx (enc := Action.cs) (L := l) (row := [dS x8.Event, dS x8.Instance, dS x8.Handler, .sl (List.map AValue.cs x8.Args)]) hx8 rfl rfl rfl rfl (fun _ => rfl) trivial rfl) (OkOps.y (.agg [cS x8.Event, cS x8.Instance, cS x8.Handler, .d (.sl (List.map AValue.cs x8.Args))]) (OkOps.m 0 (triAlloc (j := 0) (cs := [cS ByteArray.empty, cS ByteArray.empty, cS ByteArray.empty, .d (.v (.slice none 0 0))]) rfl rfl rfl rfl) (OkOps.y (aI s3) (OkOps.w (triStore (cs' := [cS x8.Event, cS x8.Instance, cS x8.Handler, .d (.sl (List.map AValue.cs x8.Args))]) rfl rfl rfl rfl rfl rfl rfl rfl rfl) (OkOps.nil (Ok.seq (Ok.block (Ok.seq (Ok.region (OkOps.y (.c (.loc 0 0)) (OkOps.y (aS x8.Event) ?_)))))))))))
  obtain ⟨x9, hx9, hr⟩ := bind_some hr
  refine OkOps.q (triCl (tau []) (.s (aB x9)) [] (ex_Name_c _ hx9) rfl ⟨.inl rfl, trivial⟩ trivial entry123 trivial) (OkOps.y (aB (!x9)) (OkOps.y (aB (!x9)) (OkOps.q (triQG (x := .c (.loc 0 2)) rfl rfl trivial rfl) (OkOps.q (triQG (x := aS x8.Handler) rfl rfl ⟨fun h => h, trivial⟩ rfl) ?_))))
  obtain ⟨x10, hx10, hr⟩ := bind_some hr
  refine OkOps.q (triCallG (x := aB x10) (fun hg => ex_Name_c _ (gO_t hx10 hg)) rfl rfl ⟨.inl rfl, trivial⟩ ⟨fun h => h, trivial⟩ entry123 rfl rfl rfl) (OkOps.q (triQG (x := aB (!x10)) rfl rfl ⟨fun h => h, trivial⟩ rfl) ?_)
  refine OkOps.q (triOr rfl rfl (fun h => by rw [h]; rfl) rfl) ?_
  refine OkOps.y (aB ((!x9) || (!x10))) (OkOps.nil ?_)
  refine Ok.cond (b := (!x9) || (!x10)) rfl (fun h11 => ?_) (fun h11 => ?_)
  have hr := selT h11 hr
  refine Ok.seq (Ok.region (OkOps.y (aI 4) (OkOps.nil (Ok.ret ?_))))
  obtain rfl := Option.some.inj hr
  exact ⟨_, rfl, .inl rfl, trivial⟩
  have hr := selF h11 hr
  refine Ok.seq (Ok.regionD (by kernel_rfl) (OkD.x (aI s3) rfl trivial rfl (OkD.x (aB (decide (s3 > 0))) rfl trivial rfl (OkD.x (aB (decide (s3 > 0))) rfl trivial rfl (OkD.q (triQG (x := .c (.d (.sl (List.map Action.cs l)))) rfl rfl trivial rfl) (OkD.q (triQG (x := aI s3) rfl rfl trivial rfl) (OkD.q (triQG (x := aI (IntKind.i64.wrap (s3 - 1))) rfl rfl ⟨fun h => h, trivial⟩ rfl) ?_)))))))
  obtain ⟨x12, hx12, hr⟩ := bind_some hr
  refine OkD.q (triIdxG (enc := Action.cs) (L := l) (row := [dS x12.Event, dS x12.Instance, dS x12.Handler, .sl (List.map AValue.cs x12.Args)]) (gO_t hx12) rfl rfl rfl rfl rfl (fun _ => rfl) ⟨fun h => h, ⟨fun h => h, trivial⟩⟩ rfl) (OkD.q (triQG (x := .c (.pt [dS x12.Event, dS x12.Instance, dS x12.Handler, .sl (List.map AValue.cs x12.Args)])) rfl rfl ⟨fun h => h, trivial⟩ rfl) (OkD.q (triQG (x := aS x12.Event) rfl rfl ⟨fun h => h, trivial⟩ rfl) (OkD.q (triQG (x := .c (.loc 0 0)) rfl rfl trivial rfl) (OkD.q (triQG (x := aS x8.Event) rfl rfl ⟨fun h => h, trivial⟩ rfl) (OkD.q (triQG (x := aB (!(Op.bytesLess x12.Event.toList x8.Event.toList))) rfl rfl ⟨fun h => h, ⟨fun h => h, trivial⟩⟩ rfl) (OkD.q (triAnd rfl rfl (fun h => h) rfl) (OkD.x (aB ((decide (s3 > 0)) && (!(Op.bytesLess x12.Event.toList x8.Event.toList)))) rfl trivial rfl (OkD.nil (by kernel_rfl) ?_))))))))
  refine Ok.cond (b := (decide (s3 > 0)) && (!(Op.bytesLess x12.Event.toList x8.Event.toList))) rfl (fun h13 => ?_) (fun h13 => ?_)
  have hr := selT h13 hr
  refine Ok.seq (Ok.region (OkOps.y (aI 10) (OkOps.nil (Ok.ret ?_))))
  obtain rfl := Option.some.inj hr
  exact ⟨_, rfl, .inl rfl, trivial⟩
  have hr := selF h13 hr
  refine Ok.seq (Ok.region (OkOps.y (.c (.loc 0 1)) (OkOps.y (aS x8.Instance) (OkOps.y (aI (x8.Instance.size : Int)) (OkOps.y (aB (decide ((x8.Instance.size : Int) > 400))) (OkOps.y (aB (decide ((x8.Instance.size : Int) > 400))) (OkOps.q (triQG (x := .c (.loc 0 3)) rfl rfl trivial rfl) (OkOps.q (triQG (x := .c (.d (.sl (List.map AValue.cs x8.Args)))) rfl rfl ⟨fun h => h, trivial⟩ rfl) (OkOps.q (triLenG (enc := AValue.cs) x8.Args rfl rfl rfl ⟨fun h => h, trivial⟩ rfl) (OkOps.q (triQG (x := aB (decide ((x8.Args.length : Int) > 100))) rfl rfl ⟨fun h => h, trivial⟩ rfl) ?_))))))))))
  refine OkOps.q (triOr rfl rfl (fun h => by rw [h]; rfl) rfl) ?_
  refine OkOps.y (aB ((decide ((x8.Instance.size : Int) > 400)) || (decide ((x8.Args.length : Int) > 100)))) (OkOps.nil ?_)
  refine Ok.cond (b := (decide ((x8.Instance.size : Int) > 400)) || (decide ((x8.Args.length : Int) > 100))) rfl (fun h14 => ?_) (fun h14 => ?_)
  have hr := selT h14 hr
  refine Ok.seq (Ok.region (OkOps.y (aI 2) (OkOps.nil (Ok.ret ?_))))
  obtain rfl := Option.some.inj hr
  exact ⟨_, rfl, .inl rfl, trivial⟩
  have hr := selF h14 hr
  refine Ok.skip (Ok.seq (Ok.region (OkOps.y (.c (.loc 0 3)) (OkOps.y (.c (.d (.sl (List.map AValue.cs x8.Args)))) (OkOps.q (triLen (enc := AValue.cs) x8.Args rfl rfl trivial rfl) (OkOps.y (aI 0) (OkOps.nil ?_)))))))
  obtain ⟨k16, hk16, hr⟩ := jn_some hr
  refine Ok.joinEnd (fun (s15 : Unit) => ⟨[(0, .s (.c (.d (.sl (List.map Action.cs l))))), (8, .s (.c (.d (.sl (List.map Action.cs l))))), (9, .s (aI (l.length : Int))), (10, .s (aI s3))], [], 0⟩) k16 r (fun s15 hr => ?_) ?_
  rw [hk16] at hr
  exact ⟨(), hr, (Conv.mk (tau []) ⟨⟨_, rfl, .inl rfl⟩, ⟨_, rfl, .inl rfl⟩, ⟨_, rfl, .inl rfl⟩, ⟨_, rfl, .inl rfl⟩, trivial⟩ trivial rfl rfl rfl rfl)⟩
  clear hk16
  refine Ok.block (Ok.loopK (fun (s17 : Int) => ⟨[(0, .s (.c (.d (.sl (List.map Action.cs l))))), (8, .s (.c (.d (.sl (List.map Action.cs l))))), (9, .s (aI (l.length : Int))), (10, .s (aI s3)), (52, .s (.c (.d (.sl (List.map AValue.cs x8.Args))))), (53, .s (aI (x8.Args.length : Int))), (54, .s (aI s17))], [], 0⟩) hr (Conv.mk (tau []) ⟨⟨_, rfl, .inl rfl⟩, ⟨_, rfl, .inl rfl⟩, ⟨_, rfl, .inl rfl⟩, ⟨_, rfl, .inl rfl⟩, ⟨_, rfl, .inl rfl⟩, ⟨_, rfl, .inl rfl⟩, ⟨_, rfl, .inl rfl⟩, trivial⟩ trivial rfl rfl rfl rfl) ?_)
  clear hr
  intro again18 s17 hr
  unfold vw_actions_L1 at hr
  refine Ok.seq (Ok.region (OkOps.y (aB (decide (s17 < (x8.Args.length : Int)))) (OkOps.nil (Ok.seq ?_))))
  refine Ok.cond (b := decide (s17 < (x8.Args.length : Int))) rfl (fun h19 => ?_) (fun h19 => ?_)
  have hr := selT h19 hr
  refine Ok.skip (Ok.seq (Ok.block (Ok.seq (Ok.region ?_))))
  obtain ⟨x20, hx20, hr⟩ := bind_some hr
  refine OkOps.q (triIdx (enc := AValue.cs) (L := x8.Args) (row := [dI x20.Kind, dI x20.N, dS x20.S, .sl (List.map AValue.cs x20.L)]) hx20 (AValue.cs_eq _) rfl rfl rfl (fun x => by rw [AValue.cs_eq]; rfl) trivial rfl) ?_
  refine OkOps.y (.agg [cI x20.Kind, cI x20.N, cS x20.S, .d (.sl (List.map AValue.cs x20.L))]) (OkOps.m 0 (triAlloc (j := 1) (cs := [cI 0, cI 0, cS ByteArray.empty, .d (.v (.slice none 0 0))]) rfl rfl rfl rfl) (OkOps.w (triStore (cs' := [cI x20.Kind, cI x20.N, cS x20.S, .d (.sl (List.map AValue.cs x20.L))]) rfl rfl rfl rfl rfl rfl rfl rfl rfl) (OkOps.nil (Ok.seq (Ok.region (OkOps.y (.agg [cI x20.Kind, cI x20.N, cS x20.S, .d (.sl (List.map AValue.cs x20.L))]) ?_))))))
  obtain ⟨x21, hx21, hr⟩ := bind_some hr
  refine OkOps.q (triCl (tau []) (.s (aI x21)) [] (ex_Check_c _ hx21) rfl ⟨.inl rfl, trivial⟩ trivial entry124 trivial) (OkOps.y (aI x21) (OkOps.nil (Ok.seq (Ok.region (OkOps.y (aI x21) (OkOps.y (aB (x21 != 0)) (OkOps.nil ?_)))))))
  refine Ok.cond (b := x21 != 0) rfl (fun h22 => ?_) (fun h22 => ?_)
  have hr := selT h22 hr
  refine Ok.seq (Ok.region (OkOps.y (aI x21) (OkOps.y (aI x21) (OkOps.nil (Ok.ret ?_)))))
  obtain rfl := Option.some.inj hr
  exact ⟨_, rfl, .inl rfl, trivial⟩
  have hr := selF h22 hr
  refine Ok.skip (Ok.region (OkOps.y (aI (IntKind.i64.wrap (s17 + 1))) (OkOps.y (aI (IntKind.i64.wrap (s17 + 1))) (OkOps.nil ?_))))
  exact ⟨IntKind.i64.wrap (s17 + 1), hr, (Conv.mk (tau []) ⟨⟨_, rfl, .inl rfl⟩, ⟨_, rfl, .inl rfl⟩, ⟨_, rfl, .inl rfl⟩, ⟨_, rfl, .inl rfl⟩, ⟨_, rfl, .inl rfl⟩, ⟨_, rfl, .inl rfl⟩, ⟨_, rfl, .inl rfl⟩, trivial⟩ trivial rfl rfl rfl rfl)⟩
  have hr := selF h19 hr
  refine Ok.exit ?_
  exact ⟨(), hr, (Conv.mk (tau []) ⟨⟨_, rfl, .inl rfl⟩, ⟨_, rfl, .inl rfl⟩, ⟨_, rfl, .inl rfl⟩, ⟨_, rfl, .inl rfl⟩, trivial⟩ trivial rfl rfl rfl rfl)⟩
  have hr := selF h5 hr
  refine Ok.exit ?_
  exact ⟨(), hr, (Conv.mk (tau []) trivial trivial rfl rfl rfl rfl)⟩
theorem vw_validate_B_c (self0 : View → Int → Int → Option (Int × Int)) (hself0 : ∀ (v : View) (depth : Int) (p_n : Int) {r : Int × Int}, self0 v depth p_n = some r → Con Tryd.prog 112 [.agg [cI v.Kind, cS v.Key, .d (.sl (List.map Attr.cs v.Attrs)), .d (.sl (List.map Action.cs v.Actions)), .d (.sl (List.map View.cs v.Kids))], aI depth, .c (.loc 0 0)] [(0, .blk [cI p_n] 3)] (.s (aI r.1)) [(0, .blk [cI r.2] 3)]) (v : View) (depth : Int) (p_n : Int) {r : Int × Int} (hr : vw_validate_B self0 v depth p_n = some r) : Con Tryd.prog 112 [.agg [cI v.Kind, cS v.Key, .d (.sl (List.map Attr.cs v.Attrs)), .d (.sl (List.map Action.cs v.Actions)), .d (.sl (List.map View.cs v.Kids))], aI depth, .c (.loc 0 0)] [(0, .blk [cI p_n] 3)] (.s (aI r.1)) [(0, .blk [cI r.2] 3)] := by
  unfold vw_validate_B at hr
  refine Con.of_ok 108 0 [.tmp 6] [(0, .s (.agg [cI v.Kind, cS v.Key, .d (.sl (List.map Attr.cs v.Attrs)), .d (.sl (List.map Action.cs v.Actions)), .d (.sl (List.map View.cs v.Kids))])), (1, .s (aI depth)), (2, .s (.c (.loc 0 0)))] Tryd.func112 rfl rfl rfl rfl rfl rfl rfl rfl fun w g M ρ _ => (Ok.seq (Ok.region (OkOps.m 0 (triBox (j := 1) (cs := [cI v.Kind, cS v.Key, .d (.sl (List.map Attr.cs v.Attrs)), .d (.sl (List.map Action.cs v.Actions)), .d (.sl (List.map View.cs v.Kids))]) rfl rfl rfl rfl rfl) (OkOps.y (aI 0) (OkOps.nil (Ok.seq (Ok.region (OkOps.y (.c (.loc 0 0)) (OkOps.y (.c (.loc 0 0)) (OkOps.y (aI p_n) (OkOps.y (aI (IntKind.i64.wrap (p_n + 1))) (OkOps.y (.c (.loc 0 0)) (OkOps.w (triStore (cs' := [cI (IntKind.i64.wrap (p_n + 1))]) rfl rfl rfl rfl rfl rfl rfl rfl rfl) (OkOps.nil (Ok.seq ?_)))))))))))))))
  refine Ok.block (Ok.seq (Ok.region (OkOps.y (aI depth) (OkOps.y (aB (decide (depth > 16))) (OkOps.y (aB (decide (depth > 16))) (OkOps.nil ?_))))))
  refine Ok.cond (b := decide (depth > 16)) rfl (fun h1 => ?_) (fun h1 => ?_)
  have hr := selT h1 hr
  refine Ok.seq (Ok.region (OkOps.y (aI 8) (OkOps.nil (Ok.ret ?_))))
  obtain rfl := Option.some.inj hr
  exact ⟨_, rfl, .inl rfl, ⟨rfl, trivial⟩⟩
  have hr := selF h1 hr
  refine Ok.seq (Ok.region (OkOps.y (.c (.loc 0 0)) (OkOps.y (.c (.loc 0 0)) (OkOps.y (aI (IntKind.i64.wrap (p_n + 1))) (OkOps.y (aB (decide ((IntKind.i64.wrap (p_n + 1)) > 400))) (OkOps.y (aB (decide ((IntKind.i64.wrap (p_n + 1)) > 400))) (OkOps.nil ?_)))))))
  refine Ok.cond (b := decide ((IntKind.i64.wrap (p_n + 1)) > 400)) rfl (fun h2 => ?_) (fun h2 => ?_)
  have hr := selT h2 hr
  refine Ok.seq (Ok.region (OkOps.y (aI 2) (OkOps.nil (Ok.ret ?_))))
  obtain rfl := Option.some.inj hr
  exact ⟨_, rfl, .inl rfl, ⟨rfl, trivial⟩⟩
  have hr := selF h2 hr
  refine Ok.seq (Ok.region (OkOps.y (.c (.loc 1 0)) (OkOps.y (aI v.Kind) (OkOps.y (aB (decide (v.Kind < 1))) (OkOps.y (aB (decide (v.Kind < 1))) (OkOps.q (triQG (x := .c (.loc 1 0)) rfl rfl trivial rfl) (OkOps.q (triQG (x := aI v.Kind) rfl rfl ⟨fun h => h, trivial⟩ rfl) (OkOps.q (triQG (x := aB (decide (v.Kind > 13))) rfl rfl ⟨fun h => h, trivial⟩ rfl) ?_))))))))
  refine OkOps.q (triOr rfl rfl (fun h => by rw [h]; rfl) rfl) ?_
  refine OkOps.y (aB ((decide (v.Kind < 1)) || (decide (v.Kind > 13)))) (OkOps.nil ?_)
  refine Ok.cond (b := (decide (v.Kind < 1)) || (decide (v.Kind > 13))) rfl (fun h3 => ?_) (fun h3 => ?_)
  have hr := selT h3 hr
  refine Ok.seq (Ok.region (OkOps.y (aI 9) (OkOps.nil (Ok.ret ?_))))
  obtain rfl := Option.some.inj hr
  exact ⟨_, rfl, .inl rfl, ⟨rfl, trivial⟩⟩
  have hr := selF h3 hr
  refine Ok.seq (Ok.region (OkOps.y (.c (.loc 1 1)) (OkOps.y (aS v.Key) ?_)))
  obtain ⟨x4, hx4, hr⟩ := bind_some hr
  refine OkOps.q (triCl (tau []) (.s (aB x4)) [] (vw_Key_c _ hx4) rfl ⟨.inl rfl, trivial⟩ trivial entry120 trivial) (OkOps.y (aB (!x4)) (OkOps.y (aB (!x4)) (OkOps.nil ?_)))
  refine Ok.cond (b := !x4) rfl (fun h5 => ?_) (fun h5 => ?_)
  have hr := selT h5 hr
  refine Ok.seq (Ok.region (OkOps.y (aI 4) (OkOps.nil (Ok.ret ?_))))
  obtain rfl := Option.some.inj hr
  exact ⟨_, rfl, .inl rfl, ⟨rfl, trivial⟩⟩
  have hr := selF h5 hr
  refine Ok.seq (Ok.region (OkOps.y (.c (.loc 1 2)) (OkOps.y (.c (.d (.sl (List.map Attr.cs v.Attrs)))) (OkOps.q (triLen (enc := Attr.cs) v.Attrs rfl rfl trivial rfl) (OkOps.y (aB (decide ((v.Attrs.length : Int) > 24))) (OkOps.y (aB (decide ((v.Attrs.length : Int) > 24))) (OkOps.q (triQG (x := .c (.loc 1 3)) rfl rfl trivial rfl) (OkOps.q (triQG (x := .c (.d (.sl (List.map Action.cs v.Actions)))) rfl rfl ⟨fun h => h, trivial⟩ rfl) (OkOps.q (triLenG (enc := Action.cs) v.Actions rfl rfl rfl ⟨fun h => h, trivial⟩ rfl) (OkOps.q (triQG (x := aB (decide ((v.Actions.length : Int) > 24))) rfl rfl ⟨fun h => h, trivial⟩ rfl) ?_))))))))))
  refine OkOps.q (triOr rfl rfl (fun h => by rw [h]; rfl) rfl) ?_
  refine OkOps.y (aB ((decide ((v.Attrs.length : Int) > 24)) || (decide ((v.Actions.length : Int) > 24)))) (OkOps.q (triQG (x := .c (.loc 1 4)) rfl rfl trivial rfl) (OkOps.q (triQG (x := .c (.d (.sl (List.map View.cs v.Kids)))) rfl rfl ⟨fun h => h, trivial⟩ rfl) (OkOps.q (triLenG (enc := View.cs) v.Kids rfl rfl rfl ⟨fun h => h, trivial⟩ rfl) (OkOps.q (triQG (x := aB (decide ((v.Kids.length : Int) > 100))) rfl rfl ⟨fun h => h, trivial⟩ rfl) ?_))))
  refine OkOps.q (triOr rfl rfl (fun h => by rw [h]; rfl) rfl) ?_
  refine OkOps.y (aB (((decide ((v.Attrs.length : Int) > 24)) || (decide ((v.Actions.length : Int) > 24))) || (decide ((v.Kids.length : Int) > 100)))) (OkOps.nil ?_)
  refine Ok.cond (b := ((decide ((v.Attrs.length : Int) > 24)) || (decide ((v.Actions.length : Int) > 24))) || (decide ((v.Kids.length : Int) > 100))) rfl (fun h6 => ?_) (fun h6 => ?_)
  have hr := selT h6 hr
  refine Ok.seq (Ok.region (OkOps.y (aI 2) (OkOps.nil (Ok.ret ?_))))
  obtain rfl := Option.some.inj hr
  exact ⟨_, rfl, .inl rfl, ⟨rfl, trivial⟩⟩
  have hr := selF h6 hr
  refine Ok.skip (Ok.seq (Ok.seq (Ok.region (OkOps.y (.c (.loc 1 2)) (OkOps.y (.c (.d (.sl (List.map Attr.cs v.Attrs)))) ?_)))))
  obtain ⟨x7, hx7, hr⟩ := bind_some hr
  refine OkOps.q (triCl (tau []) (.s (aI x7)) [] (vw_attributes_c _ hx7) rfl ⟨.inl rfl, trivial⟩ trivial entry121 trivial) (OkOps.y (aI x7) (OkOps.nil (Ok.seq (Ok.region (OkOps.y (aI x7) (OkOps.y (aB (x7 != 0)) (OkOps.nil ?_)))))))
  refine Ok.cond (b := x7 != 0) rfl (fun h8 => ?_) (fun h8 => ?_)
  have hr := selT h8 hr
  refine Ok.seq (Ok.region (OkOps.y (aI x7) (OkOps.y (aI x7) (OkOps.nil (Ok.ret ?_)))))
  obtain rfl := Option.some.inj hr
  exact ⟨_, rfl, .inl rfl, ⟨rfl, trivial⟩⟩
  have hr := selF h8 hr
  refine Ok.skip (Ok.seq (Ok.seq (Ok.region (OkOps.y (.c (.loc 1 3)) (OkOps.y (.c (.d (.sl (List.map Action.cs v.Actions)))) ?_)))))
  obtain ⟨x9, hx9, hr⟩ := bind_some hr
  refine OkOps.q (triCl (tau []) (.s (aI x9)) [] (vw_actions_c _ hx9) rfl ⟨.inl rfl, trivial⟩ trivial entry122 trivial) (OkOps.y (aI x9) (OkOps.nil (Ok.seq (Ok.region (OkOps.y (aI x9) (OkOps.y (aB (x9 != 0)) (OkOps.nil ?_)))))))
  refine Ok.cond (b := x9 != 0) rfl (fun h10 => ?_) (fun h10 => ?_)
  have hr := selT h10 hr
  refine Ok.seq (Ok.region (OkOps.y (aI x9) (OkOps.y (aI x9) (OkOps.nil (Ok.ret ?_)))))
  obtain rfl := Option.some.inj hr
  exact ⟨_, rfl, .inl rfl, ⟨rfl, trivial⟩⟩
  have hr := selF h10 hr
  refine Ok.skip (Ok.seq (Ok.region (OkOps.m 0 (triMkM (j := 2) false rfl rfl) (OkOps.y (.c (.own 2)) (OkOps.nil ?_)))))
  obtain ⟨k12, hk12, hr⟩ := jn_some hr
  refine Ok.join (fun (s11 : Unit) => ⟨[(1, .s (aI depth)), (2, .s (.c (.loc 0 0))), (3, .s (.c (.loc 1 0)))], [(0, .blk [cI (IntKind.i64.wrap (p_n + 1))] 3), (1, .blk [cI v.Kind, cS v.Key, .d (.sl (List.map Attr.cs v.Attrs)), .d (.sl (List.map Action.cs v.Actions)), .d (.sl (List.map View.cs v.Kids))] 54)], 0⟩) k12 r (fun s11 hr => ?_) ?_
  rw [hk12] at hr
  obtain ⟨k14, hk14, hr⟩ := jn_some hr
  refine Ok.join (fun (s13 : Int) => ⟨[], [(0, .blk [cI s13] 3)], 0⟩) k14 r (fun s13 hr => ?_) ?_
  rw [hk14] at hr
  refine Ok.seq (Ok.region (OkOps.y (aI 0) (OkOps.nil (Ok.ret ?_))))
  obtain rfl := Option.some.inj hr
  exact ⟨_, rfl, .inl rfl, ⟨rfl, trivial⟩⟩
  clear hk14
  refine Ok.seq (Ok.region (OkOps.y (.c (.loc 1 4)) (OkOps.y (.c (.d (.sl (List.map View.cs v.Kids)))) (OkOps.q (triLen (enc := View.cs) v.Kids rfl rfl trivial rfl) (OkOps.y (aI 0) (OkOps.nil (Ok.block (Ok.loopK (fun (s15 : Int × Int) => ⟨[(1, .s (aI depth)), (2, .s (.c (.loc 0 0))), (93, .s (.c (.d (.sl (List.map View.cs v.Kids))))), (94, .s (aI (v.Kids.length : Int))), (95, .s (aI s15.1))], [(0, .blk [cI s15.2] 3)], 0⟩) hr (Conv.mk (tau []) ⟨⟨_, rfl, .inl rfl⟩, ⟨_, rfl, .inl rfl⟩, ⟨_, rfl, .inl rfl⟩, ⟨_, rfl, .inl rfl⟩, ⟨_, rfl, .inl rfl⟩, trivial⟩ ⟨rfl, trivial⟩ rfl rfl rfl rfl) ?_))))))))
  clear hr
  intro again16 s15 hr
  unfold vw_validate_L1 at hr
  refine Ok.seq (Ok.region (OkOps.y (aB (decide (s15.1 < (v.Kids.length : Int)))) (OkOps.nil (Ok.seq ?_))))
  refine Ok.cond (b := decide (s15.1 < (v.Kids.length : Int))) rfl (fun h17 => ?_) (fun h17 => ?_)
  have hr := selT h17 hr
  refine Ok.skip (Ok.seq (Ok.block (Ok.seq (Ok.region ?_))))
  obtain ⟨x18, hx18, hr⟩ := bind_some hr
  refine OkOps.q (triIdx (enc := View.cs) (L := v.Kids) (row := [dI x18.Kind, dS x18.Key, .sl (List.map Attr.cs x18.Attrs), .sl (List.map Action.cs x18.Actions), .sl (List.map View.cs x18.Kids)]) hx18 (View.cs_eq _) rfl rfl rfl (fun x => by rw [View.cs_eq]; rfl) trivial rfl) ?_
  refine OkOps.y (.agg [cI x18.Kind, cS x18.Key, .d (.sl (List.map Attr.cs x18.Attrs)), .d (.sl (List.map Action.cs x18.Actions)), .d (.sl (List.map View.cs x18.Kids))]) (OkOps.m 0 (triAlloc (j := 3) (cs := [cI 0, cS ByteArray.empty, .d (.v (.slice none 0 0)), .d (.v (.slice none 0 0)), .d (.v (.slice none 0 0))]) rfl rfl rfl rfl) (OkOps.w (triStore (cs' := [cI x18.Kind, cS x18.Key, .d (.sl (List.map Attr.cs x18.Attrs)), .d (.sl (List.map Action.cs x18.Actions)), .d (.sl (List.map View.cs x18.Kids))]) rfl rfl rfl rfl rfl rfl rfl rfl rfl) (OkOps.nil (Ok.seq (Ok.region (OkOps.y (.agg [cI x18.Kind, cS x18.Key, .d (.sl (List.map Attr.cs x18.Attrs)), .d (.sl (List.map Action.cs x18.Actions)), .d (.sl (List.map View.cs x18.Kids))]) (OkOps.y (aI depth) (OkOps.y (aI (IntKind.i64.wrap (depth + 1))) (OkOps.y (.c (.loc 0 0)) ?_)))))))))
  obtain ⟨x19, hx19, hr⟩ := bind_some hr
  refine OkOps.m 0 (triCl (tau [(0, 0)]) (.s (aI x19.1)) [(0, .blk [cI x19.2] 3)] (hself0 _ _ _ hx19) rfl ⟨.inl rfl, .inl rfl, .inl rfl, trivial⟩ trivial entry112 ⟨rfl, trivial⟩) (OkOps.y (aI x19.1) (OkOps.nil (Ok.seq (Ok.region (OkOps.y (aI x19.1) (OkOps.y (aB (x19.1 != 0)) (OkOps.nil ?_)))))))
  refine Ok.cond (b := x19.1 != 0) rfl (fun h20 => ?_) (fun h20 => ?_)
  have hr := selT h20 hr
  refine Ok.seq (Ok.region (OkOps.y (aI x19.1) (OkOps.y (aI x19.1) (OkOps.nil (Ok.ret ?_)))))
  obtain rfl := Option.some.inj hr
  exact ⟨_, rfl, .inl rfl, ⟨rfl, trivial⟩⟩
  have hr := selF h20 hr
  refine Ok.skip (Ok.region (OkOps.y (aI (IntKind.i64.wrap (s15.1 + 1))) (OkOps.y (aI (IntKind.i64.wrap (s15.1 + 1))) (OkOps.nil ?_))))
  exact ⟨(IntKind.i64.wrap (s15.1 + 1), x19.2), hr, (Conv.mk (tau []) ⟨⟨_, rfl, .inl rfl⟩, ⟨_, rfl, .inl rfl⟩, ⟨_, rfl, .inl rfl⟩, ⟨_, rfl, .inl rfl⟩, ⟨_, rfl, .inl rfl⟩, trivial⟩ ⟨rfl, trivial⟩ rfl rfl rfl rfl)⟩
  have hr := selF h17 hr
  refine Ok.exit ?_
  exact ⟨s15.2, hr, (Conv.mk (tau []) trivial ⟨rfl, trivial⟩ rfl rfl rfl rfl)⟩
  clear hk12
  refine Ok.seq (Ok.region (OkOps.y (.c (.loc 1 4)) (OkOps.y (.c (.d (.sl (List.map View.cs v.Kids)))) (OkOps.q (triLen (enc := View.cs) v.Kids rfl rfl trivial rfl) (OkOps.y (aI 0) (OkOps.nil (Ok.block (Ok.loopK (fun (s21 : Int × (List (Str × Bool))) => ⟨[(1, .s (aI depth)), (2, .s (.c (.loc 0 0))), (3, .s (.c (.loc 1 0))), (9, .s (.c (.own 2))), (73, .s (.c (.d (.sl (List.map View.cs v.Kids))))), (74, .s (aI (v.Kids.length : Int))), (75, .s (aI s21.1))], [(0, .blk [cI (IntKind.i64.wrap (p_n + 1))] 3), (1, .blk [cI v.Kind, cS v.Key, .d (.sl (List.map Attr.cs v.Attrs)), .d (.sl (List.map Action.cs v.Actions)), .d (.sl (List.map View.cs v.Kids))] 54), (2, .mp false (encM kStr eBool s21.2))], 0⟩) hr (Conv.mk (tau []) ⟨⟨_, rfl, .inl rfl⟩, ⟨_, rfl, .inl rfl⟩, ⟨_, rfl, .inl rfl⟩, ⟨_, rfl, .inl rfl⟩, ⟨_, rfl, .inl rfl⟩, ⟨_, rfl, .inl rfl⟩, ⟨_, rfl, .inl rfl⟩, trivial⟩ ⟨rfl, rfl, rfl, trivial⟩ rfl rfl rfl rfl) ?_))))))))
  clear hr
  intro again22 s21 hr
  unfold vw_validate_L2 at hr
  refine Ok.seq (Ok.region (OkOps.y (aB (decide (s21.1 < (v.Kids.length : Int)))) (OkOps.nil (Ok.seq ?_))))
  refine Ok.cond (b := decide (s21.1 < (v.Kids.length : Int))) rfl (fun h23 => ?_) (fun h23 => ?_)
  have hr := selT h23 hr
  refine Ok.skip (Ok.seq (Ok.block (Ok.seq (Ok.region ?_))))
  obtain ⟨x24, hx24, hr⟩ := bind_some hr
  refine OkOps.q (triIdx (enc := View.cs) (L := v.Kids) (row := [dI x24.Kind, dS x24.Key, .sl (List.map Attr.cs x24.Attrs), .sl (List.map Action.cs x24.Actions), .sl (List.map View.cs x24.Kids)]) hx24 (View.cs_eq _) rfl rfl rfl (fun x => by rw [View.cs_eq]; rfl) trivial rfl) ?_
  refine OkOps.y (.agg [cI x24.Kind, cS x24.Key, .d (.sl (List.map Attr.cs x24.Attrs)), .d (.sl (List.map Action.cs x24.Actions)), .d (.sl (List.map View.cs x24.Kids))]) (OkOps.m 0 (triAlloc (j := 4) (cs := [cI 0, cS ByteArray.empty, .d (.v (.slice none 0 0)), .d (.v (.slice none 0 0)), .d (.v (.slice none 0 0))]) rfl rfl rfl rfl) (OkOps.w (triStore (cs' := [cI x24.Kind, cS x24.Key, .d (.sl (List.map Attr.cs x24.Attrs)), .d (.sl (List.map Action.cs x24.Actions)), .d (.sl (List.map View.cs x24.Kids))]) rfl rfl rfl rfl rfl rfl rfl rfl rfl) (OkOps.nil (Ok.seq (Ok.seq (Ok.region (OkOps.y (.c (.loc 4 1)) (OkOps.y (aS x24.Key) (OkOps.y (aB (!(x24.Key.toList == (ByteArray.mk #[]).toList))) (OkOps.y (aB (!(x24.Key.toList == (ByteArray.mk #[]).toList))) (OkOps.q (triQG (x := .c (.own 2)) rfl rfl trivial rfl) (OkOps.q (triQG (x := .c (.loc 4 1)) rfl rfl trivial rfl) (OkOps.q (triQG (x := aS x24.Key) rfl rfl ⟨fun h => h, trivial⟩ rfl) ?_)))))))))))))
  obtain ⟨x25, hx25, hr⟩ := bind_some hr
  refine OkOps.q (triLookG (agg := false) (ek := kStr) (ev := eBool) (L := s21.2) (r := aB x25.1) (gO_t hx25) rfl rfl rfl rfl (keyStr Tryd.underlying9) rfl rfl (fun _ _ => rfl) rfl ⟨fun h => h, ⟨fun h => h, trivial⟩⟩ rfl) (OkOps.q (triAnd rfl rfl (fun h => h) rfl) (OkOps.nil ?_))
  refine Ok.cond (b := (!(x24.Key.toList == (ByteArray.mk #[]).toList)) && x25.1) rfl (fun h26 => ?_) (fun h26 => ?_)
  have hr := selT h26 hr
  refine Ok.seq (Ok.region (OkOps.y (aI 6) (OkOps.nil (Ok.ret ?_))))
  obtain rfl := Option.some.inj hr
  exact ⟨_, rfl, .inl rfl, ⟨rfl, trivial⟩⟩
  have hr := selF h26 hr
  refine Ok.skip (Ok.region (OkOps.y (.c (.own 2)) (OkOps.y (.c (.loc 4 1)) (OkOps.y (aS x24.Key) (OkOps.w (triMapUp (ek := kStr) (ev := eBool) (L := s21.2) (z := true) rfl rfl rfl rfl rfl rfl (keyStr Tryd.underlying9) (fun _ _ => rfl) rfl trivial) (OkOps.nil (Ok.region (OkOps.y (aI (IntKind.i64.wrap (s21.1 + 1))) (OkOps.y (aI (IntKind.i64.wrap (s21.1 + 1))) (OkOps.nil ?_))))))))))
  exact ⟨(IntKind.i64.wrap (s21.1 + 1), msetL s21.2 x24.Key true), hr, (Conv.mk (tau []) ⟨⟨_, rfl, .inl rfl⟩, ⟨_, rfl, .inl rfl⟩, ⟨_, rfl, .inl rfl⟩, ⟨_, rfl, .inl rfl⟩, ⟨_, rfl, .inl rfl⟩, ⟨_, rfl, .inl rfl⟩, ⟨_, rfl, .inl rfl⟩, trivial⟩ ⟨rfl, rfl, rfl, trivial⟩ rfl rfl rfl rfl)⟩
  have hr := selF h23 hr
  refine Ok.exit ?_
  exact ⟨(), hr, (Conv.mk (tau []) ⟨⟨_, rfl, .inl rfl⟩, ⟨_, rfl, .inl rfl⟩, ⟨_, rfl, .inl rfl⟩, trivial⟩ ⟨rfl, rfl, trivial⟩ rfl rfl rfl rfl)⟩
theorem vw_validate_all : ∀ n : Nat, (∀ (v : View) (depth : Int) (p_n : Int) {r : Int × Int}, vw_validate n v depth p_n = some r → Con Tryd.prog 112 [.agg [cI v.Kind, cS v.Key, .d (.sl (List.map Attr.cs v.Attrs)), .d (.sl (List.map Action.cs v.Actions)), .d (.sl (List.map View.cs v.Kids))], aI depth, .c (.loc 0 0)] [(0, .blk [cI p_n] 3)] (.s (aI r.1)) [(0, .blk [cI r.2] 3)]) ∧ True := by
  intro n
  induction n with
  | zero => exact ⟨(by intros; rename_i hr; cases hr), trivial⟩
  | succ n ih => exact ⟨(by intros; rename_i hr; exact vw_validate_B_c _ ih.1 _ _ _ hr), trivial⟩
theorem vw_validate_c (n : Nat) (v : View) (depth : Int) (p_n : Int) {r : Int × Int} (hr : vw_validate n v depth p_n = some r) : Con Tryd.prog 112 [.agg [cI v.Kind, cS v.Key, .d (.sl (List.map Attr.cs v.Attrs)), .d (.sl (List.map Action.cs v.Actions)), .d (.sl (List.map View.cs v.Kids))], aI depth, .c (.loc 0 0)] [(0, .blk [cI p_n] 3)] (.s (aI r.1)) [(0, .blk [cI r.2] 3)] := (vw_validate_all n).1 v depth p_n hr
theorem vw_Validate_c (v : View) {r : Int} (hr : vw_Validate v = some r) : Con Tryd.prog 101 [.agg [cI v.Kind, cS v.Key, .d (.sl (List.map Attr.cs v.Attrs)), .d (.sl (List.map Action.cs v.Actions)), .d (.sl (List.map View.cs v.Kids))]] [] (.s (aI r)) [] := by
  unfold vw_Validate at hr
  refine Con.of_ok 6 0 [.tmp 2] [(0, .s (.agg [cI v.Kind, cS v.Key, .d (.sl (List.map Attr.cs v.Attrs)), .d (.sl (List.map Action.cs v.Actions)), .d (.sl (List.map View.cs v.Kids))]))] Tryd.func101 rfl rfl rfl rfl rfl rfl rfl rfl fun w g M ρ _ => (Ok.seq (Ok.region (OkOps.m 0 (triBox (j := 0) (cs := [cI v.Kind, cS v.Key, .d (.sl (List.map Attr.cs v.Attrs)), .d (.sl (List.map Action.cs v.Actions)), .d (.sl (List.map View.cs v.Kids))]) rfl rfl rfl rfl rfl) (OkOps.y (aI 0) (OkOps.nil (Ok.seq (Ok.region (OkOps.m 0 (triAlloc (j := 1) (cs := [cI 0]) rfl rfl rfl rfl) (OkOps.w (triStore (cs' := [cI 0]) rfl rfl rfl rfl rfl rfl rfl rfl rfl) (OkOps.nil (Ok.seq (Ok.region (OkOps.y (.agg [cI v.Kind, cS v.Key, .d (.sl (List.map Attr.cs v.Attrs)), .d (.sl (List.map Action.cs v.Actions)), .d (.sl (List.map View.cs v.Kids))]) ?_)))))))))))))
  obtain ⟨x1, hx1, hr⟩ := bind_some hr
  refine OkOps.m 0 (triCl (tau [(0, 1)]) (.s (aI x1.1)) [(1, .blk [cI x1.2] 3)] (vw_validate_c _ _ _ _ hx1) rfl ⟨.inl rfl, .inl rfl, .inl rfl, trivial⟩ trivial entry112 ⟨rfl, trivial⟩) (OkOps.y (aI x1.1) (OkOps.nil (Ok.ret ?_)))
  obtain rfl := Option.some.inj hr
  exact ⟨_, rfl, .inl rfl, trivial⟩
theorem vw_value_B_c (self0 : AValue → Option AValue) (self1 : (List AValue) → Option (List AValue)) (_hself0 : ∀ (v : AValue) {r : AValue}, self0 v = some r → Con Tryd.prog 64 [.agg [cI v.Kind, cI v.N, cS v.S, .d (.sl (List.map AValue.cs v.L))]] [] (.s (.agg [cI r.Kind, cI r.N, cS r.S, .d (.sl (List.map AValue.cs r.L))])) []) (hself1 : ∀ (l : (List AValue)) {r : (List AValue)}, self1 l = some r → Con Tryd.prog 81 [.c (.d (.sl (List.map AValue.cs l)))] [] (.s (.c (.d (.sl (List.map AValue.cs r))))) []) (v : AValue) {r : AValue} (hr : vw_value_B self0 self1 v = some r) : Con Tryd.prog 64 [.agg [cI v.Kind, cI v.N, cS v.S, .d (.sl (List.map AValue.cs v.L))]] [] (.s (.agg [cI r.Kind, cI r.N, cS r.S, .d (.sl (List.map AValue.cs r.L))])) [] := by
  unfold vw_value_B at hr
  refine Con.of_ok 8 0 [.cell 2 47] [(0, .s (.agg [cI v.Kind, cI v.N, cS v.S, .d (.sl (List.map AValue.cs v.L))]))] Tryd.func64 rfl rfl rfl rfl rfl rfl rfl rfl fun w g M ρ _ => (Ok.seq (Ok.region (OkOps.m 0 (triBox (j := 0) (cs := [cI v.Kind, cI v.N, cS v.S, .d (.sl (List.map AValue.cs v.L))]) rfl rfl rfl rfl rfl) (OkOps.m 0 (triAlloc (j := 1) (cs := [cI 0, cI 0, cS ByteArray.empty, .d (.v (.slice none 0 0))]) rfl rfl rfl rfl) (OkOps.nil (Ok.seq (Ok.region (OkOps.y (.c (.loc 0 3)) (OkOps.y (.c (.d (.sl (List.map AValue.cs v.L)))) ?_)))))))))
  obtain ⟨x1, hx1, hr⟩ := bind_some hr
  refine OkOps.q (triCl (tau []) (.s (.c (.d (.sl (List.map AValue.cs x1))))) [] (hself1 _ hx1) rfl ⟨.inl rfl, trivial⟩ trivial entry81 trivial) (OkOps.y (.c (.loc 0 3)) (OkOps.w (triStore (cs' := [cI v.Kind, cI v.N, cS v.S, .d (.sl (List.map AValue.cs x1))]) rfl rfl rfl rfl rfl rfl rfl rfl rfl) (OkOps.nil (Ok.seq (Ok.region (OkOps.y (.agg [cI v.Kind, cI v.N, cS v.S, .d (.sl (List.map AValue.cs x1))]) (OkOps.w (triStore (cs' := [cI v.Kind, cI v.N, cS v.S, .d (.sl (List.map AValue.cs x1))]) rfl rfl rfl rfl rfl rfl rfl rfl rfl) (OkOps.nil (Ok.ret ?_)))))))))
  obtain rfl := Option.some.inj hr
  exact ⟨_, rfl, .inl rfl, trivial⟩
theorem vw_values_B_c (self0 : AValue → Option AValue) (self1 : (List AValue) → Option (List AValue)) (hself0 : ∀ (v : AValue) {r : AValue}, self0 v = some r → Con Tryd.prog 64 [.agg [cI v.Kind, cI v.N, cS v.S, .d (.sl (List.map AValue.cs v.L))]] [] (.s (.agg [cI r.Kind, cI r.N, cS r.S, .d (.sl (List.map AValue.cs r.L))])) []) (_hself1 : ∀ (l : (List AValue)) {r : (List AValue)}, self1 l = some r → Con Tryd.prog 81 [.c (.d (.sl (List.map AValue.cs l)))] [] (.s (.c (.d (.sl (List.map AValue.cs r))))) []) (l : (List AValue)) {r : (List AValue)} (hr : vw_values_B self0 self1 l = some r) : Con Tryd.prog 81 [.c (.d (.sl (List.map AValue.cs l)))] [] (.s (.c (.d (.sl (List.map AValue.cs r))))) [] := by
  unfold vw_values_B at hr
  refine Con.of_ok 19 0 [.tmp 2] [(0, .s (.c (.d (.sl (List.map AValue.cs l)))))] Tryd.func81 rfl rfl rfl rfl rfl rfl rfl rfl fun w g M ρ _ => (Ok.seq (Ok.region (OkOps.y (.c (.d (.v (.slice none 0 0)))) (OkOps.nil (Ok.seq (Ok.region (OkOps.y (.c (.d (.v (.slice none 0 0)))) (OkOps.nil ?_))))))))
  obtain ⟨k2, hk2, hr⟩ := jn_some hr
  refine Ok.join (fun (s1 : (List AValue)) => ⟨[(3, .s (.c (.tl 1004 (List.map AValue.cs s1))))], [(1004, .tail 4)], 0⟩) k2 r (fun s1 hr => ?_) ?_
  rw [hk2] at hr
  refine Ok.seq (Ok.region (OkOps.y (.c (.tl 1004 (List.map AValue.cs s1))) (OkOps.y (.c (.tl 1004 (List.map AValue.cs s1))) (OkOps.nil (Ok.ret ?_)))))
  obtain rfl := Option.some.inj hr
  exact ⟨_, rfl, .inr rfl, trivial⟩
  clear hk2
  refine Ok.seq (Ok.region (OkOps.y (.c (.d (.sl (List.map AValue.cs l)))) (OkOps.q (triLen (enc := AValue.cs) l rfl rfl trivial rfl) (OkOps.y (aI 0) (OkOps.nil (Ok.block (Ok.loopK (fun (s3 : (List AValue) × Int) => ⟨[(3, .s (.c (.tl 1007 (List.map AValue.cs s3.1)))), (6, .s (.c (.d (.sl (List.map AValue.cs l))))), (7, .s (aI (l.length : Int))), (8, .s (aI s3.2))], [(1007, .tail 4)], 0⟩) hr (Conv.trans (Conv.nil 3 1009 4 0 rfl rfl) (Conv.mk (tau [(1007, 1009)]) ⟨⟨_, rfl, .inl rfl⟩, ⟨_, rfl, .inl rfl⟩, ⟨_, rfl, .inl rfl⟩, ⟨_, rfl, .inl rfl⟩, trivial⟩ ⟨rfl, trivial⟩ rfl rfl rfl rfl)) ?_)))))))
  clear hr
  intro again4 s3 hr
  unfold vw_values_L1 at hr
  refine Ok.seq (Ok.region (OkOps.y (aB (decide (s3.2 < (l.length : Int)))) (OkOps.nil (Ok.seq ?_))))
  refine Ok.cond (b := decide (s3.2 < (l.length : Int))) rfl (fun h5 => ?_) (fun h5 => ?_)
  have hr := selT h5 hr
  refine Ok.skip (Ok.seq (Ok.block (Ok.seq (Ok.region ?_))))
  obtain ⟨x6, hx6, hr⟩ := bind_some hr
  refine OkOps.q (triIdx (enc := AValue.cs) (L := l) (row := [dI x6.Kind, dI x6.N, dS x6.S, .sl (List.map AValue.cs x6.L)]) hx6 (AValue.cs_eq _) rfl rfl rfl (fun x => by rw [AValue.cs_eq]; rfl) trivial rfl) ?_
  refine OkOps.y (.agg [cI x6.Kind, cI x6.N, cS x6.S, .d (.sl (List.map AValue.cs x6.L))]) (OkOps.m 0 (triAlloc (j := 0) (cs := [cI 0, cI 0, cS ByteArray.empty, .d (.v (.slice none 0 0))]) rfl rfl rfl rfl) (OkOps.w (triStore (cs' := [cI x6.Kind, cI x6.N, cS x6.S, .d (.sl (List.map AValue.cs x6.L))]) rfl rfl rfl rfl rfl rfl rfl rfl rfl) (OkOps.nil (Ok.region (OkOps.y (.c (.tl 1007 (List.map AValue.cs s3.1))) (OkOps.y (.agg [cI x6.Kind, cI x6.N, cS x6.S, .d (.sl (List.map AValue.cs x6.L))]) ?_))))))
  obtain ⟨x7, hx7, hr⟩ := bind_some hr
  refine OkOps.q (triCl (tau []) (.s (.agg [cI x7.Kind, cI x7.N, cS x7.S, .d (.sl (List.map AValue.cs x7.L))])) [] (hself0 _ hx7) rfl ⟨.inl rfl, trivial⟩ trivial entry64 trivial) ?_
  refine OkOps.m 0 (triBST (sz := 4) (enc := AValue.cs) (j := 1) ([x7]) rfl rfl rfl rfl rfl (rows := [[dI x7.Kind, dI x7.N, dS x7.S, .sl (List.map AValue.cs x7.L)]]) (by simp only [List.map, AValue.cs_eq]) rfl rfl (fun x => by rw [AValue.cs_eq]; rfl) trivial rfl rfl) ?_
  obtain ⟨x8, hx8, hr⟩ := bind_some hr
  refine OkOps.m2 0 (triApp (enc := AValue.cs) (L := s3.1) (X := [x7]) (j := 1007) (j' := 2) hx8 rfl rfl rfl rfl rfl rfl (fun x => by rw [AValue.cs_eq]; rfl) (fun x => by rw [AValue.cs_eq]; rfl) (by decide) trivial rfl rfl) ?_
  refine OkOps.y (.c (.tl 2 (List.map AValue.cs x8))) (OkOps.nil (Ok.region (OkOps.y (aI (IntKind.i64.wrap (s3.2 + 1))) (OkOps.y (aI (IntKind.i64.wrap (s3.2 + 1))) (OkOps.nil ?_)))))
  exact ⟨(x8, IntKind.i64.wrap (s3.2 + 1)), hr, (Conv.mk (tau [(1007, 2)]) ⟨⟨_, rfl, .inl rfl⟩, ⟨_, rfl, .inl rfl⟩, ⟨_, rfl, .inl rfl⟩, ⟨_, rfl, .inl rfl⟩, trivial⟩ ⟨rfl, trivial⟩ rfl rfl rfl rfl)⟩
  have hr := selF h5 hr
  refine Ok.exit ?_
  exact ⟨s3.1, hr, (Conv.mk (tau [(1004, 1007)]) ⟨⟨_, rfl, .inl rfl⟩, trivial⟩ ⟨rfl, trivial⟩ rfl rfl rfl rfl)⟩
theorem vw_value_all : ∀ n : Nat, (∀ (v : AValue) {r : AValue}, vw_value n v = some r → Con Tryd.prog 64 [.agg [cI v.Kind, cI v.N, cS v.S, .d (.sl (List.map AValue.cs v.L))]] [] (.s (.agg [cI r.Kind, cI r.N, cS r.S, .d (.sl (List.map AValue.cs r.L))])) []) ∧ (∀ (l : (List AValue)) {r : (List AValue)}, vw_values n l = some r → Con Tryd.prog 81 [.c (.d (.sl (List.map AValue.cs l)))] [] (.s (.c (.d (.sl (List.map AValue.cs r))))) []) ∧ True := by
  intro n
  induction n with
  | zero => exact ⟨(by intros; rename_i hr; cases hr), (by intros; rename_i hr; cases hr), trivial⟩
  | succ n ih => exact ⟨(by intros; rename_i hr; exact vw_value_B_c _ _ ih.1 ih.2.1 _ hr), (by intros; rename_i hr; exact vw_values_B_c _ _ ih.1 ih.2.1 _ hr), trivial⟩
theorem vw_value_c (n : Nat) (v : AValue) {r : AValue} (hr : vw_value n v = some r) : Con Tryd.prog 64 [.agg [cI v.Kind, cI v.N, cS v.S, .d (.sl (List.map AValue.cs v.L))]] [] (.s (.agg [cI r.Kind, cI r.N, cS r.S, .d (.sl (List.map AValue.cs r.L))])) [] := (vw_value_all n).1 v hr
theorem vw_values_c (n : Nat) (l : (List AValue)) {r : (List AValue)} (hr : vw_values n l = some r) : Con Tryd.prog 81 [.c (.d (.sl (List.map AValue.cs l)))] [] (.s (.c (.d (.sl (List.map AValue.cs r))))) [] := (vw_value_all n).2.1 l hr
theorem vw_copied_c (attrs : (List Attr)) (acts : (List Action)) {r : (List Attr) × (List Action)} (hr : vw_copied attrs acts = some r) : Con Tryd.prog 62 [.c (.d (.sl (List.map Attr.cs attrs))), .c (.d (.sl (List.map Action.cs acts)))] [] (.tup [.c (.d (.sl (List.map Attr.cs r.1))), .c (.d (.sl (List.map Action.cs r.2)))]) [] := by
  unfold vw_copied at hr
  refine Con.of_ok 45 0 [.tmp 4, .tmp 5] [(0, .s (.c (.d (.sl (List.map Attr.cs attrs))))), (1, .s (.c (.d (.sl (List.map Action.cs acts)))))] Tryd.func62 rfl rfl rfl rfl rfl rfl rfl rfl fun w g M ρ _ => (Ok.seq (Ok.region (OkOps.y (.c (.d (.v (.slice none 0 0)))) (OkOps.y (.c (.d (.v (.slice none 0 0)))) (OkOps.nil (Ok.seq (Ok.region (OkOps.y (.c (.d (.v (.slice none 0 0)))) (OkOps.nil ?_)))))))))
  obtain ⟨k2, hk2, hr⟩ := jn_some hr
  refine Ok.join (fun (s1 : (List Attr)) => ⟨[(1, .s (.c (.d (.sl (List.map Action.cs acts))))), (6, .s (.c (.tl 1004 (List.map Attr.cs s1))))], [(1004, .tail 5)], 0⟩) k2 r (fun s1 hr => ?_) ?_
  rw [hk2] at hr
  refine Ok.seq (Ok.region (OkOps.y (.c (.d (.v (.slice none 0 0)))) (OkOps.nil ?_)))
  obtain ⟨k4, hk4, hr⟩ := jn_some hr
  refine Ok.join (fun (s3 : (List Action)) => ⟨[(6, .s (.c (.tl 1004 (List.map Attr.cs s1)))), (9, .s (.c (.tl 1009 (List.map Action.cs s3))))], [(1004, .tail 5), (1009, .tail 4)], 0⟩) k4 r (fun s3 hr => ?_) ?_
  rw [hk4] at hr
  refine Ok.seq (Ok.region (OkOps.y (.c (.tl 1004 (List.map Attr.cs s1))) (OkOps.y (.c (.tl 1009 (List.map Action.cs s3))) (OkOps.y (.c (.tl 1004 (List.map Attr.cs s1))) (OkOps.y (.c (.tl 1009 (List.map Action.cs s3))) (OkOps.nil (Ok.ret ?_)))))))
  obtain rfl := Option.some.inj hr
  exact ⟨_, rfl, .inr rfl, trivial⟩
  clear hk4
  refine Ok.seq (Ok.region (OkOps.y (.c (.d (.sl (List.map Action.cs acts)))) (OkOps.q (triLen (enc := Action.cs) acts rfl rfl trivial rfl) (OkOps.y (aI 0) (OkOps.nil (Ok.block (Ok.loopK (fun (s5 : (List Action) × Int) => ⟨[(6, .s (.c (.tl 1004 (List.map Attr.cs s1)))), (9, .s (.c (.tl 1012 (List.map Action.cs s5.1)))), (28, .s (.c (.d (.sl (List.map Action.cs acts))))), (29, .s (aI (acts.length : Int))), (30, .s (aI s5.2))], [(1004, .tail 5), (1012, .tail 4)], 0⟩) hr (Conv.trans (Conv.nil 9 1014 4 0 rfl rfl) (Conv.mk (tau [(1012, 1014)]) ⟨⟨_, rfl, .inl rfl⟩, ⟨_, rfl, .inl rfl⟩, ⟨_, rfl, .inl rfl⟩, ⟨_, rfl, .inl rfl⟩, ⟨_, rfl, .inl rfl⟩, trivial⟩ ⟨rfl, rfl, trivial⟩ rfl rfl rfl rfl)) ?_)))))))
  clear hr
  intro again6 s5 hr
  unfold vw_copied_L1 at hr
  refine Ok.seq (Ok.region (OkOps.y (aB (decide (s5.2 < (acts.length : Int)))) (OkOps.nil (Ok.seq ?_))))
  refine Ok.cond (b := decide (s5.2 < (acts.length : Int))) rfl (fun h7 => ?_) (fun h7 => ?_)
  have hr := selT h7 hr
  refine Ok.skip (Ok.seq (Ok.block (Ok.seq (Ok.region ?_))))
  obtain ⟨x8, hx8, hr⟩ := bind_some hr
  refine OkOps.q (triIdx (enc := Action.cs) (L := acts) (row := [dS x8.Event, dS x8.Instance, dS x8.Handler, .sl (List.map AValue.cs x8.Args)]) hx8 rfl rfl rfl rfl (fun _ => rfl) trivial rfl) (OkOps.y (.agg [cS x8.Event, cS x8.Instance, cS x8.Handler, .d (.sl (List.map AValue.cs x8.Args))]) (OkOps.m 0 (triAlloc (j := 0) (cs := [cS ByteArray.empty, cS ByteArray.empty, cS ByteArray.empty, .d (.v (.slice none 0 0))]) rfl rfl rfl rfl) (OkOps.w (triStore (cs' := [cS x8.Event, cS x8.Instance, cS x8.Handler, .d (.sl (List.map AValue.cs x8.Args))]) rfl rfl rfl rfl rfl rfl rfl rfl rfl) (OkOps.nil (Ok.seq (Ok.region (OkOps.y (.c (.loc 0 3)) (OkOps.y (.c (.d (.sl (List.map AValue.cs x8.Args)))) ?_))))))))
  obtain ⟨x9, hx9, hr⟩ := bind_some hr
  refine OkOps.q (triCl (tau []) (.s (.c (.d (.sl (List.map AValue.cs x9))))) [] (vw_values_c _ _ hx9) rfl ⟨.inl rfl, trivial⟩ trivial entry81 trivial) (OkOps.y (.c (.loc 0 3)) (OkOps.w (triStore (cs' := [cS x8.Event, cS x8.Instance, cS x8.Handler, .d (.sl (List.map AValue.cs x9))]) rfl rfl rfl rfl rfl rfl rfl rfl rfl) (OkOps.nil (Ok.region (OkOps.y (.c (.tl 1012 (List.map Action.cs s5.1))) (OkOps.y (.agg [cS x8.Event, cS x8.Instance, cS x8.Handler, .d (.sl (List.map AValue.cs x9))]) (OkOps.m 0 (triBST (sz := 4) (enc := Action.cs) (j := 1) ([(Action.mk x8.Event x8.Instance x8.Handler x9)]) rfl rfl rfl rfl rfl rfl rfl rfl (fun _ => rfl) trivial rfl rfl) ?_)))))))
  obtain ⟨x10, hx10, hr⟩ := bind_some hr
  refine OkOps.m2 0 (triApp (enc := Action.cs) (L := s5.1) (X := [(Action.mk x8.Event x8.Instance x8.Handler x9)]) (j := 1012) (j' := 2) hx10 rfl rfl rfl rfl rfl rfl (fun _ => rfl) (fun _ => rfl) (by decide) trivial rfl rfl) (OkOps.y (.c (.tl 2 (List.map Action.cs x10))) (OkOps.nil (Ok.region (OkOps.y (aI (IntKind.i64.wrap (s5.2 + 1))) (OkOps.y (aI (IntKind.i64.wrap (s5.2 + 1))) (OkOps.nil ?_))))))
  exact ⟨(x10, IntKind.i64.wrap (s5.2 + 1)), hr, (Conv.mk (tau [(1012, 2)]) ⟨⟨_, rfl, .inl rfl⟩, ⟨_, rfl, .inl rfl⟩, ⟨_, rfl, .inl rfl⟩, ⟨_, rfl, .inl rfl⟩, ⟨_, rfl, .inl rfl⟩, trivial⟩ ⟨rfl, rfl, trivial⟩ rfl rfl rfl rfl)⟩
  have hr := selF h7 hr
  refine Ok.exit ?_
  exact ⟨s5.1, hr, (Conv.mk (tau [(1009, 1012)]) ⟨⟨_, rfl, .inl rfl⟩, ⟨_, rfl, .inl rfl⟩, trivial⟩ ⟨rfl, rfl, trivial⟩ rfl rfl rfl rfl)⟩
  clear hk2
  refine Ok.seq (Ok.region (OkOps.y (.c (.d (.sl (List.map Attr.cs attrs)))) (OkOps.q (triLen (enc := Attr.cs) attrs rfl rfl trivial rfl) (OkOps.y (aI 0) (OkOps.nil (Ok.block (Ok.loopK (fun (s11 : (List Attr) × Int) => ⟨[(1, .s (.c (.d (.sl (List.map Action.cs acts))))), (6, .s (.c (.tl 1017 (List.map Attr.cs s11.1)))), (12, .s (.c (.d (.sl (List.map Attr.cs attrs))))), (13, .s (aI (attrs.length : Int))), (14, .s (aI s11.2))], [(1017, .tail 5)], 0⟩) hr (Conv.trans (Conv.nil 6 1019 5 0 rfl rfl) (Conv.mk (tau [(1017, 1019)]) ⟨⟨_, rfl, .inl rfl⟩, ⟨_, rfl, .inl rfl⟩, ⟨_, rfl, .inl rfl⟩, ⟨_, rfl, .inl rfl⟩, ⟨_, rfl, .inl rfl⟩, trivial⟩ ⟨rfl, trivial⟩ rfl rfl rfl rfl)) ?_)))))))
  clear hr
  intro again12 s11 hr
  unfold vw_copied_L2 at hr
  refine Ok.seq (Ok.region (OkOps.y (aB (decide (s11.2 < (attrs.length : Int)))) (OkOps.nil (Ok.seq ?_))))
  refine Ok.cond (b := decide (s11.2 < (attrs.length : Int))) rfl (fun h13 => ?_) (fun h13 => ?_)
  have hr := selT h13 hr
  refine Ok.skip (Ok.seq (Ok.block (Ok.seq (Ok.region ?_))))
  obtain ⟨x14, hx14, hr⟩ := bind_some hr
  refine OkOps.q (triIdx (enc := Attr.cs) (L := attrs) (row := [dS x14.Name, dI x14.Value.Kind, dI x14.Value.N, dS x14.Value.S, .sl (List.map AValue.cs x14.Value.L)]) hx14 rfl rfl rfl rfl (fun _ => rfl) trivial rfl) (OkOps.y (.agg [cS x14.Name, cI x14.Value.Kind, cI x14.Value.N, cS x14.Value.S, .d (.sl (List.map AValue.cs x14.Value.L))]) (OkOps.m 0 (triAlloc (j := 3) (cs := [cS ByteArray.empty, cI 0, cI 0, cS ByteArray.empty, .d (.v (.slice none 0 0))]) rfl rfl rfl rfl) (OkOps.w (triStore (cs' := [cS x14.Name, cI x14.Value.Kind, cI x14.Value.N, cS x14.Value.S, .d (.sl (List.map AValue.cs x14.Value.L))]) rfl rfl rfl rfl rfl rfl rfl rfl rfl) (OkOps.nil (Ok.regionD (by kernel_rfl) (OkD.x (.c (.tl 1017 (List.map Attr.cs s11.1))) rfl trivial rfl (OkD.x (.c (.loc 3 0)) rfl trivial rfl (OkD.x (aS x14.Name) rfl trivial rfl (OkD.x (.c (.loc 3 1)) rfl trivial rfl (OkD.x (.agg [cI x14.Value.Kind, cI x14.Value.N, cS x14.Value.S, .d (.sl (List.map AValue.cs x14.Value.L))]) rfl trivial rfl ?_))))))))))
  obtain ⟨x15, hx15, hr⟩ := bind_some hr
  refine OkD.q (triCl (tau []) (.s (.agg [cI x15.Kind, cI x15.N, cS x15.S, .d (.sl (List.map AValue.cs x15.L))])) [] (vw_value_c _ _ hx15) rfl ⟨.inl rfl, trivial⟩ trivial entry64 trivial) (OkD.x (.agg [cS x14.Name, cI x15.Kind, cI x15.N, cS x15.S, .d (.sl (List.map AValue.cs x15.L))]) rfl trivial rfl (OkD.m 0 (triBST (sz := 5) (enc := Attr.cs) (j := 4) ([(Attr.mk x14.Name x15)]) rfl rfl rfl rfl rfl rfl rfl rfl (fun _ => rfl) trivial rfl rfl) ?_))
  obtain ⟨x16, hx16, hr⟩ := bind_some hr
  refine OkD.m2 0 (triApp (enc := Attr.cs) (L := s11.1) (X := [(Attr.mk x14.Name x15)]) (j := 1017) (j' := 5) hx16 rfl rfl rfl rfl rfl rfl (fun _ => rfl) (fun _ => rfl) (by decide) trivial rfl rfl) (OkD.x (.c (.tl 5 (List.map Attr.cs x16))) rfl trivial rfl (OkD.nil (by kernel_rfl) (Ok.region (OkOps.y (aI (IntKind.i64.wrap (s11.2 + 1))) (OkOps.y (aI (IntKind.i64.wrap (s11.2 + 1))) (OkOps.nil ?_))))))
  exact ⟨(x16, IntKind.i64.wrap (s11.2 + 1)), hr, (Conv.mk (tau [(1017, 5)]) ⟨⟨_, rfl, .inl rfl⟩, ⟨_, rfl, .inl rfl⟩, ⟨_, rfl, .inl rfl⟩, ⟨_, rfl, .inl rfl⟩, ⟨_, rfl, .inl rfl⟩, trivial⟩ ⟨rfl, trivial⟩ rfl rfl rfl rfl)⟩
  have hr := selF h13 hr
  refine Ok.exit ?_
  exact ⟨s11.1, hr, (Conv.mk (tau [(1004, 1017)]) ⟨⟨_, rfl, .inl rfl⟩, ⟨_, rfl, .inl rfl⟩, trivial⟩ ⟨rfl, trivial⟩ rfl rfl rfl rfl)⟩
theorem vw_preorder_B_c (self0 : (List (Int × Node)) → Int → Option (List Int)) (hself0 : ∀ (nodes : (List (Int × Node))) (id : Int) {r : (List Int)}, self0 nodes id = some r → Con Tryd.prog 61 [.c (.d (.mp true (encM (kInt .i64) Node.cs nodes))), aI id] [] (.s (.c (.d (.sl (List.map (eInt .i64) r))))) []) (nodes : (List (Int × Node))) (id : Int) {r : (List Int)} (hr : vw_preorder_B self0 nodes id = some r) : Con Tryd.prog 61 [.c (.d (.mp true (encM (kInt .i64) Node.cs nodes))), aI id] [] (.s (.c (.d (.sl (List.map (eInt .i64) r))))) [] := by
  unfold vw_preorder_B at hr
  refine Con.of_ok 26 0 [.tmp 4] [(0, .s (.c (.d (.mp true (encM (kInt .i64) Node.cs nodes))))), (1, .s (aI id))] Tryd.func61 rfl rfl rfl rfl rfl rfl rfl rfl fun w g M ρ _ => (Ok.seq (Ok.region (OkOps.y (.c (.d (.v (.slice none 0 0)))) (OkOps.nil (Ok.seq (Ok.region (OkOps.y (aI id) (OkOps.m 0 (triBST (sz := 1) (enc := (eInt .i64)) (j := 0) ([id]) rfl rfl rfl rfl rfl rfl rfl rfl (fun _ => rfl) trivial rfl rfl) (OkOps.y (.c (.tl 0 (List.map (eInt .i64) ([id])))) (OkOps.nil ?_))))))))))
  obtain ⟨k2, hk2, hr⟩ := jn_some hr
  refine Ok.join (fun (s1 : (List Int)) => ⟨[(5, .s (.c (.tl 1003 (List.map (eInt .i64) s1))))], [(1003, .tail 1)], 0⟩) k2 r (fun s1 hr => ?_) ?_
  rw [hk2] at hr
  refine Ok.seq (Ok.region (OkOps.y (.c (.tl 1003 (List.map (eInt .i64) s1))) (OkOps.y (.c (.tl 1003 (List.map (eInt .i64) s1))) (OkOps.nil (Ok.ret ?_)))))
  obtain rfl := Option.some.inj hr
  exact ⟨_, rfl, .inr rfl, trivial⟩
  clear hk2
  refine Ok.seq (Ok.region (OkOps.y (.c (.d (.mp true (encM (kInt .i64) Node.cs nodes)))) (OkOps.y (aI id) ?_)))
  obtain ⟨x3, hx3, hr⟩ := bind_some hr
  refine OkOps.q (triLook (agg := true) (ek := (kInt .i64)) (ev := Node.cs) (L := nodes) (r := .agg [cI x3.1.ID, cI x3.1.Parent, cI x3.1.Kind, cS x3.1.Key, .d (.sl (List.map Attr.cs x3.1.Attrs)), .d (.sl (List.map Action.cs x3.1.Actions)), .d (.sl (List.map (eInt .i64) x3.1.Kids))]) hx3 rfl rfl rfl (keyInt Tryd.underlying3) rfl rfl (fun h => by cases h) rfl trivial rfl) ?_
  refine OkOps.y (.c (.d (.sl (List.map (eInt .i64) x3.1.Kids)))) (OkOps.q (triLen (enc := (eInt .i64)) x3.1.Kids rfl rfl trivial rfl) (OkOps.y (aI 0) (OkOps.nil (Ok.block (Ok.loopK (fun (s4 : (List Int) × Int) => ⟨[(0, .s (.c (.d (.mp true (encM (kInt .i64) Node.cs nodes))))), (5, .s (.c (.tl 1005 (List.map (eInt .i64) s4.1)))), (13, .s (.c (.d (.sl (List.map (eInt .i64) x3.1.Kids))))), (14, .s (aI (x3.1.Kids.length : Int))), (15, .s (aI s4.2))], [(1005, .tail 1)], 0⟩) hr (Conv.mk (tau [(1005, 0)]) ⟨⟨_, rfl, .inl rfl⟩, ⟨_, rfl, .inl rfl⟩, ⟨_, rfl, .inl rfl⟩, ⟨_, rfl, .inl rfl⟩, ⟨_, rfl, .inl rfl⟩, trivial⟩ ⟨rfl, trivial⟩ rfl rfl rfl rfl) ?_)))))
  clear hr
  intro again5 s4 hr
  unfold vw_preorder_L1 at hr
  refine Ok.seq (Ok.region (OkOps.y (aB (decide (s4.2 < (x3.1.Kids.length : Int)))) (OkOps.nil (Ok.seq ?_))))
  refine Ok.cond (b := decide (s4.2 < (x3.1.Kids.length : Int))) rfl (fun h6 => ?_) (fun h6 => ?_)
  have hr := selT h6 hr
  refine Ok.skip (Ok.seq (Ok.block (Ok.seq (Ok.region ?_))))
  obtain ⟨x7, hx7, hr⟩ := bind_some hr
  refine OkOps.q (triIdx (enc := (eInt .i64)) (L := x3.1.Kids) (row := [dI x7]) hx7 rfl rfl rfl rfl (fun _ => rfl) trivial rfl) (OkOps.y (aI x7) (OkOps.y (aI x7) (OkOps.nil (Ok.region (OkOps.y (.c (.tl 1005 (List.map (eInt .i64) s4.1))) (OkOps.y (.c (.d (.mp true (encM (kInt .i64) Node.cs nodes)))) (OkOps.y (aI x7) ?_)))))))
  obtain ⟨x8, hx8, hr⟩ := bind_some hr
  refine OkOps.q (triCl (tau []) (.s (.c (.d (.sl (List.map (eInt .i64) x8))))) [] (hself0 _ _ hx8) rfl ⟨.inl rfl, .inl rfl, trivial⟩ trivial entry61 trivial) ?_
  obtain ⟨x9, hx9, hr⟩ := bind_some hr
  refine OkOps.m2 0 (triApp (enc := (eInt .i64)) (L := s4.1) (X := x8) (j := 1005) (j' := 1) hx9 rfl rfl rfl rfl rfl rfl (fun _ => rfl) (fun _ => rfl) (by decide) trivial rfl rfl) (OkOps.y (.c (.tl 1 (List.map (eInt .i64) x9))) (OkOps.nil (Ok.region (OkOps.y (aI (IntKind.i64.wrap (s4.2 + 1))) (OkOps.y (aI (IntKind.i64.wrap (s4.2 + 1))) (OkOps.nil ?_))))))
  exact ⟨(x9, IntKind.i64.wrap (s4.2 + 1)), hr, (Conv.mk (tau [(1005, 1)]) ⟨⟨_, rfl, .inl rfl⟩, ⟨_, rfl, .inl rfl⟩, ⟨_, rfl, .inl rfl⟩, ⟨_, rfl, .inl rfl⟩, ⟨_, rfl, .inl rfl⟩, trivial⟩ ⟨rfl, trivial⟩ rfl rfl rfl rfl)⟩
  have hr := selF h6 hr
  refine Ok.exit ?_
  exact ⟨s4.1, hr, (Conv.mk (tau [(1003, 1005)]) ⟨⟨_, rfl, .inl rfl⟩, trivial⟩ ⟨rfl, trivial⟩ rfl rfl rfl rfl)⟩
theorem vw_preorder_all : ∀ n : Nat, (∀ (nodes : (List (Int × Node))) (id : Int) {r : (List Int)}, vw_preorder n nodes id = some r → Con Tryd.prog 61 [.c (.d (.mp true (encM (kInt .i64) Node.cs nodes))), aI id] [] (.s (.c (.d (.sl (List.map (eInt .i64) r))))) []) ∧ True := by
  intro n
  induction n with
  | zero => exact ⟨(by intros; rename_i hr; cases hr), trivial⟩
  | succ n ih => exact ⟨(by intros; rename_i hr; exact vw_preorder_B_c _ ih.1 _ _ hr), trivial⟩
theorem vw_preorder_c (n : Nat) (nodes : (List (Int × Node))) (id : Int) {r : (List Int)} (hr : vw_preorder n nodes id = some r) : Con Tryd.prog 61 [.c (.d (.mp true (encM (kInt .i64) Node.cs nodes))), aI id] [] (.s (.c (.d (.sl (List.map (eInt .i64) r))))) [] := (vw_preorder_all n).1 nodes id hr
theorem vw_graph_c (t : Tree) {r : (List (Int × Node)) × Bool} (hr : vw_graph t = some r) : Con Tryd.prog 99 [.agg [cI t.Root, cI t.Next, .d (.sl (List.map Node.cs t.Nodes))]] [] (.tup [.c (.d (.mp true (encM (kInt .i64) Node.cs r.1))), aB r.2]) [] := by
  unfold vw_graph at hr
  refine Con.of_ok 139 0 [.tmp 2, .tmp 3] [(0, .s (.agg [cI t.Root, cI t.Next, .d (.sl (List.map Node.cs t.Nodes))]))] Tryd.func99 rfl rfl rfl rfl rfl rfl rfl rfl fun w g M ρ _ => (Ok.seq (Ok.region (OkOps.m 0 (triBox (j := 0) (cs := [cI t.Root, cI t.Next, .d (.sl (List.map Node.cs t.Nodes))]) rfl rfl rfl rfl rfl) (OkOps.y (.c (.d (.v (.map none)))) (OkOps.y (aB false) (OkOps.nil (Ok.seq (Ok.seq (Ok.region (OkOps.y (.c (.loc 0 1)) (OkOps.y (aI t.Next) (OkOps.y (aB (decide (t.Next < 2))) (OkOps.y (aB (decide (t.Next < 2))) (OkOps.q (triQG (x := .c (.loc 0 1)) rfl rfl trivial rfl) (OkOps.q (triQG (x := aI t.Next) rfl rfl ⟨fun h => h, trivial⟩ rfl) ?_)))))))))))))))
  refine OkOps.q (triQG (x := aB (decide (t.Next > 1099511627776))) rfl rfl ⟨fun h => h, trivial⟩ rfl) ?_
  refine OkOps.q (triOr rfl rfl (fun h => by rw [h]; rfl) rfl) ?_
  refine OkOps.y (aB ((decide (t.Next < 2)) || (decide (t.Next > 1099511627776)))) (OkOps.q (triQG (x := .c (.loc 0 2)) rfl rfl trivial rfl) (OkOps.q (triQG (x := .c (.d (.sl (List.map Node.cs t.Nodes)))) rfl rfl ⟨fun h => h, trivial⟩ rfl) (OkOps.q (triLenG (enc := Node.cs) t.Nodes rfl rfl rfl ⟨fun h => h, trivial⟩ rfl) (OkOps.q (triQG (x := aB (decide ((t.Nodes.length : Int) < 1))) rfl rfl ⟨fun h => h, trivial⟩ rfl) ?_))))
  refine OkOps.q (triOr rfl rfl (fun h => by rw [h]; rfl) rfl) ?_
  refine OkOps.y (aB (((decide (t.Next < 2)) || (decide (t.Next > 1099511627776))) || (decide ((t.Nodes.length : Int) < 1)))) (OkOps.q (triQG (x := .c (.loc 0 2)) rfl rfl trivial rfl) (OkOps.q (triQG (x := .c (.d (.sl (List.map Node.cs t.Nodes)))) rfl rfl ⟨fun h => h, trivial⟩ rfl) (OkOps.q (triLenG (enc := Node.cs) t.Nodes rfl rfl rfl ⟨fun h => h, trivial⟩ rfl) (OkOps.q (triQG (x := aB (decide ((t.Nodes.length : Int) > 400))) rfl rfl ⟨fun h => h, trivial⟩ rfl) ?_))))
  refine OkOps.q (triOr rfl rfl (fun h => by rw [h]; rfl) rfl) ?_
  refine OkOps.nil ?_
  refine Ok.cond (b := (((decide (t.Next < 2)) || (decide (t.Next > 1099511627776))) || (decide ((t.Nodes.length : Int) < 1))) || (decide ((t.Nodes.length : Int) > 400))) rfl (fun h1 => ?_) (fun h1 => ?_)
  have hr := selT h1 hr
  refine Ok.seq (Ok.region (OkOps.y (.c (.d (.v (.map none)))) (OkOps.y (aB false) (OkOps.nil (Ok.conv (Conv.nilM 2 true rfl) (Ok.ret ?_))))))
  obtain rfl := Option.some.inj hr
  exact ⟨_, rfl, .inl rfl, trivial⟩
  have hr := selF h1 hr
  refine Ok.skip (Ok.seq (Ok.region (OkOps.m 0 (triMkM (j := 1) true rfl rfl) (OkOps.y (.c (.own 1)) (OkOps.nil (Ok.seq (Ok.region (OkOps.y (aI 0) (OkOps.nil ?_)))))))))
  obtain ⟨k3, hk3, hr⟩ := jn_some hr
  refine Ok.join (fun (s2 : (List (Int × Node))) => ⟨[(1, .s (.c (.loc 0 0))), (4, .s (.c (.own 1)))], [(0, .blk [cI t.Root, cI t.Next, .d (.sl (List.map Node.cs t.Nodes))] 57), (1, .mp true (encM (kInt .i64) Node.cs s2))], 0⟩) k3 r (fun s2 hr => ?_) ?_
  rw [hk3] at hr
  refine Ok.seq (Ok.seq (Ok.region (OkOps.y (.c (.own 1)) (OkOps.y (.c (.loc 0 0)) (OkOps.y (aI t.Root) ?_)))))
  obtain ⟨x4, hx4, hr⟩ := bind_some hr
  refine OkOps.q (triLookT (agg := true) (ek := (kInt .i64)) (ev := Node.cs) (L := s2) (r := .agg [cI x4.1.ID, cI x4.1.Parent, cI x4.1.Kind, cS x4.1.Key, .d (.sl (List.map Attr.cs x4.1.Attrs)), .d (.sl (List.map Action.cs x4.1.Actions)), .d (.sl (List.map (eInt .i64) x4.1.Kids))]) hx4 rfl rfl rfl (keyInt Tryd.underlying3) rfl rfl (fun h => by cases h) rfl trivial rfl) ?_
  refine OkOps.q (triMv (v := .tup [.agg [cI x4.1.ID, cI x4.1.Parent, cI x4.1.Kind, cS x4.1.Key, .d (.sl (List.map Attr.cs x4.1.Attrs)), .d (.sl (List.map Action.cs x4.1.Actions)), .d (.sl (List.map (eInt .i64) x4.1.Kids))], aB x4.2]) rfl rfl) (OkOps.y (.agg [cI x4.1.ID, cI x4.1.Parent, cI x4.1.Kind, cS x4.1.Key, .d (.sl (List.map Attr.cs x4.1.Attrs)), .d (.sl (List.map Action.cs x4.1.Actions)), .d (.sl (List.map (eInt .i64) x4.1.Kids))]) (OkOps.y (aB x4.2) (OkOps.m 0 (triAlloc (j := 2) (cs := [cI 0, cI 0, cI 0, cS ByteArray.empty, .d (.v (.slice none 0 0)), .d (.v (.slice none 0 0)), .d (.v (.slice none 0 0))]) rfl rfl rfl rfl) (OkOps.w (triStore (cs' := [cI x4.1.ID, cI x4.1.Parent, cI x4.1.Kind, cS x4.1.Key, .d (.sl (List.map Attr.cs x4.1.Attrs)), .d (.sl (List.map Action.cs x4.1.Actions)), .d (.sl (List.map (eInt .i64) x4.1.Kids))]) rfl rfl rfl rfl rfl rfl rfl rfl rfl) (OkOps.y (aB x4.2) (OkOps.nil (Ok.seq (Ok.region (OkOps.y (aB x4.2) (OkOps.y (aB (!x4.2)) (OkOps.nil ?_)))))))))))
  refine Ok.cond (b := !x4.2) rfl (fun h5 => ?_) (fun h5 => ?_)
  have hr := selT h5 hr
  refine Ok.seq (Ok.region (OkOps.y (.c (.d (.v (.map none)))) (OkOps.y (aB false) (OkOps.nil (Ok.conv (Conv.nilM 2 true rfl) (Ok.ret ?_))))))
  obtain rfl := Option.some.inj hr
  exact ⟨_, rfl, .inl rfl, trivial⟩
  have hr := selF h5 hr
  refine Ok.skip (Ok.seq (Ok.region (OkOps.m 0 (triMkM (j := 3) false rfl rfl) (OkOps.y (.c (.loc 0 0)) (OkOps.y (aI t.Root) (OkOps.w (triMapIns (ek := (kInt .i64)) (ev := eBool) (L := ([] : (List (Int × Bool)))) (z := true) rfl rfl rfl rfl rfl rfl (keyInt Tryd.underlying3) (fun _ _ => rfl) rfl trivial) (OkOps.y (.c (.own 3)) (OkOps.y (.c (.own 3)) (OkOps.nil ?_)))))))))
  obtain ⟨k7, hk7, hr⟩ := jn_some hr
  refine Ok.join (fun (s6 : (List (Int × Bool))) => ⟨[(1, .s (.c (.loc 0 0))), (4, .s (.c (.own 1))), (10, .s (.c (.own 3)))], [(0, .blk [cI t.Root, cI t.Next, .d (.sl (List.map Node.cs t.Nodes))] 57), (1, .mp true (encM (kInt .i64) Node.cs s2)), (3, .mp false (encM (kInt .i64) eBool s6))], 0⟩) k7 r (fun s6 hr => ?_) ?_
  rw [hk7] at hr
  refine Ok.seq (Ok.seq (Ok.region (OkOps.y (.c (.own 3)) (OkOps.q (triLenM (ek := (kInt .i64)) (ev := eBool) s6 rfl rfl trivial rfl) (OkOps.y (.c (.own 1)) (OkOps.q (triLenM (ek := (kInt .i64)) (ev := Node.cs) s2 rfl rfl trivial rfl) (OkOps.y (aB ((s6.length : Int) != (s2.length : Int))) (OkOps.nil ?_))))))))
  refine Ok.cond (b := (s6.length : Int) != (s2.length : Int)) rfl (fun h8 => ?_) (fun h8 => ?_)
  have hr := selT h8 hr
  refine Ok.seq (Ok.region (OkOps.y (.c (.d (.v (.map none)))) (OkOps.y (aB false) (OkOps.nil (Ok.conv (Conv.nilM 2 true rfl) (Ok.ret ?_))))))
  obtain rfl := Option.some.inj hr
  exact ⟨_, rfl, .inl rfl, trivial⟩
  have hr := selF h8 hr
  refine Ok.skip (Ok.seq (Ok.region (OkOps.y (.c (.own 1)) (OkOps.y (.c (.own 1)) (OkOps.y (.c (.loc 0 0)) (OkOps.y (aI t.Root) (OkOps.conv (Conv.freezeM [(4, .s (.c (.d (.mp true (encM (kInt .i64) Node.cs s2))))), (127, .s (.c (.d (.mp true (encM (kInt .i64) Node.cs s2))))), (130, .s (.c (.d (.mp true (encM (kInt .i64) Node.cs s2))))), (131, .s (.c (.d (.mp true (encM (kInt .i64) Node.cs s2)))))] [] 1 0 rfl ⟨⟨_, rfl, rfl⟩, ⟨_, rfl, rfl⟩, ⟨_, rfl, rfl⟩, ⟨_, rfl, rfl⟩, trivial⟩ trivial) ?_)))))))
  obtain ⟨x9, hx9, hr⟩ := bind_some hr
  refine OkOps.q (triCl (tau []) (.s (.c (.d (.sl (List.map (eInt .i64) x9))))) [] (vw_preorder_c _ _ _ hx9) rfl ⟨.inl rfl, .inl rfl, trivial⟩ trivial entry61 trivial) (OkOps.q (triLen (enc := (eInt .i64)) x9 rfl rfl trivial rfl) (OkOps.y (.c (.d (.mp true (encM (kInt .i64) Node.cs s2)))) (OkOps.q (triLenM (ek := (kInt .i64)) (ev := Node.cs) s2 rfl rfl trivial rfl) (OkOps.y (aB ((x9.length : Int) == (s2.length : Int))) (OkOps.y (.c (.d (.mp true (encM (kInt .i64) Node.cs s2)))) (OkOps.y (aB ((x9.length : Int) == (s2.length : Int))) (OkOps.nil (Ok.ret ?_))))))))
  obtain rfl := Option.some.inj hr
  exact ⟨_, rfl, .inl rfl, trivial⟩
  clear hk7
  refine Ok.seq (Ok.region (OkOps.y (.c (.loc 0 2)) (OkOps.y (.c (.d (.sl (List.map Node.cs t.Nodes)))) (OkOps.q (triLen (enc := Node.cs) t.Nodes rfl rfl trivial rfl) (OkOps.y (aI 0) (OkOps.nil (Ok.block (Ok.loopK (fun (s10 : Int × (List (Int × Bool))) => ⟨[(1, .s (.c (.loc 0 0))), (4, .s (.c (.own 1))), (10, .s (.c (.own 3))), (88, .s (.c (.d (.sl (List.map Node.cs t.Nodes))))), (89, .s (aI (t.Nodes.length : Int))), (90, .s (aI s10.1))], [(0, .blk [cI t.Root, cI t.Next, .d (.sl (List.map Node.cs t.Nodes))] 57), (1, .mp true (encM (kInt .i64) Node.cs s2)), (3, .mp false (encM (kInt .i64) eBool s10.2))], 0⟩) hr (Conv.mk (tau []) ⟨⟨_, rfl, .inl rfl⟩, ⟨_, rfl, .inl rfl⟩, ⟨_, rfl, .inl rfl⟩, ⟨_, rfl, .inl rfl⟩, ⟨_, rfl, .inl rfl⟩, ⟨_, rfl, .inl rfl⟩, trivial⟩ ⟨rfl, rfl, rfl, trivial⟩ rfl rfl rfl rfl) ?_))))))))
  clear hr
  intro again11 s10 hr
  unfold vw_graph_L2 at hr
  refine Ok.seq (Ok.region (OkOps.y (aB (decide (s10.1 < (t.Nodes.length : Int)))) (OkOps.nil (Ok.seq ?_))))
  refine Ok.cond (b := decide (s10.1 < (t.Nodes.length : Int))) rfl (fun h12 => ?_) (fun h12 => ?_)
  have hr := selT h12 hr
  refine Ok.skip ?_
  obtain ⟨k14, hk14, hr⟩ := jn_some hr
  refine Ok.join (fun (s13 : (List (Int × Bool))) => ⟨[(1, .s (.c (.loc 0 0))), (4, .s (.c (.own 1))), (10, .s (.c (.own 3))), (88, .s (.c (.d (.sl (List.map Node.cs t.Nodes))))), (89, .s (aI (t.Nodes.length : Int))), (90, .s (aI s10.1))], [(0, .blk [cI t.Root, cI t.Next, .d (.sl (List.map Node.cs t.Nodes))] 57), (1, .mp true (encM (kInt .i64) Node.cs s2)), (3, .mp false (encM (kInt .i64) eBool s13))], 0⟩) k14 r (fun s13 hr => ?_) ?_
  rw [hk14] at hr
  refine Ok.region (OkOps.y (aI (IntKind.i64.wrap (s10.1 + 1))) (OkOps.y (aI (IntKind.i64.wrap (s10.1 + 1))) (OkOps.nil ?_)))
  exact ⟨(IntKind.i64.wrap (s10.1 + 1), s13), hr, (Conv.mk (tau []) ⟨⟨_, rfl, .inl rfl⟩, ⟨_, rfl, .inl rfl⟩, ⟨_, rfl, .inl rfl⟩, ⟨_, rfl, .inl rfl⟩, ⟨_, rfl, .inl rfl⟩, ⟨_, rfl, .inl rfl⟩, trivial⟩ ⟨rfl, rfl, rfl, trivial⟩ rfl rfl rfl rfl)⟩
  clear hk14
  refine Ok.block (Ok.seq (Ok.region ?_))
  obtain ⟨x15, hx15, hr⟩ := bind_some hr
  refine OkOps.q (triIdx (enc := Node.cs) (L := t.Nodes) (row := [dI x15.ID, dI x15.Parent, dI x15.Kind, dS x15.Key, .sl (List.map Attr.cs x15.Attrs), .sl (List.map Action.cs x15.Actions), .sl (List.map (eInt .i64) x15.Kids)]) hx15 rfl rfl rfl rfl (fun _ => rfl) trivial rfl) (OkOps.y (.agg [cI x15.ID, cI x15.Parent, cI x15.Kind, cS x15.Key, .d (.sl (List.map Attr.cs x15.Attrs)), .d (.sl (List.map Action.cs x15.Actions)), .d (.sl (List.map (eInt .i64) x15.Kids))]) (OkOps.m 0 (triAlloc (j := 4) (cs := [cI 0, cI 0, cI 0, cS ByteArray.empty, .d (.v (.slice none 0 0)), .d (.v (.slice none 0 0)), .d (.v (.slice none 0 0))]) rfl rfl rfl rfl) (OkOps.w (triStore (cs' := [cI x15.ID, cI x15.Parent, cI x15.Kind, cS x15.Key, .d (.sl (List.map Attr.cs x15.Attrs)), .d (.sl (List.map Action.cs x15.Actions)), .d (.sl (List.map (eInt .i64) x15.Kids))]) rfl rfl rfl rfl rfl rfl rfl rfl rfl) (OkOps.nil (Ok.seq (Ok.region (OkOps.y (.c (.loc 4 6)) (OkOps.y (.c (.d (.sl (List.map (eInt .i64) x15.Kids)))) (OkOps.q (triLen (enc := (eInt .i64)) x15.Kids rfl rfl trivial rfl) (OkOps.y (aI 0) (OkOps.nil ?_)))))))))))
  obtain ⟨k17, hk17, hr⟩ := jn_some hr
  refine Ok.joinEnd (fun (s16 : (List (Int × Bool))) => ⟨[(1, .s (.c (.loc 0 0))), (4, .s (.c (.own 1))), (10, .s (.c (.own 3))), (88, .s (.c (.d (.sl (List.map Node.cs t.Nodes))))), (89, .s (aI (t.Nodes.length : Int))), (90, .s (aI s10.1))], [(0, .blk [cI t.Root, cI t.Next, .d (.sl (List.map Node.cs t.Nodes))] 57), (1, .mp true (encM (kInt .i64) Node.cs s2)), (3, .mp false (encM (kInt .i64) eBool s16))], 0⟩) k17 r (fun s16 hr => ?_) ?_
  rw [hk17] at hr
  exact ⟨s16, hr, (Conv.mk (tau []) ⟨⟨_, rfl, .inl rfl⟩, ⟨_, rfl, .inl rfl⟩, ⟨_, rfl, .inl rfl⟩, ⟨_, rfl, .inl rfl⟩, ⟨_, rfl, .inl rfl⟩, ⟨_, rfl, .inl rfl⟩, trivial⟩ ⟨rfl, rfl, rfl, trivial⟩ rfl rfl rfl rfl)⟩
  clear hk17
  refine Ok.block (Ok.loopK (fun (s18 : Int × (List (Int × Bool))) => ⟨[(1, .s (.c (.loc 0 0))), (4, .s (.c (.own 1))), (10, .s (.c (.own 3))), (12, .s (.c (.loc 4 0))), (88, .s (.c (.d (.sl (List.map Node.cs t.Nodes))))), (89, .s (aI (t.Nodes.length : Int))), (90, .s (aI s10.1)), (95, .s (.c (.d (.sl (List.map (eInt .i64) x15.Kids))))), (96, .s (aI (x15.Kids.length : Int))), (97, .s (aI s18.1))], [(0, .blk [cI t.Root, cI t.Next, .d (.sl (List.map Node.cs t.Nodes))] 57), (1, .mp true (encM (kInt .i64) Node.cs s2)), (3, .mp false (encM (kInt .i64) eBool s18.2)), (4, .blk [cI x15.ID, cI x15.Parent, cI x15.Kind, cS x15.Key, .d (.sl (List.map Attr.cs x15.Attrs)), .d (.sl (List.map Action.cs x15.Actions)), .d (.sl (List.map (eInt .i64) x15.Kids))] 62)], 0⟩) hr (Conv.mk (tau []) ⟨⟨_, rfl, .inl rfl⟩, ⟨_, rfl, .inl rfl⟩, ⟨_, rfl, .inl rfl⟩, ⟨_, rfl, .inl rfl⟩, ⟨_, rfl, .inl rfl⟩, ⟨_, rfl, .inl rfl⟩, ⟨_, rfl, .inl rfl⟩, ⟨_, rfl, .inl rfl⟩, ⟨_, rfl, .inl rfl⟩, ⟨_, rfl, .inl rfl⟩, trivial⟩ ⟨rfl, rfl, rfl, rfl, trivial⟩ rfl rfl rfl rfl) ?_)
  clear hr
  intro again19 s18 hr
  unfold vw_graph_L1 at hr
  refine Ok.seq (Ok.region (OkOps.y (aB (decide (s18.1 < (x15.Kids.length : Int)))) (OkOps.nil (Ok.seq ?_))))
  refine Ok.cond (b := decide (s18.1 < (x15.Kids.length : Int))) rfl (fun h20 => ?_) (fun h20 => ?_)
  have hr := selT h20 hr
  refine Ok.skip (Ok.seq (Ok.block (Ok.seq (Ok.region ?_))))
  obtain ⟨x21, hx21, hr⟩ := bind_some hr
  refine OkOps.q (triIdx (enc := (eInt .i64)) (L := x15.Kids) (row := [dI x21]) hx21 rfl rfl rfl rfl (fun _ => rfl) trivial rfl) (OkOps.y (aI x21) (OkOps.y (aI x21) (OkOps.nil (Ok.seq (Ok.seq (Ok.region (OkOps.y (.c (.own 1)) (OkOps.y (aI x21) ?_))))))))
  obtain ⟨x22, hx22, hr⟩ := bind_some hr
  refine OkOps.q (triLookT (agg := true) (ek := (kInt .i64)) (ev := Node.cs) (L := s2) (r := .agg [cI x22.1.ID, cI x22.1.Parent, cI x22.1.Kind, cS x22.1.Key, .d (.sl (List.map Attr.cs x22.1.Attrs)), .d (.sl (List.map Action.cs x22.1.Actions)), .d (.sl (List.map (eInt .i64) x22.1.Kids))]) hx22 rfl rfl rfl (keyInt Tryd.underlying3) rfl rfl (fun h => by cases h) rfl trivial rfl) ?_
  refine OkOps.q (triMv (v := .tup [.agg [cI x22.1.ID, cI x22.1.Parent, cI x22.1.Kind, cS x22.1.Key, .d (.sl (List.map Attr.cs x22.1.Attrs)), .d (.sl (List.map Action.cs x22.1.Actions)), .d (.sl (List.map (eInt .i64) x22.1.Kids))], aB x22.2]) rfl rfl) (OkOps.y (.agg [cI x22.1.ID, cI x22.1.Parent, cI x22.1.Kind, cS x22.1.Key, .d (.sl (List.map Attr.cs x22.1.Attrs)), .d (.sl (List.map Action.cs x22.1.Actions)), .d (.sl (List.map (eInt .i64) x22.1.Kids))]) (OkOps.y (aB x22.2) (OkOps.m 0 (triAlloc (j := 5) (cs := [cI 0, cI 0, cI 0, cS ByteArray.empty, .d (.v (.slice none 0 0)), .d (.v (.slice none 0 0)), .d (.v (.slice none 0 0))]) rfl rfl rfl rfl) (OkOps.w (triStore (cs' := [cI x22.1.ID, cI x22.1.Parent, cI x22.1.Kind, cS x22.1.Key, .d (.sl (List.map Attr.cs x22.1.Attrs)), .d (.sl (List.map Action.cs x22.1.Actions)), .d (.sl (List.map (eInt .i64) x22.1.Kids))]) rfl rfl rfl rfl rfl rfl rfl rfl rfl) (OkOps.y (aB x22.2) (OkOps.nil (Ok.seq (Ok.region (OkOps.y (aB x22.2) (OkOps.y (aB (!x22.2)) (OkOps.y (aB (!x22.2)) (OkOps.q (triQG (x := .c (.loc 5 1)) rfl rfl trivial rfl) (OkOps.q (triQG (x := aI x22.1.Parent) rfl rfl ⟨fun h => h, trivial⟩ rfl) (OkOps.q (triQG (x := .c (.loc 4 0)) rfl rfl trivial rfl) (OkOps.q (triQG (x := aI x15.ID) rfl rfl ⟨fun h => h, trivial⟩ rfl) ?_)))))))))))))))
  refine OkOps.q (triQG (x := aB (x22.1.Parent != x15.ID)) rfl rfl ⟨fun h => h, ⟨fun h => h, trivial⟩⟩ rfl) ?_
  refine OkOps.q (triOr rfl rfl (fun h => by rw [h]; rfl) rfl) ?_
  refine OkOps.y (aB ((!x22.2) || (x22.1.Parent != x15.ID))) (OkOps.q (triQG (x := .c (.own 3)) rfl rfl trivial rfl) (OkOps.q (triQG (x := aI x21) rfl rfl trivial rfl) ?_))
  obtain ⟨x23, hx23, hr⟩ := bind_some hr
  refine OkOps.q (triLookG (agg := false) (ek := (kInt .i64)) (ev := eBool) (L := s18.2) (r := aB x23.1) (gO_t hx23) rfl rfl rfl rfl (keyInt Tryd.underlying3) rfl rfl (fun _ _ => rfl) rfl ⟨fun h => h, ⟨fun h => h, trivial⟩⟩ rfl) ?_
  refine OkOps.q (triOr rfl rfl (fun h => by rw [h]; rfl) rfl) ?_
  refine OkOps.nil ?_
  refine Ok.cond (b := ((!x22.2) || (x22.1.Parent != x15.ID)) || x23.1) rfl (fun h24 => ?_) (fun h24 => ?_)
  have hr := selT h24 hr
  refine Ok.seq (Ok.region (OkOps.y (.c (.d (.v (.map none)))) (OkOps.y (aB false) (OkOps.nil (Ok.conv (Conv.nilM 2 true rfl) (Ok.ret ?_))))))
  obtain rfl := Option.some.inj hr
  exact ⟨_, rfl, .inl rfl, trivial⟩
  have hr := selF h24 hr
  refine Ok.skip (Ok.region (OkOps.y (.c (.own 3)) (OkOps.y (aI x21) (OkOps.w (triMapUp (ek := (kInt .i64)) (ev := eBool) (L := s18.2) (z := true) rfl rfl rfl rfl rfl rfl (keyInt Tryd.underlying3) (fun _ _ => rfl) rfl trivial) (OkOps.nil (Ok.region (OkOps.y (aI (IntKind.i64.wrap (s18.1 + 1))) (OkOps.y (aI (IntKind.i64.wrap (s18.1 + 1))) (OkOps.nil ?_)))))))))
  exact ⟨(IntKind.i64.wrap (s18.1 + 1), msetL s18.2 x21 true), hr, (Conv.mk (tau []) ⟨⟨_, rfl, .inl rfl⟩, ⟨_, rfl, .inl rfl⟩, ⟨_, rfl, .inl rfl⟩, ⟨_, rfl, .inl rfl⟩, ⟨_, rfl, .inl rfl⟩, ⟨_, rfl, .inl rfl⟩, ⟨_, rfl, .inl rfl⟩, ⟨_, rfl, .inl rfl⟩, ⟨_, rfl, .inl rfl⟩, ⟨_, rfl, .inl rfl⟩, trivial⟩ ⟨rfl, rfl, rfl, rfl, trivial⟩ rfl rfl rfl rfl)⟩
  have hr := selF h20 hr
  refine Ok.exit ?_
  exact ⟨s18.2, hr, (Conv.mk (tau []) ⟨⟨_, rfl, .inl rfl⟩, ⟨_, rfl, .inl rfl⟩, ⟨_, rfl, .inl rfl⟩, ⟨_, rfl, .inl rfl⟩, ⟨_, rfl, .inl rfl⟩, ⟨_, rfl, .inl rfl⟩, trivial⟩ ⟨rfl, rfl, rfl, trivial⟩ rfl rfl rfl rfl)⟩
  have hr := selF h12 hr
  refine Ok.exit ?_
  exact ⟨s10.2, hr, (Conv.mk (tau []) ⟨⟨_, rfl, .inl rfl⟩, ⟨_, rfl, .inl rfl⟩, ⟨_, rfl, .inl rfl⟩, trivial⟩ ⟨rfl, rfl, rfl, trivial⟩ rfl rfl rfl rfl)⟩
  clear hk3
  refine Ok.seq (Ok.region (OkOps.y (.c (.loc 0 2)) (OkOps.y (.c (.d (.sl (List.map Node.cs t.Nodes)))) (OkOps.q (triLen (enc := Node.cs) t.Nodes rfl rfl trivial rfl) (OkOps.y (aI 0) (OkOps.nil (Ok.block (Ok.loopK (fun (s25 : Int × Int × (List (Int × Node))) => ⟨[(1, .s (.c (.loc 0 0))), (4, .s (.c (.own 1))), (5, .s (aI s25.1)), (39, .s (.c (.d (.sl (List.map Node.cs t.Nodes))))), (40, .s (aI (t.Nodes.length : Int))), (41, .s (aI s25.2.1))], [(0, .blk [cI t.Root, cI t.Next, .d (.sl (List.map Node.cs t.Nodes))] 57), (1, .mp true (encM (kInt .i64) Node.cs s25.2.2))], 0⟩) hr (Conv.mk (tau []) ⟨⟨_, rfl, .inl rfl⟩, ⟨_, rfl, .inl rfl⟩, ⟨_, rfl, .inl rfl⟩, ⟨_, rfl, .inl rfl⟩, ⟨_, rfl, .inl rfl⟩, ⟨_, rfl, .inl rfl⟩, trivial⟩ ⟨rfl, rfl, trivial⟩ rfl rfl rfl rfl) ?_))))))))
  clear hr
  intro again26 s25 hr
  unfold vw_graph_L3 at hr
  refine Ok.seq (Ok.region (OkOps.y (aB (decide (s25.2.1 < (t.Nodes.length : Int)))) (OkOps.nil (Ok.seq ?_))))
  refine Ok.cond (b := decide (s25.2.1 < (t.Nodes.length : Int))) rfl (fun h27 => ?_) (fun h27 => ?_)
  have hr := selT h27 hr
  refine Ok.skip (Ok.seq (Ok.block (Ok.seq (Ok.region ?_))))
  obtain ⟨x28, hx28, hr⟩ := bind_some hr
  refine OkOps.q (triIdx (enc := Node.cs) (L := t.Nodes) (row := [dI x28.ID, dI x28.Parent, dI x28.Kind, dS x28.Key, .sl (List.map Attr.cs x28.Attrs), .sl (List.map Action.cs x28.Actions), .sl (List.map (eInt .i64) x28.Kids)]) hx28 rfl rfl rfl rfl (fun _ => rfl) trivial rfl) (OkOps.y (.agg [cI x28.ID, cI x28.Parent, cI x28.Kind, cS x28.Key, .d (.sl (List.map Attr.cs x28.Attrs)), .d (.sl (List.map Action.cs x28.Actions)), .d (.sl (List.map (eInt .i64) x28.Kids))]) (OkOps.m 0 (triAlloc (j := 6) (cs := [cI 0, cI 0, cI 0, cS ByteArray.empty, .d (.v (.slice none 0 0)), .d (.v (.slice none 0 0)), .d (.v (.slice none 0 0))]) rfl rfl rfl rfl) (OkOps.w (triStore (cs' := [cI x28.ID, cI x28.Parent, cI x28.Kind, cS x28.Key, .d (.sl (List.map Attr.cs x28.Attrs)), .d (.sl (List.map Action.cs x28.Actions)), .d (.sl (List.map (eInt .i64) x28.Kids))]) rfl rfl rfl rfl rfl rfl rfl rfl rfl) (OkOps.nil (Ok.seq (Ok.seq (Ok.region (OkOps.y (.c (.loc 6 0)) (OkOps.y (aI x28.ID) (OkOps.y (aI s25.1) (OkOps.y (aB (decide (x28.ID ≤ s25.1))) (OkOps.y (aB (decide (x28.ID ≤ s25.1))) (OkOps.q (triQG (x := .c (.loc 6 0)) rfl rfl trivial rfl) (OkOps.q (triQG (x := aI x28.ID) rfl rfl ⟨fun h => h, trivial⟩ rfl) (OkOps.q (triQG (x := .c (.loc 0 1)) rfl rfl trivial rfl) ?_)))))))))))))))
  refine OkOps.q (triQG (x := aI t.Next) rfl rfl ⟨fun h => h, trivial⟩ rfl) (OkOps.q (triQG (x := aB (decide (x28.ID ≥ t.Next))) rfl rfl ⟨fun h => h, ⟨fun h => h, trivial⟩⟩ rfl) ?_)
  refine OkOps.q (triOr rfl rfl (fun h => by rw [h]; rfl) rfl) ?_
  refine OkOps.y (aB ((decide (x28.ID ≤ s25.1)) || (decide (x28.ID ≥ t.Next)))) (OkOps.q (triQG (x := .c (.loc 6 1)) rfl rfl trivial rfl) (OkOps.q (triQG (x := aI x28.Parent) rfl rfl ⟨fun h => h, trivial⟩ rfl) (OkOps.q (triQG (x := aB (x28.Parent == 0)) rfl rfl ⟨fun h => h, trivial⟩ rfl) (OkOps.q (triQG (x := .c (.loc 6 0)) rfl rfl trivial rfl) (OkOps.q (triQG (x := aI x28.ID) rfl rfl ⟨fun h => h, trivial⟩ rfl) (OkOps.q (triQG (x := .c (.loc 0 0)) rfl rfl trivial rfl) (OkOps.q (triQG (x := aI t.Root) rfl rfl ⟨fun h => h, trivial⟩ rfl) (OkOps.q (triQG (x := aB (x28.ID == t.Root)) rfl rfl ⟨fun h => h, ⟨fun h => h, trivial⟩⟩ rfl) (OkOps.q (triQG (x := aB ((x28.Parent == 0) != (x28.ID == t.Root))) rfl rfl ⟨fun h => h, ⟨fun h => h, trivial⟩⟩ rfl) ?_)))))))))
  refine OkOps.q (triOr rfl rfl (fun h => by rw [h]; rfl) rfl) ?_
  refine OkOps.nil ?_
  refine Ok.cond (b := ((decide (x28.ID ≤ s25.1)) || (decide (x28.ID ≥ t.Next))) || ((x28.Parent == 0) != (x28.ID == t.Root))) rfl (fun h29 => ?_) (fun h29 => ?_)
  have hr := selT h29 hr
  refine Ok.seq (Ok.region (OkOps.y (.c (.d (.v (.map none)))) (OkOps.y (aB false) (OkOps.nil (Ok.conv (Conv.nilM 2 true rfl) (Ok.ret ?_))))))
  obtain rfl := Option.some.inj hr
  exact ⟨_, rfl, .inl rfl, trivial⟩
  have hr := selF h29 hr
  refine Ok.skip (Ok.seq (Ok.region (OkOps.y (.c (.loc 6 0)) (OkOps.y (aI x28.ID) (OkOps.y (aI x28.ID) (OkOps.nil (Ok.region (OkOps.y (.c (.own 1)) (OkOps.y (.c (.loc 6 0)) (OkOps.y (aI x28.ID) (OkOps.y (.agg [cI x28.ID, cI x28.Parent, cI x28.Kind, cS x28.Key, .d (.sl (List.map Attr.cs x28.Attrs)), .d (.sl (List.map Action.cs x28.Actions)), .d (.sl (List.map (eInt .i64) x28.Kids))]) ?_)))))))))))
  refine OkOps.w (triMapUp (ek := (kInt .i64)) (ev := Node.cs) (L := s25.2.2) (z := x28) rfl rfl rfl rfl rfl rfl (keyInt Tryd.underlying3) (fun h => by cases h) rfl trivial) ?_
  refine OkOps.nil (Ok.region (OkOps.y (aI (IntKind.i64.wrap (s25.2.1 + 1))) (OkOps.y (aI (IntKind.i64.wrap (s25.2.1 + 1))) (OkOps.nil ?_))))
  exact ⟨(x28.ID, IntKind.i64.wrap (s25.2.1 + 1), msetL s25.2.2 x28.ID x28), hr, (Conv.mk (tau []) ⟨⟨_, rfl, .inl rfl⟩, ⟨_, rfl, .inl rfl⟩, ⟨_, rfl, .inl rfl⟩, ⟨_, rfl, .inl rfl⟩, ⟨_, rfl, .inl rfl⟩, ⟨_, rfl, .inl rfl⟩, trivial⟩ ⟨rfl, rfl, trivial⟩ rfl rfl rfl rfl)⟩
  have hr := selF h27 hr
  refine Ok.exit ?_
  exact ⟨s25.2.2, hr, (Conv.mk (tau []) ⟨⟨_, rfl, .inl rfl⟩, ⟨_, rfl, .inl rfl⟩, trivial⟩ ⟨rfl, rfl, trivial⟩ rfl rfl rfl rfl)⟩
theorem vw_described_B_c (self0 : (List (Int × Node)) → Int → Option View) (hself0 : ∀ (nodes : (List (Int × Node))) (id : Int) {r : View}, self0 nodes id = some r → Con Tryd.prog 100 [.c (.d (.mp true (encM (kInt .i64) Node.cs nodes))), aI id] [] (.s (.agg [cI r.Kind, cS r.Key, .d (.sl (List.map Attr.cs r.Attrs)), .d (.sl (List.map Action.cs r.Actions)), .d (.sl (List.map View.cs r.Kids))])) []) (nodes : (List (Int × Node))) (id : Int) {r : View} (hr : vw_described_B self0 nodes id = some r) : Con Tryd.prog 100 [.c (.d (.mp true (encM (kInt .i64) Node.cs nodes))), aI id] [] (.s (.agg [cI r.Kind, cS r.Key, .d (.sl (List.map Attr.cs r.Attrs)), .d (.sl (List.map Action.cs r.Actions)), .d (.sl (List.map View.cs r.Kids))])) [] := by
  unfold vw_described_B at hr
  refine Con.of_ok 38 0 [.cell 4 54] [(0, .s (.c (.d (.mp true (encM (kInt .i64) Node.cs nodes))))), (1, .s (aI id))] Tryd.func100 rfl rfl rfl rfl rfl rfl rfl rfl fun w g M ρ _ => (Ok.seq (Ok.region (OkOps.m 0 (triAlloc (j := 0) (cs := [cI 0, cS ByteArray.empty, .d (.v (.slice none 0 0)), .d (.v (.slice none 0 0)), .d (.v (.slice none 0 0))]) rfl rfl rfl rfl) (OkOps.nil (Ok.seq (Ok.region (OkOps.y (.c (.d (.mp true (encM (kInt .i64) Node.cs nodes)))) (OkOps.y (aI id) ?_))))))))
  obtain ⟨x1, hx1, hr⟩ := bind_some hr
  refine OkOps.q (triLook (agg := true) (ek := (kInt .i64)) (ev := Node.cs) (L := nodes) (r := .agg [cI x1.1.ID, cI x1.1.Parent, cI x1.1.Kind, cS x1.1.Key, .d (.sl (List.map Attr.cs x1.1.Attrs)), .d (.sl (List.map Action.cs x1.1.Actions)), .d (.sl (List.map (eInt .i64) x1.1.Kids))]) hx1 rfl rfl rfl (keyInt Tryd.underlying3) rfl rfl (fun h => by cases h) rfl trivial rfl) ?_
  refine OkOps.m 0 (triAlloc (j := 1) (cs := [cI 0, cI 0, cI 0, cS ByteArray.empty, .d (.v (.slice none 0 0)), .d (.v (.slice none 0 0)), .d (.v (.slice none 0 0))]) rfl rfl rfl rfl) (OkOps.w (triStore (cs' := [cI x1.1.ID, cI x1.1.Parent, cI x1.1.Kind, cS x1.1.Key, .d (.sl (List.map Attr.cs x1.1.Attrs)), .d (.sl (List.map Action.cs x1.1.Actions)), .d (.sl (List.map (eInt .i64) x1.1.Kids))]) rfl rfl rfl rfl rfl rfl rfl rfl rfl) (OkOps.nil (Ok.seq (Ok.region (OkOps.y (.c (.loc 1 2)) (OkOps.y (aI x1.1.Kind) (OkOps.y (.c (.loc 1 3)) (OkOps.y (aS x1.1.Key) (OkOps.y (.c (.loc 1 4)) (OkOps.y (.c (.d (.sl (List.map Attr.cs x1.1.Attrs)))) (OkOps.y (.c (.loc 1 5)) (OkOps.y (.c (.d (.sl (List.map Action.cs x1.1.Actions)))) (OkOps.y (.agg [cI x1.1.Kind, cS x1.1.Key, .d (.sl (List.map Attr.cs x1.1.Attrs)), .d (.sl (List.map Action.cs x1.1.Actions)), .d (.v (.slice none 0 0))]) (OkOps.m 0 (triAlloc (j := 2) (cs := [cI 0, cS ByteArray.empty, .d (.v (.slice none 0 0)), .d (.v (.slice none 0 0)), .d (.v (.slice none 0 0))]) rfl rfl rfl rfl) (OkOps.w (triStore (cs' := [cI x1.1.Kind, cS x1.1.Key, .d (.sl (List.map Attr.cs x1.1.Attrs)), .d (.sl (List.map Action.cs x1.1.Actions)), .d (.v (.slice none 0 0))]) rfl rfl rfl rfl rfl rfl rfl rfl rfl) ?_)))))))))))))))
  refine OkOps.nil ?_
  obtain ⟨k3, hk3, hr⟩ := jn_some hr
  refine Ok.join (fun (s2 : (List View)) => ⟨[(4, .s (.c (.loc 0 0))), (6, .s (.c (.loc 2 0)))], [(0, .blk [cI 0, cS ByteArray.empty, .d (.v (.slice none 0 0)), .d (.v (.slice none 0 0)), .d (.v (.slice none 0 0))] 54), (2, .blk [cI x1.1.Kind, cS x1.1.Key, .d (.sl (List.map Attr.cs x1.1.Attrs)), .d (.sl (List.map Action.cs x1.1.Actions)), .tl 1004 (List.map View.cs s2)] 54), (1004, .tail 5)], 0⟩) k3 r (fun s2 hr => ?_) ?_
  rw [hk3] at hr
  refine Ok.seq (Ok.region (OkOps.y (.agg [cI x1.1.Kind, cS x1.1.Key, .d (.sl (List.map Attr.cs x1.1.Attrs)), .d (.sl (List.map Action.cs x1.1.Actions)), .tl 1004 (List.map View.cs s2)]) (OkOps.w (triStore (cs' := [cI x1.1.Kind, cS x1.1.Key, .d (.sl (List.map Attr.cs x1.1.Attrs)), .d (.sl (List.map Action.cs x1.1.Actions)), .tl 1004 (List.map View.cs s2)]) rfl rfl rfl rfl rfl rfl rfl rfl rfl) (OkOps.nil (Ok.ret ?_)))))
  obtain rfl := Option.some.inj hr
  exact ⟨_, rfl, .inr rfl, trivial⟩
  clear hk3
  refine Ok.seq (Ok.region (OkOps.y (.c (.loc 1 6)) (OkOps.y (.c (.d (.sl (List.map (eInt .i64) x1.1.Kids)))) (OkOps.q (triLen (enc := (eInt .i64)) x1.1.Kids rfl rfl trivial rfl) (OkOps.y (aI 0) (OkOps.nil (Ok.block (Ok.loopK (fun (s4 : Int × (List View)) => ⟨[(0, .s (.c (.d (.mp true (encM (kInt .i64) Node.cs nodes))))), (4, .s (.c (.loc 0 0))), (6, .s (.c (.loc 2 0))), (22, .s (.c (.d (.sl (List.map (eInt .i64) x1.1.Kids))))), (23, .s (aI (x1.1.Kids.length : Int))), (24, .s (aI s4.1))], [(0, .blk [cI 0, cS ByteArray.empty, .d (.v (.slice none 0 0)), .d (.v (.slice none 0 0)), .d (.v (.slice none 0 0))] 54), (2, .blk [cI x1.1.Kind, cS x1.1.Key, .d (.sl (List.map Attr.cs x1.1.Attrs)), .d (.sl (List.map Action.cs x1.1.Actions)), .tl 1007 (List.map View.cs s4.2)] 54), (1007, .tail 5)], 0⟩) hr (Conv.trans (Conv.nilO 2 4 1009 5 [cI x1.1.Kind, cS x1.1.Key, .d (.sl (List.map Attr.cs x1.1.Attrs)), .d (.sl (List.map Action.cs x1.1.Actions)), .d (.v (.slice none 0 0))] [cI x1.1.Kind, cS x1.1.Key, .d (.sl (List.map Attr.cs x1.1.Attrs)), .d (.sl (List.map Action.cs x1.1.Actions)), .tl 1009 (List.map View.cs ([] : (List View)))] 54 0 rfl rfl rfl rfl) (Conv.mk (tau [(1007, 1009)]) ⟨⟨_, rfl, .inl rfl⟩, ⟨_, rfl, .inl rfl⟩, ⟨_, rfl, .inl rfl⟩, ⟨_, rfl, .inl rfl⟩, ⟨_, rfl, .inl rfl⟩, ⟨_, rfl, .inl rfl⟩, trivial⟩ ⟨rfl, rfl, rfl, trivial⟩ rfl rfl rfl rfl)) ?_))))))))
  clear hr
  intro again5 s4 hr
  unfold vw_described_L1 at hr
  refine Ok.seq (Ok.region (OkOps.y (aB (decide (s4.1 < (x1.1.Kids.length : Int)))) (OkOps.nil (Ok.seq ?_))))
  refine Ok.cond (b := decide (s4.1 < (x1.1.Kids.length : Int))) rfl (fun h6 => ?_) (fun h6 => ?_)
  have hr := selT h6 hr
  refine Ok.skip (Ok.seq (Ok.block (Ok.seq (Ok.region ?_))))
  obtain ⟨x7, hx7, hr⟩ := bind_some hr
  refine OkOps.q (triIdx (enc := (eInt .i64)) (L := x1.1.Kids) (row := [dI x7]) hx7 rfl rfl rfl rfl (fun _ => rfl) trivial rfl) (OkOps.y (aI x7) (OkOps.y (aI x7) (OkOps.nil (Ok.regionD (by kernel_rfl) (OkD.x (.c (.loc 2 4)) rfl trivial rfl (OkD.x (.c (.tl 1007 (List.map View.cs s4.2))) rfl trivial rfl (OkD.x (.c (.d (.mp true (encM (kInt .i64) Node.cs nodes)))) rfl trivial rfl (OkD.x (aI x7) rfl trivial rfl ?_))))))))
  obtain ⟨x8, hx8, hr⟩ := bind_some hr
  refine OkD.q (triCl (tau []) (.s (.agg [cI x8.Kind, cS x8.Key, .d (.sl (List.map Attr.cs x8.Attrs)), .d (.sl (List.map Action.cs x8.Actions)), .d (.sl (List.map View.cs x8.Kids))])) [] (hself0 _ _ hx8) rfl ⟨.inl rfl, .inl rfl, trivial⟩ trivial entry100 trivial) ?_
  refine OkD.m 0 (triBST (sz := 5) (enc := View.cs) (j := 3) ([x8]) rfl rfl rfl rfl rfl (rows := [[dI x8.Kind, dS x8.Key, .sl (List.map Attr.cs x8.Attrs), .sl (List.map Action.cs x8.Actions), .sl (List.map View.cs x8.Kids)]]) (by simp only [List.map, View.cs_eq]) rfl rfl (fun x => by rw [View.cs_eq]; rfl) trivial rfl rfl) ?_
  obtain ⟨x9, hx9, hr⟩ := bind_some hr
  refine OkD.m2 0 (triApp (enc := View.cs) (L := s4.2) (X := [x8]) (j := 1007) (j' := 4) hx9 rfl rfl rfl rfl rfl rfl (fun x => by rw [View.cs_eq]; rfl) (fun x => by rw [View.cs_eq]; rfl) (by decide) trivial rfl rfl) ?_
  refine OkD.x (.c (.loc 2 4)) rfl trivial rfl (OkD.w (triStore (cs' := [cI x1.1.Kind, cS x1.1.Key, .d (.sl (List.map Attr.cs x1.1.Attrs)), .d (.sl (List.map Action.cs x1.1.Actions)), .tl 4 (List.map View.cs x9)]) rfl rfl rfl rfl rfl rfl rfl rfl rfl) (OkD.nil (by kernel_rfl) (Ok.region (OkOps.y (aI (IntKind.i64.wrap (s4.1 + 1))) (OkOps.y (aI (IntKind.i64.wrap (s4.1 + 1))) (OkOps.nil ?_))))))
  exact ⟨(IntKind.i64.wrap (s4.1 + 1), x9), hr, (Conv.mk (tau [(1007, 4)]) ⟨⟨_, rfl, .inl rfl⟩, ⟨_, rfl, .inl rfl⟩, ⟨_, rfl, .inl rfl⟩, ⟨_, rfl, .inl rfl⟩, ⟨_, rfl, .inl rfl⟩, ⟨_, rfl, .inl rfl⟩, trivial⟩ ⟨rfl, rfl, rfl, trivial⟩ rfl rfl rfl rfl)⟩
  have hr := selF h6 hr
  refine Ok.exit ?_
  exact ⟨s4.2, hr, (Conv.mk (tau [(1004, 1007)]) ⟨⟨_, rfl, .inl rfl⟩, ⟨_, rfl, .inl rfl⟩, trivial⟩ ⟨rfl, rfl, rfl, trivial⟩ rfl rfl rfl rfl)⟩
theorem vw_described_all : ∀ n : Nat, (∀ (nodes : (List (Int × Node))) (id : Int) {r : View}, vw_described n nodes id = some r → Con Tryd.prog 100 [.c (.d (.mp true (encM (kInt .i64) Node.cs nodes))), aI id] [] (.s (.agg [cI r.Kind, cS r.Key, .d (.sl (List.map Attr.cs r.Attrs)), .d (.sl (List.map Action.cs r.Actions)), .d (.sl (List.map View.cs r.Kids))])) []) ∧ True := by
  intro n
  induction n with
  | zero => exact ⟨(by intros; rename_i hr; cases hr), trivial⟩
  | succ n ih => exact ⟨(by intros; rename_i hr; exact vw_described_B_c _ ih.1 _ _ hr), trivial⟩
theorem vw_described_c (n : Nat) (nodes : (List (Int × Node))) (id : Int) {r : View} (hr : vw_described n nodes id = some r) : Con Tryd.prog 100 [.c (.d (.mp true (encM (kInt .i64) Node.cs nodes))), aI id] [] (.s (.agg [cI r.Kind, cS r.Key, .d (.sl (List.map Attr.cs r.Attrs)), .d (.sl (List.map Action.cs r.Actions)), .d (.sl (List.map View.cs r.Kids))])) [] := (vw_described_all n).1 nodes id hr
theorem vw_examine_c (t : Tree) {r : (List (Int × Node)) × View × Int} (hr : vw_examine t = some r) : Con Tryd.prog 80 [.agg [cI t.Root, cI t.Next, .d (.sl (List.map Node.cs t.Nodes))]] [] (.tup [.c (.d (.mp true (encM (kInt .i64) Node.cs r.1))), .agg [cI r.2.1.Kind, cS r.2.1.Key, .d (.sl (List.map Attr.cs r.2.1.Attrs)), .d (.sl (List.map Action.cs r.2.1.Actions)), .d (.sl (List.map View.cs r.2.1.Kids))], aI r.2.2]) [] := by
  unfold vw_examine at hr
  refine Con.of_ok 24 0 [.tmp 2, .cell 3 54, .tmp 4] [(0, .s (.agg [cI t.Root, cI t.Next, .d (.sl (List.map Node.cs t.Nodes))]))] Tryd.func80 rfl rfl rfl rfl rfl rfl rfl rfl fun w g M ρ _ => (Ok.seq (Ok.region (OkOps.m 0 (triBox (j := 0) (cs := [cI t.Root, cI t.Next, .d (.sl (List.map Node.cs t.Nodes))]) rfl rfl rfl rfl rfl) (OkOps.y (.c (.d (.v (.map none)))) (OkOps.m 0 (triAlloc (j := 1) (cs := [cI 0, cS ByteArray.empty, .d (.v (.slice none 0 0)), .d (.v (.slice none 0 0)), .d (.v (.slice none 0 0))]) rfl rfl rfl rfl) (OkOps.y (aI 0) (OkOps.nil (Ok.seq (Ok.region (OkOps.y (.agg [cI t.Root, cI t.Next, .d (.sl (List.map Node.cs t.Nodes))]) ?_))))))))))
  obtain ⟨x1, hx1, hr⟩ := bind_some hr
  refine OkOps.q (triCl (tau []) (.tup [.c (.d (.mp true (encM (kInt .i64) Node.cs x1.1))), aB x1.2]) [] (vw_graph_c _ hx1) rfl ⟨.inl rfl, trivial⟩ trivial entry99 trivial) (OkOps.q (triMv (v := .tup [.c (.d (.mp true (encM (kInt .i64) Node.cs x1.1))), aB x1.2]) rfl rfl) (OkOps.y (.c (.d (.mp true (encM (kInt .i64) Node.cs x1.1)))) (OkOps.y (aB x1.2) (OkOps.y (.c (.d (.mp true (encM (kInt .i64) Node.cs x1.1)))) (OkOps.y (aB x1.2) (OkOps.nil (Ok.seq (Ok.seq (Ok.region (OkOps.y (aB x1.2) (OkOps.y (aB (!x1.2)) (OkOps.nil ?_))))))))))))
  refine Ok.cond (b := !x1.2) rfl (fun h2 => ?_) (fun h2 => ?_)
  have hr := selT h2 hr
  refine Ok.seq (Ok.region (OkOps.y (.agg [cI 0, cS ByteArray.empty, .d (.v (.slice none 0 0)), .d (.v (.slice none 0 0)), .d (.v (.slice none 0 0))]) (OkOps.y (.c (.d (.v (.map none)))) (OkOps.w (triStore (cs' := [cI 0, cS ByteArray.empty, .d (.v (.slice none 0 0)), .d (.v (.slice none 0 0)), .d (.v (.slice none 0 0))]) rfl rfl rfl rfl rfl rfl rfl rfl rfl) (OkOps.y (aI 12) (OkOps.nil (Ok.conv (Conv.nilM 2 true rfl) (Ok.ret ?_))))))))
  obtain rfl := Option.some.inj hr
  exact ⟨_, rfl, .inr rfl, trivial⟩
  have hr := selF h2 hr
  refine Ok.skip (Ok.seq (Ok.region (OkOps.y (.c (.d (.mp true (encM (kInt .i64) Node.cs x1.1)))) (OkOps.y (.c (.loc 0 0)) (OkOps.y (aI t.Root) ?_)))))
  obtain ⟨x3, hx3, hr⟩ := bind_some hr
  refine OkOps.q (triCl (tau []) (.s (.agg [cI x3.Kind, cS x3.Key, .d (.sl (List.map Attr.cs x3.Attrs)), .d (.sl (List.map Action.cs x3.Actions)), .d (.sl (List.map View.cs x3.Kids))])) [] (vw_described_c _ _ _ hx3) rfl ⟨.inl rfl, .inl rfl, trivial⟩ trivial entry100 trivial) (OkOps.m 0 (triAlloc (j := 2) (cs := [cI 0, cS ByteArray.empty, .d (.v (.slice none 0 0)), .d (.v (.slice none 0 0)), .d (.v (.slice none 0 0))]) rfl rfl rfl rfl) (OkOps.w (triStore (cs' := [cI x3.Kind, cS x3.Key, .d (.sl (List.map Attr.cs x3.Attrs)), .d (.sl (List.map Action.cs x3.Actions)), .d (.sl (List.map View.cs x3.Kids))]) rfl rfl rfl rfl rfl rfl rfl rfl rfl) (OkOps.nil (Ok.seq (Ok.regionD (by kernel_rfl) (OkD.x (.c (.d (.mp true (encM (kInt .i64) Node.cs x1.1)))) rfl trivial rfl (OkD.x (.agg [cI x3.Kind, cS x3.Key, .d (.sl (List.map Attr.cs x3.Attrs)), .d (.sl (List.map Action.cs x3.Actions)), .d (.sl (List.map View.cs x3.Kids))]) rfl trivial rfl (OkD.x (.agg [cI x3.Kind, cS x3.Key, .d (.sl (List.map Attr.cs x3.Attrs)), .d (.sl (List.map Action.cs x3.Actions)), .d (.sl (List.map View.cs x3.Kids))]) rfl trivial rfl ?_))))))))
  obtain ⟨x4, hx4, hr⟩ := bind_some hr
  refine OkD.q (triCl (tau []) (.s (aI x4)) [] (vw_Validate_c _ hx4) rfl ⟨.inl rfl, trivial⟩ trivial entry101 trivial) (OkD.x (.c (.d (.mp true (encM (kInt .i64) Node.cs x1.1)))) rfl trivial rfl (OkD.w (triStore (cs' := [cI x3.Kind, cS x3.Key, .d (.sl (List.map Attr.cs x3.Attrs)), .d (.sl (List.map Action.cs x3.Actions)), .d (.sl (List.map View.cs x3.Kids))]) rfl rfl rfl rfl rfl rfl rfl rfl rfl) (OkD.x (aI x4) rfl trivial rfl (OkD.nil (by kernel_rfl) (Ok.ret ?_)))))
  obtain rfl := Option.some.inj hr
  exact ⟨_, rfl, .inl rfl, trivial⟩
theorem vw_Check_c (t : Tree) {r : Int} (hr : vw_Check t = some r) : Con Tryd.prog 83 [.agg [cI t.Root, cI t.Next, .d (.sl (List.map Node.cs t.Nodes))]] [] (.s (aI r)) [] := by
  unfold vw_Check at hr
  refine Con.of_ok 13 0 [.tmp 2] [(0, .s (.agg [cI t.Root, cI t.Next, .d (.sl (List.map Node.cs t.Nodes))]))] Tryd.func83 rfl rfl rfl rfl rfl rfl rfl rfl fun w g M ρ _ => (Ok.seq (Ok.region (OkOps.m 0 (triBox (j := 0) (cs := [cI t.Root, cI t.Next, .d (.sl (List.map Node.cs t.Nodes))]) rfl rfl rfl rfl rfl) (OkOps.y (aI 0) (OkOps.nil (Ok.seq (Ok.region (OkOps.y (.agg [cI t.Root, cI t.Next, .d (.sl (List.map Node.cs t.Nodes))]) ?_))))))))
  obtain ⟨x1, hx1, hr⟩ := bind_some hr
  refine OkOps.q (triCl (tau []) (.tup [.c (.d (.mp true (encM (kInt .i64) Node.cs x1.1))), .agg [cI x1.2.1.Kind, cS x1.2.1.Key, .d (.sl (List.map Attr.cs x1.2.1.Attrs)), .d (.sl (List.map Action.cs x1.2.1.Actions)), .d (.sl (List.map View.cs x1.2.1.Kids))], aI x1.2.2]) [] (vw_examine_c _ hx1) rfl ⟨.inl rfl, trivial⟩ trivial entry80 trivial) (OkOps.q (triMv (v := .tup [.c (.d (.mp true (encM (kInt .i64) Node.cs x1.1))), .agg [cI x1.2.1.Kind, cS x1.2.1.Key, .d (.sl (List.map Attr.cs x1.2.1.Attrs)), .d (.sl (List.map Action.cs x1.2.1.Actions)), .d (.sl (List.map View.cs x1.2.1.Kids))], aI x1.2.2]) rfl rfl) (OkOps.y (.c (.d (.mp true (encM (kInt .i64) Node.cs x1.1)))) (OkOps.y (.agg [cI x1.2.1.Kind, cS x1.2.1.Key, .d (.sl (List.map Attr.cs x1.2.1.Attrs)), .d (.sl (List.map Action.cs x1.2.1.Actions)), .d (.sl (List.map View.cs x1.2.1.Kids))]) (OkOps.y (aI x1.2.2) (OkOps.m 0 (triAlloc (j := 1) (cs := [cI 0, cS ByteArray.empty, .d (.v (.slice none 0 0)), .d (.v (.slice none 0 0)), .d (.v (.slice none 0 0))]) rfl rfl rfl rfl) (OkOps.y (.c (.d (.mp true (encM (kInt .i64) Node.cs x1.1)))) (OkOps.w (triStore (cs' := [cI x1.2.1.Kind, cS x1.2.1.Key, .d (.sl (List.map Attr.cs x1.2.1.Attrs)), .d (.sl (List.map Action.cs x1.2.1.Actions)), .d (.sl (List.map View.cs x1.2.1.Kids))]) rfl rfl rfl rfl rfl rfl rfl rfl rfl) (OkOps.y (aI x1.2.2) (OkOps.nil (Ok.seq (Ok.region (OkOps.y (aI x1.2.2) (OkOps.y (aI x1.2.2) (OkOps.nil (Ok.ret ?_)))))))))))))))
  obtain rfl := Option.some.inj hr
  exact ⟨_, rfl, .inl rfl, trivial⟩
theorem vw_valid_c (t : Tree) {r : (List (Int × Node)) × Bool} (hr : vw_valid t = some r) : Con Tryd.prog 60 [.agg [cI t.Root, cI t.Next, .d (.sl (List.map Node.cs t.Nodes))]] [] (.tup [.c (.d (.mp true (encM (kInt .i64) Node.cs r.1))), aB r.2]) [] := by
  unfold vw_valid at hr
  refine Con.of_ok 16 0 [.tmp 2, .tmp 3] [(0, .s (.agg [cI t.Root, cI t.Next, .d (.sl (List.map Node.cs t.Nodes))]))] Tryd.func60 rfl rfl rfl rfl rfl rfl rfl rfl fun w g M ρ _ => (Ok.seq (Ok.region (OkOps.m 0 (triBox (j := 0) (cs := [cI t.Root, cI t.Next, .d (.sl (List.map Node.cs t.Nodes))]) rfl rfl rfl rfl rfl) (OkOps.y (.c (.d (.v (.map none)))) (OkOps.y (aB false) (OkOps.nil (Ok.seq (Ok.region (OkOps.y (.agg [cI t.Root, cI t.Next, .d (.sl (List.map Node.cs t.Nodes))]) ?_)))))))))
  obtain ⟨x1, hx1, hr⟩ := bind_some hr
  refine OkOps.q (triCl (tau []) (.tup [.c (.d (.mp true (encM (kInt .i64) Node.cs x1.1))), .agg [cI x1.2.1.Kind, cS x1.2.1.Key, .d (.sl (List.map Attr.cs x1.2.1.Attrs)), .d (.sl (List.map Action.cs x1.2.1.Actions)), .d (.sl (List.map View.cs x1.2.1.Kids))], aI x1.2.2]) [] (vw_examine_c _ hx1) rfl ⟨.inl rfl, trivial⟩ trivial entry80 trivial) (OkOps.q (triMv (v := .tup [.c (.d (.mp true (encM (kInt .i64) Node.cs x1.1))), .agg [cI x1.2.1.Kind, cS x1.2.1.Key, .d (.sl (List.map Attr.cs x1.2.1.Attrs)), .d (.sl (List.map Action.cs x1.2.1.Actions)), .d (.sl (List.map View.cs x1.2.1.Kids))], aI x1.2.2]) rfl rfl) (OkOps.y (.c (.d (.mp true (encM (kInt .i64) Node.cs x1.1)))) (OkOps.y (.agg [cI x1.2.1.Kind, cS x1.2.1.Key, .d (.sl (List.map Attr.cs x1.2.1.Attrs)), .d (.sl (List.map Action.cs x1.2.1.Actions)), .d (.sl (List.map View.cs x1.2.1.Kids))]) (OkOps.y (aI x1.2.2) (OkOps.m 0 (triAlloc (j := 1) (cs := [cI 0, cS ByteArray.empty, .d (.v (.slice none 0 0)), .d (.v (.slice none 0 0)), .d (.v (.slice none 0 0))]) rfl rfl rfl rfl) (OkOps.y (.c (.d (.mp true (encM (kInt .i64) Node.cs x1.1)))) (OkOps.w (triStore (cs' := [cI x1.2.1.Kind, cS x1.2.1.Key, .d (.sl (List.map Attr.cs x1.2.1.Attrs)), .d (.sl (List.map Action.cs x1.2.1.Actions)), .d (.sl (List.map View.cs x1.2.1.Kids))]) rfl rfl rfl rfl rfl rfl rfl rfl rfl) (OkOps.y (aI x1.2.2) (OkOps.nil (Ok.seq (Ok.region (OkOps.y (.c (.d (.mp true (encM (kInt .i64) Node.cs x1.1)))) (OkOps.y (aI x1.2.2) (OkOps.y (aB (x1.2.2 == 0)) (OkOps.y (.c (.d (.mp true (encM (kInt .i64) Node.cs x1.1)))) ?_)))))))))))))))
  refine OkOps.y (aB (x1.2.2 == 0)) (OkOps.nil (Ok.ret ?_))
  obtain rfl := Option.some.inj hr
  exact ⟨_, rfl, .inl rfl, trivial⟩
theorem slices_Reverse_Sl_int_int_c (p_s : (List Int)) {r : (List Int)} (hr : slices_Reverse_Sl_int_int p_s = some r) : Con Tryd.prog 88 [.c (.own 0)] [(0, .vec 1 (List.map (eInt .i64) p_s))] (.tup []) [(0, .vec 1 (List.map (eInt .i64) r))] := by
  unfold slices_Reverse_Sl_int_int at hr
  refine Con.of_ok 28 0 [] [(0, .s (.c (.own 0)))] Tryd.func88 rfl rfl rfl rfl rfl rfl rfl rfl fun w g M ρ _ => (Ok.seq (Ok.region (OkOps.y (.c (.own 0)) (OkOps.q (triLenV (enc := (eInt .i64)) p_s rfl rfl rfl rfl) (OkOps.y (aI (IntKind.i64.wrap ((p_s.length : Int) - 1))) (OkOps.y (aI 0) (OkOps.y (aI (IntKind.i64.wrap ((p_s.length : Int) - 1))) (OkOps.nil ?_))))))))
  obtain ⟨k2, hk2, hr⟩ := jn_some hr
  refine Ok.joinEnd (fun (s1 : (List Int)) => ⟨[], [(0, .vec 1 (List.map (eInt .i64) s1))], 0⟩) k2 r (fun s1 hr => ?_) ?_
  rw [hk2] at hr
  obtain rfl := Option.some.inj hr
  exact ⟨_, rfl, .inl rfl, ⟨rfl, trivial⟩⟩
  clear hk2
  refine Ok.block (Ok.loopK (fun (s3 : Int × Int × (List Int)) => ⟨[(0, .s (.c (.own 0))), (2, .s (aI s3.1)), (3, .s (aI s3.2.1))], [(0, .vec 1 (List.map (eInt .i64) s3.2.2))], 0⟩) hr (Conv.mk (tau []) ⟨⟨_, rfl, .inl rfl⟩, ⟨_, rfl, .inl rfl⟩, ⟨_, rfl, .inl rfl⟩, trivial⟩ ⟨rfl, trivial⟩ rfl rfl rfl rfl) ?_)
  clear hr
  intro again4 s3 hr
  unfold slices_Reverse_Sl_int_int_L1 at hr
  refine Ok.seq (Ok.seq (Ok.region (OkOps.y (aI s3.1) (OkOps.y (aI s3.2.1) (OkOps.y (aB (decide (s3.1 < s3.2.1))) (OkOps.nil ?_))))))
  refine Ok.cond (b := decide (s3.1 < s3.2.1)) rfl (fun h5 => ?_) (fun h5 => ?_)
  have hr := selT h5 hr
  refine Ok.skip (Ok.seq (Ok.block (Ok.regionD (by kernel_rfl) (OkD.x (.c (.own 0)) rfl trivial rfl (OkD.x (aI s3.1) rfl trivial rfl (OkD.x (.c (.own 0)) rfl trivial rfl (OkD.x (aI s3.2.1) rfl trivial rfl (OkD.x (.c (.own 0)) rfl trivial rfl (OkD.x (aI s3.2.1) rfl trivial rfl ?_)))))))))
  obtain ⟨x6, hx6, hr⟩ := bind_some hr
  refine OkD.q (triIdxV (enc := (eInt .i64)) (L := s3.2.2) hx6 rfl rfl rfl rfl trivial rfl) ?_
  obtain ⟨x7, hx7, hr⟩ := bind_some hr
  refine OkD.q (triLoadV (enc := (eInt .i64)) (L := s3.2.2) (row := [dI x7]) (r := aI x7) hx7 rfl rfl rfl (fun _ => rfl) rfl  rfl) (OkD.x (.c (.own 0)) rfl trivial rfl (OkD.x (aI s3.1) rfl trivial rfl ?_))
  obtain ⟨x8, hx8, hr⟩ := bind_some hr
  refine OkD.q (triIdxV (enc := (eInt .i64)) (L := s3.2.2) hx8 rfl rfl rfl rfl trivial rfl) ?_
  obtain ⟨x9, hx9, hr⟩ := bind_some hr
  refine OkD.q (triLoadV (enc := (eInt .i64)) (L := s3.2.2) (row := [dI x9]) (r := aI x9) hx9 rfl rfl rfl (fun _ => rfl) rfl  rfl) ?_
  obtain ⟨x10, hx10, hr⟩ := bind_some hr
  refine OkD.q (triIdxV (enc := (eInt .i64)) (L := s3.2.2) hx10 rfl rfl rfl rfl trivial rfl) (OkD.w (triStoreV (enc := (eInt .i64)) (L := s3.2.2) x7 (.inr (ixO_spec hx10).2) rfl rfl rfl rfl rfl rfl (fun _ => rfl) rfl) ?_)
  obtain ⟨x11, hx11, hr⟩ := bind_some hr
  refine OkD.q (triIdxV (enc := (eInt .i64)) (L := List.set s3.2.2 x10 x7) hx11 rfl rfl rfl rfl trivial rfl) (OkD.w (triStoreV (enc := (eInt .i64)) (L := List.set s3.2.2 x10 x7) x9 (.inr (ixO_spec hx11).2) rfl rfl rfl rfl rfl rfl (fun _ => rfl) rfl) (OkD.nil (by kernel_rfl) (Ok.region (OkOps.y (aI s3.1) (OkOps.y (aI (IntKind.i64.wrap (s3.1 + 1))) (OkOps.y (aI s3.2.1) (OkOps.y (aI (IntKind.i64.wrap (s3.2.1 - 1))) (OkOps.y (aI (IntKind.i64.wrap (s3.1 + 1))) (OkOps.y (aI (IntKind.i64.wrap (s3.2.1 - 1))) (OkOps.nil ?_))))))))))
  exact ⟨(IntKind.i64.wrap (s3.1 + 1), IntKind.i64.wrap (s3.2.1 - 1), List.set (List.set s3.2.2 x10 x7) x11 x9), hr, (Conv.mk (tau []) ⟨⟨_, rfl, .inl rfl⟩, ⟨_, rfl, .inl rfl⟩, ⟨_, rfl, .inl rfl⟩, trivial⟩ ⟨rfl, trivial⟩ rfl rfl rfl rfl)⟩
  have hr := selF h5 hr
  refine Ok.exit ?_
  exact ⟨s3.2.2, hr, (Conv.mk (tau []) trivial ⟨rfl, trivial⟩ rfl rfl rfl rfl)⟩
theorem vw_path_c (nodes : (List (Int × Node))) (id : Int) {r : (List Int)} (hr : vw_path nodes id = some r) : Con Tryd.prog 68 [.c (.d (.mp true (encM (kInt .i64) Node.cs nodes))), aI id] [] (.s (.c (.d (.sl (List.map (eInt .i64) r))))) [] := by
  unfold vw_path at hr
  refine Con.of_ok 31 0 [.tmp 4] [(0, .s (.c (.d (.mp true (encM (kInt .i64) Node.cs nodes))))), (1, .s (aI id))] Tryd.func68 rfl rfl rfl rfl rfl rfl rfl rfl fun w g M ρ _ => (Ok.seq (Ok.region (OkOps.y (.c (.d (.v (.slice none 0 0)))) (OkOps.nil (Ok.seq (Ok.region (OkOps.y (.c (.d (.v (.slice none 0 0)))) (OkOps.conv (Conv.nilV (enc := (eInt .i64)) 5 0 1 0 rfl rfl) (OkOps.nil ?_)))))))))
  obtain ⟨k2, hk2, hr⟩ := jn_some hr
  refine Ok.join (fun (s1 : (List Int)) => ⟨[(5, .s (.c (.own 1006)))], [(1006, .vec 1 (List.map (eInt .i64) s1))], 0⟩) k2 r (fun s1 hr => ?_) ?_
  rw [hk2] at hr
  refine Ok.seq (Ok.region (OkOps.y (.c (.own 1006)) ?_))
  obtain ⟨x3, hx3, hr⟩ := bind_some hr
  refine OkOps.m 0 (triCl (tau [(0, 1006)]) (.tup []) [(1006, .vec 1 (List.map (eInt .i64) x3))] (slices_Reverse_Sl_int_int_c _ hx3) rfl ⟨.inl rfl, trivial⟩ trivial entry88 ⟨rfl, trivial⟩) (OkOps.nil (Ok.seq (Ok.region (OkOps.y (.c (.own 1006)) (OkOps.y (.c (.own 1006)) (OkOps.nil (Ok.conv (Conv.freeze (enc := (eInt .i64)) (L := x3) [4, 5, 28, 30] 1006 1 1 0 ⟨rfl, rfl, rfl, rfl, trivial⟩ rfl (fun _ => rfl) rfl) (Ok.ret ?_))))))))
  obtain rfl := Option.some.inj hr
  exact ⟨_, rfl, .inr rfl, trivial⟩
  clear hk2
  refine Ok.seq (Ok.region (OkOps.y (.c (.d (.mp true (encM (kInt .i64) Node.cs nodes)))) (OkOps.y (aI id) ?_)))
  obtain ⟨x4, hx4, hr⟩ := bind_some hr
  refine OkOps.q (triLookT (agg := true) (ek := (kInt .i64)) (ev := Node.cs) (L := nodes) (r := .agg [cI x4.1.ID, cI x4.1.Parent, cI x4.1.Kind, cS x4.1.Key, .d (.sl (List.map Attr.cs x4.1.Attrs)), .d (.sl (List.map Action.cs x4.1.Actions)), .d (.sl (List.map (eInt .i64) x4.1.Kids))]) hx4 rfl rfl rfl (keyInt Tryd.underlying3) rfl rfl (fun h => by cases h) rfl trivial rfl) ?_
  refine OkOps.q (triMv (v := .tup [.agg [cI x4.1.ID, cI x4.1.Parent, cI x4.1.Kind, cS x4.1.Key, .d (.sl (List.map Attr.cs x4.1.Attrs)), .d (.sl (List.map Action.cs x4.1.Actions)), .d (.sl (List.map (eInt .i64) x4.1.Kids))], aB x4.2]) rfl rfl) (OkOps.y (.agg [cI x4.1.ID, cI x4.1.Parent, cI x4.1.Kind, cS x4.1.Key, .d (.sl (List.map Attr.cs x4.1.Attrs)), .d (.sl (List.map Action.cs x4.1.Actions)), .d (.sl (List.map (eInt .i64) x4.1.Kids))]) (OkOps.y (aB x4.2) (OkOps.m 0 (triAlloc (j := 2) (cs := [cI 0, cI 0, cI 0, cS ByteArray.empty, .d (.v (.slice none 0 0)), .d (.v (.slice none 0 0)), .d (.v (.slice none 0 0))]) rfl rfl rfl rfl) (OkOps.w (triStore (cs' := [cI x4.1.ID, cI x4.1.Parent, cI x4.1.Kind, cS x4.1.Key, .d (.sl (List.map Attr.cs x4.1.Attrs)), .d (.sl (List.map Action.cs x4.1.Actions)), .d (.sl (List.map (eInt .i64) x4.1.Kids))]) rfl rfl rfl rfl rfl rfl rfl rfl rfl) (OkOps.y (aB x4.2) (OkOps.nil (Ok.block (Ok.loopK (fun (s5 : (List Int) × Int × Int × Int × Str × (List Attr) × (List Action) × (List Int) × Bool) => ⟨[(0, .s (.c (.d (.mp true (encM (kInt .i64) Node.cs nodes))))), (5, .s (.c (.own 1009))), (6, .s (.c (.loc 1010 0))), (7, .s (aB s5.2.2.2.2.2.2.2.2))], [(1009, .vec 1 (List.map (eInt .i64) s5.1)), (1010, .blk [cI s5.2.1, cI s5.2.2.1, cI s5.2.2.2.1, cS s5.2.2.2.2.1, .d (.sl (List.map Attr.cs s5.2.2.2.2.2.1)), .d (.sl (List.map Action.cs s5.2.2.2.2.2.2.1)), .d (.sl (List.map (eInt .i64) s5.2.2.2.2.2.2.2.1))] 62)], 0⟩) hr (Conv.mk (tau [(1009, 0), (1010, 2)]) ⟨⟨_, rfl, .inl rfl⟩, ⟨_, rfl, .inl rfl⟩, ⟨_, rfl, .inl rfl⟩, ⟨_, rfl, .inl rfl⟩, trivial⟩ ⟨rfl, rfl, trivial⟩ rfl rfl rfl rfl) ?_))))))))
  clear hr
  intro again6 s5 hr
  unfold vw_path_L1 at hr
  refine Ok.seq (Ok.seq (Ok.region (OkOps.y (aB s5.2.2.2.2.2.2.2.2) (OkOps.nil ?_))))
  refine Ok.cond (b := s5.2.2.2.2.2.2.2.2) rfl (fun h7 => ?_) (fun h7 => ?_)
  have hr := selT h7 hr
  refine Ok.skip (Ok.seq (Ok.block (Ok.region (OkOps.y (.c (.own 1009)) (OkOps.y (.c (.loc 1010 0)) (OkOps.y (aI s5.2.1) (OkOps.m 0 (triBST (sz := 1) (enc := (eInt .i64)) (j := 3) ([s5.2.1]) rfl rfl rfl rfl rfl rfl rfl rfl (fun _ => rfl) trivial rfl rfl) ?_)))))))
  obtain ⟨x8, hx8, hr⟩ := bind_some hr
  refine OkOps.m2 0 (triAppV (enc := (eInt .i64)) (L := s5.1) (X := [s5.2.1]) (j := 1009) (j' := 4) hx8 rfl rfl rfl rfl rfl rfl (fun _ => rfl) (fun _ => rfl) trivial rfl rfl) (OkOps.y (.c (.own 4)) (OkOps.nil (Ok.seq (Ok.seq (Ok.region (OkOps.y (.agg [cI s5.2.1, cI s5.2.2.1, cI s5.2.2.2.1, cS s5.2.2.2.2.1, .d (.sl (List.map Attr.cs s5.2.2.2.2.2.1)), .d (.sl (List.map Action.cs s5.2.2.2.2.2.2.1)), .d (.sl (List.map (eInt .i64) s5.2.2.2.2.2.2.2.1))]) (OkOps.nil (Ok.region (OkOps.m 0 (triAlloc (j := 5) (cs := [cI 0, cI 0, cI 0, cS ByteArray.empty, .d (.v (.slice none 0 0)), .d (.v (.slice none 0 0)), .d (.v (.slice none 0 0))]) rfl rfl rfl rfl) (OkOps.w (triStore (cs' := [cI s5.2.1, cI s5.2.2.1, cI s5.2.2.2.1, cS s5.2.2.2.2.1, .d (.sl (List.map Attr.cs s5.2.2.2.2.2.1)), .d (.sl (List.map Action.cs s5.2.2.2.2.2.2.1)), .d (.sl (List.map (eInt .i64) s5.2.2.2.2.2.2.2.1))]) rfl rfl rfl rfl rfl rfl rfl rfl rfl) (OkOps.nil (Ok.region (OkOps.y (.c (.d (.mp true (encM (kInt .i64) Node.cs nodes)))) (OkOps.y (.c (.loc 5 1)) (OkOps.y (aI s5.2.2.1) ?_)))))))))))))))
  obtain ⟨x9, hx9, hr⟩ := bind_some hr
  refine OkOps.q (triLookT (agg := true) (ek := (kInt .i64)) (ev := Node.cs) (L := nodes) (r := .agg [cI x9.1.ID, cI x9.1.Parent, cI x9.1.Kind, cS x9.1.Key, .d (.sl (List.map Attr.cs x9.1.Attrs)), .d (.sl (List.map Action.cs x9.1.Actions)), .d (.sl (List.map (eInt .i64) x9.1.Kids))]) hx9 rfl rfl rfl (keyInt Tryd.underlying3) rfl rfl (fun h => by cases h) rfl trivial rfl) ?_
  refine OkOps.q (triMv (v := .tup [.agg [cI x9.1.ID, cI x9.1.Parent, cI x9.1.Kind, cS x9.1.Key, .d (.sl (List.map Attr.cs x9.1.Attrs)), .d (.sl (List.map Action.cs x9.1.Actions)), .d (.sl (List.map (eInt .i64) x9.1.Kids))], aB x9.2]) rfl rfl) (OkOps.y (.agg [cI x9.1.ID, cI x9.1.Parent, cI x9.1.Kind, cS x9.1.Key, .d (.sl (List.map Attr.cs x9.1.Attrs)), .d (.sl (List.map Action.cs x9.1.Actions)), .d (.sl (List.map (eInt .i64) x9.1.Kids))]) (OkOps.y (aB x9.2) (OkOps.w (triStore (cs' := [cI x9.1.ID, cI x9.1.Parent, cI x9.1.Kind, cS x9.1.Key, .d (.sl (List.map Attr.cs x9.1.Attrs)), .d (.sl (List.map Action.cs x9.1.Actions)), .d (.sl (List.map (eInt .i64) x9.1.Kids))]) rfl rfl rfl rfl rfl rfl rfl rfl rfl) (OkOps.y (aB x9.2) (OkOps.nil ?_)))))
  exact ⟨(x8, x9.1.ID, x9.1.Parent, x9.1.Kind, x9.1.Key, x9.1.Attrs, x9.1.Actions, x9.1.Kids, x9.2), hr, (Conv.mk (tau [(1009, 4), (1010, 5)]) ⟨⟨_, rfl, .inl rfl⟩, ⟨_, rfl, .inl rfl⟩, ⟨_, rfl, .inl rfl⟩, ⟨_, rfl, .inl rfl⟩, trivial⟩ ⟨rfl, rfl, trivial⟩ rfl rfl rfl rfl)⟩
  have hr := selF h7 hr
  refine Ok.exit ?_
  exact ⟨s5.1, hr, (Conv.mk (tau [(1006, 1009)]) ⟨⟨_, rfl, .inl rfl⟩, trivial⟩ ⟨rfl, trivial⟩ rfl rfl rfl rfl)⟩
end Go.Proofs.YtobiohcdpfpefaaDoor
end
section
namespace Go.E2
variable {P : Program} {C : Ctx}
theorem opIn_round {o : Oper} {a : Act} {w w' : World} {l : Nat} {f : FuncId} {tmps : Array Value} {assign body : Code} {K : Act → World → Prop} {Q : Exit → Act → World → Prop} (h : (execOp a.eval o).run P w = .ok (.round l f tmps assign body) w')
    (hk : RoundIn (FR none) 0 P l f tmps assign body w' fun | .returned v, w'' => K (a.put o.dst v) w'' | .panicked chain, w'' => Q (.panic chain) a w'' | .outgrown, _ => LetsOut Q) : o.wpIn (FR none) 0 P a w K Q := by
  refine ⟨fun _ _ => trivial, ?_⟩
  rw [show (FR none).round = none from rfl, semAt_of h (fun d e => by cases e)]
  exact ⟨fun h => Bool.noConfusion h, hk⟩
def yl (l : Nat) : Value := .func (.yield l) #[] #[]
def rec0 (a : Act) (fid : FuncId) (D : Nat) (ps : Array Tmp) (assign body : Code) (s : LoopState) (pe : Option Code) : Obj :=
  .loop { state := s, pending := pe, fn := fid, tmps := a.tmps, params := ps, assign, body, defers := D }
structure LoopE (C : Ctx) (st : AState) (ps : Array Tmp) (assign body : Code) (jl l : Nat) (ρ1 : Env) (M1 : Mem) (ob : LoopState → Option Code → Obj) : Prop where
  ptr : ρ1 jl = .pointer (some ⟨l, 0, none⟩)
  ex : ∃ (a : Act) (fid : FuncId) (D : Nat), a.tmps.size = C.n ∧ (∀ ρ', Agree (look st.bl) ρ1 ρ' → ∀ s v, look st.sl s = some v → v.rep ρ' M1 (a.tmps.getD s undef)) ∧ ob = rec0 a fid D ps assign body
  old : C.w0.heap.size ≤ l
abbrev cxF (C : Ctx) (n1 : Nat) (M1 : Mem) (bl : List (Nat × Ob)) (ρ1 : Env) : Ctx := ctxOf C.w0 n1 C.g M1 bl ρ1
abbrev cxR (C : Ctx) (M : Mem) (bl : List (Nat × Ob)) (ρ : Env) (l : Nat) : Ctx := ctxOf C.w0 C.n C.g M bl ρ (some l)
theorem set2 {t : Array Value} {p q : Nat} {v1 v2 : Value} : ((#[p, q] : Array Tmp).zip #[v1, v2]).foldl (fun tmps (t, a) => tmps.setIfInBounds t a) t = (t.setIfInBounds p v1).setIfInBounds q v2 := by simp
theorem getD_set {t : Array Value} {p s : Nat} {v : Value} (hp : p < t.size) : (t.setIfInBounds p v).getD s undef = if p = s then v else t.getD s undef := by
  rw [Array.getD_eq_getD_getElem?, Array.getD_eq_getD_getElem?, Array.getElem?_setIfInBounds]
  by_cases h : p = s
  · subst h; simp [hp]
  · simp [h]
theorem RelW.objSet {bl bl' : Nat → Option Ob} {ρ : Env} {M : Mem} {w : World} {j l : Nat} {o o' : Obj} (h : RelW C bl ρ M w) (hj : bl j = some (.obj o)) (hp : ρ j = .pointer (some ⟨l, 0, none⟩)) (ho : ∀ c t f, o' ≠ .cells c t f) (hl : C.w0.heap.size ≤ l)
    (hbl : ∀ k ob, bl' k = some ob → ob = .dead ∨ (bl k = some ob ∧ k ≠ j) ∨ (k = j ∧ ob = .obj o')) : RelW C bl' ρ M (w.putObj l o') := by
  have hb : blockOf (ρ j) = l := by rw [hp]; rfl
  have hi := h.inv j _ hj
  obtain ⟨g1, g2, g3⟩ := hi
  rw [hb] at g1 g2
  have hlt : l < w.heap.size := (Array.getElem?_eq_some_iff.1 g1).1
  have hcl : ∀ o'' v, M.cell l o'' ≠ some v := fun o'' v hv => by
    have hc := h.mem.cell l o'' v hv
    unfold World.cell? at hc
    simp only [g1] at hc
    cases o <;> first | (exact absurd rfl (g3 _ _ _)) | (cases hc; done)
  refine h.change j (fun b => b = l) (fun b hb _ => .inl (hb ▸ hl)) ⟨rfl, rfl, rfl, by rw [World.putObj_size]; exact Nat.le_refl _⟩ (fun b _ hb => World.putObj_heap_other hb) (Mem.le_refl _) (fun _ _ _ => ⟨fun _ => rfl, rfl⟩) (fun b hb => ⟨fun o'' v hv => ?_, fun o'' hv => ?_⟩) (fun k ob hk => ?_) (fun b hb' => h.noJunk hj (by rw [hb']; exact congrArg some hb))
  · rcases hb with rfl | hb
    · exact absurd hv (hcl _ _)
    · have := (h.mem.none hb).1 o''; rw [this] at hv; cases hv
  · rcases hb with rfl | hb
    · rw [g2] at hv; cases hv
    · have := (h.mem.none hb).2; rw [this] at hv; cases hv
  · rcases hbl k ob hk with rfl | ⟨h1, h2⟩ | ⟨rfl, rfl⟩
    · exact .inl rfl
    · refine .inr (.inl ⟨h1, fun b hb' e => ?_⟩)
      subst e
      exact h2 (h.dist k j _ _ _ h1 hj hb' (by show some (blockOf (ρ j)) = some b; rw [hb]))
    · refine .inr (.inr ⟨rfl, ⟨by rw [hb]; exact World.putObj_heap_same hlt, by rw [hb]; exact g2, ho⟩, fun b hb' => .inl ?_⟩)
      have : some (blockOf (ρ k)) = some b := hb'
      rw [hb] at this; cases this; rfl
theorem rec0_loop {a : Act} {fid : FuncId} {D : Nat} {ps : Array Tmp} {assign body : Code} {s : LoopState} {pe : Option Code} : ∀ c t f, rec0 a fid D ps assign body s pe ≠ .cells c t f := fun _ _ _ h => by cases h
theorem OkOps.yield {st cur : AState} {p q : Nat} {assign body : Code} {jl l n1 nx : Nat} {ρ1 : Env} {M1 : Mem} {ob : LoopState → Option Code → Obj} {bl1 : List (Nat × Ob)} {ops : Array Oper} {rest : List Oper} {Q : AState → Prop} {d : Nat} {y x1 x2 : Operand} {tys : Array TypeId} {ty : TypeId} {pos : String} {after : Array Edge} {v1 v2 : A1}
    [hT : HasTab P (cxF C n1 M1 bl1 ρ1)] (E : LoopE C st #[p, q] assign body jl l ρ1 M1 ob) (_hpq : p ≠ q) (hp : Nat.blt p C.n = true) (hq : Nat.blt q C.n = true)
    (hy : rd cur.F y = some (.c (.d (.v (yl l))))) (hx : rds cur.F [x1, x2] = some [v1, v2]) (hs : sideOk cur.F true [y, x1, x2]) (hd : Nat.blt d n1 = true)
    (hjl : look cur.bl jl = some (.obj (ob .ready none))) (hdom : ∀ k, look st.bl k ≠ none → look bl1 k ≠ none) (hj1 : look bl1 jl ≠ none)
    (hbody : ∀ ρc Mc, HasTab P (cxR C Mc cur.bl ρc l) → Ok P (cxR C Mc cur.bl ρc l) assign (fun e s1 => e = .normal ∧ look s1.bl jl = some (.obj (ob .ready none)) ∧ Ok P (cxR C Mc cur.bl ρc l) body (fun e s2 => look s2.bl jl = some (.obj (ob .busy none)) ∧ match e with
        | .normal => OkOps P (cxF C n1 M1 bl1 ρ1) ops rest Q ⟨(d, .s (.c (.d (.v (.bool true))))) :: cur.sl, (jl, .obj (ob .ready none)) :: s2.bl, nx⟩
        | .ret => OkOps P (cxF C n1 M1 bl1 ρ1) ops rest Q ⟨(d, .s (.c (.d (.v (.bool false))))) :: cur.sl, (jl, .obj (ob .done (some .ret))) :: s2.bl, nx⟩
        | .exit id => OkOps P (cxF C n1 M1 bl1 ρ1) ops rest Q ⟨(d, .s (.c (.d (.v (.bool false))))) :: cur.sl, (jl, .obj (ob .done (some (.exit id)))) :: s2.bl, nx⟩
        | _ => False)
      ⟨s1.sl, (jl, .obj (ob .busy none)) :: s1.bl, nx⟩) ⟨(q, .s v2) :: (p, .s v1) :: st.sl, cur.bl, nx⟩) :
    OkOps P (cxF C n1 M1 bl1 ρ1) ops (⟨some d, .call ⟨.value y, #[x1, x2], tys⟩, ty, pos, after, none⟩ :: rest) Q cur := by
  intro Q' hQ ρ M a w hr
  unfold wpListIn
  rw [if_pos (wanted_none rfl)]
  have h0 := hr.at
  have hR := reads_of h0 rfl hs
  have ey : a.eval y = yl l := Rep.v_inv (hR y (by simp) _ hy)
  have hpj : ρ jl = .pointer (some ⟨l, 0, none⟩) := (h0.heap.names jl hj1).trans E.ptr
  obtain ⟨a0, fid, D, hsz, hent, rfl⟩ := E.ex
  have hpl := Nat.lt_of_lt_of_le (Nat.lt_succ_self p) (Nat.le_of_ble_eq_true hp)
  have hql := Nat.lt_of_lt_of_le (Nat.lt_succ_self q) (Nat.le_of_ble_eq_true hq)
  have hw : w.heap[l]? = some (rec0 a0 fid D #[p, q] assign body .ready none) := by
    have := (h0.heap.inv jl _ hjl).1
    rw [hpj] at this
    exact this
  have hrun : (execOp a.eval ⟨some d, .call ⟨.value y, #[x1, x2], tys⟩, ty, pos, after, none⟩).run P w = .ok (.round l fid ((a0.tmps.setIfInBounds p (a.eval x1)).setIfInBounds q (a.eval x2)) assign body) w := by
    unfold execOp
    simp only [resolve, ey, yl, Deferred.ofValue, List.map_toArray, List.map_cons, List.map_nil, pure_bind, invoke, Array.empty_append]
    rw [run_yield hw rfl]
    simp only [set2]
  have hT2 : HasTab P (cxR C M cur.bl ρ l) := ⟨hT.tab.mono h0.heap.base⟩
  have hjk : look cur.bl jl ≠ none := by rw [hjl]; simp
  have hrel2 : Rel (cxR C M cur.bl ρ l) (AState.F ⟨(q, .s v2) :: (p, .s v1) :: st.sl, cur.bl, nx⟩) ρ M { tmps := (a0.tmps.setIfInBounds p (a.eval x1)).setIfInBounds q (a.eval x2), defers := [] } w := by
    intro ρ' ha
    have ha' : Agree (look cur.bl) ρ ρ' := ha
    have h1 := hr ρ' ha'
    have hR1 := reads_of h1 rfl hs
    have hargs := rds_rep (xs := [x1, x2]) (fun x hx => hR1 x (List.mem_cons_of_mem _ hx)) hx
    obtain ⟨r1, r2, _⟩ := hargs
    refine ⟨Marks.nil, by show _ = C.n; simp [hsz], fun t u hu => ?_, ?_⟩
    · have hu' : look ((q, .s v2) :: (p, .s v1) :: st.sl) t = some u := hu
      rw [look_cons, look_cons] at hu'
      show u.rep ρ' M (((a0.tmps.setIfInBounds p (a.eval x1)).setIfInBounds q (a.eval x2)).getD t undef)
      rw [getD_set (by rw [Array.size_setIfInBounds, hsz]; exact hql), getD_set (by rw [hsz]; exact hpl)]
      by_cases e1 : q = t
      · rw [if_pos e1] at hu' ⊢; cases hu'; exact r2
      · rw [if_neg e1] at hu' ⊢
        by_cases e2 : p = t
        · rw [if_pos e2] at hu' ⊢; cases hu'; exact r1
        · rw [if_neg e2] at hu' ⊢
          exact (hent ρ' (fun k hk => h1.heap.names k (hdom k hk)) t u hu').mono h1.heap.base
    · have hb := h1.heap
      exact ⟨hb.inv, hb.dist, hb.priv, hb.mem, Mem.le_refl _, fun _ _ _ => ⟨fun _ => rfl, rfl⟩, hb.kept, fun k hk => ha k hk, hb.junkP⟩
  refine opIn_round hrun (roundIn_of_wpIn trivial (wpIn_mono (hbody ρ M hT2 ρ M _ _ hrel2) ?_))
  rintro e a1 w1 ⟨s1, ρa, Ma, hra, rfl, hja, hbod⟩
  have hjpa : ∀ ρ'', Agree (look s1.bl) ρa ρ'' → ρ'' jl = .pointer (some ⟨l, 0, none⟩) := fun ρ'' ha => ((hra ρ'' ha).heap.names jl hjk).trans hpj
  have hwa : w1.heap[l]? = some (rec0 a0 fid D #[p, q] assign body .ready none) := by
    have := (hra.at.heap.inv jl _ hja).1
    rw [hjpa ρa (Agree.refl _ _)] at this
    exact this
  refine ⟨_, run_beginRound hwa rfl, ?_⟩
  have hrelb : Rel (cxR C M cur.bl ρ l) (AState.F ⟨s1.sl, (jl, .obj (rec0 a0 fid D #[p, q] assign body .busy none)) :: s1.bl, nx⟩) ρa Ma a1 (w1.putObj l (rec0 a0 fid D #[p, q] assign body .busy none)) := by
    intro ρ'' ha
    have ha2 : Agree (look s1.bl) ρa ρ'' := fun k hk => ha k (by
      show look ((jl, Ob.obj (rec0 a0 fid D #[p, q] assign body .busy none)) :: s1.bl) k ≠ none
      rw [look_cons]
      by_cases e : jl = k
      · rw [if_pos e]; simp
      · rw [if_neg e]; exact hk)
    have h2 := hra ρ'' ha2
    exact ⟨h2.defers, h2.size, h2.slots, h2.heap.objSet (bl' := look ((jl, .obj (rec0 a0 fid D #[p, q] assign body .busy none)) :: s1.bl)) hja (hjpa ρ'' ha2) (o' := rec0 a0 fid D #[p, q] assign body .busy none) rec0_loop E.old (fun k ob hk => by
      rw [look_cons] at hk
      by_cases e : jl = k
      · rw [if_pos e] at hk; cases hk; exact .inr (.inr ⟨e.symm, rfl⟩)
      · rw [if_neg e] at hk; exact .inr (.inl ⟨hk, fun e' => e e'.symm⟩))⟩
  refine wpIn_mono (hbod ρa Ma _ _ hrelb) ?_
  rintro e a' w' ⟨s2, ρ', M', hr2, hjb, hq⟩
  have hjp2 : ∀ ρ'', Agree (look s2.bl) ρ' ρ'' → ρ'' jl = .pointer (some ⟨l, 0, none⟩) := fun ρ'' ha => ((hr2 ρ'' ha).heap.names jl hjk).trans hpj
  have hw' : w'.heap[l]? = some (rec0 a0 fid D #[p, q] assign body .busy none) := by
    have := (hr2.at.heap.inv jl _ hjb).1
    rw [hjp2 ρ' (Agree.refl _ _)] at this
    exact this
  have fin : ∀ (s : LoopState) (pe : Option Code) (b : Bool), Rel (cxF C n1 M1 bl1 ρ1) (AState.F ⟨(d, .s (.c (.d (.v (.bool b))))) :: cur.sl, (jl, .obj (rec0 a0 fid D #[p, q] assign body s pe)) :: s2.bl, nx⟩) ρ' M' (a.put (some d) (.bool b)) (w'.putObj l (rec0 a0 fid D #[p, q] assign body s pe)) := by
    intro s pe b ρ'' ha
    have ha2 : Agree (look s2.bl) ρ' ρ'' := fun k hk => ha k (by
      show look ((jl, Ob.obj (rec0 a0 fid D #[p, q] assign body s pe)) :: s2.bl) k ≠ none
      rw [look_cons]
      by_cases e : jl = k
      · rw [if_pos e]; simp
      · rw [if_neg e]; exact hk)
    have h2 := hr2 ρ'' ha2
    have hac : Agree (look cur.bl) ρ ρ'' := fun k hk => h2.heap.names k hk
    have h1 := hr ρ'' hac
    have hle : M.le M' := h2.heap.base
    have hput : RelW (cxF C n1 M1 bl1 ρ1) (look ((jl, Ob.obj (rec0 a0 fid D #[p, q] assign body s pe)) :: s2.bl)) ρ'' M' (w'.putObj l (rec0 a0 fid D #[p, q] assign body s pe)) → Rel0 (cxF C n1 M1 bl1 ρ1) (AState.F ⟨(d, .s (.c (.d (.v (.bool b))))) :: cur.sl, (jl, .obj (rec0 a0 fid D #[p, q] assign body s pe)) :: s2.bl, nx⟩) ρ'' M' (a.put (some d) (.bool b)) (w'.putObj l (rec0 a0 fid D #[p, q] assign body s pe)) := fun hh => by
      have := Rel0.put (F := cur.F) h1 (Nat.lt_of_lt_of_le (Nat.lt_succ_self d) (Nat.le_of_ble_eq_true hd)) (v := .s (.c (.d (.v (.bool b))))) (.v _) hle hh
      rw [show cur.F.sl = look cur.sl from rfl, over_look] at this
      exact this
    refine hput ?_
    have hb := h2.heap.objSet (bl' := look ((jl, .obj (rec0 a0 fid D #[p, q] assign body s pe)) :: s2.bl)) hjb (hjp2 ρ'' ha2) (o' := rec0 a0 fid D #[p, q] assign body s pe) rec0_loop E.old (fun k ob hk => by
      rw [look_cons] at hk
      by_cases e : jl = k
      · rw [if_pos e] at hk; cases hk; exact .inr (.inr ⟨e.symm, rfl⟩)
      · rw [if_neg e] at hk; exact .inr (.inl ⟨hk, fun e' => e e'.symm⟩))
    refine ⟨hb.inv, hb.dist, hb.priv, hb.mem, h1.heap.base.trans hle, fun b hb' hg => ?_, hb.kept, h1.heap.names, hb.junkP⟩
    obtain ⟨g1, g2⟩ := hb.fresh b hb' hg
    obtain ⟨k1, k2⟩ := h1.heap.fresh b hb' hg
    exact ⟨fun o => (g1 o).trans (k1 o), g2.trans k2⟩
  cases e with
  | normal => exact ⟨_, _, run_endRound none hw', hq Q' hQ ρ' M' _ _ (fin .ready none true)⟩
  | ret => exact ⟨_, _, run_endRound (some .ret) hw', hq Q' hQ ρ' M' _ _ (fin .done (some .ret) false)⟩
  | exit id => exact ⟨_, _, run_endRound (some (.exit id)) hw', hq Q' hQ ρ' M' _ _ (fin .done (some (.exit id)) false)⟩
  | _ => exact hq.elim
end Go.E2
end
section
namespace Go.E2
variable {P : Program} {C : Ctx} {F : FS} {ops : Array Oper} {dst : Nat} {op : Op} {ty : TypeId} {pos : String} {after : Array Edge}
end Go.E2
end
section
namespace Go.E2
variable {P : Program} {C : Ctx} {F : FS} {ops : Array Oper} {dst : Nat} {op : Op} {ty : TypeId} {pos : String} {after : Array Edge}
def keptOk (F : FS) : List (Nat × Ob) → Prop
  | [] => True
  | (k, o) :: r => F.bl k = some o ∧ keptOk F r
theorem keptOk_over {F F' : FS} : ∀ {Wb : List (Nat × Ob)}, keptOk F Wb → (∀ k ∈ Wb.map (·.1), F'.bl k = F.bl k) → over Wb F'.bl = F'.bl
  | [], _, _ => over_nil _
  | (k, o) :: r, h, hs => by
    have ih := keptOk_over h.2 (fun j hj => hs j (by simp [hj]))
    funext n
    unfold over at ih ⊢
    rw [look_cons]
    by_cases e : k = n
    · subst e; rw [if_pos rfl]; simp only; rw [hs k (by simp), h.1]
    · rw [if_neg e]; exact congrFun ih n
theorem TriL.keep {o : Oper} {rs rb ws wb : List Nat} {Ws : List (Nat × AV)} {Wb : List (Nat × Ob)} (h : TriL P C ops o ⟨rs, rb, ws, wb⟩ Ws Wb F) (hk : keptOk F Wb) : TriL P C ops o ⟨rs, rb ++ Wb.map (·.1), ws, []⟩ Ws [] F := by
  refine ⟨⟨h.1.1, rfl⟩, fun F' hS => ?_⟩
  have h2 := h.2 F' ⟨hS.1, fun j hj => hS.2 j (List.mem_append_left _ hj)⟩
  have e : F'.upd Ws Wb = F'.upd Ws [] := by
    unfold FS.upd
    rw [keptOk_over hk (fun k hk' => hS.2 k (List.mem_append_right _ hk')), over_nil]
  rw [← e]; exact h2
theorem TriL.guard {op : Op} {gk d : Nat} {want g : Bool} {rs rb : List Nat} {x : A1} (hb : guardB F ops gk want = some g) (hn : Nat.blt d C.n = true) (h : g = true → TriL P C ops ⟨some d, op, ty, pos, after, none⟩ ⟨rs, rb, [d], []⟩ [(d, .s x)] [] F) :
    TriL P C ops ⟨some d, op, ty, pos, after, some (gk, want)⟩ ⟨gSlot ops gk ++ rs, rb, [d], []⟩ [(d, .gd g x)] [] F := by
  refine ⟨⟨rfl, rfl⟩, fun F' hS => ?_⟩
  have hb' := (guardB_same (want := want) (fun t ht => hS.1 t (by simp [ht]))).trans hb
  intro Q' K' hK ρ M a w hr
  cases g with
  | false =>
    rw [guardB_wanted hr.at rfl hb', if_neg (by simp)]
    refine hK ρ M _ _ fun ρ' ha => ?_
    have h0 := hr ρ' (fun j hj => ha j (by rw [FS.upd, over_nil]; exact hj))
    exact h0.put (v := .gd false x) (Nat.blt_eq.mp hn) rfl (Mem.le_refl _) (by rw [over_nil]; exact h0.heap)
  | true =>
    rw [guardB_wanted hr.at rfl hb', if_pos rfl]
    have h3 := (h rfl).2 F' ⟨fun t ht => hS.1 t (List.mem_append_right _ ht), hS.2⟩ Q' K' (fun ρ1 M1 a1 w1 hr1 => hK ρ1 M1 a1 w1 (fun ρ' ha => ?_)) ρ M a w hr
    · rw [if_pos (wanted_none rfl)] at h3
      exact h3
    · have h0 := hr1 ρ' ha
      refine ⟨h0.defers, h0.size, fun s v hv => ?_, h0.heap⟩
      simp only [FS.upd, over_one] at hv
      split at hv
      · cases hv
        exact h0.slots s (.s x) (by simp only [FS.upd, over_one]; rename_i e; rw [if_pos e])
      · rename_i e
        exact h0.slots s v (by simp only [FS.upd, over_one]; rw [if_neg e]; exact hv)
end Go.E2
end
section
namespace Go.E2
open Go.RowKit (Below)
variable {P : Program}
theorem InW.below {M : Mem} {w w' : World} (h : InW M w) (hb : Below w.heap.size w w') : InW M w' := by
  refine ⟨fun b o v hc => ?_, fun b o ho => ?_, fun b s hs => ?_⟩
  · have h1 := h.cell b o v hc
    have hl := h.lt hc
    unfold World.cell? at h1 ⊢
    simp only at h1 ⊢
    rw [hb.block b hl]; exact h1
  · obtain ⟨h1, h2⟩ := h.obj b o ho
    exact ⟨(hb.block b (h.ltO ho)).trans h1, h2⟩
  · obtain ⟨⟨arr, ty, h1, h2⟩, h3⟩ := h.junk b s hs
    exact ⟨⟨arr, ty, (hb.block b (h.ltJ hs)).trans h1, h2⟩, h3⟩
end Go.E2
end
section
set_option maxRecDepth 100000
namespace Go.Proofs.YtobiohcdpfpefaaDoor
open Go Go.E2
theorem sc_letter_c (p_r : Int) {r : Int} (hr : sc_letter p_r = some r) : Con Tryd.prog 57 [.c (.d (.v (.int .i32 p_r)))] [] (.s (aI r)) [] := by
  unfold sc_letter at hr
  refine Con.of_ok 34 0 [.tmp 2] [(0, .s (.c (.d (.v (.int .i32 p_r)))))] Tryd.func57 rfl rfl rfl rfl rfl rfl rfl rfl fun w g M ρ _ => (Ok.seq (Ok.region (OkOps.y (aI 0) (OkOps.nil (Ok.seq (Ok.block (Ok.seq (Ok.region (OkOps.y (.c (.d (.v (.int .i32 p_r)))) (OkOps.y (aB (decide (p_r ≥ 97))) (OkOps.y (aB (decide (p_r ≥ 97))) (OkOps.q (triQG (x := .c (.d (.v (.int .i32 p_r)))) rfl rfl trivial rfl) (OkOps.q (triQG (x := aB (decide (p_r ≤ 122))) rfl rfl ⟨fun h => h, trivial⟩ rfl) (OkOps.q (triAnd rfl rfl (fun h => h) rfl) (OkOps.y (aB ((decide (p_r ≥ 97)) && (decide (p_r ≤ 122)))) ?_)))))))))))))))
  refine OkOps.nil ?_
  refine Ok.cond (b := (decide (p_r ≥ 97)) && (decide (p_r ≤ 122))) rfl (fun h1 => ?_) (fun h1 => ?_)
  have hr := selT h1 hr
  refine Ok.seq (Ok.region (OkOps.y (.c (.d (.v (.int .i32 p_r)))) (OkOps.y (.c (.d (.v (.int .i32 (IntKind.i32.wrap (p_r - 97)))))) (OkOps.y (aI (IntKind.i64.wrap (IntKind.i32.wrap (p_r - 97)))) (OkOps.y (aI (IntKind.i64.wrap (IntKind.i32.wrap (p_r - 97)))) (OkOps.nil (Ok.ret ?_)))))))
  obtain rfl := Option.some.inj hr
  exact ⟨_, rfl, .inl rfl, trivial⟩
  have hr := selF h1 hr
  refine Ok.seq (Ok.region (OkOps.y (.c (.d (.v (.int .i32 p_r)))) (OkOps.y (aB (decide (p_r ≥ 65))) (OkOps.y (aB (decide (p_r ≥ 65))) (OkOps.q (triQG (x := .c (.d (.v (.int .i32 p_r)))) rfl rfl trivial rfl) (OkOps.q (triQG (x := aB (decide (p_r ≤ 90))) rfl rfl ⟨fun h => h, trivial⟩ rfl) (OkOps.q (triAnd rfl rfl (fun h => h) rfl) (OkOps.y (aB ((decide (p_r ≥ 65)) && (decide (p_r ≤ 90)))) (OkOps.nil ?_)))))))))
  refine Ok.cond (b := (decide (p_r ≥ 65)) && (decide (p_r ≤ 90))) rfl (fun h2 => ?_) (fun h2 => ?_)
  have hr := selT h2 hr
  refine Ok.seq (Ok.region (OkOps.y (.c (.d (.v (.int .i32 p_r)))) (OkOps.y (.c (.d (.v (.int .i32 (IntKind.i32.wrap (p_r - 65)))))) (OkOps.y (aI (IntKind.i64.wrap (IntKind.i32.wrap (p_r - 65)))) (OkOps.y (aI (IntKind.i64.wrap (IntKind.i32.wrap (p_r - 65)))) (OkOps.nil (Ok.ret ?_)))))))
  obtain rfl := Option.some.inj hr
  exact ⟨_, rfl, .inl rfl, trivial⟩
  have hr := selF h2 hr
  refine Ok.seq (Ok.region (OkOps.y (.c (.d (.v (.int .i32 p_r)))) (OkOps.y (aB (decide (p_r ≥ 48))) (OkOps.y (aB (decide (p_r ≥ 48))) (OkOps.q (triQG (x := .c (.d (.v (.int .i32 p_r)))) rfl rfl trivial rfl) (OkOps.q (triQG (x := aB (decide (p_r ≤ 57))) rfl rfl ⟨fun h => h, trivial⟩ rfl) (OkOps.q (triAnd rfl rfl (fun h => h) rfl) (OkOps.y (aB ((decide (p_r ≥ 48)) && (decide (p_r ≤ 57)))) (OkOps.nil ?_)))))))))
  refine Ok.cond (b := (decide (p_r ≥ 48)) && (decide (p_r ≤ 57))) rfl (fun h3 => ?_) (fun h3 => ?_)
  have hr := selT h3 hr
  refine Ok.seq (Ok.region (OkOps.y (.c (.d (.v (.int .i32 p_r)))) (OkOps.y (.c (.d (.v (.int .i32 (IntKind.i32.wrap (p_r - 48)))))) (OkOps.y (aI (IntKind.i64.wrap (IntKind.i32.wrap (p_r - 48)))) (OkOps.y (aI (IntKind.i64.wrap ((IntKind.i64.wrap (IntKind.i32.wrap (p_r - 48))) + 26))) (OkOps.y (aI (IntKind.i64.wrap ((IntKind.i64.wrap (IntKind.i32.wrap (p_r - 48))) + 26))) (OkOps.nil (Ok.ret ?_))))))))
  obtain rfl := Option.some.inj hr
  exact ⟨_, rfl, .inl rfl, trivial⟩
  have hr := selF h3 hr
  refine Ok.skip (Ok.seq (Ok.region (OkOps.y (aI (-1)) (OkOps.nil (Ok.ret ?_)))))
  obtain rfl := Option.some.inj hr
  exact ⟨_, rfl, .inl rfl, trivial⟩
theorem sc_choices_c (label : Str) {r : (List shortcut_choice)} (hr : sc_choices label = some r) : Con Tryd.prog 34 [aS label] [] (.s (.c (.d (.sl (List.map shortcut_choice.cs r))))) [] := by
  unfold sc_choices at hr
  refine Con.of_ok 36 0 [.tmp 2] [(0, .s (aS label))] Tryd.func34 rfl rfl rfl rfl rfl rfl rfl rfl fun w g M ρ _ => (Ok.seq (Ok.region (OkOps.y (.c (.d (.v (.slice none 0 0)))) (OkOps.nil (Ok.seq (Ok.region (OkOps.y (.c (.d (.v (.slice none 0 0)))) (OkOps.nil (Ok.seq (Ok.region (OkOps.m 0 (triAlloc (j := 0) (cs := ([] ++ (arrC 36 dBool (fun _ => false) ++ []))) rfl rfl rfl rfl) (OkOps.nil ?_))))))))))))
  obtain ⟨k2, hk2, hr⟩ := jn_some hr
  refine Ok.join (fun (s1 : (List shortcut_choice)) => ⟨[(3, .s (.c (.tl 1008 (List.map shortcut_choice.cs s1))))], [(1008, .tail 2)], 0⟩) k2 r (fun s1 hr => ?_) ?_
  rw [hk2] at hr
  refine Ok.seq (Ok.region (OkOps.y (.c (.tl 1008 (List.map shortcut_choice.cs s1))) (OkOps.y (.c (.tl 1008 (List.map shortcut_choice.cs s1))) (OkOps.nil (Ok.ret ?_)))))
  obtain rfl := Option.some.inj hr
  exact ⟨_, rfl, .inr rfl, trivial⟩
  clear hk2
  refine Ok.seq (Ok.region (OkOps.y (aS label) (OkOps.q (triRunes rfl rfl trivial rfl) (OkOps.q (triLen (enc := (eInt .i32)) (runes label) rfl rfl trivial rfl) (OkOps.y (aI 0) (OkOps.nil (Ok.block (Ok.loopK (fun (s3 : (List shortcut_choice) × Int × (Nat → Bool)) => ⟨[(3, .s (.c (.tl 1013 (List.map shortcut_choice.cs s3.1)))), (4, .s (.c (.loc 0 0))), (9, .s (.c (.d (.sl (List.map (eInt .i32) (runes label)))))), (10, .s (aI ((runes label).length : Int))), (11, .s (aI s3.2.1))], [(0, .blk ([] ++ (arrC 36 dBool s3.2.2 ++ [])) 88), (1013, .tail 2)], 0⟩) hr (Conv.trans (Conv.nil 3 1016 2 0 rfl rfl) (Conv.mk (tau [(1013, 1016)]) ⟨⟨_, rfl, .inl rfl⟩, ⟨_, rfl, .inl rfl⟩, ⟨_, rfl, .inl rfl⟩, ⟨_, rfl, .inl rfl⟩, ⟨_, rfl, .inl rfl⟩, trivial⟩ ⟨rfl, rfl, trivial⟩ rfl rfl rfl rfl)) ?_))))))))
  clear hr
  intro again4 s3 hr
  unfold sc_choices_L1 at hr
  refine Ok.seq (Ok.region (OkOps.y (aB (decide (s3.2.1 < ((runes label).length : Int)))) (OkOps.nil (Ok.seq ?_))))
  refine Ok.cond (b := decide (s3.2.1 < ((runes label).length : Int))) rfl (fun h5 => ?_) (fun h5 => ?_)
  have hr := selT h5 hr
  refine Ok.skip ?_
  obtain ⟨k7, hk7, hr⟩ := jn_some hr
  refine Ok.join (fun (s6 : (List shortcut_choice) × (Nat → Bool)) => ⟨[(3, .s (.c (.tl 1017 (List.map shortcut_choice.cs s6.1)))), (4, .s (.c (.loc 0 0))), (9, .s (.c (.d (.sl (List.map (eInt .i32) (runes label)))))), (10, .s (aI ((runes label).length : Int))), (11, .s (aI s3.2.1))], [(0, .blk ([] ++ (arrC 36 dBool s6.2 ++ [])) 88), (1017, .tail 2)], 0⟩) k7 r (fun s6 hr => ?_) ?_
  rw [hk7] at hr
  refine Ok.region (OkOps.y (aI (IntKind.i64.wrap (s3.2.1 + 1))) (OkOps.y (aI (IntKind.i64.wrap (s3.2.1 + 1))) (OkOps.nil ?_)))
  exact ⟨(s6.1, IntKind.i64.wrap (s3.2.1 + 1), s6.2), hr, (Conv.mk (tau [(1013, 1017)]) ⟨⟨_, rfl, .inl rfl⟩, ⟨_, rfl, .inl rfl⟩, ⟨_, rfl, .inl rfl⟩, ⟨_, rfl, .inl rfl⟩, ⟨_, rfl, .inl rfl⟩, trivial⟩ ⟨rfl, rfl, trivial⟩ rfl rfl rfl rfl)⟩
  clear hk7
  refine Ok.block (Ok.seq (Ok.region (OkOps.y (aI s3.2.1) ?_)))
  obtain ⟨x8, hx8, hr⟩ := bind_some hr
  refine OkOps.q (triIdx (enc := (eInt .i32)) (L := runes label) (row := [.v (.int .i32 x8)]) hx8 rfl rfl rfl rfl (fun _ => rfl) trivial rfl) (OkOps.y (.c (.d (.v (.int .i32 x8)))) (OkOps.y (aI s3.2.1) (OkOps.y (.c (.d (.v (.int .i32 x8)))) (OkOps.nil (Ok.seq (Ok.region (OkOps.y (.c (.d (.v (.int .i32 x8)))) ?_)))))))
  obtain ⟨x9, hx9, hr⟩ := bind_some hr
  refine OkOps.q (triCl (tau []) (.s (aI x9)) [] (sc_letter_c _ hx9) rfl ⟨.inl rfl, trivial⟩ trivial entry57 trivial) (OkOps.y (aI x9) (OkOps.nil (Ok.seq (Ok.region (OkOps.y (aI x9) (OkOps.y (aB (decide (x9 ≥ 0))) (OkOps.y (aB (decide (x9 ≥ 0))) (OkOps.q (triQG (x := aI x9) rfl rfl trivial rfl) ?_))))))))
  obtain ⟨x10, hx10, hr⟩ := bind_some hr
  refine OkOps.q (triIdxAG (gO_t hx10) rfl rfl rfl rfl ⟨fun h => h, trivial⟩ rfl) (OkOps.q (triLoadAG (c := cB_ (s3.2.2 x10)) (fun hg => (by exact arr_get (by simp) (ixO_spec (gO_t hx10 hg)).2)) rfl rfl rfl rfl ⟨fun h => h, trivial⟩ rfl) (OkOps.q (triQG (x := aB (!(s3.2.2 x10))) rfl rfl ⟨fun h => h, trivial⟩ rfl) (OkOps.q (triAnd rfl rfl (fun h => h) rfl) (OkOps.nil ?_))))
  refine Ok.cond (b := (decide (x9 ≥ 0)) && (!(s3.2.2 x10))) rfl (fun h11 => ?_) (fun h11 => ?_)
  have hr := selT h11 hr
  refine Ok.seq (Ok.region (OkOps.y (aI x9) ?_))
  obtain ⟨x12, hx12, hr⟩ := bind_some hr
  refine OkOps.q (triIdxA hx12 rfl rfl rfl trivial rfl) (OkOps.w (triStoreA (cs' := ([] ++ (arrC 36 dBool (upd s3.2.2 x12 true) ++ []))) (by rw [arr_set (by simp) (ixO_spec hx12).2]) (by have := (ixO_spec hx12).2; simp [arrC_len]; omega) rfl rfl rfl rfl rfl) (OkOps.nil (Ok.region (OkOps.y (.c (.tl 1013 (List.map shortcut_choice.cs s3.1))) (OkOps.y (aI x9) (OkOps.y (aI s3.2.1) (OkOps.y (.agg [cI x9, cI s3.2.1]) (OkOps.m 0 (triBST (sz := 2) (enc := shortcut_choice.cs) (j := 1) ([(shortcut_choice.mk x9 s3.2.1)]) rfl rfl rfl rfl rfl rfl rfl rfl (fun _ => rfl) trivial rfl rfl) ?_))))))))
  obtain ⟨x13, hx13, hr⟩ := bind_some hr
  refine OkOps.m2 0 (triApp (enc := shortcut_choice.cs) (L := s3.1) (X := [(shortcut_choice.mk x9 s3.2.1)]) (j := 1013) (j' := 2) hx13 rfl rfl rfl rfl rfl rfl (fun _ => rfl) (fun _ => rfl) (by decide) trivial rfl rfl) (OkOps.y (.c (.tl 2 (List.map shortcut_choice.cs x13))) (OkOps.nil ?_))
  exact ⟨(x13, upd s3.2.2 x12 true), hr, (Conv.mk (tau [(1017, 2)]) ⟨⟨_, rfl, .inl rfl⟩, ⟨_, rfl, .inl rfl⟩, ⟨_, rfl, .inl rfl⟩, ⟨_, rfl, .inl rfl⟩, ⟨_, rfl, .inl rfl⟩, trivial⟩ ⟨rfl, rfl, trivial⟩ rfl rfl rfl rfl)⟩
  have hr := selF h11 hr
  refine Ok.skip ?_
  exact ⟨(s3.1, s3.2.2), hr, (Conv.mk (tau [(1017, 1013)]) ⟨⟨_, rfl, .inl rfl⟩, ⟨_, rfl, .inl rfl⟩, ⟨_, rfl, .inl rfl⟩, ⟨_, rfl, .inl rfl⟩, ⟨_, rfl, .inl rfl⟩, trivial⟩ ⟨rfl, rfl, trivial⟩ rfl rfl rfl rfl)⟩
  have hr := selF h5 hr
  refine Ok.exit ?_
  exact ⟨s3.1, hr, (Conv.mk (tau [(1008, 1013)]) ⟨⟨_, rfl, .inl rfl⟩, trivial⟩ ⟨rfl, trivial⟩ rfl rfl rfl rfl)⟩
theorem sc_matcher_assign_B_c (self0 : shortcut_matcher → Int → (Nat → Bool) → Option (Bool × shortcut_matcher × (Nat → Bool))) (hself0 : ∀ (m : shortcut_matcher) (label : Int) (seen : (Nat → Bool)) {r : Bool × shortcut_matcher × (Nat → Bool)}, self0 m label seen = some r → Con Tryd.prog 58 [.c (.loc 0 0), aI label, .c (.loc 1 0)] [(0, .blk ([.d (.sl (List.map (eSl shortcut_choice.cs) m.l))] ++ (arrC 36 (dInt .i64) m.owner ++ (arrC 36 dBool m.taken ++ []))) 90), (1, .blk ([] ++ (arrC 36 dBool seen ++ [])) 88)] (.s (aB r.1)) [(0, .blk ([.d (.sl (List.map (eSl shortcut_choice.cs) r.2.1.l))] ++ (arrC 36 (dInt .i64) r.2.1.owner ++ (arrC 36 dBool r.2.1.taken ++ []))) 90), (1, .blk ([] ++ (arrC 36 dBool r.2.2 ++ [])) 88)]) (m : shortcut_matcher) (label : Int) (seen : (Nat → Bool)) {r : Bool × shortcut_matcher × (Nat → Bool)} (hr : sc_matcher_assign_B self0 m label seen = some r) : Con Tryd.prog 58 [.c (.loc 0 0), aI label, .c (.loc 1 0)] [(0, .blk ([.d (.sl (List.map (eSl shortcut_choice.cs) m.l))] ++ (arrC 36 (dInt .i64) m.owner ++ (arrC 36 dBool m.taken ++ []))) 90), (1, .blk ([] ++ (arrC 36 dBool seen ++ [])) 88)] (.s (aB r.1)) [(0, .blk ([.d (.sl (List.map (eSl shortcut_choice.cs) r.2.1.l))] ++ (arrC 36 (dInt .i64) r.2.1.owner ++ (arrC 36 dBool r.2.1.taken ++ []))) 90), (1, .blk ([] ++ (arrC 36 dBool r.2.2 ++ [])) 88)] := by
  unfold sc_matcher_assign_B at hr
  refine Con.of_ok 69 0 [.tmp 6] [(0, .s (.c (.loc 0 0))), (1, .s (aI label)), (2, .s (.c (.loc 1 0)))] Tryd.func58 rfl rfl rfl rfl rfl rfl rfl rfl fun w g M ρ _ => (Ok.seq (Ok.region (OkOps.y (aB false) (OkOps.nil ?_))))
  obtain ⟨k2, hk2, hr⟩ := jn_some hr
  refine Ok.join (fun (s1 : (List (List shortcut_choice)) × (Nat → Int) × (Nat → Bool) × (Nat → Bool)) => ⟨[], [(0, .blk ([.d (.sl (List.map (eSl shortcut_choice.cs) s1.1))] ++ (arrC 36 (dInt .i64) s1.2.1 ++ (arrC 36 dBool s1.2.2.1 ++ []))) 90), (1, .blk ([] ++ (arrC 36 dBool s1.2.2.2 ++ [])) 88)], 0⟩) k2 r (fun s1 hr => ?_) ?_
  rw [hk2] at hr
  refine Ok.seq (Ok.region (OkOps.y (aB false) (OkOps.nil (Ok.ret ?_))))
  obtain rfl := Option.some.inj hr
  exact ⟨_, rfl, .inl rfl, ⟨rfl, rfl, trivial⟩⟩
  clear hk2
  refine Ok.seq (Ok.region (OkOps.y (.c (.loc 0 0)) (OkOps.y (.c (.loc 0 0)) (OkOps.y (.c (.loc 0 0)) (OkOps.y (.c (.d (.sl (List.map (eSl shortcut_choice.cs) m.l)))) (OkOps.y (aI label) ?_))))))
  obtain ⟨x3, hx3, hr⟩ := bind_some hr
  refine OkOps.q (triIdx (enc := (eSl shortcut_choice.cs)) (L := m.l) (row := [.sl (List.map shortcut_choice.cs x3)]) hx3 rfl rfl rfl rfl (fun _ => rfl) trivial rfl) (OkOps.y (.c (.d (.sl (List.map shortcut_choice.cs x3)))) (OkOps.q (triLen (enc := shortcut_choice.cs) x3 rfl rfl trivial rfl) (OkOps.y (aI 0) (OkOps.nil (Ok.block (Ok.loopK (fun (s4 : Int × (List (List shortcut_choice)) × (Nat → Int) × (Nat → Bool) × (Nat → Bool)) => ⟨[(0, .s (.c (.loc 0 0))), (1, .s (aI label)), (2, .s (.c (.loc 1 0))), (15, .s (.c (.d (.sl (List.map shortcut_choice.cs x3))))), (16, .s (aI (x3.length : Int))), (17, .s (aI s4.1))], [(0, .blk ([.d (.sl (List.map (eSl shortcut_choice.cs) s4.2.1))] ++ (arrC 36 (dInt .i64) s4.2.2.1 ++ (arrC 36 dBool s4.2.2.2.1 ++ []))) 90), (1, .blk ([] ++ (arrC 36 dBool s4.2.2.2.2 ++ [])) 88)], 0⟩) hr (Conv.mk (tau []) ⟨⟨_, rfl, .inl rfl⟩, ⟨_, rfl, .inl rfl⟩, ⟨_, rfl, .inl rfl⟩, ⟨_, rfl, .inl rfl⟩, ⟨_, rfl, .inl rfl⟩, ⟨_, rfl, .inl rfl⟩, trivial⟩ ⟨rfl, rfl, trivial⟩ rfl rfl rfl rfl) ?_))))))
  clear hr
  intro again5 s4 hr
  unfold sc_matcher_assign_L1 at hr
  refine Ok.seq (Ok.region (OkOps.y (aB (decide (s4.1 < (x3.length : Int)))) (OkOps.nil (Ok.seq ?_))))
  refine Ok.cond (b := decide (s4.1 < (x3.length : Int))) rfl (fun h6 => ?_) (fun h6 => ?_)
  have hr := selT h6 hr
  refine Ok.skip ?_
  obtain ⟨k8, hk8, hr⟩ := jn_some hr
  refine Ok.join (fun (s7 : (List (List shortcut_choice)) × (Nat → Int) × (Nat → Bool) × (Nat → Bool)) => ⟨[(0, .s (.c (.loc 0 0))), (1, .s (aI label)), (2, .s (.c (.loc 1 0))), (15, .s (.c (.d (.sl (List.map shortcut_choice.cs x3))))), (16, .s (aI (x3.length : Int))), (17, .s (aI s4.1))], [(0, .blk ([.d (.sl (List.map (eSl shortcut_choice.cs) s7.1))] ++ (arrC 36 (dInt .i64) s7.2.1 ++ (arrC 36 dBool s7.2.2.1 ++ []))) 90), (1, .blk ([] ++ (arrC 36 dBool s7.2.2.2 ++ [])) 88)], 0⟩) k8 r (fun s7 hr => ?_) ?_
  rw [hk8] at hr
  refine Ok.region (OkOps.y (aI (IntKind.i64.wrap (s4.1 + 1))) (OkOps.y (aI (IntKind.i64.wrap (s4.1 + 1))) (OkOps.nil ?_)))
  exact ⟨(IntKind.i64.wrap (s4.1 + 1), s7.1, s7.2.1, s7.2.2.1, s7.2.2.2), hr, (Conv.mk (tau []) ⟨⟨_, rfl, .inl rfl⟩, ⟨_, rfl, .inl rfl⟩, ⟨_, rfl, .inl rfl⟩, ⟨_, rfl, .inl rfl⟩, ⟨_, rfl, .inl rfl⟩, ⟨_, rfl, .inl rfl⟩, trivial⟩ ⟨rfl, rfl, trivial⟩ rfl rfl rfl rfl)⟩
  clear hk8
  refine Ok.block (Ok.seq (Ok.region ?_))
  obtain ⟨x9, hx9, hr⟩ := bind_some hr
  refine OkOps.q (triIdx (enc := shortcut_choice.cs) (L := x3) (row := [dI x9.letter, dI x9.at_]) hx9 rfl rfl rfl rfl (fun _ => rfl) trivial rfl) (OkOps.y (.agg [cI x9.letter, cI x9.at_]) (OkOps.m 0 (triAlloc (j := 2) (cs := [cI 0, cI 0]) rfl rfl rfl rfl) (OkOps.w (triStore (cs' := [cI x9.letter, cI x9.at_]) rfl rfl rfl rfl rfl rfl rfl rfl rfl) (OkOps.nil (Ok.seq (Ok.seq (Ok.regionD (by kernel_rfl) (OkD.x (.c (.loc 1 0)) rfl trivial rfl (OkD.x (.c (.loc 2 0)) rfl trivial rfl (OkD.x (aI x9.letter) rfl trivial rfl (OkD.x (.c (.loc 1 0)) rfl trivial rfl ?_)))))))))))
  obtain ⟨x10, hx10, hr⟩ := bind_some hr
  refine OkD.q (triIdxA hx10 rfl rfl rfl trivial rfl) (OkD.q (triLoadA (c := cB_ (s4.2.2.2.2 x10)) (by exact arr_get (by simp) (ixO_spec hx10).2) rfl rfl rfl trivial rfl) (OkD.x (aB (s4.2.2.2.2 x10)) rfl trivial rfl (OkD.q (triQG (x := .c (.loc 0 0)) rfl rfl trivial rfl) (OkD.q (triQG (x := .c (.loc 2 0)) rfl rfl trivial rfl) (OkD.q (triQG (x := aI x9.letter) rfl rfl ⟨fun h => h, trivial⟩ rfl) (OkD.q (triQG (x := .c (.loc 0 0)) rfl rfl ⟨fun h => h, trivial⟩ rfl) (OkD.q (triQG (x := .c (.loc 0 37)) rfl rfl ⟨fun h => h, trivial⟩ rfl) ?_)))))))
  obtain ⟨x11, hx11, hr⟩ := bind_some hr
  refine OkD.q (triIdxAG (gO_t hx11) rfl rfl rfl rfl ⟨fun h => h, ⟨fun h => h, trivial⟩⟩ rfl) (OkD.q (triLoadAG (c := cB_ (s4.2.2.2.1 x11)) (fun hg => (by rw [← List.append_assoc]; exact arr_get (by simp [arrC_len]) (ixO_spec (gO_t hx11 hg)).2)) rfl rfl rfl rfl ⟨fun h => h, trivial⟩ rfl) ?_)
  refine OkD.q (triOr rfl rfl (fun h => by rw [h]; rfl) rfl) ?_
  refine OkD.nil (by kernel_rfl) ?_
  refine Ok.cond (b := (s4.2.2.2.2 x10) || (s4.2.2.2.1 x11)) rfl (fun h12 => ?_) (fun h12 => ?_)
  have hr := selT h12 hr
  refine Ok.exit ?_
  exact ⟨(s4.2.1, s4.2.2.1, s4.2.2.2.1, s4.2.2.2.2), hr, (Conv.mk (tau []) ⟨⟨_, rfl, .inl rfl⟩, ⟨_, rfl, .inl rfl⟩, ⟨_, rfl, .inl rfl⟩, ⟨_, rfl, .inl rfl⟩, ⟨_, rfl, .inl rfl⟩, ⟨_, rfl, .inl rfl⟩, trivial⟩ ⟨rfl, rfl, trivial⟩ rfl rfl rfl rfl)⟩
  have hr := selF h12 hr
  refine Ok.skip (Ok.seq (Ok.regionD (by kernel_rfl) (OkD.x (.c (.loc 1 0)) rfl trivial rfl (OkD.x (.c (.loc 2 0)) rfl trivial rfl (OkD.x (aI x9.letter) rfl trivial rfl (OkD.x (.c (.loc 1 0)) rfl trivial rfl ?_))))))
  obtain ⟨x13, hx13, hr⟩ := bind_some hr
  refine OkD.q (triIdxA hx13 rfl rfl rfl trivial rfl) (OkD.w (triStoreA (cs' := ([] ++ (arrC 36 dBool (upd s4.2.2.2.2 x13 true) ++ []))) (by rw [arr_set (by simp) (ixO_spec hx13).2]) (by have := (ixO_spec hx13).2; simp [arrC_len]; omega) rfl rfl rfl rfl rfl) (OkD.nil (by kernel_rfl) (Ok.seq (Ok.regionD (by kernel_rfl) (OkD.x (.c (.loc 0 0)) rfl trivial rfl (OkD.x (.c (.loc 2 0)) rfl trivial rfl (OkD.x (aI x9.letter) rfl trivial rfl (OkD.x (.c (.loc 0 0)) rfl trivial rfl (OkD.x (.c (.loc 0 1)) rfl trivial rfl ?_)))))))))
  obtain ⟨x14, hx14, hr⟩ := bind_some hr
  refine OkD.q (triIdxA hx14 rfl rfl rfl trivial rfl) (OkD.q (triLoadA (c := cI (s4.2.2.1 x14)) (by exact arr_get (by simp) (ixO_spec hx14).2) rfl rfl rfl trivial rfl) (OkD.x (aB (decide ((s4.2.2.1 x14) < 0))) rfl trivial rfl (OkD.x (aB (decide ((s4.2.2.1 x14) < 0))) rfl trivial rfl (OkD.q (triQG (x := .c (.loc 0 0)) rfl rfl trivial rfl) (OkD.q (triQG (x := .c (.loc 0 0)) rfl rfl trivial rfl) (OkD.q (triQG (x := .c (.loc 2 0)) rfl rfl trivial rfl) (OkD.q (triQG (x := aI x9.letter) rfl rfl ⟨fun h => h, trivial⟩ rfl) (OkD.q (triQG (x := .c (.loc 0 0)) rfl rfl ⟨fun h => h, trivial⟩ rfl) (OkD.q (triQG (x := .c (.loc 0 1)) rfl rfl ⟨fun h => h, trivial⟩ rfl) ?_)))))))))
  obtain ⟨x15, hx15, hr⟩ := bind_some hr
  refine OkD.q (triIdxAG (gO_t hx15) rfl rfl rfl rfl ⟨fun h => h, ⟨fun h => h, trivial⟩⟩ rfl) (OkD.q (triLoadAG (c := cI (s4.2.2.1 x15)) (fun hg => (by exact arr_get (by simp) (ixO_spec (gO_t hx15 hg)).2)) rfl rfl rfl rfl ⟨fun h => h, trivial⟩ rfl) (OkD.q (triQG (x := .c (.loc 1 0)) rfl rfl trivial rfl) ?_))
  obtain ⟨x16, hx16, hr⟩ := bind_some hr
  refine OkD.m2 0 (triCallGW (tau [(0, 0), (1, 1)]) (aB x16.1) [(0, .blk ([.d (.sl (List.map (eSl shortcut_choice.cs) x16.2.1.l))] ++ (arrC 36 (dInt .i64) x16.2.1.owner ++ (arrC 36 dBool x16.2.1.taken ++ []))) 90), (1, .blk ([] ++ (arrC 36 dBool x16.2.2 ++ [])) 88)] (fun hg => hself0 _ _ _ (selT hg hx16)) (fun hg => by cases selF hg hx16; rfl) rfl rfl ⟨.inl rfl, .inl rfl, .inl rfl, trivial⟩ ⟨fun h => h, ⟨fun h => h, ⟨fun h => h, trivial⟩⟩⟩ entry58 ⟨rfl, rfl, trivial⟩ rfl rfl rfl rfl rfl rfl rfl rfl) ?_
  refine OkD.q (triOr rfl rfl (fun h => by rw [h]; rfl) rfl) ?_
  refine OkD.nil (by kernel_rfl) ?_
  refine Ok.cond (b := (decide ((s4.2.2.1 x14) < 0)) || x16.1) rfl (fun h17 => ?_) (fun h17 => ?_)
  have hr := selT h17 hr
  refine Ok.seq (Ok.regionD (by kernel_rfl) (OkD.x (.c (.loc 0 0)) rfl trivial rfl (OkD.x (.c (.loc 2 0)) rfl trivial rfl (OkD.x (aI x9.letter) rfl trivial rfl (OkD.x (aI label) rfl trivial rfl (OkD.x (.c (.loc 0 0)) rfl trivial rfl (OkD.x (.c (.loc 0 1)) rfl trivial rfl ?_)))))))
  obtain ⟨x18, hx18, hr⟩ := bind_some hr
  refine OkD.q (triIdxA hx18 rfl rfl rfl trivial rfl) (OkD.w (triStoreA (cs' := ([.d (.sl (List.map (eSl shortcut_choice.cs) x16.2.1.l))] ++ (arrC 36 (dInt .i64) (upd x16.2.1.owner x18 label) ++ (arrC 36 dBool x16.2.1.taken ++ [])))) (by rw [arr_set (by simp) (ixO_spec hx18).2]) (by have := (ixO_spec hx18).2; simp [arrC_len]; omega) rfl rfl rfl rfl rfl) (OkD.nil (by kernel_rfl) (Ok.seq (Ok.region (OkOps.y (aB true) (OkOps.nil (Ok.ret ?_)))))))
  obtain rfl := Option.some.inj hr
  exact ⟨_, rfl, .inl rfl, ⟨rfl, rfl, trivial⟩⟩
  have hr := selF h17 hr
  refine Ok.skip ?_
  exact ⟨(x16.2.1.l, x16.2.1.owner, x16.2.1.taken, x16.2.2), hr, (Conv.mk (tau []) ⟨⟨_, rfl, .inl rfl⟩, ⟨_, rfl, .inl rfl⟩, ⟨_, rfl, .inl rfl⟩, ⟨_, rfl, .inl rfl⟩, ⟨_, rfl, .inl rfl⟩, ⟨_, rfl, .inl rfl⟩, trivial⟩ ⟨rfl, rfl, trivial⟩ rfl rfl rfl rfl)⟩
  have hr := selF h6 hr
  refine Ok.exit ?_
  exact ⟨(s4.2.1, s4.2.2.1, s4.2.2.2.1, s4.2.2.2.2), hr, (Conv.mk (tau []) trivial ⟨rfl, rfl, trivial⟩ rfl rfl rfl rfl)⟩
theorem sc_matcher_assign_all : ∀ n : Nat, (∀ (m : shortcut_matcher) (label : Int) (seen : (Nat → Bool)) {r : Bool × shortcut_matcher × (Nat → Bool)}, sc_matcher_assign n m label seen = some r → Con Tryd.prog 58 [.c (.loc 0 0), aI label, .c (.loc 1 0)] [(0, .blk ([.d (.sl (List.map (eSl shortcut_choice.cs) m.l))] ++ (arrC 36 (dInt .i64) m.owner ++ (arrC 36 dBool m.taken ++ []))) 90), (1, .blk ([] ++ (arrC 36 dBool seen ++ [])) 88)] (.s (aB r.1)) [(0, .blk ([.d (.sl (List.map (eSl shortcut_choice.cs) r.2.1.l))] ++ (arrC 36 (dInt .i64) r.2.1.owner ++ (arrC 36 dBool r.2.1.taken ++ []))) 90), (1, .blk ([] ++ (arrC 36 dBool r.2.2 ++ [])) 88)]) ∧ True := by
  intro n
  induction n with
  | zero => exact ⟨(by intros; rename_i hr; cases hr), trivial⟩
  | succ n ih => exact ⟨(by intros; rename_i hr; exact sc_matcher_assign_B_c _ ih.1 _ _ _ hr), trivial⟩
theorem sc_matcher_assign_c (n : Nat) (m : shortcut_matcher) (label : Int) (seen : (Nat → Bool)) {r : Bool × shortcut_matcher × (Nat → Bool)} (hr : sc_matcher_assign n m label seen = some r) : Con Tryd.prog 58 [.c (.loc 0 0), aI label, .c (.loc 1 0)] [(0, .blk ([.d (.sl (List.map (eSl shortcut_choice.cs) m.l))] ++ (arrC 36 (dInt .i64) m.owner ++ (arrC 36 dBool m.taken ++ []))) 90), (1, .blk ([] ++ (arrC 36 dBool seen ++ [])) 88)] (.s (aB r.1)) [(0, .blk ([.d (.sl (List.map (eSl shortcut_choice.cs) r.2.1.l))] ++ (arrC 36 (dInt .i64) r.2.1.owner ++ (arrC 36 dBool r.2.1.taken ++ []))) 90), (1, .blk ([] ++ (arrC 36 dBool r.2.2 ++ [])) 88)] := (sc_matcher_assign_all n).1 m label seen hr
theorem sc_matcher_most_c (m : shortcut_matcher) (first : Int) {r : Int × shortcut_matcher} (hr : sc_matcher_most m first = some r) : Con Tryd.prog 35 [.c (.loc 0 0), aI first] [(0, .blk ([.d (.sl (List.map (eSl shortcut_choice.cs) m.l))] ++ (arrC 36 (dInt .i64) m.owner ++ (arrC 36 dBool m.taken ++ []))) 90)] (.s (aI r.1)) [(0, .blk ([.d (.sl (List.map (eSl shortcut_choice.cs) r.2.l))] ++ (arrC 36 (dInt .i64) r.2.owner ++ (arrC 36 dBool r.2.taken ++ []))) 90)] := by
  unfold sc_matcher_most at hr
  refine Con.of_ok 34 0 [.tmp 4] [(0, .s (.c (.loc 0 0))), (1, .s (aI first))] Tryd.func35 rfl rfl rfl rfl rfl rfl rfl rfl fun w g M ρ _ => (Ok.seq (Ok.region (OkOps.y (aI 0) (OkOps.nil ?_))))
  obtain ⟨k2, hk2, hr⟩ := jn_some hr
  refine Ok.join (fun (s1 : (Nat → Int)) => ⟨[(0, .s (.c (.loc 0 0))), (1, .s (aI first))], [(0, .blk ([.d (.sl (List.map (eSl shortcut_choice.cs) m.l))] ++ (arrC 36 (dInt .i64) s1 ++ (arrC 36 dBool m.taken ++ []))) 90)], 0⟩) k2 r (fun s1 hr => ?_) ?_
  rw [hk2] at hr
  refine Ok.seq (Ok.region (OkOps.y (aI 0) (OkOps.nil ?_)))
  obtain ⟨k4, hk4, hr⟩ := jn_some hr
  refine Ok.join (fun (s3 : Int × (List (List shortcut_choice)) × (Nat → Int) × (Nat → Bool)) => ⟨[(6, .s (aI s3.1))], [(0, .blk ([.d (.sl (List.map (eSl shortcut_choice.cs) s3.2.1))] ++ (arrC 36 (dInt .i64) s3.2.2.1 ++ (arrC 36 dBool s3.2.2.2 ++ []))) 90)], 0⟩) k4 r (fun s3 hr => ?_) ?_
  rw [hk4] at hr
  refine Ok.seq (Ok.region (OkOps.y (aI s3.1) (OkOps.y (aI s3.1) (OkOps.nil (Ok.ret ?_)))))
  obtain rfl := Option.some.inj hr
  exact ⟨_, rfl, .inl rfl, ⟨rfl, trivial⟩⟩
  clear hk4
  refine Ok.seq (Ok.region (OkOps.y (aI first) (OkOps.y (aI first) (OkOps.nil (Ok.block (Ok.loopK (fun (s5 : Int × Int × (List (List shortcut_choice)) × (Nat → Int) × (Nat → Bool)) => ⟨[(0, .s (.c (.loc 0 0))), (6, .s (aI s5.1)), (7, .s (aI s5.2.1))], [(0, .blk ([.d (.sl (List.map (eSl shortcut_choice.cs) s5.2.2.1))] ++ (arrC 36 (dInt .i64) s5.2.2.2.1 ++ (arrC 36 dBool s5.2.2.2.2 ++ []))) 90)], 0⟩) hr (Conv.mk (tau []) ⟨⟨_, rfl, .inl rfl⟩, ⟨_, rfl, .inl rfl⟩, ⟨_, rfl, .inl rfl⟩, trivial⟩ ⟨rfl, trivial⟩ rfl rfl rfl rfl) ?_))))))
  clear hr
  intro again6 s5 hr
  unfold sc_matcher_most_L1 at hr
  refine Ok.seq (Ok.seq (Ok.region (OkOps.y (aI s5.2.1) (OkOps.y (.c (.loc 0 0)) (OkOps.y (.c (.loc 0 0)) (OkOps.y (.c (.loc 0 0)) (OkOps.y (.c (.d (.sl (List.map (eSl shortcut_choice.cs) s5.2.2.1)))) (OkOps.q (triLen (enc := (eSl shortcut_choice.cs)) s5.2.2.1 rfl rfl trivial rfl) (OkOps.y (aB (decide (s5.2.1 < (s5.2.2.1.length : Int)))) (OkOps.nil ?_))))))))))
  refine Ok.cond (b := decide (s5.2.1 < (s5.2.2.1.length : Int))) rfl (fun h7 => ?_) (fun h7 => ?_)
  have hr := selT h7 hr
  refine Ok.skip ?_
  obtain ⟨k9, hk9, hr⟩ := jn_some hr
  refine Ok.join (fun (s8 : Int × (List (List shortcut_choice)) × (Nat → Int) × (Nat → Bool)) => ⟨[(0, .s (.c (.loc 0 0))), (6, .s (aI s8.1)), (7, .s (aI s5.2.1))], [(0, .blk ([.d (.sl (List.map (eSl shortcut_choice.cs) s8.2.1))] ++ (arrC 36 (dInt .i64) s8.2.2.1 ++ (arrC 36 dBool s8.2.2.2 ++ []))) 90)], 0⟩) k9 r (fun s8 hr => ?_) ?_
  rw [hk9] at hr
  refine Ok.region (OkOps.y (aI s5.2.1) (OkOps.y (aI (IntKind.i64.wrap (s5.2.1 + 1))) (OkOps.y (aI (IntKind.i64.wrap (s5.2.1 + 1))) (OkOps.nil ?_))))
  exact ⟨(s8.1, IntKind.i64.wrap (s5.2.1 + 1), s8.2.1, s8.2.2.1, s8.2.2.2), hr, (Conv.mk (tau []) ⟨⟨_, rfl, .inl rfl⟩, ⟨_, rfl, .inl rfl⟩, ⟨_, rfl, .inl rfl⟩, trivial⟩ ⟨rfl, trivial⟩ rfl rfl rfl rfl)⟩
  clear hk9
  refine Ok.block (Ok.seq (Ok.region (OkOps.m 0 (triAlloc (j := 1) (cs := ([] ++ (arrC 36 dBool (fun _ => false) ++ []))) rfl rfl rfl rfl) (OkOps.nil (Ok.seq (Ok.region (OkOps.y (.c (.loc 0 0)) (OkOps.y (aI s5.2.1) ?_))))))))
  obtain ⟨x10, hx10, hr⟩ := bind_some hr
  refine OkOps.m2 0 (triCl (tau [(0, 0), (1, 1)]) (.s (aB x10.1)) [(0, .blk ([.d (.sl (List.map (eSl shortcut_choice.cs) x10.2.1.l))] ++ (arrC 36 (dInt .i64) x10.2.1.owner ++ (arrC 36 dBool x10.2.1.taken ++ []))) 90), (1, .blk ([] ++ (arrC 36 dBool x10.2.2 ++ [])) 88)] (sc_matcher_assign_c _ _ _ _ hx10) rfl ⟨.inl rfl, .inl rfl, .inl rfl, trivial⟩ trivial entry58 ⟨rfl, rfl, trivial⟩) (OkOps.nil ?_)
  refine Ok.cond (b := x10.1) rfl (fun h11 => ?_) (fun h11 => ?_)
  have hr := selT h11 hr
  refine Ok.region (OkOps.y (aI s5.1) (OkOps.y (aI (IntKind.i64.wrap (s5.1 + 1))) (OkOps.y (aI (IntKind.i64.wrap (s5.1 + 1))) (OkOps.nil ?_))))
  exact ⟨(IntKind.i64.wrap (s5.1 + 1), x10.2.1.l, x10.2.1.owner, x10.2.1.taken), hr, (Conv.mk (tau []) ⟨⟨_, rfl, .inl rfl⟩, ⟨_, rfl, .inl rfl⟩, ⟨_, rfl, .inl rfl⟩, trivial⟩ ⟨rfl, trivial⟩ rfl rfl rfl rfl)⟩
  have hr := selF h11 hr
  refine Ok.skip ?_
  exact ⟨(s5.1, x10.2.1.l, x10.2.1.owner, x10.2.1.taken), hr, (Conv.mk (tau []) ⟨⟨_, rfl, .inl rfl⟩, ⟨_, rfl, .inl rfl⟩, ⟨_, rfl, .inl rfl⟩, trivial⟩ ⟨rfl, trivial⟩ rfl rfl rfl rfl)⟩
  have hr := selF h7 hr
  refine Ok.exit ?_
  exact ⟨(s5.1, s5.2.2.1, s5.2.2.2.1, s5.2.2.2.2), hr, (Conv.mk (tau []) ⟨⟨_, rfl, .inl rfl⟩, trivial⟩ ⟨rfl, trivial⟩ rfl rfl rfl rfl)⟩
  clear hk2
  refine Ok.seq (Ok.region (OkOps.y (aI 0) (OkOps.nil (Ok.block (Ok.loopK (fun (s12 : Int × (Nat → Int)) => ⟨[(0, .s (.c (.loc 0 0))), (1, .s (aI first)), (9, .s (aI s12.1))], [(0, .blk ([.d (.sl (List.map (eSl shortcut_choice.cs) m.l))] ++ (arrC 36 (dInt .i64) s12.2 ++ (arrC 36 dBool m.taken ++ []))) 90)], 0⟩) hr (Conv.mk (tau []) ⟨⟨_, rfl, .inl rfl⟩, ⟨_, rfl, .inl rfl⟩, ⟨_, rfl, .inl rfl⟩, trivial⟩ ⟨rfl, trivial⟩ rfl rfl rfl rfl) ?_)))))
  clear hr
  intro again13 s12 hr
  unfold sc_matcher_most_L2 at hr
  refine Ok.seq (Ok.region (OkOps.y (aB (decide (s12.1 < 36))) (OkOps.nil (Ok.seq ?_))))
  refine Ok.cond (b := decide (s12.1 < 36)) rfl (fun h14 => ?_) (fun h14 => ?_)
  have hr := selT h14 hr
  refine Ok.skip (Ok.seq (Ok.block (Ok.seq (Ok.region (OkOps.y (aI s12.1) (OkOps.y (aI s12.1) (OkOps.nil (Ok.region (OkOps.y (.c (.loc 0 0)) (OkOps.y (aI s12.1) (OkOps.y (.c (.loc 0 0)) (OkOps.y (.c (.loc 0 1)) ?_))))))))))))
  obtain ⟨x15, hx15, hr⟩ := bind_some hr
  refine OkOps.q (triIdxA hx15 rfl rfl rfl trivial rfl) (OkOps.w (triStoreA (cs' := ([.d (.sl (List.map (eSl shortcut_choice.cs) m.l))] ++ (arrC 36 (dInt .i64) (upd s12.2 x15 (-1)) ++ (arrC 36 dBool m.taken ++ [])))) (by rw [arr_set (by simp) (ixO_spec hx15).2]) (by have := (ixO_spec hx15).2; simp [arrC_len]; omega) rfl rfl rfl rfl rfl) (OkOps.nil (Ok.region (OkOps.y (aI (IntKind.i64.wrap (s12.1 + 1))) (OkOps.y (aI (IntKind.i64.wrap (s12.1 + 1))) (OkOps.nil ?_))))))
  exact ⟨(IntKind.i64.wrap (s12.1 + 1), upd s12.2 x15 (-1)), hr, (Conv.mk (tau []) ⟨⟨_, rfl, .inl rfl⟩, ⟨_, rfl, .inl rfl⟩, ⟨_, rfl, .inl rfl⟩, trivial⟩ ⟨rfl, trivial⟩ rfl rfl rfl rfl)⟩
  have hr := selF h14 hr
  refine Ok.exit ?_
  exact ⟨s12.2, hr, (Conv.mk (tau []) ⟨⟨_, rfl, .inl rfl⟩, ⟨_, rfl, .inl rfl⟩, trivial⟩ ⟨rfl, trivial⟩ rfl rfl rfl rfl)⟩
theorem sc_Mnemonics_c (labels : (List Str)) {r : (List Int) × Int} (hr : sc_Mnemonics labels = some r) : Con Tryd.prog 18 [.c (.d (.sl (List.map eStr labels)))] [] (.tup [.c (.d (.sl (List.map (eInt .i64) r.1))), aI r.2]) [] := by
  unfold sc_Mnemonics at hr
  refine Con.of_ok 98 0 [.tmp 2, .tmp 3] [(0, .s (.c (.d (.sl (List.map eStr labels)))))] Tryd.func18 rfl rfl rfl rfl rfl rfl rfl rfl fun w g M ρ _ => (Ok.seq (Ok.region (OkOps.y (.c (.d (.v (.slice none 0 0)))) (OkOps.y (aI 0) (OkOps.nil (Ok.seq (Ok.seq (Ok.region (OkOps.y (.c (.d (.sl (List.map eStr labels)))) (OkOps.q (triLen (enc := eStr) labels rfl rfl trivial rfl) (OkOps.y (aB (decide ((labels.length : Int) > 24))) (OkOps.nil ?_))))))))))))
  refine Ok.cond (b := decide ((labels.length : Int) > 24)) rfl (fun h1 => ?_) (fun h1 => ?_)
  have hr := selT h1 hr
  refine Ok.seq (Ok.region (OkOps.y (.c (.d (.v (.slice none 0 0)))) (OkOps.y (aI 2) (OkOps.nil (Ok.ret ?_)))))
  obtain rfl := Option.some.inj hr
  exact ⟨_, rfl, .inr rfl, trivial⟩
  have hr := selF h1 hr
  refine Ok.skip (Ok.seq (Ok.region (OkOps.q (triQ (x := .agg [.d (.v (.slice none 0 0)), cI 0, cI 0, cI 0, cI 0, cI 0, cI 0, cI 0, cI 0, cI 0, cI 0, cI 0, cI 0, cI 0, cI 0, cI 0, cI 0, cI 0, cI 0, cI 0, cI 0, cI 0, cI 0, cI 0, cI 0, cI 0, cI 0, cI 0, cI 0, cI 0, cI 0, cI 0, cI 0, cI 0, cI 0, cI 0, cI 0, cB_ false, cB_ false, cB_ false, cB_ false, cB_ false, cB_ false, cB_ false, cB_ false, cB_ false, cB_ false, cB_ false, cB_ false, cB_ false, cB_ false, cB_ false, cB_ false, cB_ false, cB_ false, cB_ false, cB_ false, cB_ false, cB_ false, cB_ false, cB_ false, cB_ false, cB_ false, cB_ false, cB_ false, cB_ false, cB_ false, cB_ false, cB_ false, cB_ false, cB_ false, cB_ false, cB_ false]) (by kernel_rfl) trivial rfl) (OkOps.m 0 (triBox (j := 0) (cs := ([.d (.v (.slice none 0 0))] ++ (arrC 36 (dInt .i64) (fun _ => 0) ++ (arrC 36 dBool (fun _ => false) ++ [])))) rfl rfl rfl rfl rfl) (OkOps.y (.c (.loc 0 0)) (OkOps.nil ?_))))))
  obtain ⟨k3, hk3, hr⟩ := jn_some hr
  refine Ok.join (fun (s2 : (List (List shortcut_choice))) => ⟨[(0, .s (.c (.d (.sl (List.map eStr labels))))), (4, .s (.c (.loc 0 0)))], [(0, .blk ([.tl 1004 (List.map (eSl shortcut_choice.cs) s2)] ++ (arrC 36 (dInt .i64) (fun _ => 0) ++ (arrC 36 dBool (fun _ => false) ++ []))) 90), (1004, .tail 1)], 0⟩) k3 r (fun s2 hr => ?_) ?_
  rw [hk3] at hr
  refine Ok.seq (Ok.region (OkOps.y (.c (.d (.sl (List.map eStr labels)))) (OkOps.q (triLen (enc := eStr) labels rfl rfl trivial rfl) ?_)))
  obtain ⟨x4, hx4, hr⟩ := bind_some hr
  refine OkOps.m 0 (triMkT (sz := 1) (j := 1) hx4 rfl rfl rfl rfl trivial rfl rfl) (OkOps.y (.c (.tl 1 (List.map (eInt .i64) ([] : (List Int))))) (OkOps.nil (Ok.seq (Ok.region (OkOps.y (.c (.loc 0 0)) (OkOps.conv (Conv.norm 0 ([.tl 1004 (List.map (eSl shortcut_choice.cs) s2)] ++ (arrC 36 (dInt .i64) (fun _ => 0) ++ (arrC 36 dBool (fun _ => false) ++ []))) ([.d (.sl (List.map (eSl shortcut_choice.cs) s2))] ++ (arrC 36 (dInt .i64) (fun _ => 0) ++ (arrC 36 dBool (fun _ => false) ++ []))) 90 0 rfl rfl) ?_))))))
  obtain ⟨x5, hx5, hr⟩ := bind_some hr
  refine OkOps.m 0 (triCl (tau [(0, 0)]) (.s (aI x5.1)) [(0, .blk ([.d (.sl (List.map (eSl shortcut_choice.cs) x5.2.l))] ++ (arrC 36 (dInt .i64) x5.2.owner ++ (arrC 36 dBool x5.2.taken ++ []))) 90)] (sc_matcher_most_c _ _ hx5) rfl ⟨.inl rfl, .inl rfl, trivial⟩ trivial entry35 ⟨rfl, trivial⟩) (OkOps.y (aI x5.1) (OkOps.nil ?_))
  obtain ⟨k7, hk7, hr⟩ := jn_some hr
  refine Ok.join (fun (s6 : (List Int)) => ⟨[(7, .s (.c (.tl 1037 (List.map (eInt .i64) s6))))], [(1037, .tail 1)], 0⟩) k7 r (fun s6 hr => ?_) ?_
  rw [hk7] at hr
  refine Ok.seq (Ok.region (OkOps.y (.c (.tl 1037 (List.map (eInt .i64) s6))) (OkOps.y (.c (.tl 1037 (List.map (eInt .i64) s6))) (OkOps.y (aI 0) (OkOps.nil (Ok.ret ?_))))))
  obtain rfl := Option.some.inj hr
  exact ⟨_, rfl, .inr rfl, trivial⟩
  clear hk7
  refine Ok.seq (Ok.region (OkOps.y (.c (.d (.sl (List.map eStr labels)))) (OkOps.q (triLen (enc := eStr) labels rfl rfl trivial rfl) (OkOps.y (aI 0) (OkOps.nil (Ok.block (Ok.loopK (fun (s8 : (List Int) × Int × Int × (List (List shortcut_choice)) × (Nat → Int) × (Nat → Bool)) => ⟨[(4, .s (.c (.loc 0 0))), (7, .s (.c (.tl 1040 (List.map (eInt .i64) s8.1)))), (8, .s (aI s8.2.1)), (45, .s (aI (labels.length : Int))), (46, .s (aI s8.2.2.1))], [(0, .blk ([.d (.sl (List.map (eSl shortcut_choice.cs) s8.2.2.2.1))] ++ (arrC 36 (dInt .i64) s8.2.2.2.2.1 ++ (arrC 36 dBool s8.2.2.2.2.2 ++ []))) 90), (1040, .tail 1)], 0⟩) hr (Conv.mk (tau [(1040, 1)]) ⟨⟨_, rfl, .inl rfl⟩, ⟨_, rfl, .inl rfl⟩, ⟨_, rfl, .inl rfl⟩, ⟨_, rfl, .inl rfl⟩, ⟨_, rfl, .inl rfl⟩, trivial⟩ ⟨rfl, rfl, trivial⟩ rfl rfl rfl rfl) ?_)))))))
  clear hr
  intro again9 s8 hr
  unfold sc_Mnemonics_L2 at hr
  refine Ok.seq (Ok.region (OkOps.y (aB (decide (s8.2.2.1 < (labels.length : Int)))) (OkOps.nil (Ok.seq ?_))))
  refine Ok.cond (b := decide (s8.2.2.1 < (labels.length : Int))) rfl (fun h10 => ?_) (fun h10 => ?_)
  have hr := selT h10 hr
  refine Ok.skip ?_
  obtain ⟨k12, hk12, hr⟩ := jn_some hr
  refine Ok.join (fun (s11 : (List Int) × Int × (List (List shortcut_choice)) × (Nat → Int) × (Nat → Bool)) => ⟨[(4, .s (.c (.loc 0 0))), (7, .s (.c (.tl 1069 (List.map (eInt .i64) s11.1)))), (8, .s (aI s11.2.1)), (45, .s (aI (labels.length : Int))), (46, .s (aI s8.2.2.1))], [(0, .blk ([.d (.sl (List.map (eSl shortcut_choice.cs) s11.2.2.1))] ++ (arrC 36 (dInt .i64) s11.2.2.2.1 ++ (arrC 36 dBool s11.2.2.2.2 ++ []))) 90), (1069, .tail 1)], 0⟩) k12 r (fun s11 hr => ?_) ?_
  rw [hk12] at hr
  refine Ok.region (OkOps.y (aI (IntKind.i64.wrap (s8.2.2.1 + 1))) (OkOps.y (aI (IntKind.i64.wrap (s8.2.2.1 + 1))) (OkOps.nil ?_)))
  exact ⟨(s11.1, s11.2.1, IntKind.i64.wrap (s8.2.2.1 + 1), s11.2.2.1, s11.2.2.2.1, s11.2.2.2.2), hr, (Conv.mk (tau [(1040, 1069)]) ⟨⟨_, rfl, .inl rfl⟩, ⟨_, rfl, .inl rfl⟩, ⟨_, rfl, .inl rfl⟩, ⟨_, rfl, .inl rfl⟩, ⟨_, rfl, .inl rfl⟩, trivial⟩ ⟨rfl, rfl, trivial⟩ rfl rfl rfl rfl)⟩
  clear hk12
  refine Ok.block (Ok.seq (Ok.region (OkOps.y (aI s8.2.2.1) (OkOps.y (aI s8.2.2.1) (OkOps.nil (Ok.seq (Ok.region (OkOps.y (aI (-1)) (OkOps.nil ?_)))))))))
  obtain ⟨k14, hk14, hr⟩ := jn_some hr
  refine Ok.join (fun (s13 : Int × Int × (List (List shortcut_choice)) × (Nat → Int) × (Nat → Bool)) => ⟨[(4, .s (.c (.loc 0 0))), (7, .s (.c (.tl 1040 (List.map (eInt .i64) s8.1)))), (8, .s (aI s13.1)), (10, .s (aI s13.2.1)), (45, .s (aI (labels.length : Int))), (46, .s (aI s8.2.2.1))], [(0, .blk ([.d (.sl (List.map (eSl shortcut_choice.cs) s13.2.2.1))] ++ (arrC 36 (dInt .i64) s13.2.2.2.1 ++ (arrC 36 dBool s13.2.2.2.2 ++ []))) 90), (1040, .tail 1)], 0⟩) k14 r (fun s13 hr => ?_) ?_
  rw [hk14] at hr
  refine Ok.region (OkOps.y (.c (.tl 1040 (List.map (eInt .i64) s8.1))) (OkOps.y (aI s13.2.1) (OkOps.m 0 (triBST (sz := 1) (enc := (eInt .i64)) (j := 2) ([s13.2.1]) rfl rfl rfl rfl rfl rfl rfl rfl (fun _ => rfl) trivial rfl rfl) ?_)))
  obtain ⟨x15, hx15, hr⟩ := bind_some hr
  refine OkOps.m2 0 (triApp (enc := (eInt .i64)) (L := s8.1) (X := [s13.2.1]) (j := 1040) (j' := 3) hx15 rfl rfl rfl rfl rfl rfl (fun _ => rfl) (fun _ => rfl) (by decide) trivial rfl rfl) (OkOps.y (.c (.tl 3 (List.map (eInt .i64) x15))) (OkOps.nil ?_))
  exact ⟨(x15, s13.1, s13.2.2.1, s13.2.2.2.1, s13.2.2.2.2), hr, (Conv.mk (tau [(1069, 3)]) ⟨⟨_, rfl, .inl rfl⟩, ⟨_, rfl, .inl rfl⟩, ⟨_, rfl, .inl rfl⟩, ⟨_, rfl, .inl rfl⟩, ⟨_, rfl, .inl rfl⟩, trivial⟩ ⟨rfl, rfl, trivial⟩ rfl rfl rfl rfl)⟩
  clear hk14
  refine Ok.seq (Ok.region (OkOps.y (.c (.loc 0 0)) (OkOps.y (.c (.loc 0 0)) (OkOps.y (.c (.loc 0 0)) (OkOps.y (.c (.d (.sl (List.map (eSl shortcut_choice.cs) s8.2.2.2.1)))) (OkOps.y (aI s8.2.2.1) ?_))))))
  obtain ⟨x16, hx16, hr⟩ := bind_some hr
  refine OkOps.q (triIdx (enc := (eSl shortcut_choice.cs)) (L := s8.2.2.2.1) (row := [.sl (List.map shortcut_choice.cs x16)]) hx16 rfl rfl rfl rfl (fun _ => rfl) trivial rfl) (OkOps.y (.c (.d (.sl (List.map shortcut_choice.cs x16)))) (OkOps.q (triLen (enc := shortcut_choice.cs) x16 rfl rfl trivial rfl) (OkOps.y (aI 0) (OkOps.nil (Ok.block (Ok.loopK (fun (s17 : Int × (List (List shortcut_choice)) × (Nat → Int) × (Nat → Bool)) => ⟨[(4, .s (.c (.loc 0 0))), (7, .s (.c (.tl 1040 (List.map (eInt .i64) s8.1)))), (8, .s (aI s8.2.1)), (9, .s (aI s8.2.2.1)), (10, .s (aI (-1))), (45, .s (aI (labels.length : Int))), (46, .s (aI s8.2.2.1)), (55, .s (.c (.d (.sl (List.map shortcut_choice.cs x16))))), (56, .s (aI (x16.length : Int))), (57, .s (aI s17.1))], [(0, .blk ([.d (.sl (List.map (eSl shortcut_choice.cs) s17.2.1))] ++ (arrC 36 (dInt .i64) s17.2.2.1 ++ (arrC 36 dBool s17.2.2.2 ++ []))) 90), (1040, .tail 1)], 0⟩) hr (Conv.mk (tau []) ⟨⟨_, rfl, .inl rfl⟩, ⟨_, rfl, .inl rfl⟩, ⟨_, rfl, .inl rfl⟩, ⟨_, rfl, .inl rfl⟩, ⟨_, rfl, .inl rfl⟩, ⟨_, rfl, .inl rfl⟩, ⟨_, rfl, .inl rfl⟩, ⟨_, rfl, .inl rfl⟩, ⟨_, rfl, .inl rfl⟩, ⟨_, rfl, .inl rfl⟩, trivial⟩ ⟨rfl, rfl, trivial⟩ rfl rfl rfl rfl) ?_))))))
  clear hr
  intro again18 s17 hr
  unfold sc_Mnemonics_L1 at hr
  refine Ok.seq (Ok.region (OkOps.y (aB (decide (s17.1 < (x16.length : Int)))) (OkOps.nil (Ok.seq ?_))))
  refine Ok.cond (b := decide (s17.1 < (x16.length : Int))) rfl (fun h19 => ?_) (fun h19 => ?_)
  have hr := selT h19 hr
  refine Ok.skip ?_
  obtain ⟨k21, hk21, hr⟩ := jn_some hr
  refine Ok.join (fun (s20 : (List (List shortcut_choice)) × (Nat → Int) × (Nat → Bool)) => ⟨[(4, .s (.c (.loc 0 0))), (7, .s (.c (.tl 1040 (List.map (eInt .i64) s8.1)))), (8, .s (aI s8.2.1)), (9, .s (aI s8.2.2.1)), (10, .s (aI (-1))), (45, .s (aI (labels.length : Int))), (46, .s (aI s8.2.2.1)), (55, .s (.c (.d (.sl (List.map shortcut_choice.cs x16))))), (56, .s (aI (x16.length : Int))), (57, .s (aI s17.1))], [(0, .blk ([.d (.sl (List.map (eSl shortcut_choice.cs) s20.1))] ++ (arrC 36 (dInt .i64) s20.2.1 ++ (arrC 36 dBool s20.2.2 ++ []))) 90), (1040, .tail 1)], 0⟩) k21 r (fun s20 hr => ?_) ?_
  rw [hk21] at hr
  refine Ok.region (OkOps.y (aI (IntKind.i64.wrap (s17.1 + 1))) (OkOps.y (aI (IntKind.i64.wrap (s17.1 + 1))) (OkOps.nil ?_)))
  exact ⟨(IntKind.i64.wrap (s17.1 + 1), s20.1, s20.2.1, s20.2.2), hr, (Conv.mk (tau []) ⟨⟨_, rfl, .inl rfl⟩, ⟨_, rfl, .inl rfl⟩, ⟨_, rfl, .inl rfl⟩, ⟨_, rfl, .inl rfl⟩, ⟨_, rfl, .inl rfl⟩, ⟨_, rfl, .inl rfl⟩, ⟨_, rfl, .inl rfl⟩, ⟨_, rfl, .inl rfl⟩, ⟨_, rfl, .inl rfl⟩, ⟨_, rfl, .inl rfl⟩, trivial⟩ ⟨rfl, rfl, trivial⟩ rfl rfl rfl rfl)⟩
  clear hk21
  refine Ok.block (Ok.seq (Ok.region ?_))
  obtain ⟨x22, hx22, hr⟩ := bind_some hr
  refine OkOps.q (triIdx (enc := shortcut_choice.cs) (L := x16) (row := [dI x22.letter, dI x22.at_]) hx22 rfl rfl rfl rfl (fun _ => rfl) trivial rfl) (OkOps.y (.agg [cI x22.letter, cI x22.at_]) (OkOps.m 0 (triAlloc (j := 4) (cs := [cI 0, cI 0]) rfl rfl rfl rfl) (OkOps.w (triStore (cs' := [cI x22.letter, cI x22.at_]) rfl rfl rfl rfl rfl rfl rfl rfl rfl) (OkOps.nil (Ok.seq (Ok.seq (Ok.regionD (by kernel_rfl) (OkD.x (.c (.loc 0 0)) rfl trivial rfl (OkD.x (.c (.loc 4 0)) rfl trivial rfl (OkD.x (aI x22.letter) rfl trivial rfl (OkD.x (.c (.loc 0 0)) rfl trivial rfl (OkD.x (.c (.loc 0 37)) rfl trivial rfl ?_))))))))))))
  obtain ⟨x23, hx23, hr⟩ := bind_some hr
  refine OkD.q (triIdxA hx23 rfl rfl rfl trivial rfl) (OkD.q (triLoadA (c := cB_ (s17.2.2.2 x23)) (by rw [← List.append_assoc]; exact arr_get (by simp [arrC_len]) (ixO_spec hx23).2) rfl rfl rfl trivial rfl) (OkD.nil (by kernel_rfl) ?_))
  refine Ok.cond (b := s17.2.2.2 x23) rfl (fun h24 => ?_) (fun h24 => ?_)
  have hr := selT h24 hr
  refine Ok.exit ?_
  exact ⟨(s17.2.1, s17.2.2.1, s17.2.2.2), hr, (Conv.mk (tau []) ⟨⟨_, rfl, .inl rfl⟩, ⟨_, rfl, .inl rfl⟩, ⟨_, rfl, .inl rfl⟩, ⟨_, rfl, .inl rfl⟩, ⟨_, rfl, .inl rfl⟩, ⟨_, rfl, .inl rfl⟩, ⟨_, rfl, .inl rfl⟩, ⟨_, rfl, .inl rfl⟩, ⟨_, rfl, .inl rfl⟩, ⟨_, rfl, .inl rfl⟩, trivial⟩ ⟨rfl, rfl, trivial⟩ rfl rfl rfl rfl)⟩
  have hr := selF h24 hr
  refine Ok.skip (Ok.seq (Ok.regionD (by kernel_rfl) (OkD.x (.c (.loc 0 0)) rfl trivial rfl (OkD.x (.c (.loc 4 0)) rfl trivial rfl (OkD.x (aI x22.letter) rfl trivial rfl (OkD.x (.c (.loc 0 0)) rfl trivial rfl (OkD.x (.c (.loc 0 37)) rfl trivial rfl ?_)))))))
  obtain ⟨x25, hx25, hr⟩ := bind_some hr
  refine OkD.q (triIdxA hx25 rfl rfl rfl trivial rfl) (OkD.w (triStoreA (cs' := ([.d (.sl (List.map (eSl shortcut_choice.cs) s17.2.1))] ++ (arrC 36 (dInt .i64) s17.2.2.1 ++ (arrC 36 dBool (upd s17.2.2.2 x25 true) ++ [])))) (by rw [← List.append_assoc]; rw [arr_set (by simp [arrC_len]) (ixO_spec hx25).2]; rw [List.append_assoc]) (by have := (ixO_spec hx25).2; simp [arrC_len]; omega) rfl rfl rfl rfl rfl) (OkD.nil (by kernel_rfl) (Ok.seq (Ok.seq (Ok.region (OkOps.y (.c (.loc 0 0)) (OkOps.y (aI s8.2.2.1) (OkOps.y (aI (IntKind.i64.wrap (s8.2.2.1 + 1))) ?_))))))))
  obtain ⟨x26, hx26, hr⟩ := bind_some hr
  refine OkOps.m 0 (triCl (tau [(0, 0)]) (.s (aI x26.1)) [(0, .blk ([.d (.sl (List.map (eSl shortcut_choice.cs) x26.2.l))] ++ (arrC 36 (dInt .i64) x26.2.owner ++ (arrC 36 dBool x26.2.taken ++ []))) 90)] (sc_matcher_most_c _ _ hx26) rfl ⟨.inl rfl, .inl rfl, trivial⟩ trivial entry35 ⟨rfl, trivial⟩) (OkOps.y (aI s8.2.1) (OkOps.y (aI (IntKind.i64.wrap (s8.2.1 - 1))) (OkOps.y (aB (x26.1 == (IntKind.i64.wrap (s8.2.1 - 1)))) (OkOps.nil ?_))))
  refine Ok.cond (b := x26.1 == (IntKind.i64.wrap (s8.2.1 - 1))) rfl (fun h27 => ?_) (fun h27 => ?_)
  have hr := selT h27 hr
  refine Ok.seq (Ok.region (OkOps.y (.c (.loc 4 1)) (OkOps.y (aI x22.at_) (OkOps.y (aI x22.at_) (OkOps.nil (Ok.seq (Ok.region (OkOps.y (aI s8.2.1) (OkOps.y (aI (IntKind.i64.wrap (s8.2.1 - 1))) (OkOps.y (aI (IntKind.i64.wrap (s8.2.1 - 1))) (OkOps.nil (Ok.exit ?_))))))))))))
  exact ⟨(IntKind.i64.wrap (s8.2.1 - 1), x22.at_, x26.2.l, x26.2.owner, x26.2.taken), hr, (Conv.mk (tau []) ⟨⟨_, rfl, .inl rfl⟩, ⟨_, rfl, .inl rfl⟩, ⟨_, rfl, .inl rfl⟩, ⟨_, rfl, .inl rfl⟩, ⟨_, rfl, .inl rfl⟩, ⟨_, rfl, .inl rfl⟩, trivial⟩ ⟨rfl, rfl, trivial⟩ rfl rfl rfl rfl)⟩
  have hr := selF h27 hr
  refine Ok.skip (Ok.regionD (by kernel_rfl) (OkD.x (.c (.loc 0 0)) rfl trivial rfl (OkD.x (.c (.loc 4 0)) rfl trivial rfl (OkD.x (aI x22.letter) rfl trivial rfl (OkD.x (.c (.loc 0 0)) rfl trivial rfl (OkD.x (.c (.loc 0 37)) rfl trivial rfl ?_))))))
  obtain ⟨x28, hx28, hr⟩ := bind_some hr
  refine OkD.q (triIdxA hx28 rfl rfl rfl trivial rfl) (OkD.w (triStoreA (cs' := ([.d (.sl (List.map (eSl shortcut_choice.cs) x26.2.l))] ++ (arrC 36 (dInt .i64) x26.2.owner ++ (arrC 36 dBool (upd x26.2.taken x28 false) ++ [])))) (by rw [← List.append_assoc]; rw [arr_set (by simp [arrC_len]) (ixO_spec hx28).2]; rw [List.append_assoc]) (by have := (ixO_spec hx28).2; simp [arrC_len]; omega) rfl rfl rfl rfl rfl) (OkD.nil (by kernel_rfl) ?_))
  exact ⟨(x26.2.l, x26.2.owner, upd x26.2.taken x28 false), hr, (Conv.mk (tau []) ⟨⟨_, rfl, .inl rfl⟩, ⟨_, rfl, .inl rfl⟩, ⟨_, rfl, .inl rfl⟩, ⟨_, rfl, .inl rfl⟩, ⟨_, rfl, .inl rfl⟩, ⟨_, rfl, .inl rfl⟩, ⟨_, rfl, .inl rfl⟩, ⟨_, rfl, .inl rfl⟩, ⟨_, rfl, .inl rfl⟩, ⟨_, rfl, .inl rfl⟩, trivial⟩ ⟨rfl, rfl, trivial⟩ rfl rfl rfl rfl)⟩
  have hr := selF h19 hr
  refine Ok.exit ?_
  exact ⟨(s8.2.1, (-1), s17.2.1, s17.2.2.1, s17.2.2.2), hr, (Conv.mk (tau []) ⟨⟨_, rfl, .inl rfl⟩, ⟨_, rfl, .inl rfl⟩, ⟨_, rfl, .inl rfl⟩, ⟨_, rfl, .inl rfl⟩, ⟨_, rfl, .inl rfl⟩, ⟨_, rfl, .inl rfl⟩, trivial⟩ ⟨rfl, rfl, trivial⟩ rfl rfl rfl rfl)⟩
  have hr := selF h10 hr
  refine Ok.exit ?_
  exact ⟨s8.1, hr, (Conv.mk (tau [(1037, 1040)]) ⟨⟨_, rfl, .inl rfl⟩, trivial⟩ ⟨rfl, trivial⟩ rfl rfl rfl rfl)⟩
  clear hk3
  refine Ok.seq (Ok.region (OkOps.y (.c (.d (.sl (List.map eStr labels)))) (OkOps.q (triLen (enc := eStr) labels rfl rfl trivial rfl) (OkOps.y (aI 0) (OkOps.nil (Ok.block (Ok.loopK (fun (s29 : Int × (List (List shortcut_choice))) => ⟨[(0, .s (.c (.d (.sl (List.map eStr labels))))), (4, .s (.c (.loc 0 0))), (18, .s (.c (.d (.sl (List.map eStr labels))))), (19, .s (aI (labels.length : Int))), (20, .s (aI s29.1))], [(0, .blk ([.tl 1072 (List.map (eSl shortcut_choice.cs) s29.2)] ++ (arrC 36 (dInt .i64) (fun _ => 0) ++ (arrC 36 dBool (fun _ => false) ++ []))) 90), (1072, .tail 1)], 0⟩) hr (Conv.trans (Conv.nilO 0 0 1074 1 ([.d (.v (.slice none 0 0))] ++ (arrC 36 (dInt .i64) (fun _ => 0) ++ (arrC 36 dBool (fun _ => false) ++ []))) ([.tl 1074 (List.map (eSl shortcut_choice.cs) ([] : (List (List shortcut_choice))))] ++ (arrC 36 (dInt .i64) (fun _ => 0) ++ (arrC 36 dBool (fun _ => false) ++ []))) 90 0 rfl rfl rfl rfl) (Conv.mk (tau [(1072, 1074)]) ⟨⟨_, rfl, .inl rfl⟩, ⟨_, rfl, .inl rfl⟩, ⟨_, rfl, .inl rfl⟩, ⟨_, rfl, .inl rfl⟩, ⟨_, rfl, .inl rfl⟩, trivial⟩ ⟨rfl, rfl, trivial⟩ rfl rfl rfl rfl)) ?_)))))))
  clear hr
  intro again30 s29 hr
  unfold sc_Mnemonics_L3 at hr
  refine Ok.seq (Ok.region (OkOps.y (aB (decide (s29.1 < (labels.length : Int)))) (OkOps.nil (Ok.seq ?_))))
  refine Ok.cond (b := decide (s29.1 < (labels.length : Int))) rfl (fun h31 => ?_) (fun h31 => ?_)
  have hr := selT h31 hr
  refine Ok.skip (Ok.seq (Ok.block (Ok.seq (Ok.region ?_))))
  obtain ⟨x32, hx32, hr⟩ := bind_some hr
  refine OkOps.q (triIdx (enc := eStr) (L := labels) (row := [dS x32]) hx32 rfl rfl rfl rfl (fun _ => rfl) trivial rfl) (OkOps.y (aS x32) (OkOps.y (aS x32) (OkOps.nil (Ok.seq (Ok.seq (Ok.region (OkOps.y (aS x32) (OkOps.y (aI (x32.size : Int)) (OkOps.y (aB (decide ((x32.size : Int) > 2000))) (OkOps.nil ?_))))))))))
  refine Ok.cond (b := decide ((x32.size : Int) > 2000)) rfl (fun h33 => ?_) (fun h33 => ?_)
  have hr := selT h33 hr
  refine Ok.seq (Ok.region (OkOps.y (.c (.d (.v (.slice none 0 0)))) (OkOps.y (aI 2) (OkOps.nil (Ok.ret ?_)))))
  obtain rfl := Option.some.inj hr
  exact ⟨_, rfl, .inr rfl, trivial⟩
  have hr := selF h33 hr
  refine Ok.skip (Ok.regionD (by kernel_rfl) (OkD.x (.c (.loc 0 0)) rfl trivial rfl (OkD.x (.c (.loc 0 0)) rfl trivial rfl (OkD.x (.c (.loc 0 0)) rfl trivial rfl (OkD.x (.c (.loc 0 0)) rfl trivial rfl (OkD.x (.c (.tl 1072 (List.map (eSl shortcut_choice.cs) s29.2))) rfl trivial rfl (OkD.x (aS x32) rfl trivial rfl ?_)))))))
  obtain ⟨x34, hx34, hr⟩ := bind_some hr
  refine OkD.q (triCl (tau []) (.s (.c (.d (.sl (List.map shortcut_choice.cs x34))))) [] (sc_choices_c _ hx34) rfl ⟨.inl rfl, trivial⟩ trivial entry34 trivial) (OkD.m 0 (triBST (sz := 1) (enc := (eSl shortcut_choice.cs)) (j := 5) ([x34]) rfl rfl rfl rfl rfl rfl rfl rfl (fun _ => rfl) trivial rfl rfl) ?_)
  obtain ⟨x35, hx35, hr⟩ := bind_some hr
  refine OkD.m2 0 (triApp (enc := (eSl shortcut_choice.cs)) (L := s29.2) (X := [x34]) (j := 1072) (j' := 6) hx35 rfl rfl rfl rfl rfl rfl (fun _ => rfl) (fun _ => rfl) (by decide) trivial rfl rfl) (OkD.x (.c (.loc 0 0)) rfl trivial rfl (OkD.x (.c (.loc 0 0)) rfl trivial rfl (OkD.w (triStore (cs' := ([.tl 6 (List.map (eSl shortcut_choice.cs) x35)] ++ (arrC 36 (dInt .i64) (fun _ => 0) ++ (arrC 36 dBool (fun _ => false) ++ [])))) rfl rfl rfl rfl rfl rfl rfl rfl rfl) (OkD.nil (by kernel_rfl) (Ok.region (OkOps.y (aI (IntKind.i64.wrap (s29.1 + 1))) (OkOps.y (aI (IntKind.i64.wrap (s29.1 + 1))) (OkOps.nil ?_))))))))
  exact ⟨(IntKind.i64.wrap (s29.1 + 1), x35), hr, (Conv.mk (tau [(1072, 6)]) ⟨⟨_, rfl, .inl rfl⟩, ⟨_, rfl, .inl rfl⟩, ⟨_, rfl, .inl rfl⟩, ⟨_, rfl, .inl rfl⟩, ⟨_, rfl, .inl rfl⟩, trivial⟩ ⟨rfl, rfl, trivial⟩ rfl rfl rfl rfl)⟩
  have hr := selF h31 hr
  refine Ok.exit ?_
  exact ⟨s29.2, hr, (Conv.mk (tau [(1004, 1072)]) ⟨⟨_, rfl, .inl rfl⟩, ⟨_, rfl, .inl rfl⟩, trivial⟩ ⟨rfl, rfl, trivial⟩ rfl rfl rfl rfl)⟩
theorem ext116 (s : Str) (c : Int) : ExtP Tryd.prog 116 [.string s, .int .u8 c] (.int .i64 (idxByte s c)) := ext_of (e := Extern.BytealgIndexByte.indexByte) Tryd.func116 (by kernel_rfl) (by kernel_rfl) (by kernel_rfl) (by kernel_rfl) (idxByte_run s c)
theorem ext90 (s : Str) (c : Int) : ExtP Tryd.prog 90 [.string s, .int .u8 c] (.int .i64 (cntByte s c)) := ext_of (e := Extern.BytealgCount.count) Tryd.func90 (by kernel_rfl) (by kernel_rfl) (by kernel_rfl) (by kernel_rfl) (cntByte_run s c)
theorem unicode_utf8_decodeRuneInStringSlow_c (p_s : Str) {r : Int × Int} (hr : unicode_utf8_decodeRuneInStringSlow p_s = some r) : Con Tryd.prog 73 [aS p_s] [] (.tup [.c (.d (.v (.int .i32 r.1))), aI r.2]) [] := by
  unfold unicode_utf8_decodeRuneInStringSlow at hr
  refine Con.of_ok 117 0 [.tmp 2, .tmp 3] [(0, .s (aS p_s))] Tryd.func73 rfl rfl rfl rfl rfl rfl rfl rfl fun w g M ρ _ => (Ok.seq (Ok.region (OkOps.y (.c (.d (.v (.int .i32 0)))) (OkOps.y (aI 0) (OkOps.nil (Ok.seq (Ok.region (OkOps.y (aS p_s) (OkOps.y (aI (p_s.size : Int)) (OkOps.y (aI (p_s.size : Int)) (OkOps.nil (Ok.seq (Ok.seq (Ok.region (OkOps.y (aI (p_s.size : Int)) ?_)))))))))))))))
  refine OkOps.y (aB (decide ((p_s.size : Int) < 1))) (OkOps.nil ?_)
  refine Ok.cond (b := decide ((p_s.size : Int) < 1)) rfl (fun h1 => ?_) (fun h1 => ?_)
  have hr := selT h1 hr
  refine Ok.seq (Ok.region (OkOps.y (.c (.d (.v (.int .i32 65533)))) (OkOps.y (aI 0) (OkOps.nil (Ok.ret ?_)))))
  obtain rfl := Option.some.inj hr
  exact ⟨_, rfl, .inl rfl, trivial⟩
  have hr := selF h1 hr
  refine Ok.skip (Ok.seq (Ok.region (OkOps.y (aS p_s) ?_)))
  obtain ⟨x2, hx2, hr⟩ := bind_some hr
  refine OkOps.q (triSIdx hx2 rfl rfl rfl trivial rfl) (OkOps.y (.c (.d (.v (.int .u8 x2)))) (OkOps.nil (Ok.seq (Ok.region (OkOps.y (.c (.d (.v (.int .u8 x2)))) ?_)))))
  obtain ⟨x3, hx3, hr⟩ := bind_some hr
  refine OkOps.q (triFirst (y := x3) hx3 (by kernel_rfl) rfl rfl trivial rfl) (OkOps.y (.c (.d (.v (.int .u8 x3)))) (OkOps.y (.c (.d (.v (.int .u8 x3)))) (OkOps.nil (Ok.seq (Ok.seq (Ok.region (OkOps.y (.c (.d (.v (.int .u8 x3)))) (OkOps.y (aB (decide (x3 ≥ 240))) (OkOps.nil ?_)))))))))
  refine Ok.cond (b := decide (x3 ≥ 240)) rfl (fun h4 => ?_) (fun h4 => ?_)
  have hr := selT h4 hr
  refine Ok.seq (Ok.region (OkOps.y (.c (.d (.v (.int .u8 x3)))) (OkOps.y (.c (.d (.v (.int .i32 (IntKind.i32.wrap x3))))) (OkOps.y (.c (.d (.v (.int .i32 (bShl .i32 (IntKind.i32.wrap x3) 31))))) (OkOps.y (.c (.d (.v (.int .i32 (bShr .i32 (bShl .i32 (IntKind.i32.wrap x3) 31) 31))))) (OkOps.y (.c (.d (.v (.int .i32 (bShr .i32 (bShl .i32 (IntKind.i32.wrap x3) 31) 31))))) (OkOps.nil (Ok.seq (Ok.region (OkOps.y (aS p_s) ?_))))))))))
  obtain ⟨x5, hx5, hr⟩ := bind_some hr
  refine OkOps.q (triSIdx hx5 rfl rfl rfl trivial rfl) (OkOps.y (.c (.d (.v (.int .i32 (IntKind.i32.wrap x5))))) (OkOps.y (.c (.d (.v (.int .i32 (bShr .i32 (bShl .i32 (IntKind.i32.wrap x3) 31) 31))))) (OkOps.y (.c (.d (.v (.int .i32 (bAndNot .i32 (IntKind.i32.wrap x5) (bShr .i32 (bShl .i32 (IntKind.i32.wrap x3) 31) 31)))))) (OkOps.y (.c (.d (.v (.int .i32 (bShr .i32 (bShl .i32 (IntKind.i32.wrap x3) 31) 31))))) (OkOps.y (.c (.d (.v (.int .i32 (bAnd .i32 65533 (bShr .i32 (bShl .i32 (IntKind.i32.wrap x3) 31) 31)))))) (OkOps.y (.c (.d (.v (.int .i32 (bOr .i32 (bAndNot .i32 (IntKind.i32.wrap x5) (bShr .i32 (bShl .i32 (IntKind.i32.wrap x3) 31) 31)) (bAnd .i32 65533 (bShr .i32 (bShl .i32 (IntKind.i32.wrap x3) 31) 31))))))) (OkOps.y (.c (.d (.v (.int .i32 (bOr .i32 (bAndNot .i32 (IntKind.i32.wrap x5) (bShr .i32 (bShl .i32 (IntKind.i32.wrap x3) 31) 31)) (bAnd .i32 65533 (bShr .i32 (bShl .i32 (IntKind.i32.wrap x3) 31) 31))))))) (OkOps.y (aI 1) (OkOps.nil (Ok.ret ?_))))))))))
  obtain rfl := Option.some.inj hr
  exact ⟨_, rfl, .inl rfl, trivial⟩
  have hr := selF h4 hr
  refine Ok.skip (Ok.seq (Ok.region (OkOps.y (.c (.d (.v (.int .u8 x3)))) (OkOps.y (.c (.d (.v (.int .u8 (bAnd .u8 x3 7))))) (OkOps.y (aI (IntKind.i64.wrap (bAnd .u8 x3 7))) (OkOps.y (aI (IntKind.i64.wrap (bAnd .u8 x3 7))) (OkOps.nil (Ok.seq (Ok.region (OkOps.y (.c (.d (.v (.int .u8 x3)))) (OkOps.y (.c (.d (.v (.int .u8 (bShr .u8 x3 4))))) ?_)))))))))))
  obtain ⟨x6, hx6, hr⟩ := bind_some hr
  refine OkOps.q (triAccept (y := x6) hx6 (by kernel_rfl) rfl rfl trivial rfl) (OkOps.y (.agg [.d (.v (.int .u8 x6.1)), .d (.v (.int .u8 x6.2))]) (OkOps.m 0 (triAlloc (j := 0) (cs := [.d (.v (.int .u8 0)), .d (.v (.int .u8 0))]) rfl rfl rfl rfl) (OkOps.w (triStore (cs' := [.d (.v (.int .u8 x6.1)), .d (.v (.int .u8 x6.2))]) rfl rfl rfl rfl rfl rfl rfl rfl rfl) (OkOps.nil (Ok.seq (Ok.seq (Ok.region (OkOps.y (aI (p_s.size : Int)) (OkOps.y (aI (IntKind.i64.wrap (bAnd .u8 x3 7))) (OkOps.y (aB (decide ((p_s.size : Int) < (IntKind.i64.wrap (bAnd .u8 x3 7))))) (OkOps.nil ?_)))))))))))
  refine Ok.cond (b := decide ((p_s.size : Int) < (IntKind.i64.wrap (bAnd .u8 x3 7)))) rfl (fun h7 => ?_) (fun h7 => ?_)
  have hr := selT h7 hr
  refine Ok.seq (Ok.region (OkOps.y (.c (.d (.v (.int .i32 65533)))) (OkOps.y (aI 1) (OkOps.nil (Ok.ret ?_)))))
  obtain rfl := Option.some.inj hr
  exact ⟨_, rfl, .inl rfl, trivial⟩
  have hr := selF h7 hr
  refine Ok.skip (Ok.seq (Ok.region (OkOps.y (aS p_s) ?_)))
  obtain ⟨x8, hx8, hr⟩ := bind_some hr
  refine OkOps.q (triSIdx hx8 rfl rfl rfl trivial rfl) (OkOps.y (.c (.d (.v (.int .u8 x8)))) (OkOps.nil (Ok.seq (Ok.seq (Ok.region (OkOps.y (.c (.d (.v (.int .u8 x8)))) (OkOps.y (.c (.loc 0 0)) (OkOps.y (.c (.d (.v (.int .u8 x6.1)))) (OkOps.y (aB (decide (x8 < x6.1))) (OkOps.y (aB (decide (x8 < x6.1))) (OkOps.q (triQG (x := .c (.loc 0 1)) rfl rfl trivial rfl) (OkOps.q (triQG (x := .c (.d (.v (.int .u8 x6.2)))) rfl rfl ⟨fun h => h, trivial⟩ rfl) (OkOps.q (triQG (x := .c (.d (.v (.int .u8 x8)))) rfl rfl trivial rfl) (OkOps.q (triQG (x := aB (decide (x6.2 < x8))) rfl rfl ⟨fun h => h, ⟨fun h => h, trivial⟩⟩ rfl) ?_))))))))))))))
  refine OkOps.q (triOr rfl rfl (fun h => by rw [h]; rfl) rfl) ?_
  refine OkOps.nil ?_
  refine Ok.cond (b := (decide (x8 < x6.1)) || (decide (x6.2 < x8))) rfl (fun h9 => ?_) (fun h9 => ?_)
  have hr := selT h9 hr
  refine Ok.seq (Ok.region (OkOps.y (.c (.d (.v (.int .i32 65533)))) (OkOps.y (aI 1) (OkOps.nil (Ok.ret ?_)))))
  obtain rfl := Option.some.inj hr
  exact ⟨_, rfl, .inl rfl, trivial⟩
  have hr := selF h9 hr
  refine Ok.skip (Ok.seq (Ok.seq (Ok.region (OkOps.y (aI (IntKind.i64.wrap (bAnd .u8 x3 7))) (OkOps.y (aB (decide ((IntKind.i64.wrap (bAnd .u8 x3 7)) ≤ 2))) (OkOps.nil ?_))))))
  refine Ok.cond (b := decide ((IntKind.i64.wrap (bAnd .u8 x3 7)) ≤ 2)) rfl (fun h10 => ?_) (fun h10 => ?_)
  have hr := selT h10 hr
  refine Ok.seq (Ok.region (OkOps.y (.c (.d (.v (.int .u8 x2)))) (OkOps.y (.c (.d (.v (.int .u8 (bAnd .u8 x2 31))))) (OkOps.y (.c (.d (.v (.int .i32 (IntKind.i32.wrap (bAnd .u8 x2 31)))))) (OkOps.y (.c (.d (.v (.int .i32 (bShl .i32 (IntKind.i32.wrap (bAnd .u8 x2 31)) 6))))) (OkOps.y (.c (.d (.v (.int .u8 x8)))) (OkOps.y (.c (.d (.v (.int .u8 (bAnd .u8 x8 63))))) (OkOps.y (.c (.d (.v (.int .i32 (IntKind.i32.wrap (bAnd .u8 x8 63)))))) (OkOps.y (.c (.d (.v (.int .i32 (bOr .i32 (bShl .i32 (IntKind.i32.wrap (bAnd .u8 x2 31)) 6) (IntKind.i32.wrap (bAnd .u8 x8 63))))))) (OkOps.y (.c (.d (.v (.int .i32 (bOr .i32 (bShl .i32 (IntKind.i32.wrap (bAnd .u8 x2 31)) 6) (IntKind.i32.wrap (bAnd .u8 x8 63))))))) (OkOps.y (aI 2) (OkOps.nil (Ok.ret ?_)))))))))))))
  obtain rfl := Option.some.inj hr
  exact ⟨_, rfl, .inl rfl, trivial⟩
  have hr := selF h10 hr
  refine Ok.skip (Ok.seq (Ok.region (OkOps.y (aS p_s) ?_)))
  obtain ⟨x11, hx11, hr⟩ := bind_some hr
  refine OkOps.q (triSIdx hx11 rfl rfl rfl trivial rfl) (OkOps.y (.c (.d (.v (.int .u8 x11)))) (OkOps.nil (Ok.seq (Ok.seq (Ok.region (OkOps.y (.c (.d (.v (.int .u8 x11)))) (OkOps.y (aB (decide (x11 < 128))) (OkOps.y (aB (decide (x11 < 128))) (OkOps.q (triQG (x := .c (.d (.v (.int .u8 x11)))) rfl rfl trivial rfl) (OkOps.q (triQG (x := aB (decide (191 < x11))) rfl rfl ⟨fun h => h, trivial⟩ rfl) ?_))))))))))
  refine OkOps.q (triOr rfl rfl (fun h => by rw [h]; rfl) rfl) ?_
  refine OkOps.nil ?_
  refine Ok.cond (b := (decide (x11 < 128)) || (decide (191 < x11))) rfl (fun h12 => ?_) (fun h12 => ?_)
  have hr := selT h12 hr
  refine Ok.seq (Ok.region (OkOps.y (.c (.d (.v (.int .i32 65533)))) (OkOps.y (aI 1) (OkOps.nil (Ok.ret ?_)))))
  obtain rfl := Option.some.inj hr
  exact ⟨_, rfl, .inl rfl, trivial⟩
  have hr := selF h12 hr
  refine Ok.skip (Ok.seq (Ok.seq (Ok.region (OkOps.y (aI (IntKind.i64.wrap (bAnd .u8 x3 7))) (OkOps.y (aB (decide ((IntKind.i64.wrap (bAnd .u8 x3 7)) ≤ 3))) (OkOps.nil ?_))))))
  refine Ok.cond (b := decide ((IntKind.i64.wrap (bAnd .u8 x3 7)) ≤ 3)) rfl (fun h13 => ?_) (fun h13 => ?_)
  have hr := selT h13 hr
  refine Ok.seq (Ok.region (OkOps.y (.c (.d (.v (.int .u8 x2)))) (OkOps.y (.c (.d (.v (.int .u8 (bAnd .u8 x2 15))))) (OkOps.y (.c (.d (.v (.int .i32 (IntKind.i32.wrap (bAnd .u8 x2 15)))))) (OkOps.y (.c (.d (.v (.int .i32 (bShl .i32 (IntKind.i32.wrap (bAnd .u8 x2 15)) 12))))) (OkOps.y (.c (.d (.v (.int .u8 x8)))) (OkOps.y (.c (.d (.v (.int .u8 (bAnd .u8 x8 63))))) (OkOps.y (.c (.d (.v (.int .i32 (IntKind.i32.wrap (bAnd .u8 x8 63)))))) (OkOps.y (.c (.d (.v (.int .i32 (bShl .i32 (IntKind.i32.wrap (bAnd .u8 x8 63)) 6))))) (OkOps.y (.c (.d (.v (.int .i32 (bOr .i32 (bShl .i32 (IntKind.i32.wrap (bAnd .u8 x2 15)) 12) (bShl .i32 (IntKind.i32.wrap (bAnd .u8 x8 63)) 6)))))) (OkOps.y (.c (.d (.v (.int .u8 x11)))) (OkOps.y (.c (.d (.v (.int .u8 (bAnd .u8 x11 63))))) (OkOps.y (.c (.d (.v (.int .i32 (IntKind.i32.wrap (bAnd .u8 x11 63)))))) (OkOps.y (.c (.d (.v (.int .i32 (bOr .i32 (bOr .i32 (bShl .i32 (IntKind.i32.wrap (bAnd .u8 x2 15)) 12) (bShl .i32 (IntKind.i32.wrap (bAnd .u8 x8 63)) 6)) (IntKind.i32.wrap (bAnd .u8 x11 63))))))) (OkOps.y (.c (.d (.v (.int .i32 (bOr .i32 (bOr .i32 (bShl .i32 (IntKind.i32.wrap (bAnd .u8 x2 15)) 12) (bShl .i32 (IntKind.i32.wrap (bAnd .u8 x8 63)) 6)) (IntKind.i32.wrap (bAnd .u8 x11 63))))))) ?_)))))))))))))))
  refine OkOps.y (aI 3) (OkOps.nil (Ok.ret ?_))
  obtain rfl := Option.some.inj hr
  exact ⟨_, rfl, .inl rfl, trivial⟩
  have hr := selF h13 hr
  refine Ok.skip (Ok.seq (Ok.region (OkOps.y (aS p_s) ?_)))
  obtain ⟨x14, hx14, hr⟩ := bind_some hr
  refine OkOps.q (triSIdx hx14 rfl rfl rfl trivial rfl) (OkOps.y (.c (.d (.v (.int .u8 x14)))) (OkOps.nil (Ok.seq (Ok.seq (Ok.region (OkOps.y (.c (.d (.v (.int .u8 x14)))) (OkOps.y (aB (decide (x14 < 128))) (OkOps.y (aB (decide (x14 < 128))) (OkOps.q (triQG (x := .c (.d (.v (.int .u8 x14)))) rfl rfl trivial rfl) (OkOps.q (triQG (x := aB (decide (191 < x14))) rfl rfl ⟨fun h => h, trivial⟩ rfl) ?_))))))))))
  refine OkOps.q (triOr rfl rfl (fun h => by rw [h]; rfl) rfl) ?_
  refine OkOps.nil ?_
  refine Ok.cond (b := (decide (x14 < 128)) || (decide (191 < x14))) rfl (fun h15 => ?_) (fun h15 => ?_)
  have hr := selT h15 hr
  refine Ok.seq (Ok.region (OkOps.y (.c (.d (.v (.int .i32 65533)))) (OkOps.y (aI 1) (OkOps.nil (Ok.ret ?_)))))
  obtain rfl := Option.some.inj hr
  exact ⟨_, rfl, .inl rfl, trivial⟩
  have hr := selF h15 hr
  refine Ok.skip (Ok.seq (Ok.region (OkOps.y (.c (.d (.v (.int .u8 x2)))) (OkOps.y (.c (.d (.v (.int .u8 (bAnd .u8 x2 7))))) (OkOps.y (.c (.d (.v (.int .i32 (IntKind.i32.wrap (bAnd .u8 x2 7)))))) (OkOps.y (.c (.d (.v (.int .i32 (bShl .i32 (IntKind.i32.wrap (bAnd .u8 x2 7)) 18))))) (OkOps.y (.c (.d (.v (.int .u8 x8)))) (OkOps.y (.c (.d (.v (.int .u8 (bAnd .u8 x8 63))))) (OkOps.y (.c (.d (.v (.int .i32 (IntKind.i32.wrap (bAnd .u8 x8 63)))))) (OkOps.y (.c (.d (.v (.int .i32 (bShl .i32 (IntKind.i32.wrap (bAnd .u8 x8 63)) 12))))) (OkOps.y (.c (.d (.v (.int .i32 (bOr .i32 (bShl .i32 (IntKind.i32.wrap (bAnd .u8 x2 7)) 18) (bShl .i32 (IntKind.i32.wrap (bAnd .u8 x8 63)) 12)))))) (OkOps.y (.c (.d (.v (.int .u8 x11)))) (OkOps.y (.c (.d (.v (.int .u8 (bAnd .u8 x11 63))))) (OkOps.y (.c (.d (.v (.int .i32 (IntKind.i32.wrap (bAnd .u8 x11 63)))))) (OkOps.y (.c (.d (.v (.int .i32 (bShl .i32 (IntKind.i32.wrap (bAnd .u8 x11 63)) 6))))) ?_)))))))))))))))
  refine OkOps.y (.c (.d (.v (.int .i32 (bOr .i32 (bOr .i32 (bShl .i32 (IntKind.i32.wrap (bAnd .u8 x2 7)) 18) (bShl .i32 (IntKind.i32.wrap (bAnd .u8 x8 63)) 12)) (bShl .i32 (IntKind.i32.wrap (bAnd .u8 x11 63)) 6)))))) (OkOps.y (.c (.d (.v (.int .u8 x14)))) (OkOps.y (.c (.d (.v (.int .u8 (bAnd .u8 x14 63))))) (OkOps.y (.c (.d (.v (.int .i32 (IntKind.i32.wrap (bAnd .u8 x14 63)))))) (OkOps.y (.c (.d (.v (.int .i32 (bOr .i32 (bOr .i32 (bOr .i32 (bShl .i32 (IntKind.i32.wrap (bAnd .u8 x2 7)) 18) (bShl .i32 (IntKind.i32.wrap (bAnd .u8 x8 63)) 12)) (bShl .i32 (IntKind.i32.wrap (bAnd .u8 x11 63)) 6)) (IntKind.i32.wrap (bAnd .u8 x14 63))))))) (OkOps.y (.c (.d (.v (.int .i32 (bOr .i32 (bOr .i32 (bOr .i32 (bShl .i32 (IntKind.i32.wrap (bAnd .u8 x2 7)) 18) (bShl .i32 (IntKind.i32.wrap (bAnd .u8 x8 63)) 12)) (bShl .i32 (IntKind.i32.wrap (bAnd .u8 x11 63)) 6)) (IntKind.i32.wrap (bAnd .u8 x14 63))))))) (OkOps.y (aI 4) (OkOps.nil (Ok.ret ?_))))))))
  obtain rfl := Option.some.inj hr
  exact ⟨_, rfl, .inl rfl, trivial⟩
theorem stringslite_IndexByte_c (p_s : Str) (c : Int) {r : Int} (hr : stringslite_IndexByte p_s c = some r) : Con Tryd.prog 107 [aS p_s, .c (.d (.v (.int .u8 c)))] [] (.s (aI r)) [] := by
  unfold stringslite_IndexByte at hr
  refine Con.of_ok 8 0 [.tmp 4] [(0, .s (aS p_s)), (1, .s (.c (.d (.v (.int .u8 c)))))] Tryd.func107 rfl rfl rfl rfl rfl rfl rfl rfl fun w g M ρ _ => (Ok.seq (Ok.region (OkOps.y (aI 0) (OkOps.nil (Ok.seq (Ok.region (OkOps.y (aS p_s) (OkOps.y (.c (.d (.v (.int .u8 c)))) (OkOps.q (triExt (x := aI (idxByte p_s c)) (ext116 _ _) rfl rfl trivial rfl) (OkOps.y (aI (idxByte p_s c)) (OkOps.nil (Ok.ret ?_))))))))))))
  obtain rfl := Option.some.inj hr
  exact ⟨_, rfl, .inl rfl, trivial⟩
theorem stringslite_Index_c (p_s : Str) (substr : Str) {r : Int} (hr : stringslite_Index p_s substr = some r) : Con Tryd.prog 91 [aS p_s, aS substr] [] (.s (aI r)) [] := by
  unfold stringslite_Index at hr
  refine Con.of_ok 143 0 [.tmp 4] [(0, .s (aS p_s)), (1, .s (aS substr))] Tryd.func91 rfl rfl rfl rfl rfl rfl rfl rfl fun w g M ρ _ => (Ok.seq (Ok.region (OkOps.y (aI 0) (OkOps.nil (Ok.seq (Ok.region (OkOps.y (aS substr) (OkOps.y (aI (substr.size : Int)) (OkOps.y (aI (substr.size : Int)) (OkOps.nil (Ok.seq (Ok.block (Ok.seq (Ok.region (OkOps.y (aI (substr.size : Int)) ?_)))))))))))))))
  refine OkOps.y (aB ((substr.size : Int) == 0)) (OkOps.y (aB ((substr.size : Int) == 0)) (OkOps.q (triQG (x := aS substr) rfl rfl trivial rfl) (OkOps.q (triQG (x := aS p_s) rfl rfl trivial rfl) (OkOps.q (triQG (x := aB (substr.toList == p_s.toList)) rfl rfl ⟨fun h => h, ⟨fun h => h, trivial⟩⟩ rfl) ?_))))
  refine OkOps.q (triOr rfl rfl (fun h => by rw [h]; rfl) rfl) ?_
  refine OkOps.y (aB (((substr.size : Int) == 0) || (substr.toList == p_s.toList))) (OkOps.nil ?_)
  refine Ok.cond (b := ((substr.size : Int) == 0) || (substr.toList == p_s.toList)) rfl (fun h1 => ?_) (fun h1 => ?_)
  have hr := selT h1 hr
  refine Ok.seq (Ok.region (OkOps.y (aI 0) (OkOps.nil (Ok.ret ?_))))
  obtain rfl := Option.some.inj hr
  exact ⟨_, rfl, .inl rfl, trivial⟩
  have hr := selF h1 hr
  refine Ok.seq (Ok.region (OkOps.y (aI (substr.size : Int)) (OkOps.y (aB ((substr.size : Int) == 1)) (OkOps.y (aB ((substr.size : Int) == 1)) (OkOps.nil ?_)))))
  refine Ok.cond (b := (substr.size : Int) == 1) rfl (fun h2 => ?_) (fun h2 => ?_)
  have hr := selT h2 hr
  refine Ok.seq (Ok.region (OkOps.y (aS p_s) (OkOps.y (aS substr) ?_)))
  obtain ⟨x3, hx3, hr⟩ := bind_some hr
  refine OkOps.q (triSIdx hx3 rfl rfl rfl trivial rfl) ?_
  obtain ⟨x4, hx4, hr⟩ := bind_some hr
  refine OkOps.q (triCl (tau []) (.s (aI x4)) [] (stringslite_IndexByte_c _ _ hx4) rfl ⟨.inl rfl, .inl rfl, trivial⟩ trivial entry107 trivial) (OkOps.y (aI x4) (OkOps.nil (Ok.ret ?_)))
  obtain rfl := Option.some.inj hr
  exact ⟨_, rfl, .inl rfl, trivial⟩
  have hr := selF h2 hr
  refine Ok.seq (Ok.region (OkOps.y (aI (substr.size : Int)) (OkOps.y (aS p_s) (OkOps.y (aI (p_s.size : Int)) (OkOps.y (aB (decide ((substr.size : Int) ≥ (p_s.size : Int)))) (OkOps.y (aB (decide ((substr.size : Int) ≥ (p_s.size : Int)))) (OkOps.nil ?_)))))))
  refine Ok.cond (b := decide ((substr.size : Int) ≥ (p_s.size : Int))) rfl (fun h5 => ?_) (fun h5 => ?_)
  have hr := selT h5 hr
  refine Ok.seq (Ok.region (OkOps.y (aI (-1)) (OkOps.nil (Ok.ret ?_))))
  obtain rfl := Option.some.inj hr
  exact ⟨_, rfl, .inl rfl, trivial⟩
  have hr := selF h5 hr
  refine Ok.seq (Ok.region (OkOps.y (aI (substr.size : Int)) ?_))
  cases hr
theorem strings_Index_c (p_s : Str) (substr : Str) {r : Int} (hr : strings_Index p_s substr = some r) : Con Tryd.prog 71 [aS p_s, aS substr] [] (.s (aI r)) [] := by
  unfold strings_Index at hr
  refine Con.of_ok 8 0 [.tmp 4] [(0, .s (aS p_s)), (1, .s (aS substr))] Tryd.func71 rfl rfl rfl rfl rfl rfl rfl rfl fun w g M ρ _ => (Ok.seq (Ok.region (OkOps.y (aI 0) (OkOps.nil (Ok.seq (Ok.region (OkOps.y (aS p_s) (OkOps.y (aS substr) ?_))))))))
  obtain ⟨x1, hx1, hr⟩ := bind_some hr
  refine OkOps.q (triCl (tau []) (.s (aI x1)) [] (stringslite_Index_c _ _ hx1) rfl ⟨.inl rfl, .inl rfl, trivial⟩ trivial entry91 trivial) (OkOps.y (aI x1) (OkOps.nil (Ok.ret ?_)))
  obtain rfl := Option.some.inj hr
  exact ⟨_, rfl, .inl rfl, trivial⟩
theorem strings_Count_c (p_s : Str) (substr : Str) {r : Int} (hr : strings_Count p_s substr = some r) : Con Tryd.prog 70 [aS p_s, aS substr] [] (.s (aI r)) [] := by
  unfold strings_Count at hr
  refine Con.of_ok 34 0 [.tmp 4] [(0, .s (aS p_s)), (1, .s (aS substr))] Tryd.func70 rfl rfl rfl rfl rfl rfl rfl rfl fun w g M ρ _ => (Ok.seq (Ok.region (OkOps.y (aI 0) (OkOps.nil (Ok.seq (Ok.seq (Ok.region (OkOps.y (aS substr) (OkOps.y (aI (substr.size : Int)) (OkOps.y (aB ((substr.size : Int) == 0)) (OkOps.nil ?_)))))))))))
  refine Ok.cond (b := (substr.size : Int) == 0) rfl (fun h1 => ?_) (fun h1 => ?_)
  have hr := selT h1 hr
  refine Ok.seq (Ok.region (OkOps.y (aS p_s) ?_))
  cases hr
  have hr := selF h1 hr
  refine Ok.skip (Ok.seq (Ok.seq (Ok.region (OkOps.y (aS substr) (OkOps.y (aI (substr.size : Int)) (OkOps.y (aB ((substr.size : Int) == 1)) (OkOps.nil ?_)))))))
  refine Ok.cond (b := (substr.size : Int) == 1) rfl (fun h2 => ?_) (fun h2 => ?_)
  have hr := selT h2 hr
  refine Ok.seq (Ok.region (OkOps.y (aS p_s) (OkOps.y (aS substr) ?_)))
  obtain ⟨x3, hx3, hr⟩ := bind_some hr
  refine OkOps.q (triSIdx hx3 rfl rfl rfl trivial rfl) (OkOps.q (triExt (x := aI (cntByte p_s x3)) (ext90 _ _) rfl rfl trivial rfl) (OkOps.y (aI (cntByte p_s x3)) (OkOps.nil (Ok.ret ?_))))
  obtain rfl := Option.some.inj hr
  exact ⟨_, rfl, .inl rfl, trivial⟩
  have hr := selF h2 hr
  refine Ok.skip (Ok.seq (Ok.region (OkOps.y (aI 0) (OkOps.nil (Ok.block (Ok.loopK (fun (s4 : Str × Int) => ⟨[(0, .s (aS s4.1)), (1, .s (aS substr)), (5, .s (aI s4.2))], [], 0⟩) hr (Conv.mk (tau []) ⟨⟨_, rfl, .inl rfl⟩, ⟨_, rfl, .inl rfl⟩, ⟨_, rfl, .inl rfl⟩, trivial⟩ trivial rfl rfl rfl rfl) ?_))))))
  clear hr
  intro again5 s4 hr
  unfold strings_Count_L1 at hr
  refine Ok.block (Ok.seq (Ok.region (OkOps.y (aS s4.1) (OkOps.y (aS substr) ?_))))
  obtain ⟨x6, hx6, hr⟩ := bind_some hr
  refine OkOps.q (triCl (tau []) (.s (aI x6)) [] (strings_Index_c _ _ hx6) rfl ⟨.inl rfl, .inl rfl, trivial⟩ trivial entry71 trivial) (OkOps.y (aI x6) (OkOps.nil (Ok.seq (Ok.seq (Ok.region (OkOps.y (aI x6) (OkOps.y (aB (x6 == (-1))) (OkOps.nil ?_))))))))
  refine Ok.cond (b := x6 == (-1)) rfl (fun h7 => ?_) (fun h7 => ?_)
  have hr := selT h7 hr
  refine Ok.seq (Ok.region (OkOps.y (aI s4.2) (OkOps.y (aI s4.2) (OkOps.nil (Ok.ret ?_)))))
  obtain rfl := Option.some.inj hr
  exact ⟨_, rfl, .inl rfl, trivial⟩
  have hr := selF h7 hr
  refine Ok.skip (Ok.seq (Ok.region (OkOps.y (aI s4.2) (OkOps.y (aI (IntKind.i64.wrap (s4.2 + 1))) (OkOps.y (aI (IntKind.i64.wrap (s4.2 + 1))) (OkOps.nil (Ok.region (OkOps.y (aS s4.1) (OkOps.y (aI x6) (OkOps.y (aS substr) (OkOps.y (aI (substr.size : Int)) (OkOps.y (aI (IntKind.i64.wrap (x6 + (substr.size : Int)))) ?_))))))))))))
  obtain ⟨x8, hx8, hr⟩ := bind_some hr
  refine OkOps.q (triSSlc hx8 rfl rfl rfl (.inr ⟨_, rfl⟩) (.inl ⟨rfl, rfl⟩) rfl trivial rfl) (OkOps.y (aS x8) (OkOps.nil ?_))
  exact ⟨(x8, IntKind.i64.wrap (s4.2 + 1)), hr, (Conv.mk (tau []) ⟨⟨_, rfl, .inl rfl⟩, ⟨_, rfl, .inl rfl⟩, ⟨_, rfl, .inl rfl⟩, trivial⟩ trivial rfl rfl rfl rfl)⟩
theorem strings_genSplit_c (p_s : Str) (sep : Str) (sepSave : Int) (p_n : Int) {r : (List Str)} (hr : strings_genSplit p_s sep sepSave p_n = some r) : Con Tryd.prog 44 [aS p_s, aS sep, aI sepSave, aI p_n] [] (.s (.c (.d (.sl (List.map eStr r))))) [] := by
  unfold strings_genSplit at hr
  refine Con.of_ok 66 0 [.tmp 8] [(0, .s (aS p_s)), (1, .s (aS sep)), (2, .s (aI sepSave)), (3, .s (aI p_n))] Tryd.func44 rfl rfl rfl rfl rfl rfl rfl rfl fun w g M ρ _ => (Ok.seq (Ok.region (OkOps.y (.c (.d (.v (.slice none 0 0)))) (OkOps.nil (Ok.seq (Ok.seq (Ok.region (OkOps.y (aI p_n) (OkOps.y (aB (p_n == 0)) (OkOps.nil ?_))))))))))
  refine Ok.cond (b := p_n == 0) rfl (fun h1 => ?_) (fun h1 => ?_)
  have hr := selT h1 hr
  refine Ok.seq (Ok.region (OkOps.y (.c (.d (.v (.slice none 0 0)))) (OkOps.nil (Ok.ret ?_))))
  obtain rfl := Option.some.inj hr
  exact ⟨_, rfl, .inr rfl, trivial⟩
  have hr := selF h1 hr
  refine Ok.skip (Ok.seq (Ok.seq (Ok.region (OkOps.y (aS sep) (OkOps.y (aB (sep.toList == (ByteArray.mk #[]).toList)) (OkOps.nil ?_))))))
  refine Ok.cond (b := sep.toList == (ByteArray.mk #[]).toList) rfl (fun h2 => ?_) (fun h2 => ?_)
  have hr := selT h2 hr
  refine Ok.seq (Ok.region (OkOps.y (aS p_s) (OkOps.y (aI p_n) ?_)))
  cases hr
  have hr := selF h2 hr
  refine Ok.skip ?_
  obtain ⟨k4, hk4, hr⟩ := jn_some hr
  refine Ok.join (fun (s3 : Int) => ⟨[(0, .s (aS p_s)), (1, .s (aS sep)), (2, .s (aI sepSave)), (3, .s (aI s3))], [], 0⟩) k4 r (fun s3 hr => ?_) ?_
  rw [hk4] at hr
  refine Ok.seq (Ok.region (OkOps.y (aI s3) (OkOps.y (aS p_s) (OkOps.y (aI (p_s.size : Int)) (OkOps.y (aI (IntKind.i64.wrap ((p_s.size : Int) + 1))) (OkOps.y (aI (mnI s3 (IntKind.i64.wrap ((p_s.size : Int) + 1)))) (OkOps.y (aI (mnI s3 (IntKind.i64.wrap ((p_s.size : Int) + 1)))) (OkOps.nil (Ok.seq (Ok.region (OkOps.y (aI (mnI s3 (IntKind.i64.wrap ((p_s.size : Int) + 1)))) ?_)))))))))))
  obtain ⟨x5, hx5, hr⟩ := bind_some hr
  refine OkOps.m 0 (triMkV (sz := 1) (enc := eStr) (zr := ByteArray.empty) (j := 0) hx5 rfl rfl rfl rfl rfl (fun _ => rfl) (by decide) trivial rfl rfl) (OkOps.y (.c (.own 0)) (OkOps.nil (Ok.seq (Ok.region (OkOps.y (aI (mnI s3 (IntKind.i64.wrap ((p_s.size : Int) + 1)))) (OkOps.y (aI (IntKind.i64.wrap ((mnI s3 (IntKind.i64.wrap ((p_s.size : Int) + 1))) - 1))) (OkOps.y (aI (IntKind.i64.wrap ((mnI s3 (IntKind.i64.wrap ((p_s.size : Int) + 1))) - 1))) (OkOps.nil (Ok.seq (Ok.region (OkOps.y (aI 0) (OkOps.nil ?_))))))))))))
  obtain ⟨k7, hk7, hr⟩ := jn_some hr
  refine Ok.join (fun (s6 : Str × Int × (List Str)) => ⟨[(0, .s (aS s6.1)), (9, .s (.c (.own 0))), (10, .s (aI s6.2.1))], [(0, .vec 1 (List.map eStr s6.2.2))], 0⟩) k7 r (fun s6 hr => ?_) ?_
  rw [hk7] at hr
  refine Ok.seq (Ok.region (OkOps.y (.c (.own 0)) (OkOps.y (aI s6.2.1) (OkOps.y (aS s6.1) ?_))))
  obtain ⟨x8, hx8, hr⟩ := bind_some hr
  refine OkOps.q (triIdxV (enc := eStr) (L := s6.2.2) hx8 rfl rfl rfl rfl trivial rfl) (OkOps.w (triStoreV (enc := eStr) (L := s6.2.2) s6.1 (.inr (ixO_spec hx8).2) rfl rfl rfl rfl rfl rfl (fun _ => rfl) rfl) (OkOps.nil (Ok.seq (Ok.region (OkOps.y (.c (.own 0)) (OkOps.y (aI s6.2.1) (OkOps.y (aI (IntKind.i64.wrap (s6.2.1 + 1))) (OkOps.conv (Conv.freeze (enc := eStr) (L := List.set s6.2.2 x8 s6.1) [9, 58, 62] 0 1 1 0 ⟨rfl, rfl, rfl, trivial⟩ rfl (fun _ => rfl) rfl) ?_))))))))
  obtain ⟨x9, hx9, hr⟩ := bind_some hr
  refine OkOps.q (triSlc (enc := eStr) (L := List.set s6.2.2 x8 s6.1) hx9 rfl rfl rfl (.inl ⟨rfl, rfl⟩) (.inr ⟨_, rfl⟩) rfl (fun _ => rfl) trivial rfl) (OkOps.y (.c (.d (.sl (List.map eStr x9)))) (OkOps.nil (Ok.ret ?_)))
  obtain rfl := Option.some.inj hr
  exact ⟨_, rfl, .inl rfl, trivial⟩
  clear hk7
  refine Ok.block (Ok.loopK (fun (s10 : Str × Int × (List Str)) => ⟨[(0, .s (aS s10.1)), (1, .s (aS sep)), (2, .s (aI sepSave)), (3, .s (aI (IntKind.i64.wrap ((mnI s3 (IntKind.i64.wrap ((p_s.size : Int) + 1))) - 1)))), (9, .s (.c (.own 0))), (10, .s (aI s10.2.1))], [(0, .vec 1 (List.map eStr s10.2.2))], 0⟩) hr (Conv.mk (tau []) ⟨⟨_, rfl, .inl rfl⟩, ⟨_, rfl, .inl rfl⟩, ⟨_, rfl, .inl rfl⟩, ⟨_, rfl, .inl rfl⟩, ⟨_, rfl, .inl rfl⟩, ⟨_, rfl, .inl rfl⟩, trivial⟩ ⟨rfl, trivial⟩ rfl rfl rfl rfl) ?_)
  clear hr
  intro again11 s10 hr
  unfold strings_genSplit_L1 at hr
  refine Ok.seq (Ok.seq (Ok.region (OkOps.y (aI s10.2.1) (OkOps.y (aI (IntKind.i64.wrap ((mnI s3 (IntKind.i64.wrap ((p_s.size : Int) + 1))) - 1))) (OkOps.y (aB (decide (s10.2.1 < (IntKind.i64.wrap ((mnI s3 (IntKind.i64.wrap ((p_s.size : Int) + 1))) - 1))))) (OkOps.nil ?_))))))
  refine Ok.cond (b := decide (s10.2.1 < (IntKind.i64.wrap ((mnI s3 (IntKind.i64.wrap ((p_s.size : Int) + 1))) - 1)))) rfl (fun h12 => ?_) (fun h12 => ?_)
  have hr := selT h12 hr
  refine Ok.skip (Ok.block (Ok.seq (Ok.region (OkOps.y (aS s10.1) (OkOps.y (aS sep) ?_)))))
  obtain ⟨x13, hx13, hr⟩ := bind_some hr
  refine OkOps.q (triCl (tau []) (.s (aI x13)) [] (strings_Index_c _ _ hx13) rfl ⟨.inl rfl, .inl rfl, trivial⟩ trivial entry71 trivial) (OkOps.y (aI x13) (OkOps.nil (Ok.seq (Ok.seq (Ok.region (OkOps.y (aI x13) (OkOps.y (aB (decide (x13 < 0))) (OkOps.nil ?_))))))))
  refine Ok.cond (b := decide (x13 < 0)) rfl (fun h14 => ?_) (fun h14 => ?_)
  have hr := selT h14 hr
  refine Ok.exit ?_
  exact ⟨(s10.1, s10.2.1, s10.2.2), hr, (Conv.mk (tau []) ⟨⟨_, rfl, .inl rfl⟩, ⟨_, rfl, .inl rfl⟩, ⟨_, rfl, .inl rfl⟩, trivial⟩ ⟨rfl, trivial⟩ rfl rfl rfl rfl)⟩
  have hr := selF h14 hr
  refine Ok.skip (Ok.seq (Ok.region (OkOps.y (.c (.own 0)) (OkOps.y (aI s10.2.1) (OkOps.y (aS s10.1) (OkOps.y (aI x13) (OkOps.y (aI sepSave) (OkOps.y (aI (IntKind.i64.wrap (x13 + sepSave))) ?_))))))))
  obtain ⟨x15, hx15, hr⟩ := bind_some hr
  refine OkOps.q (triSSlc hx15 rfl rfl rfl (.inl ⟨rfl, rfl⟩) (.inr ⟨_, rfl⟩) rfl trivial rfl) ?_
  obtain ⟨x16, hx16, hr⟩ := bind_some hr
  refine OkOps.q (triIdxV (enc := eStr) (L := s10.2.2) hx16 rfl rfl rfl rfl trivial rfl) (OkOps.w (triStoreV (enc := eStr) (L := s10.2.2) x15 (.inr (ixO_spec hx16).2) rfl rfl rfl rfl rfl rfl (fun _ => rfl) rfl) (OkOps.nil (Ok.seq (Ok.region (OkOps.y (aS s10.1) (OkOps.y (aI x13) (OkOps.y (aS sep) (OkOps.y (aI (sep.size : Int)) (OkOps.y (aI (IntKind.i64.wrap (x13 + (sep.size : Int)))) ?_)))))))))
  obtain ⟨x17, hx17, hr⟩ := bind_some hr
  refine OkOps.q (triSSlc hx17 rfl rfl rfl (.inr ⟨_, rfl⟩) (.inl ⟨rfl, rfl⟩) rfl trivial rfl) (OkOps.y (aS x17) (OkOps.nil (Ok.region (OkOps.y (aI s10.2.1) (OkOps.y (aI (IntKind.i64.wrap (s10.2.1 + 1))) (OkOps.y (aI (IntKind.i64.wrap (s10.2.1 + 1))) (OkOps.nil ?_)))))))
  exact ⟨(x17, IntKind.i64.wrap (s10.2.1 + 1), List.set s10.2.2 x16 x15), hr, (Conv.mk (tau []) ⟨⟨_, rfl, .inl rfl⟩, ⟨_, rfl, .inl rfl⟩, ⟨_, rfl, .inl rfl⟩, ⟨_, rfl, .inl rfl⟩, ⟨_, rfl, .inl rfl⟩, ⟨_, rfl, .inl rfl⟩, trivial⟩ ⟨rfl, trivial⟩ rfl rfl rfl rfl)⟩
  have hr := selF h12 hr
  refine Ok.exit ?_
  exact ⟨(s10.1, s10.2.1, s10.2.2), hr, (Conv.mk (tau []) ⟨⟨_, rfl, .inl rfl⟩, ⟨_, rfl, .inl rfl⟩, ⟨_, rfl, .inl rfl⟩, trivial⟩ ⟨rfl, trivial⟩ rfl rfl rfl rfl)⟩
  clear hk4
  refine Ok.seq (Ok.region (OkOps.y (aI p_n) (OkOps.y (aB (decide (p_n < 0))) (OkOps.nil ?_))))
  refine Ok.cond (b := decide (p_n < 0)) rfl (fun h18 => ?_) (fun h18 => ?_)
  have hr := selT h18 hr
  refine Ok.region (OkOps.y (aS p_s) (OkOps.y (aS sep) ?_))
  obtain ⟨x19, hx19, hr⟩ := bind_some hr
  refine OkOps.q (triCl (tau []) (.s (aI x19)) [] (strings_Count_c _ _ hx19) rfl ⟨.inl rfl, .inl rfl, trivial⟩ trivial entry70 trivial) (OkOps.y (aI (IntKind.i64.wrap (x19 + 1))) (OkOps.y (aI (IntKind.i64.wrap (x19 + 1))) (OkOps.nil ?_)))
  exact ⟨IntKind.i64.wrap (x19 + 1), hr, (Conv.mk (tau []) ⟨⟨_, rfl, .inl rfl⟩, ⟨_, rfl, .inl rfl⟩, ⟨_, rfl, .inl rfl⟩, ⟨_, rfl, .inl rfl⟩, trivial⟩ trivial rfl rfl rfl rfl)⟩
  have hr := selF h18 hr
  refine Ok.skip ?_
  exact ⟨p_n, hr, (Conv.mk (tau []) ⟨⟨_, rfl, .inl rfl⟩, ⟨_, rfl, .inl rfl⟩, ⟨_, rfl, .inl rfl⟩, ⟨_, rfl, .inl rfl⟩, trivial⟩ trivial rfl rfl rfl rfl)⟩
theorem strings_Split_c (p_s : Str) (sep : Str) {r : (List Str)} (hr : strings_Split p_s sep = some r) : Con Tryd.prog 24 [aS p_s, aS sep] [] (.s (.c (.d (.sl (List.map eStr r))))) [] := by
  unfold strings_Split at hr
  refine Con.of_ok 8 0 [.tmp 4] [(0, .s (aS p_s)), (1, .s (aS sep))] Tryd.func24 rfl rfl rfl rfl rfl rfl rfl rfl fun w g M ρ _ => (Ok.seq (Ok.region (OkOps.y (.c (.d (.v (.slice none 0 0)))) (OkOps.nil (Ok.seq (Ok.region (OkOps.y (aS p_s) (OkOps.y (aS sep) ?_))))))))
  obtain ⟨x1, hx1, hr⟩ := bind_some hr
  refine OkOps.q (triCl (tau []) (.s (.c (.d (.sl (List.map eStr x1))))) [] (strings_genSplit_c _ _ _ _ hx1) rfl ⟨.inl rfl, .inl rfl, .inl rfl, .inl rfl, trivial⟩ trivial entry44 trivial) (OkOps.y (.c (.d (.sl (List.map eStr x1)))) (OkOps.nil (Ok.ret ?_)))
  obtain rfl := Option.some.inj hr
  exact ⟨_, rfl, .inl rfl, trivial⟩
theorem stringslite_HasPrefix_c (p_s : Str) (p_prefix : Str) {r : Bool} (hr : stringslite_HasPrefix p_s p_prefix = some r) : Con Tryd.prog 92 [aS p_s, aS p_prefix] [] (.s (aB r)) [] := by
  unfold stringslite_HasPrefix at hr
  refine Con.of_ok 18 0 [.tmp 4] [(0, .s (aS p_s)), (1, .s (aS p_prefix))] Tryd.func92 rfl rfl rfl rfl rfl rfl rfl rfl fun w g M ρ _ => (Ok.seq (Ok.region (OkOps.y (aB false) (OkOps.nil (Ok.seq (Ok.region (OkOps.y (aS p_s) (OkOps.y (aI (p_s.size : Int)) (OkOps.y (aS p_prefix) (OkOps.y (aI (p_prefix.size : Int)) (OkOps.y (aB (decide ((p_s.size : Int) ≥ (p_prefix.size : Int)))) (OkOps.y (aB (decide ((p_s.size : Int) ≥ (p_prefix.size : Int)))) (OkOps.q (triQG (x := aS p_s) rfl rfl trivial rfl) (OkOps.q (triQG (x := aS p_prefix) rfl rfl trivial rfl) (OkOps.q (triQG (x := aI (p_prefix.size : Int)) rfl rfl ⟨fun h => h, trivial⟩ rfl) ?_)))))))))))))))
  obtain ⟨x1, hx1, hr⟩ := bind_some hr
  refine OkOps.q (triSSlcG (gO_t hx1) rfl rfl rfl rfl (.inl ⟨rfl, rfl⟩) (.inr ⟨_, rfl⟩) rfl ⟨fun h => h, ⟨fun h => h, trivial⟩⟩ rfl) (OkOps.q (triQG (x := aS p_prefix) rfl rfl trivial rfl) (OkOps.q (triQG (x := aB (x1.toList == p_prefix.toList)) rfl rfl ⟨fun h => h, ⟨fun h => h, trivial⟩⟩ rfl) (OkOps.q (triAnd rfl rfl (fun h => h) rfl) (OkOps.y (aB ((decide ((p_s.size : Int) ≥ (p_prefix.size : Int))) && (x1.toList == p_prefix.toList))) (OkOps.nil (Ok.ret ?_))))))
  obtain rfl := Option.some.inj hr
  exact ⟨_, rfl, .inl rfl, trivial⟩
theorem stringslite_CutPrefix_c (p_s : Str) (p_prefix : Str) {r : Str × Bool} (hr : stringslite_CutPrefix p_s p_prefix = some r) : Con Tryd.prog 72 [aS p_s, aS p_prefix] [] (.tup [aS r.1, aB r.2]) [] := by
  unfold stringslite_CutPrefix at hr
  refine Con.of_ok 15 0 [.tmp 4, .tmp 5] [(0, .s (aS p_s)), (1, .s (aS p_prefix))] Tryd.func72 rfl rfl rfl rfl rfl rfl rfl rfl fun w g M ρ _ => (Ok.seq (Ok.region (OkOps.y (aS (ByteArray.mk #[])) (OkOps.y (aB false) (OkOps.nil (Ok.seq (Ok.seq (Ok.region (OkOps.y (aS p_s) (OkOps.y (aS p_prefix) ?_))))))))))
  obtain ⟨x1, hx1, hr⟩ := bind_some hr
  refine OkOps.q (triCl (tau []) (.s (aB x1)) [] (stringslite_HasPrefix_c _ _ hx1) rfl ⟨.inl rfl, .inl rfl, trivial⟩ trivial entry92 trivial) (OkOps.y (aB (!x1)) (OkOps.nil ?_))
  refine Ok.cond (b := !x1) rfl (fun h2 => ?_) (fun h2 => ?_)
  have hr := selT h2 hr
  refine Ok.seq (Ok.region (OkOps.y (aS p_s) (OkOps.y (aS p_s) (OkOps.y (aB false) (OkOps.nil (Ok.ret ?_))))))
  obtain rfl := Option.some.inj hr
  exact ⟨_, rfl, .inl rfl, trivial⟩
  have hr := selF h2 hr
  refine Ok.skip (Ok.seq (Ok.region (OkOps.y (aS p_s) (OkOps.y (aS p_prefix) (OkOps.y (aI (p_prefix.size : Int)) ?_)))))
  obtain ⟨x3, hx3, hr⟩ := bind_some hr
  refine OkOps.q (triSSlc hx3 rfl rfl rfl (.inr ⟨_, rfl⟩) (.inl ⟨rfl, rfl⟩) rfl trivial rfl) (OkOps.y (aS x3) (OkOps.y (aB true) (OkOps.nil (Ok.ret ?_))))
  obtain rfl := Option.some.inj hr
  exact ⟨_, rfl, .inl rfl, trivial⟩
theorem strings_CutPrefix_c (p_s : Str) (p_prefix : Str) {r : Str × Bool} (hr : strings_CutPrefix p_s p_prefix = some r) : Con Tryd.prog 46 [aS p_s, aS p_prefix] [] (.tup [aS r.1, aB r.2]) [] := by
  unfold strings_CutPrefix at hr
  refine Con.of_ok 11 0 [.tmp 4, .tmp 5] [(0, .s (aS p_s)), (1, .s (aS p_prefix))] Tryd.func46 rfl rfl rfl rfl rfl rfl rfl rfl fun w g M ρ _ => (Ok.seq (Ok.region (OkOps.y (aS (ByteArray.mk #[])) (OkOps.y (aB false) (OkOps.nil (Ok.seq (Ok.region (OkOps.y (aS p_s) (OkOps.y (aS p_prefix) ?_)))))))))
  obtain ⟨x1, hx1, hr⟩ := bind_some hr
  refine OkOps.q (triCl (tau []) (.tup [aS x1.1, aB x1.2]) [] (stringslite_CutPrefix_c _ _ hx1) rfl ⟨.inl rfl, .inl rfl, trivial⟩ trivial entry72 trivial) (OkOps.y (aS x1.1) (OkOps.y (aB x1.2) (OkOps.y (aS x1.1) (OkOps.y (aB x1.2) (OkOps.nil (Ok.ret ?_))))))
  obtain rfl := Option.some.inj hr
  exact ⟨_, rfl, .inl rfl, trivial⟩
theorem unicode_utf8_DecodeRuneInString_c (p_s : Str) {r : Int × Int} (hr : unicode_utf8_DecodeRuneInString p_s = some r) : Con Tryd.prog 49 [aS p_s] [] (.tup [.c (.d (.v (.int .i32 r.1))), aI r.2]) [] := by
  unfold unicode_utf8_DecodeRuneInString at hr
  refine Con.of_ok 19 0 [.tmp 2, .tmp 3] [(0, .s (aS p_s))] Tryd.func49 rfl rfl rfl rfl rfl rfl rfl rfl fun w g M ρ _ => (Ok.seq (Ok.region (OkOps.y (.c (.d (.v (.int .i32 0)))) (OkOps.y (aI 0) (OkOps.nil (Ok.seq (Ok.seq (Ok.region (OkOps.y (aS p_s) (OkOps.y (aB (!(p_s.toList == (ByteArray.mk #[]).toList))) (OkOps.y (aB (!(p_s.toList == (ByteArray.mk #[]).toList))) (OkOps.q (triQG (x := aS p_s) rfl rfl trivial rfl) ?_))))))))))))
  obtain ⟨x1, hx1, hr⟩ := bind_some hr
  refine OkOps.q (triSIdxG (gO_t hx1) rfl rfl rfl rfl ⟨fun h => h, trivial⟩ rfl) (OkOps.q (triQG (x := aB (decide (x1 < 128))) rfl rfl ⟨fun h => h, trivial⟩ rfl) (OkOps.q (triAnd rfl rfl (fun h => h) rfl) (OkOps.nil ?_)))
  refine Ok.cond (b := (!(p_s.toList == (ByteArray.mk #[]).toList)) && (decide (x1 < 128))) rfl (fun h2 => ?_) (fun h2 => ?_)
  have hr := selT h2 hr
  refine Ok.seq (Ok.region (OkOps.y (aS p_s) ?_))
  obtain ⟨x3, hx3, hr⟩ := bind_some hr
  refine OkOps.q (triSIdx hx3 rfl rfl rfl trivial rfl) (OkOps.y (.c (.d (.v (.int .i32 (IntKind.i32.wrap x3))))) (OkOps.y (.c (.d (.v (.int .i32 (IntKind.i32.wrap x3))))) (OkOps.y (aI 1) (OkOps.nil (Ok.ret ?_)))))
  obtain rfl := Option.some.inj hr
  exact ⟨_, rfl, .inl rfl, trivial⟩
  have hr := selF h2 hr
  refine Ok.region (OkOps.y (aS p_s) ?_)
  obtain ⟨x4, hx4, hr⟩ := bind_some hr
  refine OkOps.q (triCl (tau []) (.tup [.c (.d (.v (.int .i32 x4.1))), aI x4.2]) [] (unicode_utf8_decodeRuneInStringSlow_c _ hx4) rfl ⟨.inl rfl, trivial⟩ trivial entry73 trivial) (OkOps.q (triMv (v := .tup [.c (.d (.v (.int .i32 x4.1))), aI x4.2]) rfl rfl) (OkOps.y (.c (.d (.v (.int .i32 x4.1)))) (OkOps.y (aI x4.2) (OkOps.y (.c (.d (.v (.int .i32 x4.1)))) (OkOps.y (aI x4.2) (OkOps.nil (Ok.ret ?_)))))))
  obtain rfl := Option.some.inj hr
  exact ⟨_, rfl, .inl rfl, trivial⟩
theorem slices_Index_Sl_string_string_c (p_s : (List Str)) (v : Str) {r : Int} (hr : slices_Index_Sl_string_string p_s v = some r) : Con Tryd.prog 47 [.c (.d (.sl (List.map eStr p_s))), aS v] [] (.s (aI r)) [] := by
  unfold slices_Index_Sl_string_string at hr
  refine Con.of_ok 19 0 [.tmp 4] [(0, .s (.c (.d (.sl (List.map eStr p_s))))), (1, .s (aS v))] Tryd.func47 rfl rfl rfl rfl rfl rfl rfl rfl fun w g M ρ _ => (Ok.seq (Ok.region (OkOps.y (aI 0) (OkOps.nil ?_))))
  obtain ⟨k2, hk2, hr⟩ := jn_some hr
  refine Ok.join (fun (s1 : Unit) => ⟨[], [], 0⟩) k2 r (fun s1 hr => ?_) ?_
  rw [hk2] at hr
  refine Ok.seq (Ok.region (OkOps.y (aI (-1)) (OkOps.nil (Ok.ret ?_))))
  obtain rfl := Option.some.inj hr
  exact ⟨_, rfl, .inl rfl, trivial⟩
  clear hk2
  refine Ok.seq (Ok.region (OkOps.y (.c (.d (.sl (List.map eStr p_s)))) (OkOps.q (triLen (enc := eStr) p_s rfl rfl trivial rfl) (OkOps.y (aI 0) (OkOps.nil (Ok.block (Ok.loopK (fun (s3 : Int) => ⟨[(0, .s (.c (.d (.sl (List.map eStr p_s))))), (1, .s (aS v)), (7, .s (aI (p_s.length : Int))), (8, .s (aI s3))], [], 0⟩) hr (Conv.mk (tau []) ⟨⟨_, rfl, .inl rfl⟩, ⟨_, rfl, .inl rfl⟩, ⟨_, rfl, .inl rfl⟩, ⟨_, rfl, .inl rfl⟩, trivial⟩ trivial rfl rfl rfl rfl) ?_)))))))
  clear hr
  intro again4 s3 hr
  unfold slices_Index_Sl_string_string_L1 at hr
  refine Ok.seq (Ok.region (OkOps.y (aB (decide (s3 < (p_s.length : Int)))) (OkOps.nil (Ok.seq ?_))))
  refine Ok.cond (b := decide (s3 < (p_s.length : Int))) rfl (fun h5 => ?_) (fun h5 => ?_)
  have hr := selT h5 hr
  refine Ok.skip (Ok.seq (Ok.block (Ok.seq (Ok.region (OkOps.y (aI s3) (OkOps.y (aI s3) (OkOps.nil (Ok.seq (Ok.region (OkOps.y (aS v) (OkOps.y (.c (.d (.sl (List.map eStr p_s)))) (OkOps.y (aI s3) ?_))))))))))))
  obtain ⟨x6, hx6, hr⟩ := bind_some hr
  refine OkOps.q (triIdx (enc := eStr) (L := p_s) (row := [dS x6]) hx6 rfl rfl rfl rfl (fun _ => rfl) trivial rfl) (OkOps.y (aS x6) (OkOps.y (aB (v.toList == x6.toList)) (OkOps.nil ?_)))
  refine Ok.cond (b := v.toList == x6.toList) rfl (fun h7 => ?_) (fun h7 => ?_)
  have hr := selT h7 hr
  refine Ok.seq (Ok.region (OkOps.y (aI s3) (OkOps.y (aI s3) (OkOps.nil (Ok.ret ?_)))))
  obtain rfl := Option.some.inj hr
  exact ⟨_, rfl, .inl rfl, trivial⟩
  have hr := selF h7 hr
  refine Ok.skip (Ok.region (OkOps.y (aI (IntKind.i64.wrap (s3 + 1))) (OkOps.y (aI (IntKind.i64.wrap (s3 + 1))) (OkOps.nil ?_))))
  exact ⟨IntKind.i64.wrap (s3 + 1), hr, (Conv.mk (tau []) ⟨⟨_, rfl, .inl rfl⟩, ⟨_, rfl, .inl rfl⟩, ⟨_, rfl, .inl rfl⟩, ⟨_, rfl, .inl rfl⟩, trivial⟩ trivial rfl rfl rfl rfl)⟩
  have hr := selF h5 hr
  refine Ok.exit ?_
  exact ⟨(), hr, (Conv.mk (tau []) trivial trivial rfl rfl rfl rfl)⟩
theorem sc_modifiers_c  {r : (List Str)} (hr : sc_modifiers  = some r) : Con Tryd.prog 45 [] [] (.s (.c (.d (.sl (List.map eStr r))))) [] := by
  unfold sc_modifiers at hr
  refine Con.of_ok 2 0 [.tmp 0] [] Tryd.func45 rfl rfl rfl rfl rfl rfl rfl rfl fun w g M ρ _ => (Ok.seq (Ok.region (OkOps.y (.c (.d (.v (.slice none 0 0)))) (OkOps.nil (Ok.seq (Ok.region (OkOps.m 0 (triBST (sz := 1) (enc := eStr) (j := 0) ([(ByteArray.mk #[99, 116, 114, 108]), (ByteArray.mk #[97, 108, 116]), (ByteArray.mk #[115, 104, 105, 102, 116]), (ByteArray.mk #[109, 101, 116, 97])]) rfl rfl rfl rfl rfl rfl rfl rfl (fun _ => rfl) trivial rfl rfl) (OkOps.y (.c (.tl 0 (List.map eStr ([(ByteArray.mk #[99, 116, 114, 108]), (ByteArray.mk #[97, 108, 116]), (ByteArray.mk #[115, 104, 105, 102, 116]), (ByteArray.mk #[109, 101, 116, 97])])))) (OkOps.nil (Ok.ret ?_))))))))))
  obtain rfl := Option.some.inj hr
  exact ⟨_, rfl, .inr rfl, trivial⟩
theorem sc_keys_c  {r : (List Str)} (hr : sc_keys  = some r) : Con Tryd.prog 48 [] [] (.s (.c (.d (.sl (List.map eStr r))))) [] := by
  unfold sc_keys at hr
  refine Con.of_ok 2 0 [.tmp 0] [] Tryd.func48 rfl rfl rfl rfl rfl rfl rfl rfl fun w g M ρ _ => (Ok.seq (Ok.region (OkOps.y (.c (.d (.v (.slice none 0 0)))) (OkOps.nil (Ok.seq (Ok.region (OkOps.m 0 (triBST (sz := 1) (enc := eStr) (j := 0) ([(ByteArray.mk #[116, 97, 98]), (ByteArray.mk #[101, 110, 116, 101, 114]), (ByteArray.mk #[101, 115, 99, 97, 112, 101]), (ByteArray.mk #[98, 97, 99, 107, 115, 112, 97, 99, 101]), (ByteArray.mk #[100, 101, 108, 101, 116, 101]), (ByteArray.mk #[108, 101, 102, 116]), (ByteArray.mk #[114, 105, 103, 104, 116]), (ByteArray.mk #[117, 112]), (ByteArray.mk #[100, 111, 119, 110]), (ByteArray.mk #[104, 111, 109, 101]), (ByteArray.mk #[101, 110, 100]), (ByteArray.mk #[102, 49]), (ByteArray.mk #[102, 50]), (ByteArray.mk #[102, 51]), (ByteArray.mk #[102, 52]), (ByteArray.mk #[102, 53]), (ByteArray.mk #[102, 54]), (ByteArray.mk #[102, 55]), (ByteArray.mk #[102, 56]), (ByteArray.mk #[102, 57]), (ByteArray.mk #[102, 49, 48]), (ByteArray.mk #[102, 49, 49]), (ByteArray.mk #[102, 49, 50])]) rfl rfl rfl rfl rfl rfl rfl rfl (fun _ => rfl) trivial rfl rfl) (OkOps.y (.c (.tl 0 (List.map eStr ([(ByteArray.mk #[116, 97, 98]), (ByteArray.mk #[101, 110, 116, 101, 114]), (ByteArray.mk #[101, 115, 99, 97, 112, 101]), (ByteArray.mk #[98, 97, 99, 107, 115, 112, 97, 99, 101]), (ByteArray.mk #[100, 101, 108, 101, 116, 101]), (ByteArray.mk #[108, 101, 102, 116]), (ByteArray.mk #[114, 105, 103, 104, 116]), (ByteArray.mk #[117, 112]), (ByteArray.mk #[100, 111, 119, 110]), (ByteArray.mk #[104, 111, 109, 101]), (ByteArray.mk #[101, 110, 100]), (ByteArray.mk #[102, 49]), (ByteArray.mk #[102, 50]), (ByteArray.mk #[102, 51]), (ByteArray.mk #[102, 52]), (ByteArray.mk #[102, 53]), (ByteArray.mk #[102, 54]), (ByteArray.mk #[102, 55]), (ByteArray.mk #[102, 56]), (ByteArray.mk #[102, 57]), (ByteArray.mk #[102, 49, 48]), (ByteArray.mk #[102, 49, 49]), (ByteArray.mk #[102, 49, 50])])))) (OkOps.nil (Ok.ret ?_))))))))))
  obtain rfl := Option.some.inj hr
  exact ⟨_, rfl, .inr rfl, trivial⟩
theorem sc_character_c (key : Int) {r : Bool} (hr : sc_character key = some r) : Con Tryd.prog 50 [aI key] [] (.s (aB r)) [] := by
  unfold sc_character at hr
  refine Con.of_ok 25 0 [.tmp 2] [(0, .s (aI key))] Tryd.func50 rfl rfl rfl rfl rfl rfl rfl rfl fun w g M ρ _ => (Ok.seq (Ok.region (OkOps.y (aB false) (OkOps.nil (Ok.seq (Ok.region (OkOps.y (aI key) (OkOps.y (aB (decide (key ≥ 32))) (OkOps.y (aB (decide (key ≥ 32))) (OkOps.q (triQG (x := aI key) rfl rfl trivial rfl) (OkOps.q (triQG (x := aB (decide (key ≤ 1114111))) rfl rfl ⟨fun h => h, trivial⟩ rfl) (OkOps.q (triAnd rfl rfl (fun h => h) rfl) (OkOps.y (aB ((decide (key ≥ 32)) && (decide (key ≤ 1114111)))) (OkOps.q (triQG (x := aI key) rfl rfl trivial rfl) (OkOps.q (triQG (x := aB (decide (key < 55296))) rfl rfl ⟨fun h => h, trivial⟩ rfl) ?_)))))))))))))))
  refine OkOps.q (triQG (x := aB (decide (key < 55296))) rfl rfl ⟨fun h => h, trivial⟩ rfl) (OkOps.q (triQG (x := aI key) rfl rfl trivial rfl) (OkOps.q (triQG (x := aB (decide (key > 57343))) rfl rfl ⟨fun h => h, trivial⟩ rfl) ?_))
  refine OkOps.q (triOrG rfl rfl rfl (fun h => h) (fun h h2 => by rw [h, h2]; rfl) rfl) ?_
  refine OkOps.q (triAnd rfl rfl (fun h => h) rfl) (OkOps.y (aB (((decide (key ≥ 32)) && (decide (key ≤ 1114111))) && ((decide (key < 55296)) || (decide (key > 57343))))) (OkOps.q (triQG (x := aI key) rfl rfl trivial rfl) (OkOps.q (triQG (x := aB (decide (key < 65))) rfl rfl ⟨fun h => h, trivial⟩ rfl) (OkOps.q (triQG (x := aB (decide (key < 65))) rfl rfl ⟨fun h => h, trivial⟩ rfl) (OkOps.q (triQG (x := aI key) rfl rfl trivial rfl) (OkOps.q (triQG (x := aB (decide (key > 90))) rfl rfl ⟨fun h => h, trivial⟩ rfl) ?_))))))
  refine OkOps.q (triOrG rfl rfl rfl (fun h => h) (fun h h2 => by rw [h, h2]; rfl) rfl) ?_
  refine OkOps.q (triAnd rfl rfl (fun h => h) rfl) (OkOps.y (aB ((((decide (key ≥ 32)) && (decide (key ≤ 1114111))) && ((decide (key < 55296)) || (decide (key > 57343)))) && ((decide (key < 65)) || (decide (key > 90))))) (OkOps.nil (Ok.ret ?_)))
  obtain rfl := Option.some.inj hr
  exact ⟨_, rfl, .inl rfl, trivial⟩
theorem sc_chord_c (p_s : Str) {r : Chord × Bool} (hr : sc_chord p_s = some r) : Con Tryd.prog 25 [aS p_s] [] (.tup [.agg [cI r.1.Key, cI r.1.Mods], aB r.2]) [] := by
  unfold sc_chord at hr
  refine Con.of_ok 84 0 [.cell 2 34, .tmp 3] [(0, .s (aS p_s))] Tryd.func25 rfl rfl rfl rfl rfl rfl rfl rfl fun w g M ρ _ => (Ok.seq (Ok.region (OkOps.m 0 (triAlloc (j := 0) (cs := [cI 0, cI 0]) rfl rfl rfl rfl) (OkOps.y (aB false) (OkOps.nil (Ok.seq (Ok.region (OkOps.m 0 (triAlloc (j := 1) (cs := [cI 0, cI 0]) rfl rfl rfl rfl) (OkOps.nil ?_)))))))))
  obtain ⟨k2, hk2, hr⟩ := jn_some hr
  refine Ok.join (fun (s1 : Str × Int) => ⟨[(0, .s (aS s1.1)), (2, .s (.c (.loc 0 0))), (4, .s (.c (.loc 1 0)))], [(0, .blk [cI 0, cI 0] 34), (1, .blk [cI 0, cI s1.2] 34)], 0⟩) k2 r (fun s1 hr => ?_) ?_
  rw [hk2] at hr
  refine Ok.seq (Ok.seq (Ok.region ?_))
  obtain ⟨x3, hx3, hr⟩ := bind_some hr
  refine OkOps.q (triCl (tau []) (.s (.c (.d (.sl (List.map eStr x3))))) [] (sc_keys_c  hx3) rfl trivial trivial entry48 trivial) (OkOps.y (aS s1.1) ?_)
  obtain ⟨x4, hx4, hr⟩ := bind_some hr
  refine OkOps.q (triCl (tau []) (.s (aI x4)) [] (slices_Index_Sl_string_string_c _ _ hx4) rfl ⟨.inl rfl, .inl rfl, trivial⟩ trivial entry47 trivial) (OkOps.y (aI x4) (OkOps.nil (Ok.seq (Ok.region (OkOps.y (aI x4) (OkOps.y (aB (decide (x4 ≥ 0))) (OkOps.nil ?_)))))))
  refine Ok.cond (b := decide (x4 ≥ 0)) rfl (fun h5 => ?_) (fun h5 => ?_)
  have hr := selT h5 hr
  refine Ok.seq (Ok.region (OkOps.y (aI x4) (OkOps.y (aI (IntKind.i64.wrap (1 + x4))) (OkOps.y (.c (.loc 1 0)) (OkOps.w (triStore (cs' := [cI (IntKind.i64.wrap (1 + x4)), cI s1.2]) rfl rfl rfl rfl rfl rfl rfl rfl rfl) (OkOps.nil (Ok.seq (Ok.region (OkOps.y (.agg [cI (IntKind.i64.wrap (1 + x4)), cI s1.2]) (OkOps.w (triStore (cs' := [cI (IntKind.i64.wrap (1 + x4)), cI s1.2]) rfl rfl rfl rfl rfl rfl rfl rfl rfl) (OkOps.y (aB true) (OkOps.nil (Ok.ret ?_)))))))))))))
  obtain rfl := Option.some.inj hr
  exact ⟨_, rfl, .inl rfl, trivial⟩
  have hr := selF h5 hr
  refine Ok.skip (Ok.seq (Ok.seq (Ok.region (OkOps.y (aS s1.1) (OkOps.y (aB (s1.1.toList == (ByteArray.mk #[115, 112, 97, 99, 101]).toList)) (OkOps.nil ?_))))))
  refine Ok.cond (b := s1.1.toList == (ByteArray.mk #[115, 112, 97, 99, 101]).toList) rfl (fun h6 => ?_) (fun h6 => ?_)
  have hr := selT h6 hr
  refine Ok.seq (Ok.region (OkOps.y (.c (.loc 1 0)) (OkOps.w (triStore (cs' := [cI 32, cI s1.2]) rfl rfl rfl rfl rfl rfl rfl rfl rfl) (OkOps.nil (Ok.seq (Ok.region (OkOps.y (.agg [cI 32, cI s1.2]) (OkOps.w (triStore (cs' := [cI 32, cI s1.2]) rfl rfl rfl rfl rfl rfl rfl rfl rfl) (OkOps.y (aB true) (OkOps.nil (Ok.ret ?_)))))))))))
  obtain rfl := Option.some.inj hr
  exact ⟨_, rfl, .inl rfl, trivial⟩
  have hr := selF h6 hr
  refine Ok.skip (Ok.seq (Ok.region (OkOps.y (aS s1.1) ?_)))
  obtain ⟨x7, hx7, hr⟩ := bind_some hr
  refine OkOps.q (triCl (tau []) (.tup [.c (.d (.v (.int .i32 x7.1))), aI x7.2]) [] (unicode_utf8_DecodeRuneInString_c _ hx7) rfl ⟨.inl rfl, trivial⟩ trivial entry49 trivial) (OkOps.q (triMv (v := .tup [.c (.d (.v (.int .i32 x7.1))), aI x7.2]) rfl rfl) (OkOps.y (.c (.d (.v (.int .i32 x7.1)))) (OkOps.y (aI x7.2) (OkOps.y (.c (.d (.v (.int .i32 x7.1)))) (OkOps.y (aI x7.2) (OkOps.nil (Ok.seq (Ok.seq (Ok.region (OkOps.y (aI x7.2) (OkOps.y (aS s1.1) (OkOps.y (aI (s1.1.size : Int)) (OkOps.y (aB (x7.2 != (s1.1.size : Int))) (OkOps.y (aB (x7.2 != (s1.1.size : Int))) (OkOps.q (triQG (x := aI x7.2) rfl rfl trivial rfl) ?_)))))))))))))))
  refine OkOps.q (triQG (x := aB (x7.2 == 0)) rfl rfl ⟨fun h => h, trivial⟩ rfl) ?_
  refine OkOps.q (triOr rfl rfl (fun h => by rw [h]; rfl) rfl) ?_
  refine OkOps.y (aB ((x7.2 != (s1.1.size : Int)) || (x7.2 == 0))) (OkOps.q (triQG (x := .c (.d (.v (.int .i32 x7.1)))) rfl rfl trivial rfl) (OkOps.q (triQG (x := aB (x7.1 == 65533)) rfl rfl ⟨fun h => h, trivial⟩ rfl) (OkOps.q (triQG (x := aB (x7.1 == 65533)) rfl rfl ⟨fun h => h, trivial⟩ rfl) (OkOps.q (triQG (x := aI x7.2) rfl rfl trivial rfl) (OkOps.q (triQG (x := aB (x7.2 == 1)) rfl rfl ⟨fun h => h, trivial⟩ rfl) ?_)))))
  refine OkOps.q (triAndG rfl rfl rfl (fun h => h) (fun h h2 => by rw [h, h2]; rfl) rfl) ?_
  refine OkOps.q (triOr rfl rfl (fun h => by rw [h]; rfl) rfl) ?_
  refine OkOps.y (aB (((x7.2 != (s1.1.size : Int)) || (x7.2 == 0)) || ((x7.1 == 65533) && (x7.2 == 1)))) (OkOps.q (triQG (x := .c (.d (.v (.int .i32 x7.1)))) rfl rfl trivial rfl) (OkOps.q (triQG (x := aB (x7.1 == 32)) rfl rfl ⟨fun h => h, trivial⟩ rfl) ?_))
  refine OkOps.q (triOr rfl rfl (fun h => by rw [h]; rfl) rfl) ?_
  refine OkOps.y (aB ((((x7.2 != (s1.1.size : Int)) || (x7.2 == 0)) || ((x7.1 == 65533) && (x7.2 == 1))) || (x7.1 == 32))) (OkOps.q (triQG (x := .c (.d (.v (.int .i32 x7.1)))) rfl rfl trivial rfl) (OkOps.q (triQG (x := aI (IntKind.i64.wrap x7.1)) rfl rfl ⟨fun h => h, trivial⟩ rfl) ?_))
  obtain ⟨x8, hx8, hr⟩ := bind_some hr
  refine OkOps.q (triCallG (x := aB x8) (fun hg => sc_character_c _ (gO_t hx8 hg)) rfl rfl ⟨.inl rfl, trivial⟩ ⟨fun h => h, trivial⟩ entry50 rfl rfl rfl) (OkOps.q (triQG (x := aB (!x8)) rfl rfl ⟨fun h => h, trivial⟩ rfl) ?_)
  refine OkOps.q (triOr rfl rfl (fun h => by rw [h]; rfl) rfl) ?_
  refine OkOps.nil ?_
  refine Ok.cond (b := ((((x7.2 != (s1.1.size : Int)) || (x7.2 == 0)) || ((x7.1 == 65533) && (x7.2 == 1))) || (x7.1 == 32)) || (!x8)) rfl (fun h9 => ?_) (fun h9 => ?_)
  have hr := selT h9 hr
  refine Ok.seq (Ok.region (OkOps.y (.agg [cI 0, cI 0]) (OkOps.w (triStore (cs' := [cI 0, cI 0]) rfl rfl rfl rfl rfl rfl rfl rfl rfl) (OkOps.y (aB false) (OkOps.nil (Ok.ret ?_))))))
  obtain rfl := Option.some.inj hr
  exact ⟨_, rfl, .inl rfl, trivial⟩
  have hr := selF h9 hr
  refine Ok.skip (Ok.seq (Ok.region (OkOps.y (.c (.d (.v (.int .i32 x7.1)))) (OkOps.y (aI (IntKind.i64.wrap x7.1)) (OkOps.y (.c (.loc 1 0)) (OkOps.w (triStore (cs' := [cI (IntKind.i64.wrap x7.1), cI s1.2]) rfl rfl rfl rfl rfl rfl rfl rfl rfl) (OkOps.nil (Ok.seq (Ok.region (OkOps.y (.agg [cI (IntKind.i64.wrap x7.1), cI s1.2]) (OkOps.w (triStore (cs' := [cI (IntKind.i64.wrap x7.1), cI s1.2]) rfl rfl rfl rfl rfl rfl rfl rfl rfl) (OkOps.y (aB true) (OkOps.nil (Ok.ret ?_))))))))))))))
  obtain rfl := Option.some.inj hr
  exact ⟨_, rfl, .inl rfl, trivial⟩
  clear hk2
  refine Ok.seq (Ok.region ?_)
  obtain ⟨x10, hx10, hr⟩ := bind_some hr
  refine OkOps.q (triCl (tau []) (.s (.c (.d (.sl (List.map eStr x10))))) [] (sc_modifiers_c  hx10) rfl trivial trivial entry45 trivial) (OkOps.q (triLen (enc := eStr) x10 rfl rfl trivial rfl) (OkOps.y (aI 0) (OkOps.nil (Ok.block (Ok.loopK (fun (s11 : Str × Int × Int) => ⟨[(0, .s (aS s11.1)), (2, .s (.c (.loc 0 0))), (4, .s (.c (.loc 1 0))), (12, .s (.c (.d (.sl (List.map eStr x10))))), (13, .s (aI (x10.length : Int))), (14, .s (aI s11.2.1))], [(0, .blk [cI 0, cI 0] 34), (1, .blk [cI 0, cI s11.2.2] 34)], 0⟩) hr (Conv.mk (tau []) ⟨⟨_, rfl, .inl rfl⟩, ⟨_, rfl, .inl rfl⟩, ⟨_, rfl, .inl rfl⟩, ⟨_, rfl, .inl rfl⟩, ⟨_, rfl, .inl rfl⟩, ⟨_, rfl, .inl rfl⟩, trivial⟩ ⟨rfl, rfl, trivial⟩ rfl rfl rfl rfl) ?_)))))
  clear hr
  intro again12 s11 hr
  unfold sc_chord_L1 at hr
  refine Ok.seq (Ok.region (OkOps.y (aB (decide (s11.2.1 < (x10.length : Int)))) (OkOps.nil (Ok.seq ?_))))
  refine Ok.cond (b := decide (s11.2.1 < (x10.length : Int))) rfl (fun h13 => ?_) (fun h13 => ?_)
  have hr := selT h13 hr
  refine Ok.skip ?_
  obtain ⟨k15, hk15, hr⟩ := jn_some hr
  refine Ok.join (fun (s14 : Str × Int) => ⟨[(0, .s (aS s14.1)), (2, .s (.c (.loc 0 0))), (4, .s (.c (.loc 1 0))), (12, .s (.c (.d (.sl (List.map eStr x10))))), (13, .s (aI (x10.length : Int))), (14, .s (aI s11.2.1))], [(0, .blk [cI 0, cI 0] 34), (1, .blk [cI 0, cI s14.2] 34)], 0⟩) k15 r (fun s14 hr => ?_) ?_
  rw [hk15] at hr
  refine Ok.region (OkOps.y (aI (IntKind.i64.wrap (s11.2.1 + 1))) (OkOps.y (aI (IntKind.i64.wrap (s11.2.1 + 1))) (OkOps.nil ?_)))
  exact ⟨(s14.1, IntKind.i64.wrap (s11.2.1 + 1), s14.2), hr, (Conv.mk (tau []) ⟨⟨_, rfl, .inl rfl⟩, ⟨_, rfl, .inl rfl⟩, ⟨_, rfl, .inl rfl⟩, ⟨_, rfl, .inl rfl⟩, ⟨_, rfl, .inl rfl⟩, ⟨_, rfl, .inl rfl⟩, trivial⟩ ⟨rfl, rfl, trivial⟩ rfl rfl rfl rfl)⟩
  clear hk15
  refine Ok.block (Ok.seq (Ok.region (OkOps.y (aI s11.2.1) ?_)))
  obtain ⟨x16, hx16, hr⟩ := bind_some hr
  refine OkOps.q (triIdx (enc := eStr) (L := x10) (row := [dS x16]) hx16 rfl rfl rfl rfl (fun _ => rfl) trivial rfl) (OkOps.y (aS x16) (OkOps.y (aI s11.2.1) (OkOps.y (aS x16) (OkOps.nil (Ok.seq (Ok.region (OkOps.y (aS s11.1) (OkOps.y (aS x16) ?_))))))))
  obtain ⟨x17, hx17, hr⟩ := bind_some hr
  refine OkOps.q (triCat hx17 rfl rfl trivial rfl) ?_
  obtain ⟨x18, hx18, hr⟩ := bind_some hr
  refine OkOps.q (triCl (tau []) (.tup [aS x18.1, aB x18.2]) [] (strings_CutPrefix_c _ _ hx18) rfl ⟨.inl rfl, .inl rfl, trivial⟩ trivial entry46 trivial) (OkOps.q (triMv (v := .tup [aS x18.1, aB x18.2]) rfl rfl) (OkOps.y (aS x18.1) (OkOps.y (aB x18.2) (OkOps.y (aS x18.1) (OkOps.y (aB x18.2) (OkOps.nil (Ok.seq (Ok.region (OkOps.y (aB x18.2) (OkOps.nil ?_))))))))))
  refine Ok.cond (b := x18.2) rfl (fun h19 => ?_) (fun h19 => ?_)
  have hr := selT h19 hr
  refine Ok.seq (Ok.region (OkOps.y (aS x18.1) (OkOps.y (aS x18.1) (OkOps.nil (Ok.regionD (by kernel_rfl) (OkD.x (.c (.loc 1 1)) rfl trivial rfl (OkD.x (aI s11.2.2) rfl trivial rfl (OkD.x (aI s11.2.1) rfl trivial rfl ?_))))))))
  obtain ⟨x20, hx20, hr⟩ := bind_some hr
  refine OkD.q (triShl hx20 rfl rfl trivial rfl) (OkD.x (aI (bOr .i64 s11.2.2 x20)) rfl trivial rfl (OkD.x (.c (.loc 1 1)) rfl trivial rfl (OkD.w (triStore (cs' := [cI 0, cI (bOr .i64 s11.2.2 x20)]) rfl rfl rfl rfl rfl rfl rfl rfl rfl) (OkD.nil (by kernel_rfl) ?_))))
  exact ⟨(x18.1, bOr .i64 s11.2.2 x20), hr, (Conv.mk (tau []) ⟨⟨_, rfl, .inl rfl⟩, ⟨_, rfl, .inl rfl⟩, ⟨_, rfl, .inl rfl⟩, ⟨_, rfl, .inl rfl⟩, ⟨_, rfl, .inl rfl⟩, ⟨_, rfl, .inl rfl⟩, trivial⟩ ⟨rfl, rfl, trivial⟩ rfl rfl rfl rfl)⟩
  have hr := selF h19 hr
  refine Ok.skip ?_
  exact ⟨(s11.1, s11.2.2), hr, (Conv.mk (tau []) ⟨⟨_, rfl, .inl rfl⟩, ⟨_, rfl, .inl rfl⟩, ⟨_, rfl, .inl rfl⟩, ⟨_, rfl, .inl rfl⟩, ⟨_, rfl, .inl rfl⟩, ⟨_, rfl, .inl rfl⟩, trivial⟩ ⟨rfl, rfl, trivial⟩ rfl rfl rfl rfl)⟩
  have hr := selF h13 hr
  refine Ok.exit ?_
  exact ⟨(s11.1, s11.2.2), hr, (Conv.mk (tau []) ⟨⟨_, rfl, .inl rfl⟩, ⟨_, rfl, .inl rfl⟩, ⟨_, rfl, .inl rfl⟩, trivial⟩ ⟨rfl, rfl, trivial⟩ rfl rfl rfl rfl)⟩
theorem sc_Parse_c (p_s : Str) {r : (List Chord) × Int} (hr : sc_Parse p_s = some r) : Con Tryd.prog 9 [aS p_s] [] (.tup [.c (.d (.sl (List.map Chord.cs r.1))), aI r.2]) [] := by
  unfold sc_Parse at hr
  refine Con.of_ok 35 0 [.tmp 2, .tmp 3] [(0, .s (aS p_s))] Tryd.func9 rfl rfl rfl rfl rfl rfl rfl rfl fun w g M ρ _ => (Ok.seq (Ok.region (OkOps.y (.c (.d (.v (.slice none 0 0)))) (OkOps.y (aI 0) (OkOps.nil (Ok.seq (Ok.seq (Ok.region (OkOps.y (aS p_s) (OkOps.y (aI (p_s.size : Int)) (OkOps.y (aB (decide ((p_s.size : Int) > 100))) (OkOps.nil ?_))))))))))))
  refine Ok.cond (b := decide ((p_s.size : Int) > 100)) rfl (fun h1 => ?_) (fun h1 => ?_)
  have hr := selT h1 hr
  refine Ok.seq (Ok.region (OkOps.y (.c (.d (.v (.slice none 0 0)))) (OkOps.y (aI 2) (OkOps.nil (Ok.ret ?_)))))
  obtain rfl := Option.some.inj hr
  exact ⟨_, rfl, .inr rfl, trivial⟩
  have hr := selF h1 hr
  refine Ok.skip (Ok.seq (Ok.region (OkOps.y (.c (.d (.v (.slice none 0 0)))) (OkOps.nil ?_))))
  obtain ⟨k3, hk3, hr⟩ := jn_some hr
  refine Ok.join (fun (s2 : (List Chord)) => ⟨[(4, .s (.c (.tl 1004 (List.map Chord.cs s2))))], [(1004, .tail 2)], 0⟩) k3 r (fun s2 hr => ?_) ?_
  rw [hk3] at hr
  refine Ok.seq (Ok.seq (Ok.region (OkOps.y (.c (.tl 1004 (List.map Chord.cs s2))) (OkOps.q (triLen (enc := Chord.cs) s2 rfl rfl trivial rfl) (OkOps.y (aB (decide ((s2.length : Int) > 3))) (OkOps.nil ?_))))))
  refine Ok.cond (b := decide ((s2.length : Int) > 3)) rfl (fun h4 => ?_) (fun h4 => ?_)
  have hr := selT h4 hr
  refine Ok.seq (Ok.region (OkOps.y (.c (.d (.v (.slice none 0 0)))) (OkOps.y (aI 2) (OkOps.nil (Ok.ret ?_)))))
  obtain rfl := Option.some.inj hr
  exact ⟨_, rfl, .inr rfl, trivial⟩
  have hr := selF h4 hr
  refine Ok.skip (Ok.seq (Ok.region (OkOps.y (.c (.tl 1004 (List.map Chord.cs s2))) (OkOps.y (.c (.tl 1004 (List.map Chord.cs s2))) (OkOps.y (aI 0) (OkOps.nil (Ok.ret ?_)))))))
  obtain rfl := Option.some.inj hr
  exact ⟨_, rfl, .inr rfl, trivial⟩
  clear hk3
  refine Ok.seq (Ok.region (OkOps.y (aS p_s) ?_))
  obtain ⟨x5, hx5, hr⟩ := bind_some hr
  refine OkOps.q (triCl (tau []) (.s (.c (.d (.sl (List.map eStr x5))))) [] (strings_Split_c _ _ hx5) rfl ⟨.inl rfl, .inl rfl, trivial⟩ trivial entry24 trivial) (OkOps.q (triLen (enc := eStr) x5 rfl rfl trivial rfl) (OkOps.y (aI 0) (OkOps.nil (Ok.block (Ok.loopK (fun (s6 : (List Chord) × Int) => ⟨[(4, .s (.c (.tl 1007 (List.map Chord.cs s6.1)))), (13, .s (.c (.d (.sl (List.map eStr x5))))), (14, .s (aI (x5.length : Int))), (15, .s (aI s6.2))], [(1007, .tail 2)], 0⟩) hr (Conv.trans (Conv.nil 4 1009 2 0 rfl rfl) (Conv.mk (tau [(1007, 1009)]) ⟨⟨_, rfl, .inl rfl⟩, ⟨_, rfl, .inl rfl⟩, ⟨_, rfl, .inl rfl⟩, ⟨_, rfl, .inl rfl⟩, trivial⟩ ⟨rfl, trivial⟩ rfl rfl rfl rfl)) ?_)))))
  clear hr
  intro again7 s6 hr
  unfold sc_Parse_L1 at hr
  refine Ok.seq (Ok.region (OkOps.y (aB (decide (s6.2 < (x5.length : Int)))) (OkOps.nil (Ok.seq ?_))))
  refine Ok.cond (b := decide (s6.2 < (x5.length : Int))) rfl (fun h8 => ?_) (fun h8 => ?_)
  have hr := selT h8 hr
  refine Ok.skip (Ok.seq (Ok.block (Ok.seq (Ok.region ?_))))
  obtain ⟨x9, hx9, hr⟩ := bind_some hr
  refine OkOps.q (triIdx (enc := eStr) (L := x5) (row := [dS x9]) hx9 rfl rfl rfl rfl (fun _ => rfl) trivial rfl) (OkOps.y (aS x9) (OkOps.y (aS x9) (OkOps.nil (Ok.seq (Ok.region (OkOps.y (aS x9) ?_))))))
  obtain ⟨x10, hx10, hr⟩ := bind_some hr
  refine OkOps.q (triCl (tau []) (.tup [.agg [cI x10.1.Key, cI x10.1.Mods], aB x10.2]) [] (sc_chord_c _ hx10) rfl ⟨.inl rfl, trivial⟩ trivial entry25 trivial) (OkOps.q (triMv (v := .tup [.agg [cI x10.1.Key, cI x10.1.Mods], aB x10.2]) rfl rfl) (OkOps.y (.agg [cI x10.1.Key, cI x10.1.Mods]) (OkOps.y (aB x10.2) (OkOps.m 0 (triAlloc (j := 0) (cs := [cI 0, cI 0]) rfl rfl rfl rfl) (OkOps.w (triStore (cs' := [cI x10.1.Key, cI x10.1.Mods]) rfl rfl rfl rfl rfl rfl rfl rfl rfl) (OkOps.y (aB x10.2) (OkOps.nil (Ok.seq (Ok.seq (Ok.region (OkOps.y (aB x10.2) (OkOps.y (aB (!x10.2)) (OkOps.nil ?_)))))))))))))
  refine Ok.cond (b := !x10.2) rfl (fun h11 => ?_) (fun h11 => ?_)
  have hr := selT h11 hr
  refine Ok.seq (Ok.region (OkOps.y (.c (.d (.v (.slice none 0 0)))) (OkOps.y (aI 3) (OkOps.nil (Ok.ret ?_)))))
  obtain rfl := Option.some.inj hr
  exact ⟨_, rfl, .inr rfl, trivial⟩
  have hr := selF h11 hr
  refine Ok.skip (Ok.region (OkOps.y (.c (.tl 1007 (List.map Chord.cs s6.1))) (OkOps.y (.agg [cI x10.1.Key, cI x10.1.Mods]) (OkOps.m 0 (triBST (sz := 2) (enc := Chord.cs) (j := 1) ([x10.1]) rfl rfl rfl rfl rfl rfl rfl rfl (fun _ => rfl) trivial rfl rfl) ?_))))
  obtain ⟨x12, hx12, hr⟩ := bind_some hr
  refine OkOps.m2 0 (triApp (enc := Chord.cs) (L := s6.1) (X := [x10.1]) (j := 1007) (j' := 2) hx12 rfl rfl rfl rfl rfl rfl (fun _ => rfl) (fun _ => rfl) (by decide) trivial rfl rfl) (OkOps.y (.c (.tl 2 (List.map Chord.cs x12))) (OkOps.nil (Ok.region (OkOps.y (aI (IntKind.i64.wrap (s6.2 + 1))) (OkOps.y (aI (IntKind.i64.wrap (s6.2 + 1))) (OkOps.nil ?_))))))
  exact ⟨(x12, IntKind.i64.wrap (s6.2 + 1)), hr, (Conv.mk (tau [(1007, 2)]) ⟨⟨_, rfl, .inl rfl⟩, ⟨_, rfl, .inl rfl⟩, ⟨_, rfl, .inl rfl⟩, ⟨_, rfl, .inl rfl⟩, trivial⟩ ⟨rfl, trivial⟩ rfl rfl rfl rfl)⟩
  have hr := selF h8 hr
  refine Ok.exit ?_
  exact ⟨s6.1, hr, (Conv.mk (tau [(1004, 1007)]) ⟨⟨_, rfl, .inl rfl⟩, trivial⟩ ⟨rfl, trivial⟩ rfl rfl rfl rfl)⟩
theorem l32_same_c (a : (List Chord)) (b : (List Chord)) {r : Bool} (hr : l32_same a b = some r) : Con Tryd.prog 11 [.c (.d (.sl (List.map Chord.cs a))), .c (.d (.sl (List.map Chord.cs b)))] [] (.s (aB r)) [] := by
  unfold l32_same at hr
  refine Con.of_ok 26 0 [.tmp 4] [(0, .s (.c (.d (.sl (List.map Chord.cs a))))), (1, .s (.c (.d (.sl (List.map Chord.cs b)))))] Tryd.func11 rfl rfl rfl rfl rfl rfl rfl rfl fun w g M ρ _ => (Ok.seq (Ok.region (OkOps.y (aB false) (OkOps.nil (Ok.seq (Ok.seq (Ok.region (OkOps.y (.c (.d (.sl (List.map Chord.cs a)))) (OkOps.q (triLen (enc := Chord.cs) a rfl rfl trivial rfl) (OkOps.y (.c (.d (.sl (List.map Chord.cs b)))) (OkOps.q (triLen (enc := Chord.cs) b rfl rfl trivial rfl) (OkOps.y (aB ((a.length : Int) != (b.length : Int))) (OkOps.nil ?_)))))))))))))
  refine Ok.cond (b := (a.length : Int) != (b.length : Int)) rfl (fun h1 => ?_) (fun h1 => ?_)
  have hr := selT h1 hr
  refine Ok.seq (Ok.region (OkOps.y (aB false) (OkOps.nil (Ok.ret ?_))))
  obtain rfl := Option.some.inj hr
  exact ⟨_, rfl, .inl rfl, trivial⟩
  have hr := selF h1 hr
  refine Ok.skip ?_
  obtain ⟨k3, hk3, hr⟩ := jn_some hr
  refine Ok.join (fun (s2 : Unit) => ⟨[], [], 0⟩) k3 r (fun s2 hr => ?_) ?_
  rw [hk3] at hr
  refine Ok.seq (Ok.region (OkOps.y (aB true) (OkOps.nil (Ok.ret ?_))))
  obtain rfl := Option.some.inj hr
  exact ⟨_, rfl, .inl rfl, trivial⟩
  clear hk3
  refine Ok.seq (Ok.region (OkOps.y (aI 0) (OkOps.nil (Ok.block (Ok.loopK (fun (s4 : Int) => ⟨[(0, .s (.c (.d (.sl (List.map Chord.cs a))))), (1, .s (.c (.d (.sl (List.map Chord.cs b))))), (5, .s (aI s4))], [], 0⟩) hr (Conv.mk (tau []) ⟨⟨_, rfl, .inl rfl⟩, ⟨_, rfl, .inl rfl⟩, ⟨_, rfl, .inl rfl⟩, trivial⟩ trivial rfl rfl rfl rfl) ?_)))))
  clear hr
  intro again5 s4 hr
  unfold l32_same_L1 at hr
  refine Ok.seq (Ok.seq (Ok.region (OkOps.y (aI s4) (OkOps.y (.c (.d (.sl (List.map Chord.cs a)))) (OkOps.q (triLen (enc := Chord.cs) a rfl rfl trivial rfl) (OkOps.y (aB (decide (s4 < (a.length : Int)))) (OkOps.nil ?_)))))))
  refine Ok.cond (b := decide (s4 < (a.length : Int))) rfl (fun h6 => ?_) (fun h6 => ?_)
  have hr := selT h6 hr
  refine Ok.skip (Ok.seq (Ok.block (Ok.seq (Ok.regionD (by kernel_rfl) (OkD.x (.c (.d (.sl (List.map Chord.cs a)))) rfl trivial rfl (OkD.x (aI s4) rfl trivial rfl ?_))))))
  obtain ⟨x7, hx7, hr⟩ := bind_some hr
  refine OkD.q (triIdx (enc := Chord.cs) (L := a) (row := [dI x7.Key, dI x7.Mods]) hx7 rfl rfl rfl rfl (fun _ => rfl) trivial rfl) (OkD.x (.agg [cI x7.Key, cI x7.Mods]) rfl trivial rfl (OkD.x (.c (.d (.sl (List.map Chord.cs b)))) rfl trivial rfl (OkD.x (aI s4) rfl trivial rfl ?_)))
  obtain ⟨x8, hx8, hr⟩ := bind_some hr
  refine OkD.q (triIdx (enc := Chord.cs) (L := b) (row := [dI x8.Key, dI x8.Mods]) hx8 rfl rfl rfl rfl (fun _ => rfl) trivial rfl) (OkD.x (.agg [cI x8.Key, cI x8.Mods]) rfl trivial rfl (OkD.q (triNeS (b := ((x7.Key == x8.Key) && (x7.Mods == x8.Mods))) rfl rfl eqok34 rfl trivial rfl) (OkD.nil (by kernel_rfl) ?_)))
  refine Ok.cond (b := !((x7.Key == x8.Key) && (x7.Mods == x8.Mods))) rfl (fun h9 => ?_) (fun h9 => ?_)
  have hr := selT h9 hr
  refine Ok.seq (Ok.region (OkOps.y (aB false) (OkOps.nil (Ok.ret ?_))))
  obtain rfl := Option.some.inj hr
  exact ⟨_, rfl, .inl rfl, trivial⟩
  have hr := selF h9 hr
  refine Ok.skip (Ok.region (OkOps.y (aI s4) (OkOps.y (aI (IntKind.i64.wrap (s4 + 1))) (OkOps.y (aI (IntKind.i64.wrap (s4 + 1))) (OkOps.nil ?_)))))
  exact ⟨IntKind.i64.wrap (s4 + 1), hr, (Conv.mk (tau []) ⟨⟨_, rfl, .inl rfl⟩, ⟨_, rfl, .inl rfl⟩, ⟨_, rfl, .inl rfl⟩, trivial⟩ trivial rfl rfl rfl rfl)⟩
  have hr := selF h6 hr
  refine Ok.exit ?_
  exact ⟨(), hr, (Conv.mk (tau []) trivial trivial rfl rfl rfl rfl)⟩
theorem l32_awake_c  {r : Bool} (hr : l32_awake  = some r) : Con Tryd.prog 16 [] [] (.s (aB r)) [] := by
  unfold l32_awake at hr
  refine Con.of_ok 50 0 [.tmp 0] [] Tryd.func16 rfl rfl rfl rfl rfl rfl rfl rfl fun w g M ρ _ => (Ok.seq (Ok.region (OkOps.y (aB false) (OkOps.nil (Ok.seq (Ok.region ?_))))))
  obtain ⟨x1, hx1, hr⟩ := bind_some hr
  refine OkOps.q (triCl (tau []) (.tup [.c (.d (.sl (List.map Chord.cs x1.1))), aI x1.2]) [] (sc_Parse_c _ hx1) rfl ⟨.inl rfl, trivial⟩ trivial entry9 trivial) (OkOps.q (triMv (v := .tup [.c (.d (.sl (List.map Chord.cs x1.1))), aI x1.2]) rfl rfl) (OkOps.y (.c (.d (.sl (List.map Chord.cs x1.1)))) (OkOps.y (aI x1.2) (OkOps.y (.c (.d (.sl (List.map Chord.cs x1.1)))) (OkOps.y (aI x1.2) (OkOps.nil (Ok.seq (Ok.region (OkOps.m 0 (triBST (sz := 1) (enc := eStr) (j := 0) ([(ByteArray.mk #[83, 97, 118, 101]), (ByteArray.mk #[83, 97, 118, 101, 32, 97, 115]), (ByteArray.mk #[83, 117, 109])]) rfl rfl rfl rfl rfl rfl rfl rfl (fun _ => rfl) trivial rfl rfl) ?_)))))))))
  obtain ⟨x2, hx2, hr⟩ := bind_some hr
  refine OkOps.q (triCl (tau []) (.tup [.c (.d (.sl (List.map (eInt .i64) x2.1))), aI x2.2]) [] (sc_Mnemonics_c _ hx2) rfl ⟨.inr rfl, trivial⟩ trivial entry18 trivial) (OkOps.q (triMv (v := .tup [.c (.d (.sl (List.map (eInt .i64) x2.1))), aI x2.2]) rfl rfl) (OkOps.y (.c (.d (.sl (List.map (eInt .i64) x2.1)))) (OkOps.y (aI x2.2) (OkOps.y (.c (.d (.sl (List.map (eInt .i64) x2.1)))) (OkOps.y (aI x2.2) (OkOps.nil (Ok.seq (Ok.region (OkOps.y (aI x1.2) (OkOps.y (aB (x1.2 == 0)) (OkOps.y (aB (x1.2 == 0)) (OkOps.q (triQG (x := aI x2.2) rfl rfl trivial rfl) (OkOps.q (triQG (x := aB (x2.2 == 0)) rfl rfl ⟨fun h => h, trivial⟩ rfl) (OkOps.q (triAnd rfl rfl (fun h => h) rfl) (OkOps.y (aB ((x1.2 == 0) && (x2.2 == 0))) ?_)))))))))))))))
  refine OkOps.q (triQG (x := .c (.d (.sl (List.map Chord.cs x1.1)))) rfl rfl trivial rfl) (OkOps.q (triQG (x := .agg [cI 107, cI 1]) rfl rfl trivial rfl) (OkOps.q (triQG (x := .agg [cI 99, cI 5]) rfl rfl trivial rfl) (OkOps.q (triBSG (enc := Chord.cs) ([(Chord.mk 107 1), (Chord.mk 99 5)]) rfl rfl rfl rfl rfl rfl rfl rfl rfl (fun _ => rfl) ⟨fun h => h, ⟨fun h => h, trivial⟩⟩ rfl) ?_)))
  obtain ⟨x3, hx3, hr⟩ := bind_some hr
  refine OkOps.q (triCallG (x := aB x3) (fun hg => l32_same_c _ _ (gO_t hx3 hg)) rfl rfl ⟨.inl rfl, .inl rfl, trivial⟩ ⟨fun h => h, ⟨fun h => h, trivial⟩⟩ entry11 rfl rfl rfl) (OkOps.q (triAnd rfl rfl (fun h => h) rfl) (OkOps.y (aB (((x1.2 == 0) && (x2.2 == 0)) && x3)) (OkOps.q (triQG (x := .c (.d (.sl (List.map (eInt .i64) x2.1)))) rfl rfl trivial rfl) (OkOps.q (triLenG (enc := (eInt .i64)) x2.1 rfl rfl rfl ⟨fun h => h, trivial⟩ rfl) (OkOps.q (triQG (x := aB ((x2.1.length : Int) == 3)) rfl rfl ⟨fun h => h, trivial⟩ rfl) (OkOps.q (triAnd rfl rfl (fun h => h) rfl) (OkOps.y (aB ((((x1.2 == 0) && (x2.2 == 0)) && x3) && ((x2.1.length : Int) == 3))) (OkOps.q (triQG (x := .c (.d (.sl (List.map (eInt .i64) x2.1)))) rfl rfl trivial rfl) ?_))))))))
  obtain ⟨x4, hx4, hr⟩ := bind_some hr
  refine OkOps.q (triIdxG (enc := (eInt .i64)) (L := x2.1) (row := [dI x4]) (gO_t hx4) rfl rfl rfl rfl rfl (fun _ => rfl) ⟨fun h => h, trivial⟩ rfl) (OkOps.q (triQG (x := aI x4) rfl rfl ⟨fun h => h, trivial⟩ rfl) (OkOps.q (triQG (x := aB (x4 == 0)) rfl rfl ⟨fun h => h, trivial⟩ rfl) (OkOps.q (triAnd rfl rfl (fun h => h) rfl) (OkOps.y (aB (((((x1.2 == 0) && (x2.2 == 0)) && x3) && ((x2.1.length : Int) == 3)) && (x4 == 0))) (OkOps.q (triQG (x := .c (.d (.sl (List.map (eInt .i64) x2.1)))) rfl rfl trivial rfl) ?_)))))
  obtain ⟨x5, hx5, hr⟩ := bind_some hr
  refine OkOps.q (triIdxG (enc := (eInt .i64)) (L := x2.1) (row := [dI x5]) (gO_t hx5) rfl rfl rfl rfl rfl (fun _ => rfl) ⟨fun h => h, trivial⟩ rfl) (OkOps.q (triQG (x := aI x5) rfl rfl ⟨fun h => h, trivial⟩ rfl) (OkOps.q (triQG (x := aB (x5 == 1)) rfl rfl ⟨fun h => h, trivial⟩ rfl) (OkOps.q (triAnd rfl rfl (fun h => h) rfl) (OkOps.y (aB ((((((x1.2 == 0) && (x2.2 == 0)) && x3) && ((x2.1.length : Int) == 3)) && (x4 == 0)) && (x5 == 1))) (OkOps.q (triQG (x := .c (.d (.sl (List.map (eInt .i64) x2.1)))) rfl rfl trivial rfl) ?_)))))
  obtain ⟨x6, hx6, hr⟩ := bind_some hr
  refine OkOps.q (triIdxG (enc := (eInt .i64)) (L := x2.1) (row := [dI x6]) (gO_t hx6) rfl rfl rfl rfl rfl (fun _ => rfl) ⟨fun h => h, trivial⟩ rfl) (OkOps.q (triQG (x := aI x6) rfl rfl ⟨fun h => h, trivial⟩ rfl) (OkOps.q (triQG (x := aB (x6 == 1)) rfl rfl ⟨fun h => h, trivial⟩ rfl) (OkOps.q (triAnd rfl rfl (fun h => h) rfl) (OkOps.y (aB (((((((x1.2 == 0) && (x2.2 == 0)) && x3) && ((x2.1.length : Int) == 3)) && (x4 == 0)) && (x5 == 1)) && (x6 == 1))) (OkOps.nil (Ok.ret ?_))))))
  obtain rfl := Option.some.inj hr
  exact ⟨_, rfl, .inl rfl, trivial⟩
end Go.Proofs.YtobiohcdpfpefaaDoor
end
section
set_option maxRecDepth 100000
namespace Go.Proofs.YtobiohcdpfpefaaDoor
open Go Go.E2
theorem vw_Attr_c (l : (List Attr)) (name : Str) {r : AValue × Bool} (hr : vw_Attr l name = some r) : Con Tryd.prog 40 [.c (.d (.sl (List.map Attr.cs l))), aS name] [] (.tup [.agg [cI r.1.Kind, cI r.1.N, cS r.1.S, .d (.sl (List.map AValue.cs r.1.L))], aB r.2]) [] := by
  unfold vw_Attr at hr
  refine Con.of_ok 23 0 [.cell 4 47, .tmp 5] [(0, .s (.c (.d (.sl (List.map Attr.cs l))))), (1, .s (aS name))] Tryd.func40 rfl rfl rfl rfl rfl rfl rfl rfl fun w g M ρ _ => (Ok.seq (Ok.region (OkOps.m 0 (triAlloc (j := 0) (cs := [cI 0, cI 0, cS ByteArray.empty, .d (.v (.slice none 0 0))]) rfl rfl rfl rfl) (OkOps.y (aB false) (OkOps.nil ?_)))))
  obtain ⟨k2, hk2, hr⟩ := jn_some hr
  refine Ok.join (fun (s1 : Unit) => ⟨[(4, .s (.c (.loc 0 0)))], [(0, .blk [cI 0, cI 0, cS ByteArray.empty, .d (.v (.slice none 0 0))] 47)], 0⟩) k2 r (fun s1 hr => ?_) ?_
  rw [hk2] at hr
  refine Ok.seq (Ok.region (OkOps.y (.agg [cI 0, cI 0, cS ByteArray.empty, .d (.v (.slice none 0 0))]) (OkOps.w (triStore (cs' := [cI 0, cI 0, cS ByteArray.empty, .d (.v (.slice none 0 0))]) rfl rfl rfl rfl rfl rfl rfl rfl rfl) (OkOps.y (aB false) (OkOps.nil (Ok.ret ?_))))))
  obtain rfl := Option.some.inj hr
  exact ⟨_, rfl, .inr rfl, trivial⟩
  clear hk2
  refine Ok.seq (Ok.region (OkOps.y (.c (.d (.sl (List.map Attr.cs l)))) (OkOps.q (triLen (enc := Attr.cs) l rfl rfl trivial rfl) (OkOps.y (aI 0) (OkOps.nil (Ok.block (Ok.loopK (fun (s3 : Int) => ⟨[(1, .s (aS name)), (4, .s (.c (.loc 0 0))), (8, .s (.c (.d (.sl (List.map Attr.cs l))))), (9, .s (aI (l.length : Int))), (10, .s (aI s3))], [(0, .blk [cI 0, cI 0, cS ByteArray.empty, .d (.v (.slice none 0 0))] 47)], 0⟩) hr (Conv.mk (tau []) ⟨⟨_, rfl, .inl rfl⟩, ⟨_, rfl, .inl rfl⟩, ⟨_, rfl, .inl rfl⟩, ⟨_, rfl, .inl rfl⟩, ⟨_, rfl, .inl rfl⟩, trivial⟩ ⟨rfl, trivial⟩ rfl rfl rfl rfl) ?_)))))))
  clear hr
  intro again4 s3 hr
  unfold vw_Attr_L1 at hr
  refine Ok.seq (Ok.region (OkOps.y (aB (decide (s3 < (l.length : Int)))) (OkOps.nil (Ok.seq ?_))))
  refine Ok.cond (b := decide (s3 < (l.length : Int))) rfl (fun h5 => ?_) (fun h5 => ?_)
  have hr := selT h5 hr
  refine Ok.skip (Ok.seq (Ok.block (Ok.seq (Ok.region ?_))))
  obtain ⟨x6, hx6, hr⟩ := bind_some hr
  refine OkOps.q (triIdx (enc := Attr.cs) (L := l) (row := [dS x6.Name, dI x6.Value.Kind, dI x6.Value.N, dS x6.Value.S, .sl (List.map AValue.cs x6.Value.L)]) hx6 rfl rfl rfl rfl (fun _ => rfl) trivial rfl) (OkOps.y (.agg [cS x6.Name, cI x6.Value.Kind, cI x6.Value.N, cS x6.Value.S, .d (.sl (List.map AValue.cs x6.Value.L))]) (OkOps.m 0 (triAlloc (j := 1) (cs := [cS ByteArray.empty, cI 0, cI 0, cS ByteArray.empty, .d (.v (.slice none 0 0))]) rfl rfl rfl rfl) (OkOps.w (triStore (cs' := [cS x6.Name, cI x6.Value.Kind, cI x6.Value.N, cS x6.Value.S, .d (.sl (List.map AValue.cs x6.Value.L))]) rfl rfl rfl rfl rfl rfl rfl rfl rfl) (OkOps.nil (Ok.seq (Ok.region (OkOps.y (.c (.loc 1 0)) (OkOps.y (aS x6.Name) (OkOps.y (aS name) (OkOps.y (aB (x6.Name.toList == name.toList)) (OkOps.nil ?_)))))))))))
  refine Ok.cond (b := x6.Name.toList == name.toList) rfl (fun h7 => ?_) (fun h7 => ?_)
  have hr := selT h7 hr
  refine Ok.seq (Ok.region (OkOps.y (.c (.loc 1 1)) (OkOps.y (.agg [cI x6.Value.Kind, cI x6.Value.N, cS x6.Value.S, .d (.sl (List.map AValue.cs x6.Value.L))]) ?_)))
  obtain ⟨x8, hx8, hr⟩ := bind_some hr
  refine OkOps.q (triCl (tau []) (.s (.agg [cI x8.Kind, cI x8.N, cS x8.S, .d (.sl (List.map AValue.cs x8.L))])) [] (vw_value_c _ _ hx8) rfl ⟨.inl rfl, trivial⟩ trivial entry64 trivial) (OkOps.w (triStore (cs' := [cI x8.Kind, cI x8.N, cS x8.S, .d (.sl (List.map AValue.cs x8.L))]) rfl rfl rfl rfl rfl rfl rfl rfl rfl) (OkOps.y (aB true) (OkOps.nil (Ok.ret ?_))))
  obtain rfl := Option.some.inj hr
  exact ⟨_, rfl, .inl rfl, trivial⟩
  have hr := selF h7 hr
  refine Ok.skip (Ok.region (OkOps.y (aI (IntKind.i64.wrap (s3 + 1))) (OkOps.y (aI (IntKind.i64.wrap (s3 + 1))) (OkOps.nil ?_))))
  exact ⟨IntKind.i64.wrap (s3 + 1), hr, (Conv.mk (tau []) ⟨⟨_, rfl, .inl rfl⟩, ⟨_, rfl, .inl rfl⟩, ⟨_, rfl, .inl rfl⟩, ⟨_, rfl, .inl rfl⟩, ⟨_, rfl, .inl rfl⟩, trivial⟩ ⟨rfl, trivial⟩ rfl rfl rfl rfl)⟩
  have hr := selF h5 hr
  refine Ok.exit ?_
  exact ⟨(), hr, (Conv.mk (tau []) ⟨⟨_, rfl, .inl rfl⟩, trivial⟩ ⟨rfl, trivial⟩ rfl rfl rfl rfl)⟩
theorem vw_Flag_c (l : (List Attr)) (name : Str) {r : Bool} (hr : vw_Flag l name = some r) : Con Tryd.prog 87 [.c (.d (.sl (List.map Attr.cs l))), aS name] [] (.s (aB r)) [] := by
  unfold vw_Flag at hr
  refine Con.of_ok 21 0 [.tmp 4] [(0, .s (.c (.d (.sl (List.map Attr.cs l))))), (1, .s (aS name))] Tryd.func87 rfl rfl rfl rfl rfl rfl rfl rfl fun w g M ρ _ => (Ok.seq (Ok.region (OkOps.y (aB false) (OkOps.nil (Ok.seq (Ok.region (OkOps.y (.c (.d (.sl (List.map Attr.cs l)))) (OkOps.y (aS name) ?_))))))))
  obtain ⟨x1, hx1, hr⟩ := bind_some hr
  refine OkOps.q (triCl (tau []) (.tup [.agg [cI x1.1.Kind, cI x1.1.N, cS x1.1.S, .d (.sl (List.map AValue.cs x1.1.L))], aB x1.2]) [] (vw_Attr_c _ _ hx1) rfl ⟨.inl rfl, .inl rfl, trivial⟩ trivial entry40 trivial) (OkOps.q (triMv (v := .tup [.agg [cI x1.1.Kind, cI x1.1.N, cS x1.1.S, .d (.sl (List.map AValue.cs x1.1.L))], aB x1.2]) rfl rfl) (OkOps.y (.agg [cI x1.1.Kind, cI x1.1.N, cS x1.1.S, .d (.sl (List.map AValue.cs x1.1.L))]) (OkOps.y (aB x1.2) (OkOps.m 0 (triAlloc (j := 0) (cs := [cI 0, cI 0, cS ByteArray.empty, .d (.v (.slice none 0 0))]) rfl rfl rfl rfl) (OkOps.w (triStore (cs' := [cI x1.1.Kind, cI x1.1.N, cS x1.1.S, .d (.sl (List.map AValue.cs x1.1.L))]) rfl rfl rfl rfl rfl rfl rfl rfl rfl) (OkOps.y (aB x1.2) (OkOps.nil (Ok.seq (Ok.region (OkOps.y (.c (.loc 0 0)) (OkOps.y (aI x1.1.Kind) (OkOps.y (aB (x1.1.Kind == 2)) (OkOps.y (aB (x1.1.Kind == 2)) (OkOps.q (triQG (x := .c (.loc 0 1)) rfl rfl trivial rfl) (OkOps.q (triQG (x := aI x1.1.N) rfl rfl ⟨fun h => h, trivial⟩ rfl) ?_)))))))))))))))
  refine OkOps.q (triQG (x := aB (x1.1.N == 1)) rfl rfl ⟨fun h => h, trivial⟩ rfl) (OkOps.q (triAnd rfl rfl (fun h => h) rfl) (OkOps.y (aB ((x1.1.Kind == 2) && (x1.1.N == 1))) (OkOps.nil (Ok.ret ?_))))
  obtain rfl := Option.some.inj hr
  exact ⟨_, rfl, .inl rfl, trivial⟩
end Go.Proofs.YtobiohcdpfpefaaDoor
end
section
set_option maxRecDepth 100000
namespace Go.Proofs.YtobiohcdpfpefaaDoor
open Go Go.E2
theorem widgetry_style_exists_c (prop : Int) {r : Bool} (hr : widgetry_style_exists prop = some r) : Con Tryd.prog 113 [aI prop] [] (.s (aB r)) [] := by
  unfold widgetry_style_exists at hr
  refine Con.of_ok 9 0 [.tmp 2] [(0, .s (aI prop))] Tryd.func113 rfl rfl rfl rfl rfl rfl rfl rfl fun w g M ρ _ => (Ok.seq (Ok.region (OkOps.y (aB false) (OkOps.nil (Ok.seq (Ok.region (OkOps.y (aI prop) (OkOps.y (aB (decide (prop ≥ 0))) (OkOps.y (aB (decide (prop ≥ 0))) (OkOps.q (triQG (x := aI prop) rfl rfl trivial rfl) (OkOps.q (triQG (x := aB (decide (prop < 22))) rfl rfl ⟨fun h => h, trivial⟩ rfl) (OkOps.q (triAnd rfl rfl (fun h => h) rfl) (OkOps.y (aB ((decide (prop ≥ 0)) && (decide (prop < 22)))) (OkOps.nil (Ok.ret ?_)))))))))))))))
  obtain rfl := Option.some.inj hr
  exact ⟨_, rfl, .inl rfl, trivial⟩
theorem widgetry_style_InRange_c (prop : Int) (p_n : Int) {r : Bool} (hr : widgetry_style_InRange prop p_n = some r) : Con Tryd.prog 104 [aI prop, aI p_n] [] (.s (aB r)) [] := by
  unfold widgetry_style_InRange at hr
  refine Con.of_ok 23 0 [.tmp 4] [(0, .s (aI prop)), (1, .s (aI p_n))] Tryd.func104 rfl rfl rfl rfl rfl rfl rfl rfl fun w g M ρ _ => (Ok.seq (Ok.region (OkOps.y (aB false) (OkOps.nil (Ok.seq (Ok.region (OkOps.y (aI prop) ?_)))))))
  obtain ⟨x1, hx1, hr⟩ := bind_some hr
  refine OkOps.q (triCl (tau []) (.s (aB x1)) [] (widgetry_style_exists_c _ hx1) rfl ⟨.inl rfl, trivial⟩ trivial entry113 trivial) (OkOps.y (aB x1) (OkOps.q (triQG (x := aI p_n) rfl rfl trivial rfl) (OkOps.q (triQG (x := aI prop) rfl rfl trivial rfl) ?_)))
  obtain ⟨x2, hx2, hr⟩ := bind_some hr
  refine OkOps.q (triStyG (y := x2) (fun hg => gO_t hx2 hg) (by kernel_rfl) rfl rfl rfl ⟨fun h => h, trivial⟩ rfl) (OkOps.q (triQG (x := .c (.pt [dI x2.2.1, dI x2.2.2.1, dI x2.2.2.2])) rfl rfl ⟨fun h => h, trivial⟩ rfl) (OkOps.q (triQG (x := aI x2.2.1) rfl rfl ⟨fun h => h, trivial⟩ rfl) (OkOps.q (triQG (x := aB (decide (p_n ≥ x2.2.1))) rfl rfl ⟨fun h => h, ⟨fun h => h, trivial⟩⟩ rfl) (OkOps.q (triAnd rfl rfl (fun h => h) rfl) (OkOps.y (aB (x1 && (decide (p_n ≥ x2.2.1)))) (OkOps.q (triQG (x := aI p_n) rfl rfl trivial rfl) (OkOps.q (triQG (x := aI prop) rfl rfl trivial rfl) ?_)))))))
  obtain ⟨x3, hx3, hr⟩ := bind_some hr
  refine OkOps.q (triStyG (y := x3) (fun hg => gO_t hx3 hg) (by kernel_rfl) rfl rfl rfl ⟨fun h => h, trivial⟩ rfl) (OkOps.q (triQG (x := .c (.pt [dI x3.2.2.1, dI x3.2.2.2])) rfl rfl ⟨fun h => h, trivial⟩ rfl) (OkOps.q (triQG (x := aI x3.2.2.1) rfl rfl ⟨fun h => h, trivial⟩ rfl) (OkOps.q (triQG (x := aB (decide (p_n ≤ x3.2.2.1))) rfl rfl ⟨fun h => h, ⟨fun h => h, trivial⟩⟩ rfl) (OkOps.q (triAnd rfl rfl (fun h => h) rfl) (OkOps.y (aB ((x1 && (decide (p_n ≥ x2.2.1))) && (decide (p_n ≤ x3.2.2.1)))) (OkOps.nil (Ok.ret ?_)))))))
  obtain rfl := Option.some.inj hr
  exact ⟨_, rfl, .inl rfl, trivial⟩
theorem r17_Initial_c  {r : (Nat → Int)} (hr : r17_Initial  = some r) : Con Tryd.prog 20 [] [] (.s (.agg [cI (r 0), cI (r 1), cI (r 2), cI (r 3), cI (r 4), cI (r 5), cI (r 6), cI (r 7), cI (r 8), cI (r 9), cI (r 10), cI (r 11), cI (r 12), cI (r 13), cI (r 14), cI (r 15), cI (r 16), cI (r 17), cI (r 18), cI (r 19), cI (r 20), cI (r 21)])) [] := by
  unfold r17_Initial at hr
  refine Con.of_ok 11 0 [.cell 0 64] [] Tryd.func20 rfl rfl rfl rfl rfl rfl rfl rfl fun w g M ρ _ => (Ok.seq (Ok.region (OkOps.m 0 (triAlloc (j := 0) (cs := ([] ++ (arrC 22 (dInt .i64) (fun _ => 0) ++ []))) rfl rfl rfl rfl) (OkOps.nil (Ok.seq (Ok.region (OkOps.m 0 (triAlloc (j := 1) (cs := ([] ++ (arrC 22 (dInt .i64) (fun _ => 0) ++ []))) rfl rfl rfl rfl) (OkOps.nil (Ok.seq (Ok.region (OkOps.y (.c (.loc 1 1)) (OkOps.w (triStore (cs' := ([] ++ (arrC 22 (dInt .i64) (upd (fun _ => 0) 1 (-1)) ++ []))) rfl rfl rfl rfl rfl rfl rfl rfl rfl) (OkOps.nil (Ok.seq (Ok.region ?_)))))))))))))))
  refine OkOps.y (.c (.loc 1 2)) (OkOps.w (triStore (cs' := ([] ++ (arrC 22 (dInt .i64) (upd (upd (fun _ => 0) 1 (-1)) 2 16) ++ []))) rfl rfl rfl rfl rfl rfl rfl rfl rfl) (OkOps.nil (Ok.seq (Ok.region (OkOps.y (.c (.loc 1 5)) (OkOps.w (triStore (cs' := ([] ++ (arrC 22 (dInt .i64) (upd (upd (upd (fun _ => 0) 1 (-1)) 2 16) 5 1) ++ []))) rfl rfl rfl rfl rfl rfl rfl rfl rfl) (OkOps.nil (Ok.seq (Ok.region (OkOps.y (.c (.loc 1 6)) (OkOps.w (triStore (cs' := ([] ++ (arrC 22 (dInt .i64) (upd (upd (upd (upd (fun _ => 0) 1 (-1)) 2 16) 5 1) 6 3) ++ []))) rfl rfl rfl rfl rfl rfl rfl rfl rfl) (OkOps.nil (Ok.seq (Ok.region (OkOps.y (.c (.loc 1 11)) ?_)))))))))))))))
  refine OkOps.w (triStore (cs' := ([] ++ (arrC 22 (dInt .i64) (upd (upd (upd (upd (upd (fun _ => 0) 1 (-1)) 2 16) 5 1) 6 3) 11 1) ++ []))) rfl rfl rfl rfl rfl rfl rfl rfl rfl) (OkOps.nil (Ok.seq (Ok.region (OkOps.y (.c (.loc 1 12)) (OkOps.w (triStore (cs' := ([] ++ (arrC 22 (dInt .i64) (upd (upd (upd (upd (upd (upd (fun _ => 0) 1 (-1)) 2 16) 5 1) 6 3) 11 1) 12 (-1)) ++ []))) rfl rfl rfl rfl rfl rfl rfl rfl rfl) (OkOps.nil (Ok.seq (Ok.region (OkOps.y (.c (.loc 1 14)) (OkOps.w (triStore (cs' := ([] ++ (arrC 22 (dInt .i64) (upd (upd (upd (upd (upd (upd (upd (fun _ => 0) 1 (-1)) 2 16) 5 1) 6 3) 11 1) 12 (-1)) 14 1048576) ++ []))) rfl rfl rfl rfl rfl rfl rfl rfl rfl) (OkOps.nil (Ok.seq (Ok.region (OkOps.y (.c (.loc 1 16)) (OkOps.w (triStore (cs' := ([] ++ (arrC 22 (dInt .i64) (upd (upd (upd (upd (upd (upd (upd (upd (fun _ => 0) 1 (-1)) 2 16) 5 1) 6 3) 11 1) 12 (-1)) 14 1048576) 16 1048576) ++ []))) rfl rfl rfl rfl rfl rfl rfl rfl rfl) ?_)))))))))))))))
  refine OkOps.nil (Ok.seq (Ok.region (OkOps.y (.agg [cI ((upd (upd (upd (upd (upd (upd (upd (upd (fun _ => 0) 1 (-1)) 2 16) 5 1) 6 3) 11 1) 12 (-1)) 14 1048576) 16 1048576) 0), cI ((upd (upd (upd (upd (upd (upd (upd (upd (fun _ => 0) 1 (-1)) 2 16) 5 1) 6 3) 11 1) 12 (-1)) 14 1048576) 16 1048576) 1), cI ((upd (upd (upd (upd (upd (upd (upd (upd (fun _ => 0) 1 (-1)) 2 16) 5 1) 6 3) 11 1) 12 (-1)) 14 1048576) 16 1048576) 2), cI ((upd (upd (upd (upd (upd (upd (upd (upd (fun _ => 0) 1 (-1)) 2 16) 5 1) 6 3) 11 1) 12 (-1)) 14 1048576) 16 1048576) 3), cI ((upd (upd (upd (upd (upd (upd (upd (upd (fun _ => 0) 1 (-1)) 2 16) 5 1) 6 3) 11 1) 12 (-1)) 14 1048576) 16 1048576) 4), cI ((upd (upd (upd (upd (upd (upd (upd (upd (fun _ => 0) 1 (-1)) 2 16) 5 1) 6 3) 11 1) 12 (-1)) 14 1048576) 16 1048576) 5), cI ((upd (upd (upd (upd (upd (upd (upd (upd (fun _ => 0) 1 (-1)) 2 16) 5 1) 6 3) 11 1) 12 (-1)) 14 1048576) 16 1048576) 6), cI ((upd (upd (upd (upd (upd (upd (upd (upd (fun _ => 0) 1 (-1)) 2 16) 5 1) 6 3) 11 1) 12 (-1)) 14 1048576) 16 1048576) 7), cI ((upd (upd (upd (upd (upd (upd (upd (upd (fun _ => 0) 1 (-1)) 2 16) 5 1) 6 3) 11 1) 12 (-1)) 14 1048576) 16 1048576) 8), cI ((upd (upd (upd (upd (upd (upd (upd (upd (fun _ => 0) 1 (-1)) 2 16) 5 1) 6 3) 11 1) 12 (-1)) 14 1048576) 16 1048576) 9), cI ((upd (upd (upd (upd (upd (upd (upd (upd (fun _ => 0) 1 (-1)) 2 16) 5 1) 6 3) 11 1) 12 (-1)) 14 1048576) 16 1048576) 10), cI ((upd (upd (upd (upd (upd (upd (upd (upd (fun _ => 0) 1 (-1)) 2 16) 5 1) 6 3) 11 1) 12 (-1)) 14 1048576) 16 1048576) 11), cI ((upd (upd (upd (upd (upd (upd (upd (upd (fun _ => 0) 1 (-1)) 2 16) 5 1) 6 3) 11 1) 12 (-1)) 14 1048576) 16 1048576) 12), cI ((upd (upd (upd (upd (upd (upd (upd (upd (fun _ => 0) 1 (-1)) 2 16) 5 1) 6 3) 11 1) 12 (-1)) 14 1048576) 16 1048576) 13), cI ((upd (upd (upd (upd (upd (upd (upd (upd (fun _ => 0) 1 (-1)) 2 16) 5 1) 6 3) 11 1) 12 (-1)) 14 1048576) 16 1048576) 14), cI ((upd (upd (upd (upd (upd (upd (upd (upd (fun _ => 0) 1 (-1)) 2 16) 5 1) 6 3) 11 1) 12 (-1)) 14 1048576) 16 1048576) 15), cI ((upd (upd (upd (upd (upd (upd (upd (upd (fun _ => 0) 1 (-1)) 2 16) 5 1) 6 3) 11 1) 12 (-1)) 14 1048576) 16 1048576) 16), cI ((upd (upd (upd (upd (upd (upd (upd (upd (fun _ => 0) 1 (-1)) 2 16) 5 1) 6 3) 11 1) 12 (-1)) 14 1048576) 16 1048576) 17), cI ((upd (upd (upd (upd (upd (upd (upd (upd (fun _ => 0) 1 (-1)) 2 16) 5 1) 6 3) 11 1) 12 (-1)) 14 1048576) 16 1048576) 18), cI ((upd (upd (upd (upd (upd (upd (upd (upd (fun _ => 0) 1 (-1)) 2 16) 5 1) 6 3) 11 1) 12 (-1)) 14 1048576) 16 1048576) 19), cI ((upd (upd (upd (upd (upd (upd (upd (upd (fun _ => 0) 1 (-1)) 2 16) 5 1) 6 3) 11 1) 12 (-1)) 14 1048576) 16 1048576) 20), cI ((upd (upd (upd (upd (upd (upd (upd (upd (fun _ => 0) 1 (-1)) 2 16) 5 1) 6 3) 11 1) 12 (-1)) 14 1048576) 16 1048576) 21)]) (OkOps.w (triStore (cs' := ([] ++ (arrC 22 (dInt .i64) (upd (upd (upd (upd (upd (upd (upd (upd (fun _ => 0) 1 (-1)) 2 16) 5 1) 6 3) 11 1) 12 (-1)) 14 1048576) 16 1048576) ++ []))) rfl rfl rfl rfl rfl rfl rfl rfl (by kernel_rfl)) (OkOps.nil (Ok.ret ?_))))))
  obtain rfl := Option.some.inj hr
  exact ⟨_, rfl, .inl rfl, trivial⟩
end Go.Proofs.YtobiohcdpfpefaaDoor
end

/-
  Part 5 of the texts under the law NameOrder: the calculus, the plain functions, their walks, plain facts.
-/
import Derived.Test.YtfoigppmcelgfaaGreatDoorNameOrderB4
import Derived.Test.YtfoigppmcelgfaaGreatDoorProg
import Derived.KernelRfl
section
set_option maxRecDepth 100000
namespace Go.Proofs.YtfoigppmcelgfaaGreatDoor
open Go Go.E2
theorem r14_validate_B_c (self0 : View → Int → Int → Option (Int × Int)) (hself0 : ∀ (v : View) (depth : Int) (met : Int) {r : Int × Int}, self0 v depth met = some r → Con Tryz.prog 75 [.agg [cI v.Kind, cS v.Key, .d (.sl (List.map Attr.cs v.Attrs)), .d (.sl (List.map Action.cs v.Actions)), .d (.sl (List.map View.cs v.Kids))], aI depth, aI met] [] (.tup [aI r.1, aI r.2]) []) (v : View) (depth : Int) (met : Int) {r : Int × Int} (hr : r14_validate_B self0 v depth met = some r) : Con Tryz.prog 75 [.agg [cI v.Kind, cS v.Key, .d (.sl (List.map Attr.cs v.Attrs)), .d (.sl (List.map Action.cs v.Actions)), .d (.sl (List.map View.cs v.Kids))], aI depth, aI met] [] (.tup [aI r.1, aI r.2]) [] := by
  unfold r14_validate_B at hr
  refine Con.of_ok 230 0 [.tmp 6, .tmp 7] [(0, .s (.agg [cI v.Kind, cS v.Key, .d (.sl (List.map Attr.cs v.Attrs)), .d (.sl (List.map Action.cs v.Actions)), .d (.sl (List.map View.cs v.Kids))])), (1, .s (aI depth)), (2, .s (aI met))] Tryz.func75 rfl rfl rfl rfl rfl rfl rfl rfl fun w g M ρ _ => (Ok.seq (Ok.region (OkOps.m 0 (triBox (j := 0) (cs := [cI v.Kind, cS v.Key, .d (.sl (List.map Attr.cs v.Attrs)), .d (.sl (List.map Action.cs v.Actions)), .d (.sl (List.map View.cs v.Kids))]) rfl rfl rfl rfl rfl) (OkOps.y (aI 0) (OkOps.y (aI 0) (OkOps.nil (Ok.seq (Ok.region (OkOps.y (aI met) (OkOps.y (aI (IntKind.i64.wrap (met + 1))) (OkOps.y (aI (IntKind.i64.wrap (met + 1))) (OkOps.nil (Ok.seq (Ok.seq (Ok.region ?_)))))))))))))))
  refine OkOps.y (aI depth) (OkOps.y (aB (decide (depth > 16))) (OkOps.nil ?_))
  refine Ok.cond (b := decide (depth > 16)) rfl (fun h1 => ?_) (fun h1 => ?_)
  have hr := selT h1 hr
  refine Ok.seq (Ok.region (OkOps.y (aI (IntKind.i64.wrap (met + 1))) (OkOps.y (aI (IntKind.i64.wrap (met + 1))) (OkOps.y (aI 8) (OkOps.nil (Ok.ret ?_))))))
  obtain rfl := Option.some.inj hr
  exact ⟨_, rfl, .inl rfl, trivial⟩
  have hr := selF h1 hr
  refine Ok.skip (Ok.seq (Ok.seq (Ok.region (OkOps.y (aI (IntKind.i64.wrap (met + 1))) (OkOps.y (aB (decide ((IntKind.i64.wrap (met + 1)) > 400))) (OkOps.nil ?_))))))
  refine Ok.cond (b := decide ((IntKind.i64.wrap (met + 1)) > 400)) rfl (fun h2 => ?_) (fun h2 => ?_)
  have hr := selT h2 hr
  refine Ok.seq (Ok.region (OkOps.y (aI (IntKind.i64.wrap (met + 1))) (OkOps.y (aI (IntKind.i64.wrap (met + 1))) (OkOps.y (aI 2) (OkOps.nil (Ok.ret ?_))))))
  obtain rfl := Option.some.inj hr
  exact ⟨_, rfl, .inl rfl, trivial⟩
  have hr := selF h2 hr
  refine Ok.skip (Ok.seq (Ok.seq (Ok.region (OkOps.y (.c (.loc 0 0)) (OkOps.y (aI v.Kind) (OkOps.y (aB (decide (v.Kind < 1))) (OkOps.y (aB (decide (v.Kind < 1))) (OkOps.q (triQG (x := .c (.loc 0 0)) rfl rfl trivial rfl) (OkOps.q (triQG (x := aI v.Kind) rfl rfl ⟨fun h => h, trivial⟩ rfl) (OkOps.q (triQG (x := aB (decide (v.Kind > 13))) rfl rfl ⟨fun h => h, trivial⟩ rfl) ?_))))))))))
  refine OkOps.q (triOr rfl rfl (fun h => by rw [h]; rfl) rfl) ?_
  refine OkOps.nil ?_
  refine Ok.cond (b := (decide (v.Kind < 1)) || (decide (v.Kind > 13))) rfl (fun h3 => ?_) (fun h3 => ?_)
  have hr := selT h3 hr
  refine Ok.seq (Ok.region (OkOps.y (aI (IntKind.i64.wrap (met + 1))) (OkOps.y (aI (IntKind.i64.wrap (met + 1))) (OkOps.y (aI 9) (OkOps.nil (Ok.ret ?_))))))
  obtain rfl := Option.some.inj hr
  exact ⟨_, rfl, .inl rfl, trivial⟩
  have hr := selF h3 hr
  refine Ok.skip (Ok.seq (Ok.seq (Ok.region (OkOps.y (.c (.loc 0 1)) (OkOps.y (aS v.Key) ?_)))))
  obtain ⟨x4, hx4, hr⟩ := bind_some hr
  refine OkOps.q (triCl (tau []) (.s (aB x4)) [] (r14_Key_c _ hx4) rfl ⟨.inl rfl, trivial⟩ trivial entry110 trivial) (OkOps.y (aB (!x4)) (OkOps.nil ?_))
  refine Ok.cond (b := !x4) rfl (fun h5 => ?_) (fun h5 => ?_)
  have hr := selT h5 hr
  refine Ok.seq (Ok.region (OkOps.y (aI (IntKind.i64.wrap (met + 1))) (OkOps.y (aI (IntKind.i64.wrap (met + 1))) (OkOps.y (aI 4) (OkOps.nil (Ok.ret ?_))))))
  obtain rfl := Option.some.inj hr
  exact ⟨_, rfl, .inl rfl, trivial⟩
  have hr := selF h5 hr
  refine Ok.skip (Ok.seq (Ok.seq (Ok.region (OkOps.y (.c (.loc 0 2)) (OkOps.y (.c (.d (.sl (List.map Attr.cs v.Attrs)))) (OkOps.q (triLen (enc := Attr.cs) v.Attrs rfl rfl trivial rfl) (OkOps.y (aB (decide ((v.Attrs.length : Int) > 24))) (OkOps.y (aB (decide ((v.Attrs.length : Int) > 24))) (OkOps.q (triQG (x := .c (.loc 0 3)) rfl rfl trivial rfl) (OkOps.q (triQG (x := .c (.d (.sl (List.map Action.cs v.Actions)))) rfl rfl ⟨fun h => h, trivial⟩ rfl) (OkOps.q (triLenG (enc := Action.cs) v.Actions rfl rfl rfl ⟨fun h => h, trivial⟩ rfl) (OkOps.q (triQG (x := aB (decide ((v.Actions.length : Int) > 24))) rfl rfl ⟨fun h => h, trivial⟩ rfl) ?_))))))))))))
  refine OkOps.q (triOr rfl rfl (fun h => by rw [h]; rfl) rfl) ?_
  refine OkOps.y (aB ((decide ((v.Attrs.length : Int) > 24)) || (decide ((v.Actions.length : Int) > 24)))) (OkOps.q (triQG (x := .c (.loc 0 4)) rfl rfl trivial rfl) (OkOps.q (triQG (x := .c (.d (.sl (List.map View.cs v.Kids)))) rfl rfl ⟨fun h => h, trivial⟩ rfl) (OkOps.q (triLenG (enc := View.cs) v.Kids rfl rfl rfl ⟨fun h => h, trivial⟩ rfl) (OkOps.q (triQG (x := aB (decide ((v.Kids.length : Int) > 100))) rfl rfl ⟨fun h => h, trivial⟩ rfl) ?_))))
  refine OkOps.q (triOr rfl rfl (fun h => by rw [h]; rfl) rfl) ?_
  refine OkOps.nil ?_
  refine Ok.cond (b := ((decide ((v.Attrs.length : Int) > 24)) || (decide ((v.Actions.length : Int) > 24))) || (decide ((v.Kids.length : Int) > 100))) rfl (fun h6 => ?_) (fun h6 => ?_)
  have hr := selT h6 hr
  refine Ok.seq (Ok.region (OkOps.y (aI (IntKind.i64.wrap (met + 1))) (OkOps.y (aI (IntKind.i64.wrap (met + 1))) (OkOps.y (aI 2) (OkOps.nil (Ok.ret ?_))))))
  obtain rfl := Option.some.inj hr
  exact ⟨_, rfl, .inl rfl, trivial⟩
  have hr := selF h6 hr
  refine Ok.skip ?_
  obtain ⟨k8, hk8, hr⟩ := jn_some hr
  refine Ok.join (fun (s7 : Unit) => ⟨[(1, .s (aI depth)), (2, .s (aI (IntKind.i64.wrap (met + 1)))), (3, .s (.c (.loc 0 0)))], [(0, .blk [cI v.Kind, cS v.Key, .d (.sl (List.map Attr.cs v.Attrs)), .d (.sl (List.map Action.cs v.Actions)), .d (.sl (List.map View.cs v.Kids))] 27)], 0⟩) k8 r (fun s7 hr => ?_) ?_
  rw [hk8] at hr
  obtain ⟨k10, hk10, hr⟩ := jn_some hr
  refine Ok.join (fun (s9 : Unit) => ⟨[(1, .s (aI depth)), (2, .s (aI (IntKind.i64.wrap (met + 1)))), (3, .s (.c (.loc 0 0)))], [(0, .blk [cI v.Kind, cS v.Key, .d (.sl (List.map Attr.cs v.Attrs)), .d (.sl (List.map Action.cs v.Actions)), .d (.sl (List.map View.cs v.Kids))] 27)], 0⟩) k10 r (fun s9 hr => ?_) ?_
  rw [hk10] at hr
  obtain ⟨k12, hk12, hr⟩ := jn_some hr
  refine Ok.join (fun (s11 : Unit) => ⟨[(1, .s (aI depth)), (2, .s (aI (IntKind.i64.wrap (met + 1)))), (3, .s (.c (.loc 0 0)))], [(0, .blk [cI v.Kind, cS v.Key, .d (.sl (List.map Attr.cs v.Attrs)), .d (.sl (List.map Action.cs v.Actions)), .d (.sl (List.map View.cs v.Kids))] 27)], 0⟩) k12 r (fun s11 hr => ?_) ?_
  rw [hk12] at hr
  obtain ⟨k14, hk14, hr⟩ := jn_some hr
  refine Ok.join (fun (s13 : Int) => ⟨[(2, .s (aI s13))], [], 0⟩) k14 r (fun s13 hr => ?_) ?_
  rw [hk14] at hr
  refine Ok.seq (Ok.region (OkOps.y (aI s13) (OkOps.y (aI s13) (OkOps.y (aI 0) (OkOps.nil (Ok.ret ?_))))))
  obtain rfl := Option.some.inj hr
  exact ⟨_, rfl, .inl rfl, trivial⟩
  clear hk14
  refine Ok.seq (Ok.region (OkOps.y (aI 0) (OkOps.nil (Ok.block (Ok.loopK (fun (s15 : Int × Int) => ⟨[(1, .s (aI depth)), (2, .s (aI s15.1)), (3, .s (.c (.loc 0 0))), (16, .s (aI s15.2))], [(0, .blk [cI v.Kind, cS v.Key, .d (.sl (List.map Attr.cs v.Attrs)), .d (.sl (List.map Action.cs v.Actions)), .d (.sl (List.map View.cs v.Kids))] 27)], 0⟩) hr (Conv.mk (tau []) ⟨⟨_, rfl, .inl rfl⟩, ⟨_, rfl, .inl rfl⟩, ⟨_, rfl, .inl rfl⟩, ⟨_, rfl, .inl rfl⟩, trivial⟩ ⟨rfl, trivial⟩ rfl rfl rfl rfl) ?_)))))
  clear hr
  intro again16 s15 hr
  unfold r14_validate_L1 at hr
  refine Ok.seq (Ok.seq (Ok.region (OkOps.y (aI s15.2) (OkOps.y (.c (.loc 0 4)) (OkOps.y (.c (.d (.sl (List.map View.cs v.Kids)))) (OkOps.q (triLen (enc := View.cs) v.Kids rfl rfl trivial rfl) (OkOps.y (aB (decide (s15.2 < (v.Kids.length : Int)))) (OkOps.nil ?_))))))))
  refine Ok.cond (b := decide (s15.2 < (v.Kids.length : Int))) rfl (fun h17 => ?_) (fun h17 => ?_)
  have hr := selT h17 hr
  refine Ok.skip (Ok.seq (Ok.block (Ok.seq (Ok.region (OkOps.y (.c (.loc 0 4)) (OkOps.y (.c (.d (.sl (List.map View.cs v.Kids)))) (OkOps.y (aI s15.2) ?_)))))))
  obtain ⟨x18, hx18, hr⟩ := bind_some hr
  refine OkOps.q (triIdx (enc := View.cs) (L := v.Kids) (row := [dI x18.Kind, dS x18.Key, .sl (List.map Attr.cs x18.Attrs), .sl (List.map Action.cs x18.Actions), .sl (List.map View.cs x18.Kids)]) hx18 (View.cs_eq _) rfl rfl rfl (fun x => by rw [View.cs_eq]; rfl) trivial rfl) ?_
  refine OkOps.y (.agg [cI x18.Kind, cS x18.Key, .d (.sl (List.map Attr.cs x18.Attrs)), .d (.sl (List.map Action.cs x18.Actions)), .d (.sl (List.map View.cs x18.Kids))]) (OkOps.y (aI depth) (OkOps.y (aI (IntKind.i64.wrap (depth + 1))) (OkOps.y (aI s15.1) ?_)))
  obtain ⟨x19, hx19, hr⟩ := bind_some hr
  refine OkOps.q (triCl (tau []) (.tup [aI x19.1, aI x19.2]) [] (hself0 _ _ _ hx19) rfl ⟨.inl rfl, .inl rfl, .inl rfl, trivial⟩ trivial entry75 trivial) (OkOps.q (triMv (v := .tup [aI x19.1, aI x19.2]) rfl rfl) (OkOps.y (aI x19.1) (OkOps.y (aI x19.2) (OkOps.y (aI x19.1) (OkOps.y (aI x19.2) (OkOps.nil (Ok.seq (Ok.region (OkOps.y (aI x19.1) (OkOps.y (aI x19.1) (OkOps.nil (Ok.seq (Ok.region (OkOps.y (aI x19.2) (OkOps.y (aB (x19.2 != 0)) ?_)))))))))))))))
  refine OkOps.nil ?_
  refine Ok.cond (b := x19.2 != 0) rfl (fun h20 => ?_) (fun h20 => ?_)
  have hr := selT h20 hr
  refine Ok.seq (Ok.region (OkOps.y (aI x19.1) (OkOps.y (aI x19.2) (OkOps.y (aI x19.1) (OkOps.y (aI x19.2) (OkOps.nil (Ok.ret ?_)))))))
  obtain rfl := Option.some.inj hr
  exact ⟨_, rfl, .inl rfl, trivial⟩
  have hr := selF h20 hr
  refine Ok.skip (Ok.region (OkOps.y (aI s15.2) (OkOps.y (aI (IntKind.i64.wrap (s15.2 + 1))) (OkOps.y (aI (IntKind.i64.wrap (s15.2 + 1))) (OkOps.nil ?_)))))
  exact ⟨(x19.1, IntKind.i64.wrap (s15.2 + 1)), hr, (Conv.mk (tau []) ⟨⟨_, rfl, .inl rfl⟩, ⟨_, rfl, .inl rfl⟩, ⟨_, rfl, .inl rfl⟩, ⟨_, rfl, .inl rfl⟩, trivial⟩ ⟨rfl, trivial⟩ rfl rfl rfl rfl)⟩
  have hr := selF h17 hr
  refine Ok.exit ?_
  exact ⟨s15.1, hr, (Conv.mk (tau []) ⟨⟨_, rfl, .inl rfl⟩, trivial⟩ trivial rfl rfl rfl rfl)⟩
  clear hk12
  refine Ok.seq (Ok.region (OkOps.y (aI 0) (OkOps.nil (Ok.block (Ok.loopK (fun (s21 : Int) => ⟨[(1, .s (aI depth)), (2, .s (aI (IntKind.i64.wrap (met + 1)))), (3, .s (.c (.loc 0 0))), (14, .s (aI s21))], [(0, .blk [cI v.Kind, cS v.Key, .d (.sl (List.map Attr.cs v.Attrs)), .d (.sl (List.map Action.cs v.Actions)), .d (.sl (List.map View.cs v.Kids))] 27)], 0⟩) hr (Conv.mk (tau []) ⟨⟨_, rfl, .inl rfl⟩, ⟨_, rfl, .inl rfl⟩, ⟨_, rfl, .inl rfl⟩, ⟨_, rfl, .inl rfl⟩, trivial⟩ ⟨rfl, trivial⟩ rfl rfl rfl rfl) ?_)))))
  clear hr
  intro again22 s21 hr
  unfold r14_validate_L3 at hr
  refine Ok.seq (Ok.seq (Ok.region (OkOps.y (aI s21) (OkOps.y (.c (.loc 0 4)) (OkOps.y (.c (.d (.sl (List.map View.cs v.Kids)))) (OkOps.q (triLen (enc := View.cs) v.Kids rfl rfl trivial rfl) (OkOps.y (aB (decide (s21 < (v.Kids.length : Int)))) (OkOps.nil ?_))))))))
  refine Ok.cond (b := decide (s21 < (v.Kids.length : Int))) rfl (fun h23 => ?_) (fun h23 => ?_)
  have hr := selT h23 hr
  refine Ok.skip ?_
  obtain ⟨k25, hk25, hr⟩ := jn_some hr
  refine Ok.join (fun (s24 : Unit) => ⟨[(1, .s (aI depth)), (2, .s (aI (IntKind.i64.wrap (met + 1)))), (3, .s (.c (.loc 0 0))), (14, .s (aI s21))], [(0, .blk [cI v.Kind, cS v.Key, .d (.sl (List.map Attr.cs v.Attrs)), .d (.sl (List.map Action.cs v.Actions)), .d (.sl (List.map View.cs v.Kids))] 27)], 0⟩) k25 r (fun s24 hr => ?_) ?_
  rw [hk25] at hr
  refine Ok.region (OkOps.y (aI s21) (OkOps.y (aI (IntKind.i64.wrap (s21 + 1))) (OkOps.y (aI (IntKind.i64.wrap (s21 + 1))) (OkOps.nil ?_))))
  exact ⟨IntKind.i64.wrap (s21 + 1), hr, (Conv.mk (tau []) ⟨⟨_, rfl, .inl rfl⟩, ⟨_, rfl, .inl rfl⟩, ⟨_, rfl, .inl rfl⟩, ⟨_, rfl, .inl rfl⟩, trivial⟩ ⟨rfl, trivial⟩ rfl rfl rfl rfl)⟩
  clear hk25
  refine Ok.block (Ok.seq (Ok.region (OkOps.y (aI 0) (OkOps.nil ?_))))
  obtain ⟨k27, hk27, hr⟩ := jn_some hr
  refine Ok.joinEnd (fun (s26 : Unit) => ⟨[(1, .s (aI depth)), (2, .s (aI (IntKind.i64.wrap (met + 1)))), (3, .s (.c (.loc 0 0))), (14, .s (aI s21))], [(0, .blk [cI v.Kind, cS v.Key, .d (.sl (List.map Attr.cs v.Attrs)), .d (.sl (List.map Action.cs v.Actions)), .d (.sl (List.map View.cs v.Kids))] 27)], 0⟩) k27 r (fun s26 hr => ?_) ?_
  rw [hk27] at hr
  exact ⟨(), hr, (Conv.mk (tau []) ⟨⟨_, rfl, .inl rfl⟩, ⟨_, rfl, .inl rfl⟩, ⟨_, rfl, .inl rfl⟩, ⟨_, rfl, .inl rfl⟩, trivial⟩ ⟨rfl, trivial⟩ rfl rfl rfl rfl)⟩
  clear hk27
  refine Ok.block (Ok.loopK (fun (s28 : Int) => ⟨[(1, .s (aI depth)), (2, .s (aI (IntKind.i64.wrap (met + 1)))), (3, .s (.c (.loc 0 0))), (14, .s (aI s21)), (15, .s (aI s28))], [(0, .blk [cI v.Kind, cS v.Key, .d (.sl (List.map Attr.cs v.Attrs)), .d (.sl (List.map Action.cs v.Actions)), .d (.sl (List.map View.cs v.Kids))] 27)], 0⟩) hr (Conv.mk (tau []) ⟨⟨_, rfl, .inl rfl⟩, ⟨_, rfl, .inl rfl⟩, ⟨_, rfl, .inl rfl⟩, ⟨_, rfl, .inl rfl⟩, ⟨_, rfl, .inl rfl⟩, trivial⟩ ⟨rfl, trivial⟩ rfl rfl rfl rfl) ?_)
  clear hr
  intro again29 s28 hr
  unfold r14_validate_L2 at hr
  refine Ok.seq (Ok.seq (Ok.region (OkOps.y (aI s28) (OkOps.y (aI s21) (OkOps.y (aB (decide (s28 < s21))) (OkOps.nil ?_))))))
  refine Ok.cond (b := decide (s28 < s21)) rfl (fun h30 => ?_) (fun h30 => ?_)
  have hr := selT h30 hr
  refine Ok.skip (Ok.seq (Ok.block (Ok.seq (Ok.regionD (by kernel_rfl) (OkD.x (.c (.loc 0 4)) rfl trivial rfl (OkD.x (.c (.d (.sl (List.map View.cs v.Kids)))) rfl trivial rfl (OkD.x (aI s21) rfl trivial rfl ?_)))))))
  obtain ⟨x31, hx31, hr⟩ := bind_some hr
  refine OkD.q (triIdx (enc := View.cs) (L := v.Kids) (row := [dI x31.Kind, dS x31.Key, .sl (List.map Attr.cs x31.Attrs), .sl (List.map Action.cs x31.Actions), .sl (List.map View.cs x31.Kids)]) hx31 (View.cs_eq _) rfl rfl rfl (fun x => by rw [View.cs_eq]; rfl) trivial rfl) ?_
  refine OkD.x (.c (.pt [dS x31.Key, .sl (List.map Attr.cs x31.Attrs), .sl (List.map Action.cs x31.Actions), .sl (List.map View.cs x31.Kids)])) rfl trivial rfl (OkD.x (aS x31.Key) rfl trivial rfl (OkD.x (aB (!(x31.Key.toList == (ByteArray.mk #[]).toList))) rfl trivial rfl (OkD.x (aB (!(x31.Key.toList == (ByteArray.mk #[]).toList))) rfl trivial rfl (OkD.q (triQG (x := .c (.loc 0 4)) rfl rfl trivial rfl) (OkD.q (triQG (x := .c (.d (.sl (List.map View.cs v.Kids)))) rfl rfl ⟨fun h => h, trivial⟩ rfl) (OkD.q (triQG (x := aI s21) rfl rfl trivial rfl) ?_))))))
  obtain ⟨x32, hx32, hr⟩ := bind_some hr
  refine OkD.q (triIdxG (enc := View.cs) (L := v.Kids) (row := [dI x32.Kind, dS x32.Key, .sl (List.map Attr.cs x32.Attrs), .sl (List.map Action.cs x32.Actions), .sl (List.map View.cs x32.Kids)]) (gO_t hx32) (View.cs_eq _) rfl rfl rfl rfl (fun x => by rw [View.cs_eq]; rfl) ⟨fun h => h, ⟨fun h => h, trivial⟩⟩ rfl) ?_
  refine OkD.q (triQG (x := .c (.pt [dS x32.Key, .sl (List.map Attr.cs x32.Attrs), .sl (List.map Action.cs x32.Actions), .sl (List.map View.cs x32.Kids)])) rfl rfl ⟨fun h => h, trivial⟩ rfl) (OkD.q (triQG (x := aS x32.Key) rfl rfl ⟨fun h => h, trivial⟩ rfl) (OkD.q (triQG (x := .c (.loc 0 4)) rfl rfl trivial rfl) (OkD.q (triQG (x := .c (.d (.sl (List.map View.cs v.Kids)))) rfl rfl ⟨fun h => h, trivial⟩ rfl) (OkD.q (triQG (x := aI s28) rfl rfl trivial rfl) ?_))))
  obtain ⟨x33, hx33, hr⟩ := bind_some hr
  refine OkD.q (triIdxG (enc := View.cs) (L := v.Kids) (row := [dI x33.Kind, dS x33.Key, .sl (List.map Attr.cs x33.Attrs), .sl (List.map Action.cs x33.Actions), .sl (List.map View.cs x33.Kids)]) (gO_t hx33) (View.cs_eq _) rfl rfl rfl rfl (fun x => by rw [View.cs_eq]; rfl) ⟨fun h => h, ⟨fun h => h, trivial⟩⟩ rfl) ?_
  refine OkD.q (triQG (x := .c (.pt [dS x33.Key, .sl (List.map Attr.cs x33.Attrs), .sl (List.map Action.cs x33.Actions), .sl (List.map View.cs x33.Kids)])) rfl rfl ⟨fun h => h, trivial⟩ rfl) (OkD.q (triQG (x := aS x33.Key) rfl rfl ⟨fun h => h, trivial⟩ rfl) (OkD.q (triQG (x := aB (x32.Key.toList == x33.Key.toList)) rfl rfl ⟨fun h => h, ⟨fun h => h, trivial⟩⟩ rfl) (OkD.q (triAnd rfl rfl (fun h => h) rfl) (OkD.nil (by kernel_rfl) ?_))))
  refine Ok.cond (b := (!(x31.Key.toList == (ByteArray.mk #[]).toList)) && (x32.Key.toList == x33.Key.toList)) rfl (fun h34 => ?_) (fun h34 => ?_)
  have hr := selT h34 hr
  refine Ok.seq (Ok.region (OkOps.y (aI (IntKind.i64.wrap (met + 1))) (OkOps.y (aI (IntKind.i64.wrap (met + 1))) (OkOps.y (aI 6) (OkOps.nil (Ok.ret ?_))))))
  obtain rfl := Option.some.inj hr
  exact ⟨_, rfl, .inl rfl, trivial⟩
  have hr := selF h34 hr
  refine Ok.skip (Ok.region (OkOps.y (aI s28) (OkOps.y (aI (IntKind.i64.wrap (s28 + 1))) (OkOps.y (aI (IntKind.i64.wrap (s28 + 1))) (OkOps.nil ?_)))))
  exact ⟨IntKind.i64.wrap (s28 + 1), hr, (Conv.mk (tau []) ⟨⟨_, rfl, .inl rfl⟩, ⟨_, rfl, .inl rfl⟩, ⟨_, rfl, .inl rfl⟩, ⟨_, rfl, .inl rfl⟩, ⟨_, rfl, .inl rfl⟩, trivial⟩ ⟨rfl, trivial⟩ rfl rfl rfl rfl)⟩
  have hr := selF h30 hr
  refine Ok.exit ?_
  exact ⟨(), hr, (Conv.mk (tau []) ⟨⟨_, rfl, .inl rfl⟩, ⟨_, rfl, .inl rfl⟩, ⟨_, rfl, .inl rfl⟩, ⟨_, rfl, .inl rfl⟩, trivial⟩ ⟨rfl, trivial⟩ rfl rfl rfl rfl)⟩
  have hr := selF h23 hr
  refine Ok.exit ?_
  exact ⟨(), hr, (Conv.mk (tau []) ⟨⟨_, rfl, .inl rfl⟩, ⟨_, rfl, .inl rfl⟩, ⟨_, rfl, .inl rfl⟩, trivial⟩ ⟨rfl, trivial⟩ rfl rfl rfl rfl)⟩
  clear hk10
  refine Ok.seq (Ok.region (OkOps.y (aI 0) (OkOps.nil (Ok.block (Ok.loopK (fun (s35 : Int) => ⟨[(1, .s (aI depth)), (2, .s (aI (IntKind.i64.wrap (met + 1)))), (3, .s (.c (.loc 0 0))), (10, .s (aI s35))], [(0, .blk [cI v.Kind, cS v.Key, .d (.sl (List.map Attr.cs v.Attrs)), .d (.sl (List.map Action.cs v.Actions)), .d (.sl (List.map View.cs v.Kids))] 27)], 0⟩) hr (Conv.mk (tau []) ⟨⟨_, rfl, .inl rfl⟩, ⟨_, rfl, .inl rfl⟩, ⟨_, rfl, .inl rfl⟩, ⟨_, rfl, .inl rfl⟩, trivial⟩ ⟨rfl, trivial⟩ rfl rfl rfl rfl) ?_)))))
  clear hr
  intro again36 s35 hr
  unfold r14_validate_L5 at hr
  refine Ok.seq (Ok.seq (Ok.region (OkOps.y (aI s35) (OkOps.y (.c (.loc 0 3)) (OkOps.y (.c (.d (.sl (List.map Action.cs v.Actions)))) (OkOps.q (triLen (enc := Action.cs) v.Actions rfl rfl trivial rfl) (OkOps.y (aB (decide (s35 < (v.Actions.length : Int)))) (OkOps.nil ?_))))))))
  refine Ok.cond (b := decide (s35 < (v.Actions.length : Int))) rfl (fun h37 => ?_) (fun h37 => ?_)
  have hr := selT h37 hr
  refine Ok.skip ?_
  obtain ⟨k39, hk39, hr⟩ := jn_some hr
  refine Ok.join (fun (s38 : Unit) => ⟨[(1, .s (aI depth)), (2, .s (aI (IntKind.i64.wrap (met + 1)))), (3, .s (.c (.loc 0 0))), (10, .s (aI s35))], [(0, .blk [cI v.Kind, cS v.Key, .d (.sl (List.map Attr.cs v.Attrs)), .d (.sl (List.map Action.cs v.Actions)), .d (.sl (List.map View.cs v.Kids))] 27)], 0⟩) k39 r (fun s38 hr => ?_) ?_
  rw [hk39] at hr
  refine Ok.region (OkOps.y (aI s35) (OkOps.y (aI (IntKind.i64.wrap (s35 + 1))) (OkOps.y (aI (IntKind.i64.wrap (s35 + 1))) (OkOps.nil ?_))))
  exact ⟨IntKind.i64.wrap (s35 + 1), hr, (Conv.mk (tau []) ⟨⟨_, rfl, .inl rfl⟩, ⟨_, rfl, .inl rfl⟩, ⟨_, rfl, .inl rfl⟩, ⟨_, rfl, .inl rfl⟩, trivial⟩ ⟨rfl, trivial⟩ rfl rfl rfl rfl)⟩
  clear hk39
  refine Ok.block (Ok.seq (Ok.region (OkOps.y (.c (.loc 0 3)) (OkOps.y (.c (.d (.sl (List.map Action.cs v.Actions)))) (OkOps.y (aI s35) ?_)))))
  obtain ⟨x40, hx40, hr⟩ := bind_some hr
  refine OkOps.q (triIdx (enc := Action.cs) (L := v.Actions) (row := [dS x40.Event, dS x40.Instance, dS x40.Handler, .sl (List.map AValue.cs x40.Args)]) hx40 rfl rfl rfl rfl (fun _ => rfl) trivial rfl) (OkOps.y (.agg [cS x40.Event, cS x40.Instance, cS x40.Handler, .d (.sl (List.map AValue.cs x40.Args))]) (OkOps.m 0 (triAlloc (j := 1) (cs := [cS ByteArray.empty, cS ByteArray.empty, cS ByteArray.empty, .d (.v (.slice none 0 0))]) rfl rfl rfl rfl) (OkOps.w (triStore (cs' := [cS x40.Event, cS x40.Instance, cS x40.Handler, .d (.sl (List.map AValue.cs x40.Args))]) rfl rfl rfl rfl rfl rfl rfl rfl rfl) (OkOps.nil (Ok.seq (Ok.seq (Ok.region (OkOps.y (.c (.loc 1 0)) (OkOps.y (aS x40.Event) ?_)))))))))
  obtain ⟨x41, hx41, hr⟩ := bind_some hr
  refine OkOps.q (triCl (tau []) (.s (aB x41)) [] (r11_Name_c _ hx41) rfl ⟨.inl rfl, trivial⟩ trivial entry111 trivial) (OkOps.y (aB (!x41)) (OkOps.y (aB (!x41)) (OkOps.q (triQG (x := .c (.loc 1 2)) rfl rfl trivial rfl) (OkOps.q (triQG (x := aS x40.Handler) rfl rfl ⟨fun h => h, trivial⟩ rfl) ?_))))
  obtain ⟨x42, hx42, hr⟩ := bind_some hr
  refine OkOps.q (triCallG (x := aB x42) (fun hg => r11_Name_c _ (gO_t hx42 hg)) rfl rfl ⟨.inl rfl, trivial⟩ ⟨fun h => h, trivial⟩ entry111 rfl rfl rfl) (OkOps.q (triQG (x := aB (!x42)) rfl rfl ⟨fun h => h, trivial⟩ rfl) ?_)
  refine OkOps.q (triOr rfl rfl (fun h => by rw [h]; rfl) rfl) ?_
  refine OkOps.nil ?_
  refine Ok.cond (b := (!x41) || (!x42)) rfl (fun h43 => ?_) (fun h43 => ?_)
  have hr := selT h43 hr
  refine Ok.seq (Ok.region (OkOps.y (aI (IntKind.i64.wrap (met + 1))) (OkOps.y (aI (IntKind.i64.wrap (met + 1))) (OkOps.y (aI 4) (OkOps.nil (Ok.ret ?_))))))
  obtain rfl := Option.some.inj hr
  exact ⟨_, rfl, .inl rfl, trivial⟩
  have hr := selF h43 hr
  refine Ok.skip (Ok.seq (Ok.seq (Ok.regionD (by kernel_rfl) (OkD.x (aI s35) rfl trivial rfl (OkD.x (aB (decide (s35 > 0))) rfl trivial rfl (OkD.x (aB (decide (s35 > 0))) rfl trivial rfl (OkD.q (triQG (x := .c (.loc 1 0)) rfl rfl trivial rfl) (OkD.q (triQG (x := aS x40.Event) rfl rfl ⟨fun h => h, trivial⟩ rfl) (OkD.q (triQG (x := .c (.loc 0 3)) rfl rfl trivial rfl) (OkD.q (triQG (x := .c (.d (.sl (List.map Action.cs v.Actions)))) rfl rfl ⟨fun h => h, trivial⟩ rfl) (OkD.q (triQG (x := aI s35) rfl rfl trivial rfl) (OkD.q (triQG (x := aI (IntKind.i64.wrap (s35 - 1))) rfl rfl ⟨fun h => h, trivial⟩ rfl) ?_))))))))))))
  obtain ⟨x44, hx44, hr⟩ := bind_some hr
  refine OkD.q (triIdxG (enc := Action.cs) (L := v.Actions) (row := [dS x44.Event, dS x44.Instance, dS x44.Handler, .sl (List.map AValue.cs x44.Args)]) (gO_t hx44) rfl rfl rfl rfl rfl (fun _ => rfl) ⟨fun h => h, ⟨fun h => h, trivial⟩⟩ rfl) (OkD.q (triQG (x := .c (.pt [dS x44.Event, dS x44.Instance, dS x44.Handler, .sl (List.map AValue.cs x44.Args)])) rfl rfl ⟨fun h => h, trivial⟩ rfl) (OkD.q (triQG (x := aS x44.Event) rfl rfl ⟨fun h => h, trivial⟩ rfl) (OkD.q (triQG (x := aB (Op.bytesLess x40.Event.toList x44.Event.toList || x40.Event.toList == x44.Event.toList)) rfl rfl ⟨fun h => h, ⟨fun h => h, trivial⟩⟩ rfl) (OkD.q (triAnd rfl rfl (fun h => h) rfl) (OkD.nil (by kernel_rfl) ?_)))))
  refine Ok.cond (b := (decide (s35 > 0)) && (Op.bytesLess x40.Event.toList x44.Event.toList || x40.Event.toList == x44.Event.toList)) rfl (fun h45 => ?_) (fun h45 => ?_)
  have hr := selT h45 hr
  refine Ok.seq (Ok.region (OkOps.y (aI (IntKind.i64.wrap (met + 1))) (OkOps.y (aI (IntKind.i64.wrap (met + 1))) (OkOps.y (aI 10) (OkOps.nil (Ok.ret ?_))))))
  obtain rfl := Option.some.inj hr
  exact ⟨_, rfl, .inl rfl, trivial⟩
  have hr := selF h45 hr
  refine Ok.skip (Ok.seq (Ok.seq (Ok.region (OkOps.y (.c (.loc 1 1)) (OkOps.y (aS x40.Instance) (OkOps.y (aI (x40.Instance.size : Int)) (OkOps.y (aB (decide ((x40.Instance.size : Int) > 400))) (OkOps.y (aB (decide ((x40.Instance.size : Int) > 400))) (OkOps.q (triQG (x := .c (.loc 1 3)) rfl rfl trivial rfl) (OkOps.q (triQG (x := .c (.d (.sl (List.map AValue.cs x40.Args)))) rfl rfl ⟨fun h => h, trivial⟩ rfl) (OkOps.q (triLenG (enc := AValue.cs) x40.Args rfl rfl rfl ⟨fun h => h, trivial⟩ rfl) (OkOps.q (triQG (x := aB (decide ((x40.Args.length : Int) > 100))) rfl rfl ⟨fun h => h, trivial⟩ rfl) ?_))))))))))))
  refine OkOps.q (triOr rfl rfl (fun h => by rw [h]; rfl) rfl) ?_
  refine OkOps.nil ?_
  refine Ok.cond (b := (decide ((x40.Instance.size : Int) > 400)) || (decide ((x40.Args.length : Int) > 100))) rfl (fun h46 => ?_) (fun h46 => ?_)
  have hr := selT h46 hr
  refine Ok.seq (Ok.region (OkOps.y (aI (IntKind.i64.wrap (met + 1))) (OkOps.y (aI (IntKind.i64.wrap (met + 1))) (OkOps.y (aI 2) (OkOps.nil (Ok.ret ?_))))))
  obtain rfl := Option.some.inj hr
  exact ⟨_, rfl, .inl rfl, trivial⟩
  have hr := selF h46 hr
  refine Ok.skip (Ok.seq (Ok.region (OkOps.y (aI 0) (OkOps.nil ?_))))
  obtain ⟨k48, hk48, hr⟩ := jn_some hr
  refine Ok.joinEnd (fun (s47 : Unit) => ⟨[(1, .s (aI depth)), (2, .s (aI (IntKind.i64.wrap (met + 1)))), (3, .s (.c (.loc 0 0))), (10, .s (aI s35))], [(0, .blk [cI v.Kind, cS v.Key, .d (.sl (List.map Attr.cs v.Attrs)), .d (.sl (List.map Action.cs v.Actions)), .d (.sl (List.map View.cs v.Kids))] 27)], 0⟩) k48 r (fun s47 hr => ?_) ?_
  rw [hk48] at hr
  exact ⟨(), hr, (Conv.mk (tau []) ⟨⟨_, rfl, .inl rfl⟩, ⟨_, rfl, .inl rfl⟩, ⟨_, rfl, .inl rfl⟩, ⟨_, rfl, .inl rfl⟩, trivial⟩ ⟨rfl, trivial⟩ rfl rfl rfl rfl)⟩
  clear hk48
  refine Ok.block (Ok.loopK (fun (s49 : Int) => ⟨[(1, .s (aI depth)), (2, .s (aI (IntKind.i64.wrap (met + 1)))), (3, .s (.c (.loc 0 0))), (10, .s (aI s35)), (11, .s (.c (.loc 1 0))), (12, .s (aI s49))], [(0, .blk [cI v.Kind, cS v.Key, .d (.sl (List.map Attr.cs v.Attrs)), .d (.sl (List.map Action.cs v.Actions)), .d (.sl (List.map View.cs v.Kids))] 27), (1, .blk [cS x40.Event, cS x40.Instance, cS x40.Handler, .d (.sl (List.map AValue.cs x40.Args))] 93)], 0⟩) hr (Conv.mk (tau []) ⟨⟨_, rfl, .inl rfl⟩, ⟨_, rfl, .inl rfl⟩, ⟨_, rfl, .inl rfl⟩, ⟨_, rfl, .inl rfl⟩, ⟨_, rfl, .inl rfl⟩, ⟨_, rfl, .inl rfl⟩, trivial⟩ ⟨rfl, rfl, trivial⟩ rfl rfl rfl rfl) ?_)
  clear hr
  intro again50 s49 hr
  unfold r14_validate_L4 at hr
  refine Ok.seq (Ok.seq (Ok.region (OkOps.y (aI s49) (OkOps.y (.c (.loc 1 3)) (OkOps.y (.c (.d (.sl (List.map AValue.cs x40.Args)))) (OkOps.q (triLen (enc := AValue.cs) x40.Args rfl rfl trivial rfl) (OkOps.y (aB (decide (s49 < (x40.Args.length : Int)))) (OkOps.nil ?_))))))))
  refine Ok.cond (b := decide (s49 < (x40.Args.length : Int))) rfl (fun h51 => ?_) (fun h51 => ?_)
  have hr := selT h51 hr
  refine Ok.skip (Ok.seq (Ok.block (Ok.seq (Ok.region (OkOps.y (.c (.loc 1 3)) (OkOps.y (.c (.d (.sl (List.map AValue.cs x40.Args)))) (OkOps.y (aI s49) ?_)))))))
  obtain ⟨x52, hx52, hr⟩ := bind_some hr
  refine OkOps.q (triIdx (enc := AValue.cs) (L := x40.Args) (row := [dI x52.Kind, dI x52.N, dS x52.S, .sl (List.map AValue.cs x52.L)]) hx52 (AValue.cs_eq _) rfl rfl rfl (fun x => by rw [AValue.cs_eq]; rfl) trivial rfl) ?_
  refine OkOps.y (.agg [cI x52.Kind, cI x52.N, cS x52.S, .d (.sl (List.map AValue.cs x52.L))]) ?_
  obtain ⟨x53, hx53, hr⟩ := bind_some hr
  refine OkOps.q (triCl (tau []) (.s (aI x53)) [] (r11_Check_c _ hx53) rfl ⟨.inl rfl, trivial⟩ trivial entry112 trivial) (OkOps.y (aI x53) (OkOps.nil (Ok.seq (Ok.region (OkOps.y (aI x53) (OkOps.y (aB (x53 != 0)) (OkOps.nil ?_)))))))
  refine Ok.cond (b := x53 != 0) rfl (fun h54 => ?_) (fun h54 => ?_)
  have hr := selT h54 hr
  refine Ok.seq (Ok.region (OkOps.y (aI (IntKind.i64.wrap (met + 1))) (OkOps.y (aI x53) (OkOps.y (aI (IntKind.i64.wrap (met + 1))) (OkOps.y (aI x53) (OkOps.nil (Ok.ret ?_)))))))
  obtain rfl := Option.some.inj hr
  exact ⟨_, rfl, .inl rfl, trivial⟩
  have hr := selF h54 hr
  refine Ok.skip (Ok.region (OkOps.y (aI s49) (OkOps.y (aI (IntKind.i64.wrap (s49 + 1))) (OkOps.y (aI (IntKind.i64.wrap (s49 + 1))) (OkOps.nil ?_)))))
  exact ⟨IntKind.i64.wrap (s49 + 1), hr, (Conv.mk (tau []) ⟨⟨_, rfl, .inl rfl⟩, ⟨_, rfl, .inl rfl⟩, ⟨_, rfl, .inl rfl⟩, ⟨_, rfl, .inl rfl⟩, ⟨_, rfl, .inl rfl⟩, ⟨_, rfl, .inl rfl⟩, trivial⟩ ⟨rfl, rfl, trivial⟩ rfl rfl rfl rfl)⟩
  have hr := selF h51 hr
  refine Ok.exit ?_
  exact ⟨(), hr, (Conv.mk (tau []) ⟨⟨_, rfl, .inl rfl⟩, ⟨_, rfl, .inl rfl⟩, ⟨_, rfl, .inl rfl⟩, ⟨_, rfl, .inl rfl⟩, trivial⟩ ⟨rfl, trivial⟩ rfl rfl rfl rfl)⟩
  have hr := selF h37 hr
  refine Ok.exit ?_
  exact ⟨(), hr, (Conv.mk (tau []) ⟨⟨_, rfl, .inl rfl⟩, ⟨_, rfl, .inl rfl⟩, ⟨_, rfl, .inl rfl⟩, trivial⟩ ⟨rfl, trivial⟩ rfl rfl rfl rfl)⟩
  clear hk8
  refine Ok.seq (Ok.region (OkOps.y (aI 0) (OkOps.nil (Ok.block (Ok.loopK (fun (s55 : Int) => ⟨[(1, .s (aI depth)), (2, .s (aI (IntKind.i64.wrap (met + 1)))), (3, .s (.c (.loc 0 0))), (8, .s (aI s55))], [(0, .blk [cI v.Kind, cS v.Key, .d (.sl (List.map Attr.cs v.Attrs)), .d (.sl (List.map Action.cs v.Actions)), .d (.sl (List.map View.cs v.Kids))] 27)], 0⟩) hr (Conv.mk (tau []) ⟨⟨_, rfl, .inl rfl⟩, ⟨_, rfl, .inl rfl⟩, ⟨_, rfl, .inl rfl⟩, ⟨_, rfl, .inl rfl⟩, trivial⟩ ⟨rfl, trivial⟩ rfl rfl rfl rfl) ?_)))))
  clear hr
  intro again56 s55 hr
  unfold r14_validate_L6 at hr
  refine Ok.seq (Ok.seq (Ok.region (OkOps.y (aI s55) (OkOps.y (.c (.loc 0 2)) (OkOps.y (.c (.d (.sl (List.map Attr.cs v.Attrs)))) (OkOps.q (triLen (enc := Attr.cs) v.Attrs rfl rfl trivial rfl) (OkOps.y (aB (decide (s55 < (v.Attrs.length : Int)))) (OkOps.nil ?_))))))))
  refine Ok.cond (b := decide (s55 < (v.Attrs.length : Int))) rfl (fun h57 => ?_) (fun h57 => ?_)
  have hr := selT h57 hr
  refine Ok.skip (Ok.seq (Ok.block (Ok.seq (Ok.seq (Ok.region (OkOps.y (.c (.loc 0 2)) (OkOps.y (.c (.d (.sl (List.map Attr.cs v.Attrs)))) (OkOps.y (aI s55) ?_))))))))
  obtain ⟨x58, hx58, hr⟩ := bind_some hr
  refine OkOps.q (triIdx (enc := Attr.cs) (L := v.Attrs) (row := [dS x58.Name, dI x58.Value.Kind, dI x58.Value.N, dS x58.Value.S, .sl (List.map AValue.cs x58.Value.L)]) hx58 rfl rfl rfl rfl (fun _ => rfl) trivial rfl) (OkOps.y (.c (.pt [dS x58.Name, dI x58.Value.Kind, dI x58.Value.N, dS x58.Value.S, .sl (List.map AValue.cs x58.Value.L)])) (OkOps.y (aS x58.Name) ?_))
  obtain ⟨x59, hx59, hr⟩ := bind_some hr
  refine OkOps.q (triCl (tau []) (.s (aB x59)) [] (r11_Name_c _ hx59) rfl ⟨.inl rfl, trivial⟩ trivial entry111 trivial) (OkOps.y (aB (!x59)) (OkOps.nil ?_))
  refine Ok.cond (b := !x59) rfl (fun h60 => ?_) (fun h60 => ?_)
  have hr := selT h60 hr
  refine Ok.seq (Ok.region (OkOps.y (aI (IntKind.i64.wrap (met + 1))) (OkOps.y (aI (IntKind.i64.wrap (met + 1))) (OkOps.y (aI 4) (OkOps.nil (Ok.ret ?_))))))
  obtain rfl := Option.some.inj hr
  exact ⟨_, rfl, .inl rfl, trivial⟩
  have hr := selF h60 hr
  refine Ok.skip (Ok.seq (Ok.seq (Ok.regionD (by kernel_rfl) (OkD.x (aI s55) rfl trivial rfl (OkD.x (aB (decide (s55 > 0))) rfl trivial rfl (OkD.x (aB (decide (s55 > 0))) rfl trivial rfl (OkD.q (triQG (x := .c (.loc 0 2)) rfl rfl trivial rfl) (OkD.q (triQG (x := .c (.d (.sl (List.map Attr.cs v.Attrs)))) rfl rfl ⟨fun h => h, trivial⟩ rfl) (OkD.q (triQG (x := aI s55) rfl rfl trivial rfl) ?_)))))))))
  obtain ⟨x61, hx61, hr⟩ := bind_some hr
  refine OkD.q (triIdxG (enc := Attr.cs) (L := v.Attrs) (row := [dS x61.Name, dI x61.Value.Kind, dI x61.Value.N, dS x61.Value.S, .sl (List.map AValue.cs x61.Value.L)]) (gO_t hx61) rfl rfl rfl rfl rfl (fun _ => rfl) ⟨fun h => h, ⟨fun h => h, trivial⟩⟩ rfl) (OkD.q (triQG (x := .c (.pt [dS x61.Name, dI x61.Value.Kind, dI x61.Value.N, dS x61.Value.S, .sl (List.map AValue.cs x61.Value.L)])) rfl rfl ⟨fun h => h, trivial⟩ rfl) (OkD.q (triQG (x := aS x61.Name) rfl rfl ⟨fun h => h, trivial⟩ rfl) (OkD.q (triQG (x := .c (.loc 0 2)) rfl rfl trivial rfl) (OkD.q (triQG (x := .c (.d (.sl (List.map Attr.cs v.Attrs)))) rfl rfl ⟨fun h => h, trivial⟩ rfl) (OkD.q (triQG (x := aI s55) rfl rfl trivial rfl) (OkD.q (triQG (x := aI (IntKind.i64.wrap (s55 - 1))) rfl rfl ⟨fun h => h, trivial⟩ rfl) ?_))))))
  obtain ⟨x62, hx62, hr⟩ := bind_some hr
  refine OkD.q (triIdxG (enc := Attr.cs) (L := v.Attrs) (row := [dS x62.Name, dI x62.Value.Kind, dI x62.Value.N, dS x62.Value.S, .sl (List.map AValue.cs x62.Value.L)]) (gO_t hx62) rfl rfl rfl rfl rfl (fun _ => rfl) ⟨fun h => h, ⟨fun h => h, trivial⟩⟩ rfl) (OkD.q (triQG (x := .c (.pt [dS x62.Name, dI x62.Value.Kind, dI x62.Value.N, dS x62.Value.S, .sl (List.map AValue.cs x62.Value.L)])) rfl rfl ⟨fun h => h, trivial⟩ rfl) (OkD.q (triQG (x := aS x62.Name) rfl rfl ⟨fun h => h, trivial⟩ rfl) (OkD.q (triQG (x := aB (Op.bytesLess x61.Name.toList x62.Name.toList || x61.Name.toList == x62.Name.toList)) rfl rfl ⟨fun h => h, ⟨fun h => h, trivial⟩⟩ rfl) (OkD.q (triAnd rfl rfl (fun h => h) rfl) (OkD.nil (by kernel_rfl) ?_)))))
  refine Ok.cond (b := (decide (s55 > 0)) && (Op.bytesLess x61.Name.toList x62.Name.toList || x61.Name.toList == x62.Name.toList)) rfl (fun h63 => ?_) (fun h63 => ?_)
  have hr := selT h63 hr
  refine Ok.seq (Ok.region (OkOps.y (aI (IntKind.i64.wrap (met + 1))) (OkOps.y (aI (IntKind.i64.wrap (met + 1))) (OkOps.y (aI 10) (OkOps.nil (Ok.ret ?_))))))
  obtain rfl := Option.some.inj hr
  exact ⟨_, rfl, .inl rfl, trivial⟩
  have hr := selF h63 hr
  refine Ok.skip (Ok.seq (Ok.region (OkOps.y (.c (.loc 0 2)) (OkOps.y (.c (.d (.sl (List.map Attr.cs v.Attrs)))) (OkOps.y (aI s55) ?_)))))
  obtain ⟨x64, hx64, hr⟩ := bind_some hr
  refine OkOps.q (triIdx (enc := Attr.cs) (L := v.Attrs) (row := [dS x64.Name, dI x64.Value.Kind, dI x64.Value.N, dS x64.Value.S, .sl (List.map AValue.cs x64.Value.L)]) hx64 rfl rfl rfl rfl (fun _ => rfl) trivial rfl) (OkOps.y (.c (.pt [dI x64.Value.Kind, dI x64.Value.N, dS x64.Value.S, .sl (List.map AValue.cs x64.Value.L)])) (OkOps.y (.agg [cI x64.Value.Kind, cI x64.Value.N, cS x64.Value.S, .d (.sl (List.map AValue.cs x64.Value.L))]) ?_))
  obtain ⟨x65, hx65, hr⟩ := bind_some hr
  refine OkOps.q (triCl (tau []) (.s (aI x65)) [] (r11_Check_c _ hx65) rfl ⟨.inl rfl, trivial⟩ trivial entry112 trivial) (OkOps.y (aI x65) (OkOps.nil (Ok.seq (Ok.region (OkOps.y (aI x65) (OkOps.y (aB (x65 != 0)) (OkOps.nil ?_)))))))
  refine Ok.cond (b := x65 != 0) rfl (fun h66 => ?_) (fun h66 => ?_)
  have hr := selT h66 hr
  refine Ok.seq (Ok.region (OkOps.y (aI (IntKind.i64.wrap (met + 1))) (OkOps.y (aI x65) (OkOps.y (aI (IntKind.i64.wrap (met + 1))) (OkOps.y (aI x65) (OkOps.nil (Ok.ret ?_)))))))
  obtain rfl := Option.some.inj hr
  exact ⟨_, rfl, .inl rfl, trivial⟩
  have hr := selF h66 hr
  refine Ok.skip (Ok.region (OkOps.y (aI s55) (OkOps.y (aI (IntKind.i64.wrap (s55 + 1))) (OkOps.y (aI (IntKind.i64.wrap (s55 + 1))) (OkOps.nil ?_)))))
  exact ⟨IntKind.i64.wrap (s55 + 1), hr, (Conv.mk (tau []) ⟨⟨_, rfl, .inl rfl⟩, ⟨_, rfl, .inl rfl⟩, ⟨_, rfl, .inl rfl⟩, ⟨_, rfl, .inl rfl⟩, trivial⟩ ⟨rfl, trivial⟩ rfl rfl rfl rfl)⟩
  have hr := selF h57 hr
  refine Ok.exit ?_
  exact ⟨(), hr, (Conv.mk (tau []) ⟨⟨_, rfl, .inl rfl⟩, ⟨_, rfl, .inl rfl⟩, ⟨_, rfl, .inl rfl⟩, trivial⟩ ⟨rfl, trivial⟩ rfl rfl rfl rfl)⟩
theorem r14_validate_all : ∀ n : Nat, (∀ (v : View) (depth : Int) (met : Int) {r : Int × Int}, r14_validate n v depth met = some r → Con Tryz.prog 75 [.agg [cI v.Kind, cS v.Key, .d (.sl (List.map Attr.cs v.Attrs)), .d (.sl (List.map Action.cs v.Actions)), .d (.sl (List.map View.cs v.Kids))], aI depth, aI met] [] (.tup [aI r.1, aI r.2]) []) ∧ True := by
  intro n
  induction n with
  | zero => exact ⟨(by intros; rename_i hr; cases hr), trivial⟩
  | succ n ih => exact ⟨(by intros; rename_i hr; exact r14_validate_B_c _ ih.1 _ _ _ hr), trivial⟩
theorem r14_validate_c (n : Nat) (v : View) (depth : Int) (met : Int) {r : Int × Int} (hr : r14_validate n v depth met = some r) : Con Tryz.prog 75 [.agg [cI v.Kind, cS v.Key, .d (.sl (List.map Attr.cs v.Attrs)), .d (.sl (List.map Action.cs v.Actions)), .d (.sl (List.map View.cs v.Kids))], aI depth, aI met] [] (.tup [aI r.1, aI r.2]) [] := (r14_validate_all n).1 v depth met hr
theorem r14_Validate_c (v : View) {r : Int} (hr : r14_Validate v = some r) : Con Tryz.prog 34 [.agg [cI v.Kind, cS v.Key, .d (.sl (List.map Attr.cs v.Attrs)), .d (.sl (List.map Action.cs v.Actions)), .d (.sl (List.map View.cs v.Kids))]] [] (.s (aI r)) [] := by
  unfold r14_Validate at hr
  refine Con.of_ok 11 0 [.tmp 2] [(0, .s (.agg [cI v.Kind, cS v.Key, .d (.sl (List.map Attr.cs v.Attrs)), .d (.sl (List.map Action.cs v.Actions)), .d (.sl (List.map View.cs v.Kids))]))] Tryz.func34 rfl rfl rfl rfl rfl rfl rfl rfl fun w g M ρ _ => (Ok.seq (Ok.region (OkOps.m 0 (triBox (j := 0) (cs := [cI v.Kind, cS v.Key, .d (.sl (List.map Attr.cs v.Attrs)), .d (.sl (List.map Action.cs v.Actions)), .d (.sl (List.map View.cs v.Kids))]) rfl rfl rfl rfl rfl) (OkOps.y (aI 0) (OkOps.nil (Ok.seq (Ok.region (OkOps.y (.agg [cI v.Kind, cS v.Key, .d (.sl (List.map Attr.cs v.Attrs)), .d (.sl (List.map Action.cs v.Actions)), .d (.sl (List.map View.cs v.Kids))]) ?_))))))))
  obtain ⟨x1, hx1, hr⟩ := bind_some hr
  refine OkOps.q (triCl (tau []) (.tup [aI x1.1, aI x1.2]) [] (r14_validate_c _ _ _ _ hx1) rfl ⟨.inl rfl, .inl rfl, .inl rfl, trivial⟩ trivial entry75 trivial) (OkOps.q (triMv (v := .tup [aI x1.1, aI x1.2]) rfl rfl) (OkOps.y (aI x1.1) (OkOps.y (aI x1.2) (OkOps.y (aI x1.1) (OkOps.y (aI x1.2) (OkOps.nil (Ok.seq (Ok.region (OkOps.y (aI x1.2) (OkOps.y (aI x1.2) (OkOps.nil (Ok.ret ?_))))))))))))
  obtain rfl := Option.some.inj hr
  exact ⟨_, rfl, .inl rfl, trivial⟩
end Go.Proofs.YtfoigppmcelgfaaGreatDoor
end
section
set_option maxRecDepth 100000
namespace Go.Proofs.YtfoigppmcelgfaaGreatDoor
open Go Go.E2
theorem r14_build_B_c (self0 : View → Int → Tree → Option Tree) (hself0 : ∀ (v : View) (parent : Int) (t : Tree) {r : Tree}, self0 v parent t = some r → Con Tryz.prog 35 [.agg [cI v.Kind, cS v.Key, .d (.sl (List.map Attr.cs v.Attrs)), .d (.sl (List.map Action.cs v.Actions)), .d (.sl (List.map View.cs v.Kids))], aI parent, .agg [cI t.Root, cI t.Next, .own 0]] [(0, .vec 7 (List.map Node.cs t.Nodes))] (.s (.agg [cI r.Root, cI r.Next, .own 2000])) [(0, .dead), (2000, .vec 7 (List.map Node.cs r.Nodes))]) (v : View) (parent : Int) (t : Tree) {r : Tree} (hr : r14_build_B self0 v parent t = some r) : Con Tryz.prog 35 [.agg [cI v.Kind, cS v.Key, .d (.sl (List.map Attr.cs v.Attrs)), .d (.sl (List.map Action.cs v.Actions)), .d (.sl (List.map View.cs v.Kids))], aI parent, .agg [cI t.Root, cI t.Next, .own 0]] [(0, .vec 7 (List.map Node.cs t.Nodes))] (.s (.agg [cI r.Root, cI r.Next, .own 2000])) [(0, .dead), (2000, .vec 7 (List.map Node.cs r.Nodes))] := by
  unfold r14_build_B at hr
  refine Con.of_ok 63 0 [.cell 6 30] [(0, .s (.agg [cI v.Kind, cS v.Key, .d (.sl (List.map Attr.cs v.Attrs)), .d (.sl (List.map Action.cs v.Actions)), .d (.sl (List.map View.cs v.Kids))])), (1, .s (aI parent)), (2, .s (.agg [cI t.Root, cI t.Next, .own 0]))] Tryz.func35 rfl rfl rfl rfl rfl rfl rfl rfl fun w g M ρ _ => (Ok.seq (Ok.region (OkOps.m 0 (triBox (j := 1) (cs := [cI v.Kind, cS v.Key, .d (.sl (List.map Attr.cs v.Attrs)), .d (.sl (List.map Action.cs v.Actions)), .d (.sl (List.map View.cs v.Kids))]) rfl rfl rfl rfl rfl) (OkOps.m 0 (triBox (j := 2) (cs := [cI t.Root, cI t.Next, .own 0]) rfl rfl rfl rfl rfl) (OkOps.m 0 (triAlloc (j := 3) (cs := [cI 0, cI 0, .d (.v (.slice none 0 0))]) rfl rfl rfl rfl) (OkOps.nil (Ok.seq (Ok.region (OkOps.y (.c (.loc 2 1)) (OkOps.y (aI t.Next) (OkOps.y (aI t.Next) (OkOps.nil (Ok.seq (Ok.region (OkOps.y (.c (.loc 2 2)) ?_)))))))))))))))
  refine OkOps.y (.c (.own 0)) (OkOps.q (triLenV (enc := Node.cs) t.Nodes rfl rfl rfl rfl) (OkOps.y (aI (t.Nodes.length : Int)) (OkOps.nil (Ok.seq (Ok.region (OkOps.y (.c (.loc 2 2)) (OkOps.y (.c (.own 0)) (OkOps.y (aI t.Next) (OkOps.y (aI parent) (OkOps.y (.c (.loc 1 0)) (OkOps.y (aI v.Kind) (OkOps.y (.c (.loc 1 1)) (OkOps.y (aS v.Key) (OkOps.y (.c (.loc 1 2)) (OkOps.y (.c (.d (.sl (List.map Attr.cs v.Attrs)))) ?_)))))))))))))))
  refine OkOps.y (.c (.loc 1 3)) (OkOps.y (.c (.d (.sl (List.map Action.cs v.Actions)))) (OkOps.y (.agg [cI t.Next, cI parent, cI v.Kind, cS v.Key, .d (.sl (List.map Attr.cs v.Attrs)), .d (.sl (List.map Action.cs v.Actions)), .d (.v (.slice none 0 0))]) (OkOps.m 0 (triBST (sz := 7) (enc := Node.cs) (j := 4) ([(Node.mk t.Next parent v.Kind v.Key v.Attrs v.Actions ([] : (List Int)))]) rfl rfl rfl rfl rfl rfl rfl rfl (fun _ => rfl) trivial rfl rfl) ?_)))
  obtain ⟨x1, hx1, hr⟩ := bind_some hr
  refine OkOps.m2 0 (triAppV (enc := Node.cs) (L := t.Nodes) (X := [(Node.mk t.Next parent v.Kind v.Key v.Attrs v.Actions ([] : (List Int)))]) (j := 0) (j' := 5) hx1 rfl rfl rfl rfl rfl rfl (fun _ => rfl) (fun _ => rfl) trivial rfl rfl) (OkOps.y (.c (.loc 2 2)) (OkOps.w (triStoreF (cs' := [cI t.Root, cI t.Next, .own 5]) rfl rfl rfl rfl rfl rfl rfl rfl) (OkOps.nil (Ok.seq (Ok.region (OkOps.y (.c (.loc 2 1)) (OkOps.y (aI t.Next) (OkOps.y (aI (IntKind.i64.wrap (t.Next + 1))) (OkOps.y (.c (.loc 2 1)) (OkOps.w (triStore (cs' := [cI t.Root, cI (IntKind.i64.wrap (t.Next + 1)), .own 5]) rfl rfl rfl rfl rfl rfl rfl rfl rfl) (OkOps.nil (Ok.seq (Ok.region (OkOps.y (.c (.d (.v (.slice none 0 0)))) (OkOps.nil ?_)))))))))))))))
  obtain ⟨k3, hk3, hr⟩ := jn_some hr
  refine Ok.join (fun (s2 : (List Int) × Int × Int × (List Node)) => ⟨[(5, .s (.c (.loc 2 0))), (6, .s (.c (.loc 3 0))), (8, .s (aI (t.Nodes.length : Int))), (9, .s (.c (.tl 1007 (List.map (eInt .i64) s2.1))))], [(0, .dead), (2, .blk [cI s2.2.1, cI s2.2.2.1, .own 1008] 30), (3, .blk [cI 0, cI 0, .d (.v (.slice none 0 0))] 30), (1007, .tail 1), (1008, .vec 7 (List.map Node.cs s2.2.2.2))], 0⟩) k3 r (fun s2 hr => ?_) ?_
  rw [hk3] at hr
  refine Ok.seq (Ok.region (OkOps.y (.c (.loc 2 2)) (OkOps.y (.c (.own 1008)) (OkOps.y (aI (t.Nodes.length : Int)) (OkOps.y (.c (.tl 1007 (List.map (eInt .i64) s2.1))) ?_)))))
  obtain ⟨x4, hx4, hr⟩ := bind_some hr
  refine OkOps.q (triIdxV (enc := Node.cs) (L := s2.2.2.2) hx4 rfl rfl rfl rfl trivial rfl) (OkOps.q (triFldV (o := 6) (enc := Node.cs) (L := s2.2.2.2) rfl rfl rfl (by have := (ixO_spec hx4).2; omega) rfl) ?_)
  obtain ⟨x5, hx5, hr⟩ := bind_some hr
  refine OkOps.w (triStoreVF (n := 1) (enc := Node.cs) (L := s2.2.2.2) (z := (Node.mk x5.ID x5.Parent x5.Kind x5.Key x5.Attrs x5.Actions s2.1)) hx5 rfl rfl rfl rfl rfl rfl rfl rfl (by decide) (fun _ => rfl) rfl) (OkOps.nil (Ok.seq (Ok.region (OkOps.y (.agg [cI s2.2.1, cI s2.2.2.1, .own 1008]) (OkOps.w (triStoreF (cs' := [cI s2.2.1, cI s2.2.2.1, .own 1008]) rfl rfl rfl rfl rfl rfl rfl rfl) (OkOps.nil (Ok.conv (T := ⟨[(6, .s (.c (.loc 3 0)))], [(0, .dead), (3, .blk [cI s2.2.1, cI s2.2.2.1, .own 2000] 30), (2000, .vec 7 (List.map Node.cs (List.set s2.2.2.2 x4 (Node.mk x5.ID x5.Parent x5.Kind x5.Key x5.Attrs x5.Actions s2.1))))], 0⟩) (Conv.mk (tau [(2000, 1008)]) ⟨⟨_, rfl, .inl rfl⟩, trivial⟩ ⟨rfl, rfl, trivial⟩ rfl rfl rfl rfl) (Ok.ret ?_))))))))
  obtain rfl := Option.some.inj hr
  exact ⟨_, rfl, .inl rfl, ⟨(fun h => by cases h), rfl, trivial⟩⟩
  clear hk3
  refine Ok.seq (Ok.region (OkOps.y (aI 0) (OkOps.nil (Ok.block (Ok.loopK (fun (s6 : (List Int) × Int × Int × Int × (List Node)) => ⟨[(3, .s (.c (.loc 1 0))), (5, .s (.c (.loc 2 0))), (6, .s (.c (.loc 3 0))), (7, .s (aI t.Next)), (8, .s (aI (t.Nodes.length : Int))), (9, .s (.c (.tl 1012 (List.map (eInt .i64) s6.1)))), (10, .s (aI s6.2.1))], [(0, .dead), (1, .blk [cI v.Kind, cS v.Key, .d (.sl (List.map Attr.cs v.Attrs)), .d (.sl (List.map Action.cs v.Actions)), .d (.sl (List.map View.cs v.Kids))] 27), (2, .blk [cI s6.2.2.1, cI s6.2.2.2.1, .own 1013] 30), (3, .blk [cI 0, cI 0, .d (.v (.slice none 0 0))] 30), (1012, .tail 1), (1013, .vec 7 (List.map Node.cs s6.2.2.2.2))], 0⟩) hr (Conv.trans (Conv.nil 9 1016 1 0 rfl rfl) (Conv.mk (tau [(1012, 1016), (1013, 5)]) ⟨⟨_, rfl, .inl rfl⟩, ⟨_, rfl, .inl rfl⟩, ⟨_, rfl, .inl rfl⟩, ⟨_, rfl, .inl rfl⟩, ⟨_, rfl, .inl rfl⟩, ⟨_, rfl, .inl rfl⟩, ⟨_, rfl, .inl rfl⟩, trivial⟩ ⟨rfl, rfl, rfl, rfl, rfl, trivial⟩ rfl rfl rfl rfl)) ?_)))))
  clear hr
  intro again7 s6 hr
  unfold r14_build_L1 at hr
  refine Ok.seq (Ok.seq (Ok.region (OkOps.y (aI s6.2.1) (OkOps.y (.c (.loc 1 4)) (OkOps.y (.c (.d (.sl (List.map View.cs v.Kids)))) (OkOps.q (triLen (enc := View.cs) v.Kids rfl rfl trivial rfl) (OkOps.y (aB (decide (s6.2.1 < (v.Kids.length : Int)))) (OkOps.nil ?_))))))))
  refine Ok.cond (b := decide (s6.2.1 < (v.Kids.length : Int))) rfl (fun h8 => ?_) (fun h8 => ?_)
  have hr := selT h8 hr
  refine Ok.skip (Ok.seq (Ok.block (Ok.seq (Ok.region (OkOps.y (.c (.tl 1012 (List.map (eInt .i64) s6.1))) (OkOps.y (.c (.loc 2 1)) (OkOps.y (aI s6.2.2.2.1) (OkOps.m 0 (triBST (sz := 1) (enc := (eInt .i64)) (j := 6) ([s6.2.2.2.1]) rfl rfl rfl rfl rfl rfl rfl rfl (fun _ => rfl) trivial rfl rfl) ?_))))))))
  obtain ⟨x9, hx9, hr⟩ := bind_some hr
  refine OkOps.m2 0 (triApp (enc := (eInt .i64)) (L := s6.1) (X := [s6.2.2.2.1]) (j := 1012) (j' := 7) hx9 rfl rfl rfl rfl rfl rfl (fun _ => rfl) (fun _ => rfl) (by decide) trivial rfl rfl) (OkOps.y (.c (.tl 7 (List.map (eInt .i64) x9))) (OkOps.nil (Ok.regionD (by kernel_rfl) (OkD.x (.c (.loc 1 4)) rfl trivial rfl (OkD.x (.c (.d (.sl (List.map View.cs v.Kids)))) rfl trivial rfl (OkD.x (aI s6.2.1) rfl trivial rfl ?_))))))
  obtain ⟨x10, hx10, hr⟩ := bind_some hr
  refine OkD.q (triIdx (enc := View.cs) (L := v.Kids) (row := [dI x10.Kind, dS x10.Key, .sl (List.map Attr.cs x10.Attrs), .sl (List.map Action.cs x10.Actions), .sl (List.map View.cs x10.Kids)]) hx10 (View.cs_eq _) rfl rfl rfl (fun x => by rw [View.cs_eq]; rfl) trivial rfl) ?_
  refine OkD.x (.agg [cI x10.Kind, cS x10.Key, .d (.sl (List.map Attr.cs x10.Attrs)), .d (.sl (List.map Action.cs x10.Actions)), .d (.sl (List.map View.cs x10.Kids))]) rfl trivial rfl (OkD.x (aI t.Next) rfl trivial rfl (OkD.x (.agg [cI s6.2.2.1, cI s6.2.2.2.1, .own 1013]) rfl trivial rfl ?_))
  obtain ⟨x11, hx11, hr⟩ := bind_some hr
  refine OkD.m2 0 (triCall (tau [(0, 1013), (2000, 8)]) (.s (.agg [cI x11.Root, cI x11.Next, .own 8])) [(1013, .dead), (8, .vec 7 (List.map Node.cs x11.Nodes))] (hself0 _ _ _ hx11) rfl ⟨.inl rfl, .inl rfl, .inl rfl, trivial⟩ trivial entry35 ⟨rfl, trivial⟩ rfl rfl rfl rfl ⟨rfl, trivial⟩ rfl rfl rfl) (OkD.w (triStoreF (cs' := [cI x11.Root, cI x11.Next, .own 8]) rfl rfl rfl rfl rfl rfl rfl rfl) (OkD.nil (by kernel_rfl) (Ok.region (OkOps.y (aI s6.2.1) (OkOps.y (aI (IntKind.i64.wrap (s6.2.1 + 1))) (OkOps.y (aI (IntKind.i64.wrap (s6.2.1 + 1))) (OkOps.nil ?_)))))))
  exact ⟨(x9, IntKind.i64.wrap (s6.2.1 + 1), x11.Root, x11.Next, x11.Nodes), hr, (Conv.mk (tau [(1012, 7), (1013, 8)]) ⟨⟨_, rfl, .inl rfl⟩, ⟨_, rfl, .inl rfl⟩, ⟨_, rfl, .inl rfl⟩, ⟨_, rfl, .inl rfl⟩, ⟨_, rfl, .inl rfl⟩, ⟨_, rfl, .inl rfl⟩, ⟨_, rfl, .inl rfl⟩, trivial⟩ ⟨rfl, rfl, rfl, rfl, rfl, trivial⟩ rfl rfl rfl rfl)⟩
  have hr := selF h8 hr
  refine Ok.exit ?_
  exact ⟨(s6.1, s6.2.2.1, s6.2.2.2.1, s6.2.2.2.2), hr, (Conv.mk (tau [(1007, 1012), (1008, 1013)]) ⟨⟨_, rfl, .inl rfl⟩, ⟨_, rfl, .inl rfl⟩, ⟨_, rfl, .inl rfl⟩, ⟨_, rfl, .inl rfl⟩, trivial⟩ ⟨rfl, rfl, rfl, rfl, trivial⟩ rfl rfl rfl rfl)⟩
theorem r14_build_all : ∀ n : Nat, (∀ (v : View) (parent : Int) (t : Tree) {r : Tree}, r14_build n v parent t = some r → Con Tryz.prog 35 [.agg [cI v.Kind, cS v.Key, .d (.sl (List.map Attr.cs v.Attrs)), .d (.sl (List.map Action.cs v.Actions)), .d (.sl (List.map View.cs v.Kids))], aI parent, .agg [cI t.Root, cI t.Next, .own 0]] [(0, .vec 7 (List.map Node.cs t.Nodes))] (.s (.agg [cI r.Root, cI r.Next, .own 2000])) [(0, .dead), (2000, .vec 7 (List.map Node.cs r.Nodes))]) ∧ True := by
  intro n
  induction n with
  | zero => exact ⟨(by intros; rename_i hr; cases hr), trivial⟩
  | succ n ih => exact ⟨(by intros; rename_i hr; exact r14_build_B_c _ ih.1 _ _ _ hr), trivial⟩
theorem r14_build_c (n : Nat) (v : View) (parent : Int) (t : Tree) {r : Tree} (hr : r14_build n v parent t = some r) : Con Tryz.prog 35 [.agg [cI v.Kind, cS v.Key, .d (.sl (List.map Attr.cs v.Attrs)), .d (.sl (List.map Action.cs v.Actions)), .d (.sl (List.map View.cs v.Kids))], aI parent, .agg [cI t.Root, cI t.Next, .own 0]] [(0, .vec 7 (List.map Node.cs t.Nodes))] (.s (.agg [cI r.Root, cI r.Next, .own 2000])) [(0, .dead), (2000, .vec 7 (List.map Node.cs r.Nodes))] := (r14_build_all n).1 v parent t hr
theorem r14_Build_c (v : View) (next : Int) {r : Tree × Int} (hr : r14_Build v next = some r) : Con Tryz.prog 9 [.agg [cI v.Kind, cS v.Key, .d (.sl (List.map Attr.cs v.Attrs)), .d (.sl (List.map Action.cs v.Actions)), .d (.sl (List.map View.cs v.Kids))], aI next] [] (.tup [.agg [cI r.1.Root, cI r.1.Next, .d (.sl (List.map Node.cs r.1.Nodes))], aI r.2]) [] := by
  unfold r14_Build at hr
  refine Con.of_ok 27 0 [.cell 4 30, .tmp 5] [(0, .s (.agg [cI v.Kind, cS v.Key, .d (.sl (List.map Attr.cs v.Attrs)), .d (.sl (List.map Action.cs v.Actions)), .d (.sl (List.map View.cs v.Kids))])), (1, .s (aI next))] Tryz.func9 rfl rfl rfl rfl rfl rfl rfl rfl fun w g M ρ _ => (Ok.seq (Ok.region (OkOps.m 0 (triBox (j := 0) (cs := [cI v.Kind, cS v.Key, .d (.sl (List.map Attr.cs v.Attrs)), .d (.sl (List.map Action.cs v.Actions)), .d (.sl (List.map View.cs v.Kids))]) rfl rfl rfl rfl rfl) (OkOps.m 0 (triAlloc (j := 1) (cs := [cI 0, cI 0, .d (.v (.slice none 0 0))]) rfl rfl rfl rfl) (OkOps.y (aI 0) (OkOps.nil (Ok.seq (Ok.seq (Ok.region (OkOps.y (.agg [cI v.Kind, cS v.Key, .d (.sl (List.map Attr.cs v.Attrs)), .d (.sl (List.map Action.cs v.Actions)), .d (.sl (List.map View.cs v.Kids))]) ?_))))))))))
  obtain ⟨x1, hx1, hr⟩ := bind_some hr
  refine OkOps.q (triCl (tau []) (.s (aI x1)) [] (r14_Validate_c _ hx1) rfl ⟨.inl rfl, trivial⟩ trivial entry34 trivial) (OkOps.y (aI x1) (OkOps.nil (Ok.seq (Ok.region (OkOps.y (aI x1) (OkOps.y (aB (x1 != 0)) (OkOps.nil ?_)))))))
  refine Ok.cond (b := x1 != 0) rfl (fun h2 => ?_) (fun h2 => ?_)
  have hr := selT h2 hr
  refine Ok.seq (Ok.region (OkOps.y (.agg [cI 0, cI 0, .d (.v (.slice none 0 0))]) (OkOps.y (aI x1) (OkOps.w (triStore (cs' := [cI 0, cI 0, .d (.v (.slice none 0 0))]) rfl rfl rfl rfl rfl rfl rfl rfl rfl) (OkOps.y (aI x1) (OkOps.nil (Ok.ret ?_)))))))
  obtain rfl := Option.some.inj hr
  exact ⟨_, rfl, .inr rfl, trivial⟩
  have hr := selF h2 hr
  refine Ok.skip (Ok.seq (Ok.seq (Ok.region (OkOps.y (aI next) (OkOps.y (aB (decide (next < 1))) (OkOps.y (aB (decide (next < 1))) (OkOps.q (triQG (x := aI next) rfl rfl trivial rfl) (OkOps.q (triQG (x := aB (decide (next > 1099511627376))) rfl rfl ⟨fun h => h, trivial⟩ rfl) ?_))))))))
  refine OkOps.q (triOr rfl rfl (fun h => by rw [h]; rfl) rfl) ?_
  refine OkOps.nil ?_
  refine Ok.cond (b := (decide (next < 1)) || (decide (next > 1099511627376))) rfl (fun h3 => ?_) (fun h3 => ?_)
  have hr := selT h3 hr
  refine Ok.seq (Ok.region (OkOps.y (.agg [cI 0, cI 0, .d (.v (.slice none 0 0))]) (OkOps.w (triStore (cs' := [cI 0, cI 0, .d (.v (.slice none 0 0))]) rfl rfl rfl rfl rfl rfl rfl rfl rfl) (OkOps.y (aI 1) (OkOps.nil (Ok.ret ?_))))))
  obtain rfl := Option.some.inj hr
  exact ⟨_, rfl, .inr rfl, trivial⟩
  have hr := selF h3 hr
  refine Ok.skip (Ok.seq (Ok.region (OkOps.y (aI next) (OkOps.y (aI next) (OkOps.y (.agg [cI next, cI next, .d (.v (.slice none 0 0))]) (OkOps.m 0 (triAlloc (j := 2) (cs := [cI 0, cI 0, .d (.v (.slice none 0 0))]) rfl rfl rfl rfl) (OkOps.w (triStore (cs' := [cI next, cI next, .d (.v (.slice none 0 0))]) rfl rfl rfl rfl rfl rfl rfl rfl rfl) (OkOps.nil (Ok.seq (Ok.region (OkOps.y (.agg [cI v.Kind, cS v.Key, .d (.sl (List.map Attr.cs v.Attrs)), .d (.sl (List.map Action.cs v.Actions)), .d (.sl (List.map View.cs v.Kids))]) (OkOps.y (.agg [cI next, cI next, .d (.v (.slice none 0 0))]) (OkOps.conv (Conv.nilAg 25 2 3 (.vec 7 (List.map Node.cs ([] : (List Node)))) (.own 3) [cI next, cI next, .d (.v (.slice none 0 0))] [cI next, cI next, .own 3] 0 rfl rfl rfl rfl (nil_vec Node.cs 7 3) (fun _ _ h => h.symm)) ?_)))))))))))))
  obtain ⟨x4, hx4, hr⟩ := bind_some hr
  refine OkOps.m2 0 (triCall (tau [(0, 3), (2000, 4)]) (.s (.agg [cI x4.Root, cI x4.Next, .own 4])) [(3, .dead), (4, .vec 7 (List.map Node.cs x4.Nodes))] (r14_build_c _ _ _ _ hx4) rfl ⟨.inl rfl, .inl rfl, .inl rfl, trivial⟩ trivial entry35 ⟨rfl, trivial⟩ rfl rfl rfl rfl ⟨rfl, trivial⟩ rfl rfl rfl) (OkOps.w (triStoreF (cs' := [cI x4.Root, cI x4.Next, .own 4]) rfl rfl rfl rfl rfl rfl rfl rfl) (OkOps.y (aI 0) (OkOps.nil (Ok.conv (Conv.freezeV (enc := Node.cs) (L := x4.Nodes) [(26, .s (.agg [cI x4.Root, cI x4.Next, .d (.sl (List.map Node.cs x4.Nodes))]))] [(1, .blk [cI x4.Root, cI x4.Next, .d (.sl (List.map Node.cs x4.Nodes))] 30)] 4 0 rfl (fun _ => rfl) ⟨⟨_, rfl, rfl⟩, trivial⟩ ⟨⟨_, _, rfl, rfl⟩, trivial⟩) (Ok.ret ?_)))))
  obtain rfl := Option.some.inj hr
  exact ⟨_, rfl, .inl rfl, trivial⟩
end Go.Proofs.YtfoigppmcelgfaaGreatDoor
end
section
set_option maxRecDepth 100000
namespace Go.Proofs.YtfoigppmcelgfaaGreatDoor
open Go Go.E2
theorem l38_text_c (p_s : Str) {r : AValue} (hr : l38_text p_s = some r) : Con Tryz.prog 26 [aS p_s] [] (.s (.agg [cI r.Kind, cI r.N, cS r.S, .d (.sl (List.map AValue.cs r.L))])) [] := by
  unfold l38_text at hr
  refine Con.of_ok 5 0 [.cell 2 53] [(0, .s (aS p_s))] Tryz.func26 rfl rfl rfl rfl rfl rfl rfl rfl fun w g M ρ _ => (Ok.seq (Ok.region (OkOps.m 0 (triAlloc (j := 0) (cs := [cI 0, cI 0, cS ByteArray.empty, .d (.v (.slice none 0 0))]) rfl rfl rfl rfl) (OkOps.nil (Ok.seq (Ok.region (OkOps.y (aS p_s) (OkOps.y (.agg [cI 3, cI 0, cS p_s, .d (.v (.slice none 0 0))]) (OkOps.w (triStore (cs' := [cI 3, cI 0, cS p_s, .d (.v (.slice none 0 0))]) rfl rfl rfl rfl rfl rfl rfl rfl rfl) (OkOps.nil (Ok.ret ?_)))))))))))
  obtain rfl := Option.some.inj hr
  exact ⟨_, rfl, .inr rfl, trivial⟩
theorem l38_styles_c (t : Tree) {r : (List Styled)} (hr : l38_styles t = some r) : Con Tryz.prog 28 [.agg [cI t.Root, cI t.Next, .d (.sl (List.map Node.cs t.Nodes))]] [] (.s (.c (.d (.sl (List.map Styled.cs r))))) [] := by
  unfold l38_styles at hr
  refine Con.of_ok 24 0 [.tmp 2] [(0, .s (.agg [cI t.Root, cI t.Next, .d (.sl (List.map Node.cs t.Nodes))]))] Tryz.func28 rfl rfl rfl rfl rfl rfl rfl rfl fun w g M ρ _ => (Ok.seq (Ok.region (OkOps.m 0 (triBox (j := 0) (cs := [cI t.Root, cI t.Next, .d (.sl (List.map Node.cs t.Nodes))]) rfl rfl rfl rfl rfl) (OkOps.y (.c (.d (.v (.slice none 0 0)))) (OkOps.nil (Ok.seq (Ok.region (OkOps.y (.c (.d (.v (.slice none 0 0)))) (OkOps.nil ?_)))))))))
  obtain ⟨k2, hk2, hr⟩ := jn_some hr
  refine Ok.join (fun (s1 : (List Styled)) => ⟨[(3, .s (.c (.tl 1004 (List.map Styled.cs s1))))], [(1004, .tail 23)], 0⟩) k2 r (fun s1 hr => ?_) ?_
  rw [hk2] at hr
  refine Ok.seq (Ok.region (OkOps.y (.c (.tl 1004 (List.map Styled.cs s1))) (OkOps.y (.c (.tl 1004 (List.map Styled.cs s1))) (OkOps.nil (Ok.ret ?_)))))
  obtain rfl := Option.some.inj hr
  exact ⟨_, rfl, .inr rfl, trivial⟩
  clear hk2
  refine Ok.seq (Ok.region (OkOps.y (aI 0) (OkOps.nil (Ok.block (Ok.loopK (fun (s3 : (List Styled) × Int) => ⟨[(1, .s (.c (.loc 0 0))), (3, .s (.c (.tl 1007 (List.map Styled.cs s3.1)))), (4, .s (aI s3.2))], [(0, .blk [cI t.Root, cI t.Next, .d (.sl (List.map Node.cs t.Nodes))] 30), (1007, .tail 23)], 0⟩) hr (Conv.trans (Conv.nil 3 1009 23 0 rfl rfl) (Conv.mk (tau [(1007, 1009)]) ⟨⟨_, rfl, .inl rfl⟩, ⟨_, rfl, .inl rfl⟩, ⟨_, rfl, .inl rfl⟩, trivial⟩ ⟨rfl, rfl, trivial⟩ rfl rfl rfl rfl)) ?_)))))
  clear hr
  intro again4 s3 hr
  unfold l38_styles_L1 at hr
  refine Ok.seq (Ok.seq (Ok.region (OkOps.y (aI s3.2) (OkOps.y (.c (.loc 0 2)) (OkOps.y (.c (.d (.sl (List.map Node.cs t.Nodes)))) (OkOps.q (triLen (enc := Node.cs) t.Nodes rfl rfl trivial rfl) (OkOps.y (aB (decide (s3.2 < (t.Nodes.length : Int)))) (OkOps.nil ?_))))))))
  refine Ok.cond (b := decide (s3.2 < (t.Nodes.length : Int))) rfl (fun h5 => ?_) (fun h5 => ?_)
  have hr := selT h5 hr
  refine Ok.skip (Ok.seq (Ok.block (Ok.regionD (by kernel_rfl) (OkD.x (.c (.tl 1007 (List.map Styled.cs s3.1))) rfl trivial rfl (OkD.x (.c (.loc 0 2)) rfl trivial rfl (OkD.x (.c (.d (.sl (List.map Node.cs t.Nodes)))) rfl trivial rfl (OkD.x (aI s3.2) rfl trivial rfl ?_)))))))
  obtain ⟨x6, hx6, hr⟩ := bind_some hr
  refine OkD.q (triIdx (enc := Node.cs) (L := t.Nodes) (row := [dI x6.ID, dI x6.Parent, dI x6.Kind, dS x6.Key, .sl (List.map Attr.cs x6.Attrs), .sl (List.map Action.cs x6.Actions), .sl (List.map (eInt .i64) x6.Kids)]) hx6 rfl rfl rfl rfl (fun _ => rfl) trivial rfl) (OkD.x (.c (.pt [dI x6.ID, dI x6.Parent, dI x6.Kind, dS x6.Key, .sl (List.map Attr.cs x6.Attrs), .sl (List.map Action.cs x6.Actions), .sl (List.map (eInt .i64) x6.Kids)])) rfl trivial rfl (OkD.x (aI x6.ID) rfl trivial rfl ?_))
  obtain ⟨x7, hx7, hr⟩ := bind_some hr
  refine OkD.q (triCl (tau []) (.s (.agg [cI (x7 0), cI (x7 1), cI (x7 2), cI (x7 3), cI (x7 4), cI (x7 5), cI (x7 6), cI (x7 7), cI (x7 8), cI (x7 9), cI (x7 10), cI (x7 11), cI (x7 12), cI (x7 13), cI (x7 14), cI (x7 15), cI (x7 16), cI (x7 17), cI (x7 18), cI (x7 19), cI (x7 20), cI (x7 21)])) [] (r17_Initial_c  hx7) rfl trivial trivial entry50 trivial) (OkD.q (triQ (x := .agg [cI x6.ID, cI (x7 0), cI (x7 1), cI (x7 2), cI (x7 3), cI (x7 4), cI (x7 5), cI (x7 6), cI (x7 7), cI (x7 8), cI (x7 9), cI (x7 10), cI (x7 11), cI (x7 12), cI (x7 13), cI (x7 14), cI (x7 15), cI (x7 16), cI (x7 17), cI (x7 18), cI (x7 19), cI (x7 20), cI (x7 21)]) (by kernel_rfl) trivial rfl) (OkD.m 0 (triBST (sz := 23) (enc := Styled.cs) (j := 1) ([(Styled.mk x6.ID x7)]) (cs := [cI x6.ID, cI (x7 0), cI (x7 1), cI (x7 2), cI (x7 3), cI (x7 4), cI (x7 5), cI (x7 6), cI (x7 7), cI (x7 8), cI (x7 9), cI (x7 10), cI (x7 11), cI (x7 12), cI (x7 13), cI (x7 14), cI (x7 15), cI (x7 16), cI (x7 17), cI (x7 18), cI (x7 19), cI (x7 20), cI (x7 21)]) rfl rfl rfl rfl (by kernel_rfl) rfl rfl rfl (fun _ => rfl) trivial rfl rfl) ?_))
  obtain ⟨x8, hx8, hr⟩ := bind_some hr
  refine OkD.m2 0 (triApp (enc := Styled.cs) (L := s3.1) (X := [(Styled.mk x6.ID x7)]) (j := 1007) (j' := 2) hx8 rfl rfl rfl rfl rfl rfl (fun _ => rfl) (fun _ => rfl) (by decide) trivial rfl rfl) (OkD.x (.c (.tl 2 (List.map Styled.cs x8))) rfl trivial rfl (OkD.nil (by kernel_rfl) (Ok.region (OkOps.y (aI s3.2) (OkOps.y (aI (IntKind.i64.wrap (s3.2 + 1))) (OkOps.y (aI (IntKind.i64.wrap (s3.2 + 1))) (OkOps.nil ?_)))))))
  exact ⟨(x8, IntKind.i64.wrap (s3.2 + 1)), hr, (Conv.mk (tau [(1007, 2)]) ⟨⟨_, rfl, .inl rfl⟩, ⟨_, rfl, .inl rfl⟩, ⟨_, rfl, .inl rfl⟩, trivial⟩ ⟨rfl, rfl, trivial⟩ rfl rfl rfl rfl)⟩
  have hr := selF h5 hr
  refine Ok.exit ?_
  exact ⟨s3.1, hr, (Conv.mk (tau [(1004, 1007)]) ⟨⟨_, rfl, .inl rfl⟩, trivial⟩ ⟨rfl, trivial⟩ rfl rfl rfl rfl)⟩
theorem l38_awake_c  {r : Bool} (hr : l38_awake  = some r) : Con Tryz.prog 31 [] [] (.s (aB r)) [] := by
  unfold l38_awake at hr
  refine Con.of_ok 26 0 [.tmp 0] [] Tryz.func31 rfl rfl rfl rfl rfl rfl rfl rfl fun w g M ρ _ => (Ok.seq (Ok.region (OkOps.y (aB false) (OkOps.nil (Ok.seq (Ok.region ?_))))))
  obtain ⟨x1, hx1, hr⟩ := bind_some hr
  refine OkOps.q (triCl (tau []) (.s (.agg [cI x1.Kind, cI x1.N, cS x1.S, .d (.sl (List.map AValue.cs x1.L))])) [] (l38_text_c _ hx1) rfl ⟨.inl rfl, trivial⟩ trivial entry26 trivial) (OkOps.y (.agg [cS (ByteArray.mk #[116, 101, 120, 116]), cI x1.Kind, cI x1.N, cS x1.S, .d (.sl (List.map AValue.cs x1.L))]) (OkOps.m 0 (triBST (sz := 5) (enc := Attr.cs) (j := 0) ([(Attr.mk (ByteArray.mk #[116, 101, 120, 116]) x1)]) rfl rfl rfl rfl rfl rfl rfl rfl (fun _ => rfl) trivial rfl rfl) (OkOps.y (.agg [cI 2, cS ByteArray.empty, .tl 0 (List.map Attr.cs ([(Attr.mk (ByteArray.mk #[116, 101, 120, 116]) x1)])), .d (.v (.slice none 0 0)), .d (.v (.slice none 0 0))]) (OkOps.m 0 (triAlloc (j := 1) (cs := [cI 0, cS ByteArray.empty, .d (.v (.slice none 0 0)), .d (.v (.slice none 0 0)), .d (.v (.slice none 0 0))]) rfl rfl rfl rfl) (OkOps.w (triStore (cs' := [cI 2, cS ByteArray.empty, .tl 0 (List.map Attr.cs ([(Attr.mk (ByteArray.mk #[116, 101, 120, 116]) x1)])), .d (.v (.slice none 0 0)), .d (.v (.slice none 0 0))]) rfl rfl rfl rfl rfl rfl rfl rfl rfl) (OkOps.nil (Ok.seq (Ok.region ?_))))))))
  obtain ⟨x2, hx2, hr⟩ := bind_some hr
  refine OkOps.q (triCl (tau []) (.s (.agg [cI x2.Kind, cI x2.N, cS x2.S, .d (.sl (List.map AValue.cs x2.L))])) [] (l38_text_c _ hx2) rfl ⟨.inl rfl, trivial⟩ trivial entry26 trivial) (OkOps.y (.agg [cS (ByteArray.mk #[108, 97, 98, 101, 108]), cI x2.Kind, cI x2.N, cS x2.S, .d (.sl (List.map AValue.cs x2.L))]) (OkOps.m 0 (triBST (sz := 5) (enc := Attr.cs) (j := 2) ([(Attr.mk (ByteArray.mk #[108, 97, 98, 101, 108]) x2)]) rfl rfl rfl rfl rfl rfl rfl rfl (fun _ => rfl) trivial rfl rfl) (OkOps.y (.agg [cI 5, cS ByteArray.empty, .tl 2 (List.map Attr.cs ([(Attr.mk (ByteArray.mk #[108, 97, 98, 101, 108]) x2)])), .d (.v (.slice none 0 0)), .d (.v (.slice none 0 0))]) (OkOps.m 0 (triAlloc (j := 3) (cs := [cI 0, cS ByteArray.empty, .d (.v (.slice none 0 0)), .d (.v (.slice none 0 0)), .d (.v (.slice none 0 0))]) rfl rfl rfl rfl) (OkOps.w (triStore (cs' := [cI 5, cS ByteArray.empty, .tl 2 (List.map Attr.cs ([(Attr.mk (ByteArray.mk #[108, 97, 98, 101, 108]) x2)])), .d (.v (.slice none 0 0)), .d (.v (.slice none 0 0))]) rfl rfl rfl rfl rfl rfl rfl rfl rfl) (OkOps.nil (Ok.seq (Ok.region (OkOps.y (.agg [cI 2, cS ByteArray.empty, .tl 0 (List.map Attr.cs ([(Attr.mk (ByteArray.mk #[116, 101, 120, 116]) x1)])), .d (.v (.slice none 0 0)), .d (.v (.slice none 0 0))]) (OkOps.y (.agg [cI 5, cS ByteArray.empty, .tl 2 (List.map Attr.cs ([(Attr.mk (ByteArray.mk #[108, 97, 98, 101, 108]) x2)])), .d (.v (.slice none 0 0)), .d (.v (.slice none 0 0))]) ?_))))))))))
  refine OkOps.m 0 (triBST (sz := 5) (enc := View.cs) (j := 4) ([(View.mk 2 ByteArray.empty ([(Attr.mk (ByteArray.mk #[116, 101, 120, 116]) x1)]) ([] : (List Action)) ([] : (List View))), (View.mk 5 ByteArray.empty ([(Attr.mk (ByteArray.mk #[108, 97, 98, 101, 108]) x2)]) ([] : (List Action)) ([] : (List View)))]) rfl rfl rfl rfl rfl (rows := [[dI 2, dS ByteArray.empty, .sl (List.map Attr.cs ([(Attr.mk (ByteArray.mk #[116, 101, 120, 116]) x1)])), .sl [], .sl []], [dI 5, dS ByteArray.empty, .sl (List.map Attr.cs ([(Attr.mk (ByteArray.mk #[108, 97, 98, 101, 108]) x2)])), .sl [], .sl []]]) (by simp only [List.map, View.cs_eq]) rfl rfl (fun x => by rw [View.cs_eq]; rfl) trivial rfl rfl) ?_
  refine OkOps.y (.agg [cI 3, cS ByteArray.empty, .d (.v (.slice none 0 0)), .d (.v (.slice none 0 0)), .tl 4 (List.map View.cs ([(View.mk 2 ByteArray.empty ([(Attr.mk (ByteArray.mk #[116, 101, 120, 116]) x1)]) ([] : (List Action)) ([] : (List View))), (View.mk 5 ByteArray.empty ([(Attr.mk (ByteArray.mk #[108, 97, 98, 101, 108]) x2)]) ([] : (List Action)) ([] : (List View)))]))]) ?_
  obtain ⟨x3, hx3, hr⟩ := bind_some hr
  refine OkOps.q (triCl (tau []) (.tup [.agg [cI x3.1.Root, cI x3.1.Next, .d (.sl (List.map Node.cs x3.1.Nodes))], aI x3.2]) [] (r14_Build_c _ _ hx3) rfl ⟨.inr rfl, .inl rfl, trivial⟩ trivial entry9 trivial) (OkOps.q (triMv (v := .tup [.agg [cI x3.1.Root, cI x3.1.Next, .d (.sl (List.map Node.cs x3.1.Nodes))], aI x3.2]) rfl rfl) (OkOps.y (.agg [cI x3.1.Root, cI x3.1.Next, .d (.sl (List.map Node.cs x3.1.Nodes))]) (OkOps.y (aI x3.2) (OkOps.m 0 (triAlloc (j := 5) (cs := [cI 0, cI 0, .d (.v (.slice none 0 0))]) rfl rfl rfl rfl) (OkOps.w (triStore (cs' := [cI x3.1.Root, cI x3.1.Next, .d (.sl (List.map Node.cs x3.1.Nodes))]) rfl rfl rfl rfl rfl rfl rfl rfl rfl) (OkOps.y (aI x3.2) (OkOps.nil (Ok.seq (Ok.regionD (by kernel_rfl) (OkD.x (.agg [cI x3.1.Root, cI x3.1.Next, .d (.sl (List.map Node.cs x3.1.Nodes))]) rfl trivial rfl (OkD.x (.agg [cI x3.1.Root, cI x3.1.Next, .d (.sl (List.map Node.cs x3.1.Nodes))]) rfl trivial rfl ?_)))))))))))
  obtain ⟨x4, hx4, hr⟩ := bind_some hr
  refine OkD.q (triCl (tau []) (.s (.c (.d (.sl (List.map Styled.cs x4))))) [] (l38_styles_c _ hx4) rfl ⟨.inl rfl, trivial⟩ trivial entry28 trivial) ?_
  obtain ⟨x5, hx5, hr⟩ := bind_some hr
  refine OkD.q (triCl (tau []) (.s (aS x5)) [] (nm_Name_c _ _ _ hx5) rfl ⟨.inl rfl, .inl rfl, .inl rfl, trivial⟩ trivial entry27 trivial) (OkD.x (aB (x5.toList == (ByteArray.mk #[83, 97, 118, 101, 32, 100, 105, 115, 107]).toList)) rfl trivial rfl (OkD.x (aB (x5.toList == (ByteArray.mk #[83, 97, 118, 101, 32, 100, 105, 115, 107]).toList)) rfl trivial rfl (OkD.nil (by kernel_rfl) (Ok.ret ?_))))
  obtain rfl := Option.some.inj hr
  exact ⟨_, rfl, .inl rfl, trivial⟩
theorem l38_given_c (bits : Int) (p_k : Int) (name : Str) (p_s : Str) {r : (List Attr)} (hr : l38_given bits p_k name p_s = some r) : Con Tryz.prog 32 [.c (.d (.v (.int .u8 bits))), .c (.d (.v (.int .u64 p_k))), aS name, aS p_s] [] (.s (.c (.tl 2000 (List.map Attr.cs r)))) [(2000, .tail 5)] := by
  unfold l38_given at hr
  refine Con.of_ok 19 0 [.tmp 8] [(0, .s (.c (.d (.v (.int .u8 bits))))), (1, .s (.c (.d (.v (.int .u64 p_k))))), (2, .s (aS name)), (3, .s (aS p_s))] Tryz.func32 rfl rfl rfl rfl rfl rfl rfl rfl fun w g M ρ _ => (Ok.seq (Ok.region (OkOps.y (.c (.d (.v (.slice none 0 0)))) (OkOps.nil (Ok.seq (Ok.seq (Ok.region (OkOps.y (.c (.d (.v (.int .u8 bits)))) (OkOps.y (.c (.d (.v (.int .u64 p_k)))) ?_)))))))))
  obtain ⟨x1, hx1, hr⟩ := bind_some hr
  refine OkOps.q (triShr hx1 rfl rfl trivial rfl) (OkOps.y (.c (.d (.v (.int .u8 (bAnd .u8 x1 1))))) (OkOps.y (aB ((bAnd .u8 x1 1) == 0)) (OkOps.nil ?_)))
  refine Ok.cond (b := (bAnd .u8 x1 1) == 0) rfl (fun h2 => ?_) (fun h2 => ?_)
  have hr := selT h2 hr
  refine Ok.seq (Ok.region (OkOps.y (.c (.d (.v (.slice none 0 0)))) (OkOps.nil (Ok.conv (Conv.nil 8 0 5 0 rfl rfl) (Ok.conv (T := ⟨[(8, .s (.c (.tl 2000 (List.map Attr.cs ([] : (List Attr))))))], [(2000, .tail 5)], 0⟩) (Conv.mk (tau [(2000, 0)]) ⟨⟨_, rfl, .inl rfl⟩, trivial⟩ ⟨rfl, trivial⟩ rfl rfl rfl rfl) (Ok.ret ?_))))))
  obtain rfl := Option.some.inj hr
  exact ⟨_, rfl, .inl rfl, ⟨rfl, trivial⟩⟩
  have hr := selF h2 hr
  refine Ok.skip (Ok.seq (Ok.region (OkOps.y (aS name) (OkOps.y (aS p_s) ?_))))
  obtain ⟨x3, hx3, hr⟩ := bind_some hr
  refine OkOps.q (triCl (tau []) (.s (.agg [cI x3.Kind, cI x3.N, cS x3.S, .d (.sl (List.map AValue.cs x3.L))])) [] (l38_text_c _ hx3) rfl ⟨.inl rfl, trivial⟩ trivial entry26 trivial) (OkOps.y (.agg [cS name, cI x3.Kind, cI x3.N, cS x3.S, .d (.sl (List.map AValue.cs x3.L))]) (OkOps.m 0 (triBST (sz := 5) (enc := Attr.cs) (j := 1) ([(Attr.mk name x3)]) rfl rfl rfl rfl rfl rfl rfl rfl (fun _ => rfl) trivial rfl rfl) (OkOps.y (.c (.tl 1 (List.map Attr.cs ([(Attr.mk name x3)])))) (OkOps.nil (Ok.conv (T := ⟨[(8, .s (.c (.tl 2000 (List.map Attr.cs ([(Attr.mk name x3)])))))], [(2000, .tail 5)], 0⟩) (Conv.mk (tau [(2000, 1)]) ⟨⟨_, rfl, .inl rfl⟩, trivial⟩ ⟨rfl, trivial⟩ rfl rfl rfl rfl) (Ok.ret ?_))))))
  obtain rfl := Option.some.inj hr
  exact ⟨_, rfl, .inl rfl, ⟨rfl, trivial⟩⟩
theorem l38_NameOrder_c (bits : Int) {r : Bool} (hr : l38_NameOrder bits = some r) : Con Tryz.prog 8 [.c (.d (.v (.int .u8 bits)))] [] (.s (aB r)) [] := by
  unfold l38_NameOrder at hr
  refine Con.of_ok 90 0 [.tmp 2] [(0, .s (.c (.d (.v (.int .u8 bits)))))] Tryz.func8 rfl rfl rfl rfl rfl rfl rfl rfl fun w g M ρ _ => (Ok.seq (Ok.region (OkOps.y (aB false) (OkOps.nil (Ok.seq (Ok.region (OkOps.y (.c (.d (.v (.int .u8 bits)))) ?_)))))))
  obtain ⟨x1, hx1, hr⟩ := bind_some hr
  refine OkOps.m 0 (triCall (tau [(2000, 0)]) (.s (.c (.tl 0 (List.map Attr.cs x1)))) [(0, .tail 5)] (l38_given_c _ _ _ _ hx1) rfl ⟨.inl rfl, .inl rfl, .inl rfl, .inl rfl, trivial⟩ trivial entry32 trivial rfl rfl rfl rfl ⟨rfl, trivial⟩ rfl rfl rfl) (OkOps.y (.c (.tl 0 (List.map Attr.cs x1))) (OkOps.nil (Ok.seq (Ok.region (OkOps.y (.c (.d (.v (.int .u8 bits)))) ?_)))))
  obtain ⟨x2, hx2, hr⟩ := bind_some hr
  refine OkOps.m 0 (triCall (tau [(2000, 1)]) (.s (.c (.tl 1 (List.map Attr.cs x2)))) [(1, .tail 5)] (l38_given_c _ _ _ _ hx2) rfl ⟨.inl rfl, .inl rfl, .inl rfl, .inl rfl, trivial⟩ trivial entry32 trivial rfl rfl rfl rfl ⟨rfl, trivial⟩ rfl rfl rfl) (OkOps.y (.c (.tl 0 (List.map Attr.cs x1))) ?_)
  obtain ⟨x3, hx3, hr⟩ := bind_some hr
  refine OkOps.m2 0 (triApp (enc := Attr.cs) (L := x2) (X := x1) (j := 1) (j' := 2) hx3 rfl rfl rfl rfl rfl rfl (fun _ => rfl) (fun _ => rfl) (by decide) trivial rfl rfl) (OkOps.y (.c (.tl 2 (List.map Attr.cs x3))) (OkOps.nil (Ok.seq (Ok.region (OkOps.y (.c (.tl 2 (List.map Attr.cs x3))) (OkOps.y (.c (.d (.v (.int .u8 bits)))) ?_))))))
  obtain ⟨x4, hx4, hr⟩ := bind_some hr
  refine OkOps.m 0 (triCall (tau [(2000, 3)]) (.s (.c (.tl 3 (List.map Attr.cs x4)))) [(3, .tail 5)] (l38_given_c _ _ _ _ hx4) rfl ⟨.inl rfl, .inl rfl, .inl rfl, .inl rfl, trivial⟩ trivial entry32 trivial rfl rfl rfl rfl ⟨rfl, trivial⟩ rfl rfl rfl) ?_
  obtain ⟨x5, hx5, hr⟩ := bind_some hr
  refine OkOps.m2 0 (triApp (enc := Attr.cs) (L := x3) (X := x4) (j := 2) (j' := 4) hx5 rfl rfl rfl rfl rfl rfl (fun _ => rfl) (fun _ => rfl) (by decide) trivial rfl rfl) (OkOps.y (.c (.tl 4 (List.map Attr.cs x5))) (OkOps.nil (Ok.seq (Ok.region (OkOps.y (.c (.tl 4 (List.map Attr.cs x5))) (OkOps.y (.agg [cI 3, cS ByteArray.empty, .tl 4 (List.map Attr.cs x5), .d (.v (.slice none 0 0)), .d (.v (.slice none 0 0))]) (OkOps.m 0 (triAlloc (j := 5) (cs := [cI 0, cS ByteArray.empty, .d (.v (.slice none 0 0)), .d (.v (.slice none 0 0)), .d (.v (.slice none 0 0))]) rfl rfl rfl rfl) (OkOps.w (triStore (cs' := [cI 3, cS ByteArray.empty, .tl 4 (List.map Attr.cs x5), .d (.v (.slice none 0 0)), .d (.v (.slice none 0 0))]) rfl rfl rfl rfl rfl rfl rfl rfl rfl) (OkOps.nil ?_)))))))))
  obtain ⟨k7, hk7, hr⟩ := jn_some hr
  refine Ok.join (fun (s6 : (List View)) => ⟨[(0, .s (.c (.d (.v (.int .u8 bits))))), (4, .s (.c (.loc 5 0)))], [(4, .tail 5), (5, .blk [cI 3, cS ByteArray.empty, .tl 4 (List.map Attr.cs x5), .d (.v (.slice none 0 0)), .tl 1000 (List.map View.cs s6)] 27), (1000, .tail 5)], 0⟩) k7 r (fun s6 hr => ?_) ?_
  rw [hk7] at hr
  refine Ok.seq (Ok.region ?_)
  obtain ⟨x8, hx8, hr⟩ := bind_some hr
  refine OkOps.q (triCl (tau []) (.s (.agg [cI x8.Kind, cI x8.N, cS x8.S, .d (.sl (List.map AValue.cs x8.L))])) [] (l38_text_c _ hx8) rfl ⟨.inl rfl, trivial⟩ trivial entry26 trivial) (OkOps.y (.agg [cS (ByteArray.mk #[116, 101, 120, 116]), cI x8.Kind, cI x8.N, cS x8.S, .d (.sl (List.map AValue.cs x8.L))]) (OkOps.m 0 (triBST (sz := 5) (enc := Attr.cs) (j := 6) ([(Attr.mk (ByteArray.mk #[116, 101, 120, 116]) x8)]) rfl rfl rfl rfl rfl rfl rfl rfl (fun _ => rfl) trivial rfl rfl) (OkOps.y (.agg [cI 2, cS (ByteArray.mk #[107, 97]), .tl 6 (List.map Attr.cs ([(Attr.mk (ByteArray.mk #[116, 101, 120, 116]) x8)])), .d (.v (.slice none 0 0)), .d (.v (.slice none 0 0))]) (OkOps.m 0 (triAlloc (j := 7) (cs := [cI 0, cS ByteArray.empty, .d (.v (.slice none 0 0)), .d (.v (.slice none 0 0)), .d (.v (.slice none 0 0))]) rfl rfl rfl rfl) (OkOps.w (triStore (cs' := [cI 2, cS (ByteArray.mk #[107, 97]), .tl 6 (List.map Attr.cs ([(Attr.mk (ByteArray.mk #[116, 101, 120, 116]) x8)])), .d (.v (.slice none 0 0)), .d (.v (.slice none 0 0))]) rfl rfl rfl rfl rfl rfl rfl rfl rfl) (OkOps.nil (Ok.seq (Ok.region (OkOps.y (.agg [cI 2, cS (ByteArray.mk #[107, 97]), .tl 6 (List.map Attr.cs ([(Attr.mk (ByteArray.mk #[116, 101, 120, 116]) x8)])), .d (.v (.slice none 0 0)), .d (.v (.slice none 0 0))]) (OkOps.y (.agg [cI 3, cS ByteArray.empty, .tl 4 (List.map Attr.cs x5), .d (.v (.slice none 0 0)), .tl 1000 (List.map View.cs s6)]) ?_))))))))))
  refine OkOps.m 0 (triBST (sz := 5) (enc := View.cs) (j := 8) ([(View.mk 2 (ByteArray.mk #[107, 97]) ([(Attr.mk (ByteArray.mk #[116, 101, 120, 116]) x8)]) ([] : (List Action)) ([] : (List View))), (View.mk 3 ByteArray.empty x5 ([] : (List Action)) s6)]) rfl rfl rfl rfl rfl (rows := [[dI 2, dS (ByteArray.mk #[107, 97]), .sl (List.map Attr.cs ([(Attr.mk (ByteArray.mk #[116, 101, 120, 116]) x8)])), .sl [], .sl []], [dI 3, dS ByteArray.empty, .sl (List.map Attr.cs x5), .sl [], .sl (List.map View.cs s6)]]) (by simp only [List.map, View.cs_eq]) rfl rfl (fun x => by rw [View.cs_eq]; rfl) trivial rfl rfl) ?_
  refine OkOps.y (.agg [cI 1, cS ByteArray.empty, .d (.v (.slice none 0 0)), .d (.v (.slice none 0 0)), .tl 8 (List.map View.cs ([(View.mk 2 (ByteArray.mk #[107, 97]) ([(Attr.mk (ByteArray.mk #[116, 101, 120, 116]) x8)]) ([] : (List Action)) ([] : (List View))), (View.mk 3 ByteArray.empty x5 ([] : (List Action)) s6)]))]) ?_
  obtain ⟨x9, hx9, hr⟩ := bind_some hr
  refine OkOps.q (triCl (tau []) (.tup [.agg [cI x9.1.Root, cI x9.1.Next, .d (.sl (List.map Node.cs x9.1.Nodes))], aI x9.2]) [] (r14_Build_c _ _ hx9) rfl ⟨.inr rfl, .inl rfl, trivial⟩ trivial entry9 trivial) (OkOps.q (triMv (v := .tup [.agg [cI x9.1.Root, cI x9.1.Next, .d (.sl (List.map Node.cs x9.1.Nodes))], aI x9.2]) rfl rfl) (OkOps.y (.agg [cI x9.1.Root, cI x9.1.Next, .d (.sl (List.map Node.cs x9.1.Nodes))]) (OkOps.y (aI x9.2) (OkOps.m 0 (triAlloc (j := 9) (cs := [cI 0, cI 0, .d (.v (.slice none 0 0))]) rfl rfl rfl rfl) (OkOps.w (triStore (cs' := [cI x9.1.Root, cI x9.1.Next, .d (.sl (List.map Node.cs x9.1.Nodes))]) rfl rfl rfl rfl rfl rfl rfl rfl rfl) (OkOps.y (aI x9.2) (OkOps.nil (Ok.seq (Ok.seq (Ok.region (OkOps.y (aI x9.2) (OkOps.y (aB (x9.2 != 0)) (OkOps.nil ?_)))))))))))))
  refine Ok.cond (b := x9.2 != 0) rfl (fun h10 => ?_) (fun h10 => ?_)
  have hr := selT h10 hr
  refine Ok.seq (Ok.region (OkOps.y (aB false) (OkOps.nil (Ok.ret ?_))))
  obtain rfl := Option.some.inj hr
  exact ⟨_, rfl, .inl rfl, trivial⟩
  have hr := selF h10 hr
  refine Ok.skip (Ok.seq (Ok.region (OkOps.y (aS (ByteArray.mk #[])) (OkOps.nil ?_))))
  obtain ⟨k12, hk12, hr⟩ := jn_some hr
  refine Ok.join (fun (s11 : Str) => ⟨[(0, .s (.c (.d (.v (.int .u8 bits))))), (6, .s (.c (.loc 9 0))), (8, .s (aS s11))], [(9, .blk [cI x9.1.Root, cI x9.1.Next, .d (.sl (List.map Node.cs x9.1.Nodes))] 30)], 0⟩) k12 r (fun s11 hr => ?_) ?_
  rw [hk12] at hr
  refine Ok.seq (Ok.region (OkOps.y (aS (ByteArray.mk #[])) (OkOps.nil ?_)))
  obtain ⟨k14, hk14, hr⟩ := jn_some hr
  refine Ok.join (fun (s13 : Str) => ⟨[(6, .s (.c (.loc 9 0))), (8, .s (aS s11)), (9, .s (aS s13))], [(9, .blk [cI x9.1.Root, cI x9.1.Next, .d (.sl (List.map Node.cs x9.1.Nodes))] 30)], 0⟩) k14 r (fun s13 hr => ?_) ?_
  rw [hk14] at hr
  refine Ok.seq (Ok.regionD (by kernel_rfl) (OkD.x (.agg [cI x9.1.Root, cI x9.1.Next, .d (.sl (List.map Node.cs x9.1.Nodes))]) rfl trivial rfl (OkD.x (.agg [cI x9.1.Root, cI x9.1.Next, .d (.sl (List.map Node.cs x9.1.Nodes))]) rfl trivial rfl ?_)))
  obtain ⟨x15, hx15, hr⟩ := bind_some hr
  refine OkD.q (triCl (tau []) (.s (.c (.d (.sl (List.map Styled.cs x15))))) [] (l38_styles_c _ hx15) rfl ⟨.inl rfl, trivial⟩ trivial entry28 trivial) ?_
  obtain ⟨x16, hx16, hr⟩ := bind_some hr
  refine OkD.q (triCl (tau []) (.s (aS x16)) [] (nm_Name_c _ _ _ hx16) rfl ⟨.inl rfl, .inl rfl, .inl rfl, trivial⟩ trivial entry27 trivial) (OkD.x (aS s11) rfl trivial rfl (OkD.x (aB (x16.toList == s11.toList)) rfl trivial rfl (OkD.x (aB (x16.toList == s11.toList)) rfl trivial rfl (OkD.q (triQG (x := .agg [cI x9.1.Root, cI x9.1.Next, .d (.sl (List.map Node.cs x9.1.Nodes))]) rfl rfl trivial rfl) (OkD.q (triQG (x := .agg [cI x9.1.Root, cI x9.1.Next, .d (.sl (List.map Node.cs x9.1.Nodes))]) rfl rfl trivial rfl) ?_)))))
  obtain ⟨x17, hx17, hr⟩ := bind_some hr
  refine OkD.q (triCallG (x := .c (.d (.sl (List.map Styled.cs x17)))) (fun hg => l38_styles_c _ (gO_t hx17 hg)) rfl rfl ⟨.inl rfl, trivial⟩ ⟨fun h => h, trivial⟩ entry28 rfl rfl rfl) ?_
  obtain ⟨x18, hx18, hr⟩ := bind_some hr
  refine OkD.q (triCallG (x := aS x18) (fun hg => nm_Description_c _ _ _ (gO_t hx18 hg)) rfl rfl ⟨.inl rfl, .inl rfl, .inl rfl, trivial⟩ ⟨fun h => h, ⟨fun h => h, trivial⟩⟩ entry33 rfl rfl rfl) (OkD.q (triQG (x := aS s13) rfl rfl trivial rfl) (OkD.q (triQG (x := aB (x18.toList == s13.toList)) rfl rfl ⟨fun h => h, ⟨fun h => h, trivial⟩⟩ rfl) (OkD.q (triAnd rfl rfl (fun h => h) rfl) (OkD.x (aB ((x16.toList == s11.toList) && (x18.toList == s13.toList))) rfl trivial rfl ?_))))
  obtain ⟨x19, hx19, hr⟩ := bind_some hr
  refine OkD.q (triCallG (x := aB x19) (fun hg => l38_awake_c  (gO_t hx19 hg)) rfl rfl trivial trivial entry31 rfl rfl rfl) (OkD.q (triAnd rfl rfl (fun h => h) rfl) (OkD.x (aB (((x16.toList == s11.toList) && (x18.toList == s13.toList)) && x19)) rfl trivial rfl (OkD.nil (by kernel_rfl) (Ok.ret ?_))))
  obtain rfl := Option.some.inj hr
  exact ⟨_, rfl, .inl rfl, trivial⟩
  clear hk14
  refine Ok.seq (Ok.region (OkOps.y (.c (.d (.v (.int .u8 bits)))) (OkOps.y (.c (.d (.v (.int .u8 (bShr .u8 bits 2))))) (OkOps.y (.c (.d (.v (.int .u8 (bAnd .u8 (bShr .u8 bits 2) 1))))) (OkOps.y (aB ((bAnd .u8 (bShr .u8 bits 2) 1) == 1)) (OkOps.y (aB ((bAnd .u8 (bShr .u8 bits 2) 1) == 1)) (OkOps.q (triQG (x := aS s11) rfl rfl trivial rfl) (OkOps.q (triQG (x := aB (!(s11.toList == (ByteArray.mk #[116, 105, 116, 108, 101, 100]).toList))) rfl rfl ⟨fun h => h, trivial⟩ rfl) (OkOps.q (triAnd rfl rfl (fun h => h) rfl) (OkOps.nil ?_))))))))))
  refine Ok.cond (b := ((bAnd .u8 (bShr .u8 bits 2) 1) == 1) && (!(s11.toList == (ByteArray.mk #[116, 105, 116, 108, 101, 100]).toList))) rfl (fun h20 => ?_) (fun h20 => ?_)
  have hr := selT h20 hr
  refine Ok.region (OkOps.y (aS (ByteArray.mk #[116, 105, 116, 108, 101, 100])) (OkOps.nil ?_))
  exact ⟨(ByteArray.mk #[116, 105, 116, 108, 101, 100]), hr, (Conv.mk (tau []) ⟨⟨_, rfl, .inl rfl⟩, ⟨_, rfl, .inl rfl⟩, ⟨_, rfl, .inl rfl⟩, trivial⟩ ⟨rfl, trivial⟩ rfl rfl rfl rfl)⟩
  have hr := selF h20 hr
  refine Ok.skip ?_
  exact ⟨(ByteArray.mk #[]), hr, (Conv.mk (tau []) ⟨⟨_, rfl, .inl rfl⟩, ⟨_, rfl, .inl rfl⟩, ⟨_, rfl, .inl rfl⟩, trivial⟩ ⟨rfl, trivial⟩ rfl rfl rfl rfl)⟩
  clear hk12
  refine Ok.block (Ok.seq (Ok.region (OkOps.y (.c (.d (.v (.int .u8 bits)))) (OkOps.y (.c (.d (.v (.int .u8 (bAnd .u8 bits 1))))) (OkOps.y (aB ((bAnd .u8 bits 1) == 1)) (OkOps.y (aB ((bAnd .u8 bits 1) == 1)) (OkOps.nil ?_)))))))
  refine Ok.cond (b := (bAnd .u8 bits 1) == 1) rfl (fun h21 => ?_) (fun h21 => ?_)
  have hr := selT h21 hr
  refine Ok.region (OkOps.y (aS (ByteArray.mk #[97, 98, 111, 118, 101])) (OkOps.nil ?_))
  exact ⟨(ByteArray.mk #[97, 98, 111, 118, 101]), hr, (Conv.mk (tau []) ⟨⟨_, rfl, .inl rfl⟩, ⟨_, rfl, .inl rfl⟩, ⟨_, rfl, .inl rfl⟩, trivial⟩ ⟨rfl, trivial⟩ rfl rfl rfl rfl)⟩
  have hr := selF h21 hr
  refine Ok.seq (Ok.region (OkOps.y (.c (.d (.v (.int .u8 bits)))) (OkOps.y (.c (.d (.v (.int .u8 (bShr .u8 bits 1))))) (OkOps.y (.c (.d (.v (.int .u8 (bAnd .u8 (bShr .u8 bits 1) 1))))) (OkOps.y (aB ((bAnd .u8 (bShr .u8 bits 1) 1) == 1)) (OkOps.y (aB ((bAnd .u8 (bShr .u8 bits 1) 1) == 1)) (OkOps.nil ?_)))))))
  refine Ok.cond (b := (bAnd .u8 (bShr .u8 bits 1) 1) == 1) rfl (fun h22 => ?_) (fun h22 => ?_)
  have hr := selT h22 hr
  refine Ok.region (OkOps.y (aS (ByteArray.mk #[111, 119, 110])) (OkOps.nil ?_))
  exact ⟨(ByteArray.mk #[111, 119, 110]), hr, (Conv.mk (tau []) ⟨⟨_, rfl, .inl rfl⟩, ⟨_, rfl, .inl rfl⟩, ⟨_, rfl, .inl rfl⟩, trivial⟩ ⟨rfl, trivial⟩ rfl rfl rfl rfl)⟩
  have hr := selF h22 hr
  refine Ok.seq (Ok.region (OkOps.y (.c (.d (.v (.int .u8 bits)))) (OkOps.y (.c (.d (.v (.int .u8 (bShr .u8 bits 3))))) (OkOps.y (.c (.d (.v (.int .u8 (bAnd .u8 (bShr .u8 bits 3) 1))))) (OkOps.y (aB ((bAnd .u8 (bShr .u8 bits 3) 1) == 1)) (OkOps.y (aB ((bAnd .u8 (bShr .u8 bits 3) 1) == 1)) (OkOps.nil ?_)))))))
  refine Ok.cond (b := (bAnd .u8 (bShr .u8 bits 3) 1) == 1) rfl (fun h23 => ?_) (fun h23 => ?_)
  have hr := selT h23 hr
  refine Ok.region (OkOps.y (aS (ByteArray.mk #[105, 110, 115, 105, 100, 101])) (OkOps.nil ?_))
  exact ⟨(ByteArray.mk #[105, 110, 115, 105, 100, 101]), hr, (Conv.mk (tau []) ⟨⟨_, rfl, .inl rfl⟩, ⟨_, rfl, .inl rfl⟩, ⟨_, rfl, .inl rfl⟩, trivial⟩ ⟨rfl, trivial⟩ rfl rfl rfl rfl)⟩
  have hr := selF h23 hr
  refine Ok.seq (Ok.region (OkOps.y (.c (.d (.v (.int .u8 bits)))) (OkOps.y (.c (.d (.v (.int .u8 (bShr .u8 bits 2))))) (OkOps.y (.c (.d (.v (.int .u8 (bAnd .u8 (bShr .u8 bits 2) 1))))) (OkOps.y (aB ((bAnd .u8 (bShr .u8 bits 2) 1) == 1)) (OkOps.y (aB ((bAnd .u8 (bShr .u8 bits 2) 1) == 1)) (OkOps.nil ?_)))))))
  refine Ok.cond (b := (bAnd .u8 (bShr .u8 bits 2) 1) == 1) rfl (fun h24 => ?_) (fun h24 => ?_)
  have hr := selT h24 hr
  refine Ok.region (OkOps.y (aS (ByteArray.mk #[116, 105, 116, 108, 101, 100])) (OkOps.nil ?_))
  exact ⟨(ByteArray.mk #[116, 105, 116, 108, 101, 100]), hr, (Conv.mk (tau []) ⟨⟨_, rfl, .inl rfl⟩, ⟨_, rfl, .inl rfl⟩, ⟨_, rfl, .inl rfl⟩, trivial⟩ ⟨rfl, trivial⟩ rfl rfl rfl rfl)⟩
  have hr := selF h24 hr
  refine Ok.skip ?_
  exact ⟨(ByteArray.mk #[]), hr, (Conv.mk (tau []) ⟨⟨_, rfl, .inl rfl⟩, ⟨_, rfl, .inl rfl⟩, ⟨_, rfl, .inl rfl⟩, trivial⟩ ⟨rfl, trivial⟩ rfl rfl rfl rfl)⟩
  clear hk7
  refine Ok.seq (Ok.region (OkOps.y (.c (.d (.v (.int .u8 bits)))) (OkOps.y (.c (.d (.v (.int .u8 (bShr .u8 bits 3))))) (OkOps.y (.c (.d (.v (.int .u8 (bAnd .u8 (bShr .u8 bits 3) 1))))) (OkOps.y (aB ((bAnd .u8 (bShr .u8 bits 3) 1) == 1)) (OkOps.nil ?_))))))
  refine Ok.cond (b := (bAnd .u8 (bShr .u8 bits 3) 1) == 1) rfl (fun h25 => ?_) (fun h25 => ?_)
  have hr := selT h25 hr
  refine Ok.region ?_
  obtain ⟨x26, hx26, hr⟩ := bind_some hr
  refine OkOps.q (triCl (tau []) (.s (.agg [cI x26.Kind, cI x26.N, cS x26.S, .d (.sl (List.map AValue.cs x26.L))])) [] (l38_text_c _ hx26) rfl ⟨.inl rfl, trivial⟩ trivial entry26 trivial) (OkOps.y (.agg [cS (ByteArray.mk #[116, 101, 120, 116]), cI x26.Kind, cI x26.N, cS x26.S, .d (.sl (List.map AValue.cs x26.L))]) (OkOps.m 0 (triBST (sz := 5) (enc := Attr.cs) (j := 10) ([(Attr.mk (ByteArray.mk #[116, 101, 120, 116]) x26)]) rfl rfl rfl rfl rfl rfl rfl rfl (fun _ => rfl) trivial rfl rfl) (OkOps.y (.agg [cI 2, cS ByteArray.empty, .tl 10 (List.map Attr.cs ([(Attr.mk (ByteArray.mk #[116, 101, 120, 116]) x26)])), .d (.v (.slice none 0 0)), .d (.v (.slice none 0 0))]) ?_)))
  refine OkOps.m 0 (triBST (sz := 5) (enc := View.cs) (j := 11) ([(View.mk 2 ByteArray.empty ([(Attr.mk (ByteArray.mk #[116, 101, 120, 116]) x26)]) ([] : (List Action)) ([] : (List View)))]) rfl rfl rfl rfl rfl (rows := [[dI 2, dS ByteArray.empty, .sl (List.map Attr.cs ([(Attr.mk (ByteArray.mk #[116, 101, 120, 116]) x26)])), .sl [], .sl []]]) (by simp only [List.map, View.cs_eq]) rfl rfl (fun x => by rw [View.cs_eq]; rfl) trivial rfl rfl) ?_
  refine OkOps.y (.c (.loc 5 4)) (OkOps.w (triStore (cs' := [cI 3, cS ByteArray.empty, .tl 4 (List.map Attr.cs x5), .d (.v (.slice none 0 0)), .tl 11 (List.map View.cs ([(View.mk 2 ByteArray.empty ([(Attr.mk (ByteArray.mk #[116, 101, 120, 116]) x26)]) ([] : (List Action)) ([] : (List View)))]))]) rfl rfl rfl rfl rfl rfl rfl rfl rfl) (OkOps.nil ?_))
  exact ⟨[(View.mk 2 ByteArray.empty ([(Attr.mk (ByteArray.mk #[116, 101, 120, 116]) x26)]) ([] : (List Action)) ([] : (List View)))], hr, (Conv.mk (tau [(1000, 11)]) ⟨⟨_, rfl, .inl rfl⟩, ⟨_, rfl, .inl rfl⟩, trivial⟩ ⟨rfl, rfl, rfl, trivial⟩ rfl rfl rfl rfl)⟩
  have hr := selF h25 hr
  refine Ok.skip ?_
  exact ⟨([] : (List View)), hr, (Conv.trans (Conv.nilO 5 4 1001 5 [cI 3, cS ByteArray.empty, .tl 4 (List.map Attr.cs x5), .d (.v (.slice none 0 0)), .d (.v (.slice none 0 0))] [cI 3, cS ByteArray.empty, .tl 4 (List.map Attr.cs x5), .d (.v (.slice none 0 0)), .tl 1001 (List.map View.cs ([] : (List View)))] 27 0 rfl rfl rfl rfl) (Conv.mk (tau [(1000, 1001)]) ⟨⟨_, rfl, .inl rfl⟩, ⟨_, rfl, .inl rfl⟩, trivial⟩ ⟨rfl, rfl, rfl, trivial⟩ rfl rfl rfl rfl))⟩
end Go.Proofs.YtfoigppmcelgfaaGreatDoor
end
section
namespace Go.E2
open Go
@[simp] theorem sel_true {α : Type} (a b : α) : sel true a b = a := rfl
@[simp] theorem sel_false {α : Type} (a b : α) : sel false a b = b := rfl
@[simp] theorem gO_true {α : Type} [Inhabited α] (o : Option α) : gO true o = o := rfl
@[simp] theorem gO_false {α : Type} [Inhabited α] (o : Option α) : gO false o = some default := rfl
@[simp] theorem bind_some' {α β : Type} (x : α) (k : α → Option β) : (some x).bind k = k x := rfl
@[simp] theorem jn_eq {S R : Type} (k : S → Option R) (b : (S → Option R) → Option R) : jn k b = b k := rfl
end Go.E2
end
section
namespace Go.E2
open Go
theorem bindN {α β : Type} (x : α) (k : α → Option β) : (some x).bind k = k x := id rfl
instance : LawfulBEq ByteArray where
  eq_of_beq := by
    intro a b h
    have h' : (a.data == b.data) = true := h
    have := eq_of_beq h'
    cases a; cases b; simp_all
  rfl := by
    intro a
    show (a.data == a.data) = true
    exact beq_self_eq_true _
end Go.E2
end
section
set_option maxRecDepth 100000
namespace Go.Proofs.YtfoigppmcelgfaaGreatDoor
open Go Go.E2
def okT : Option Bool → Bool
  | some b => b
  | none => false
theorem okT_spec {x : Option Bool} (h : okT x = true) : x = some true := by
  cases x with
  | none => cases h
  | some b => cases b with
    | true => rfl
    | false => cases h
theorem order_all : ((List.range 16).all fun b => okT (l38_NameOrder b)) = true := by kernel_rfl
theorem bits_all : ((List.range 256).all fun b => (bAnd .u8 (bShr .u8 b 0) 1 == bAnd .u8 (bShr .u8 ((b % 16 : Nat) : Int) 0) 1) && (bAnd .u8 (bShr .u8 b 1) 1 == bAnd .u8 (bShr .u8 ((b % 16 : Nat) : Int) 1) 1) && (bAnd .u8 (bShr .u8 b 2) 1 == bAnd .u8 (bShr .u8 ((b % 16 : Nat) : Int) 2) 1) && (bAnd .u8 (bShr .u8 b 3) 1 == bAnd .u8 (bShr .u8 ((b % 16 : Nat) : Int) 3) 1) && (bAnd .u8 b 1 == bAnd .u8 ((b % 16 : Nat) : Int) 1)) = true := by kernel_rfl
theorem given_same {b c : Int} {k : Nat} (n s : Str) (h : bAnd .u8 (bShr .u8 b k) 1 = bAnd .u8 (bShr .u8 c k) 1) : l38_given b k n s = l38_given c k n s := by
  unfold l38_given
  have e : ∀ x : Int, shO (k : Int) x = some x := fun x => by unfold shO; simp
  rw [e, e, bindN, bindN, h]
theorem nameOrder_true (b : Int) (hb : (Lit.int .u8 b).wf = true) : l38_NameOrder b = some true := by
  have h0 : 0 ≤ b ∧ b < 256 := by
    simp only [Lit.wf, Bool.and_eq_true, decide_eq_true_eq] at hb
    have : IntKind.u8.max = 255 := by decide
    have : IntKind.u8.min = 0 := by decide
    omega
  obtain ⟨n, rfl⟩ : ∃ n : Nat, b = n := ⟨b.toNat, by omega⟩
  have h1 := List.all_eq_true.1 bits_all n (List.mem_range.2 (by omega))
  simp only [Bool.and_eq_true, beq_iff_eq] at h1
  obtain ⟨⟨⟨⟨e0, e1⟩, e2⟩, e3⟩, e4⟩ := h1
  have h2 : l38_NameOrder n = l38_NameOrder ((n % 16 : Nat) : Int) := by
    unfold l38_NameOrder
    have g0 : ∀ m s, l38_given n 0 m s = l38_given ((n % 16 : Nat) : Int) 0 m s := fun m s => given_same (k := 0) m s e0
    have g1 : ∀ m s, l38_given n 1 m s = l38_given ((n % 16 : Nat) : Int) 1 m s := fun m s => given_same (k := 1) m s e1
    have g2 : ∀ m s, l38_given n 2 m s = l38_given ((n % 16 : Nat) : Int) 2 m s := fun m s => given_same (k := 2) m s e2
    rw [g0, g1, g2, e1, e2, e3, e4]
  rw [h2]
  exact okT_spec (List.all_eq_true.1 order_all (n % 16) (List.mem_range.2 (by omega)))
end Go.Proofs.YtfoigppmcelgfaaGreatDoor
end

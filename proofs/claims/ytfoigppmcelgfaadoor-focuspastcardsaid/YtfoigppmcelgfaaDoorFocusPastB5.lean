/-
  Part 5 of the texts under the law FocusPast: the calculus, the plain functions, their walks, plain facts.
-/
import Derived.Test.YtfoigppmcelgfaaDoorFocusPastB4
import Derived.Test.YtfoigppmcelgfaaDoorProg
import Derived.KernelRfl
section
set_option maxRecDepth 100000
namespace Go.Proofs.YtfoigppmcelgfaaDoor
open Go Go.E2
theorem fo_without_1_c (p_x : Int) (c0 : Int) {r : Bool} (hr : fo_without_1 p_x c0 = some r) : Con Tryd.prog 69 [aI p_x, .c (.loc 0 0)] [(0, .blk [cI c0] 3)] (.s (aB r)) [(0, .blk [cI c0] 3)] := by
  unfold fo_without_1 at hr
  refine Con.of_ok 7 0 [.tmp 3] [(0, .s (aI p_x)), (1, .s (.c (.loc 0 0)))] Tryd.func69 rfl rfl rfl rfl rfl rfl rfl rfl fun w g M ρ _ => (Ok.seq (Ok.region (OkOps.y (aB false) (OkOps.nil (Ok.seq (Ok.region (OkOps.y (aI p_x) (OkOps.y (aI c0) (OkOps.y (aB (p_x == c0)) (OkOps.y (aB (p_x == c0)) (OkOps.nil (Ok.ret ?_))))))))))))
  obtain rfl := Option.some.inj hr
  exact ⟨_, rfl, .inl rfl, ⟨rfl, trivial⟩⟩
theorem sl_IndexFunc_wo_c (p_s : (List Int)) (f_0 : Int) {r : Int × (List Int)} (hr : sl_IndexFunc_wo p_s f_0 = some r) : Con Tryd.prog 70 [.c (.own 0), .c (.fn 69 [(1, 0)])] [(0, .vec 1 (List.map (eInt .i64) p_s)), (1, .blk [cI f_0] 3)] (.s (aI r.1)) [(0, .vec 1 (List.map (eInt .i64) r.2)), (1, .blk [cI f_0] 3)] := by
  unfold sl_IndexFunc_wo at hr
  refine Con.of_ok 19 0 [.tmp 4] [(0, .s (.c (.own 0))), (1, .s (.c (.fn 69 [(1, 0)])))] Tryd.func70 rfl rfl rfl rfl rfl rfl rfl rfl fun w g M ρ _ => (Ok.seq (Ok.region (OkOps.y (aI 0) (OkOps.nil ?_))))
  obtain ⟨k2, hk2, hr⟩ := jn_some hr
  refine Ok.join (fun (s1 : Unit) => ⟨[], [(0, .vec 1 (List.map (eInt .i64) p_s)), (1, .blk [cI f_0] 3)], 0⟩) k2 r (fun s1 hr => ?_) ?_
  rw [hk2] at hr
  refine Ok.seq (Ok.region (OkOps.y (aI (-1)) (OkOps.nil (Ok.ret ?_))))
  obtain rfl := Option.some.inj hr
  exact ⟨_, rfl, .inl rfl, ⟨rfl, rfl, trivial⟩⟩
  clear hk2
  refine Ok.seq (Ok.region (OkOps.y (.c (.own 0)) (OkOps.q (triLenV (enc := (eInt .i64)) p_s rfl rfl rfl rfl) (OkOps.y (aI 0) (OkOps.nil (Ok.block (Ok.loopK (fun (s3 : Int) => ⟨[(0, .s (.c (.own 0))), (1, .s (.c (.fn 69 [(1, 0)]))), (7, .s (aI (p_s.length : Int))), (8, .s (aI s3))], [(0, .vec 1 (List.map (eInt .i64) p_s)), (1, .blk [cI f_0] 3)], 0⟩) hr (Conv.mk (tau []) ⟨⟨_, rfl, .inl rfl⟩, ⟨_, rfl, .inl rfl⟩, ⟨_, rfl, .inl rfl⟩, ⟨_, rfl, .inl rfl⟩, trivial⟩ ⟨rfl, rfl, trivial⟩ rfl rfl rfl rfl) ?_)))))))
  clear hr
  intro again4 s3 hr
  unfold sl_IndexFunc_wo_L1 at hr
  refine Ok.seq (Ok.region (OkOps.y (aB (decide (s3 < (p_s.length : Int)))) (OkOps.nil (Ok.seq ?_))))
  refine Ok.cond (b := decide (s3 < (p_s.length : Int))) rfl (fun h5 => ?_) (fun h5 => ?_)
  have hr := selT h5 hr
  refine Ok.skip (Ok.seq (Ok.block (Ok.seq (Ok.region (OkOps.y (aI s3) (OkOps.y (aI s3) (OkOps.nil (Ok.seq (Ok.region (OkOps.y (.c (.fn 69 [(1, 0)])) (OkOps.y (.c (.own 0)) (OkOps.y (aI s3) ?_))))))))))))
  obtain ⟨x6, hx6, hr⟩ := bind_some hr
  refine OkOps.q (triIdxV (enc := (eInt .i64)) (L := p_s) hx6 rfl rfl rfl rfl trivial rfl) ?_
  obtain ⟨x7, hx7, hr⟩ := bind_some hr
  refine OkOps.q (triLoadV (enc := (eInt .i64)) (L := p_s) (row := [dI x7]) (r := aI x7) hx7 rfl rfl rfl (fun _ => rfl) rfl  rfl) ?_
  obtain ⟨x8, hx8, hr⟩ := bind_some hr
  refine OkOps.q (TriL.keep (triCallF (caps := [(1, 0)]) (tau [(0, 1)]) (.s (aB x8)) [(1, .blk [cI f_0] 3)] rfl (fo_without_1_c _ _ hx8) rfl ⟨.inl rfl, .inl rfl, trivial⟩ trivial entry69 ⟨rfl, trivial⟩ rfl rfl rfl rfl trivial rfl rfl rfl) ⟨rfl, trivial⟩) (OkOps.nil ?_)
  refine Ok.cond (b := x8) rfl (fun h9 => ?_) (fun h9 => ?_)
  have hr := selT h9 hr
  refine Ok.seq (Ok.region (OkOps.y (aI s3) (OkOps.y (aI s3) (OkOps.nil (Ok.ret ?_)))))
  obtain rfl := Option.some.inj hr
  exact ⟨_, rfl, .inl rfl, ⟨rfl, rfl, trivial⟩⟩
  have hr := selF h9 hr
  refine Ok.skip (Ok.region (OkOps.y (aI (IntKind.i64.wrap (s3 + 1))) (OkOps.y (aI (IntKind.i64.wrap (s3 + 1))) (OkOps.nil ?_))))
  exact ⟨IntKind.i64.wrap (s3 + 1), hr, (Conv.mk (tau []) ⟨⟨_, rfl, .inl rfl⟩, ⟨_, rfl, .inl rfl⟩, ⟨_, rfl, .inl rfl⟩, ⟨_, rfl, .inl rfl⟩, trivial⟩ ⟨rfl, rfl, trivial⟩ rfl rfl rfl rfl)⟩
  have hr := selF h5 hr
  refine Ok.exit ?_
  exact ⟨(), hr, (Conv.mk (tau []) trivial ⟨rfl, rfl, trivial⟩ rfl rfl rfl rfl)⟩
theorem sl_DeleteFunc_wo_c (p_s : (List Int)) (del_0 : Int) {r : (List Int)} (hr : sl_DeleteFunc_wo p_s del_0 = some r) : Con Tryd.prog 42 [.c (.own 0), .c (.fn 69 [(1, 0)])] [(0, .vec 1 (List.map (eInt .i64) p_s)), (1, .blk [cI del_0] 3)] (.s (.c (.tl 2000 (List.map (eInt .i64) r)))) [(1, .blk [cI del_0] 3), (0, .dead), (2000, .tail 1)] := by
  unfold sl_DeleteFunc_wo at hr
  refine Con.of_ok 42 0 [.tmp 4] [(0, .s (.c (.own 0))), (1, .s (.c (.fn 69 [(1, 0)])))] Tryd.func42 rfl rfl rfl rfl rfl rfl rfl rfl fun w g M ρ _ => (Ok.seq (Ok.region (OkOps.y (.c (.d (.v (.slice none 0 0)))) (OkOps.nil (Ok.seq (Ok.region (OkOps.y (.c (.own 0)) (OkOps.y (.c (.fn 69 [(1, 0)])) ?_))))))))
  obtain ⟨x1, hx1, hr⟩ := bind_some hr
  refine OkOps.m2 0 (triCl (tau [(0, 0), (1, 1)]) (.s (aI x1.1)) [(0, .vec 1 (List.map (eInt .i64) x1.2)), (1, .blk [cI del_0] 3)] (sl_IndexFunc_wo_c _ _ hx1) rfl ⟨.inl rfl, .inl rfl, trivial⟩ trivial entry70 ⟨rfl, rfl, trivial⟩) (OkOps.y (aI x1.1) (OkOps.nil (Ok.seq (Ok.seq (Ok.region (OkOps.y (aI x1.1) (OkOps.y (aB (x1.1 == (-1))) (OkOps.nil ?_))))))))
  refine Ok.cond (b := x1.1 == (-1)) rfl (fun h2 => ?_) (fun h2 => ?_)
  have hr := selT h2 hr
  refine Ok.seq (Ok.region (OkOps.y (.c (.own 0)) (OkOps.y (.c (.own 0)) (OkOps.nil (Ok.conv (Conv.freeze (enc := (eInt .i64)) (L := x1.2) [0, 4, 8, 13] 0 2 1 0 ⟨rfl, rfl, rfl, rfl, trivial⟩ rfl (fun _ => rfl) rfl) (Ok.conv (T := ⟨[(4, .s (.c (.tl 2000 (List.map (eInt .i64) x1.2))))], [(0, .dead), (1, .blk [cI del_0] 3), (2000, .tail 1)], 0⟩) (Conv.mk (tau [(2000, 2)]) ⟨⟨_, rfl, .inl rfl⟩, trivial⟩ ⟨rfl, rfl, trivial⟩ rfl rfl rfl rfl) (Ok.ret ?_)))))))
  obtain rfl := Option.some.inj hr
  exact ⟨_, rfl, .inl rfl, ⟨rfl, (fun h => by cases h), rfl, trivial⟩⟩
  have hr := selF h2 hr
  refine Ok.skip ?_
  obtain ⟨k4, hk4, hr⟩ := jn_some hr
  refine Ok.join (fun (s3 : Int × (List Int)) => ⟨[(0, .s (.c (.own 0))), (5, .s (aI s3.1))], [(0, .vec 1 (List.map (eInt .i64) s3.2)), (1, .blk [cI del_0] 3)], 0⟩) k4 r (fun s3 hr => ?_) ?_
  rw [hk4] at hr
  refine Ok.seq (Ok.region (OkOps.y (.c (.own 0)) (OkOps.y (aI s3.1) ?_)))
  obtain ⟨x5, hx5, hr⟩ := bind_some hr
  refine OkOps.clrV (enc := (eInt .i64)) (L := s3.2) 0 hx5 rfl rfl rfl rfl rfl rfl rfl (fun _ => rfl) trivial rfl rfl (OkOps.nil (Ok.seq (Ok.region (OkOps.y (.c (.own 0)) (OkOps.y (aI s3.1) ?_)))))
  obtain ⟨x6, hx6, hr⟩ := bind_some hr
  refine OkOps.m2 0 (triSlcV (enc := (eInt .i64)) (L := List.take x5 s3.2 ++ List.replicate (s3.2.length - x5) 0) (j := 0) (j' := 3) hx6 rfl rfl rfl rfl (fun _ => rfl) trivial rfl rfl) (OkOps.y (.c (.tl 3 (List.map (eInt .i64) (List.take x6 (List.take x5 s3.2 ++ List.replicate (s3.2.length - x5) 0))))) (OkOps.nil (Ok.conv (T := ⟨[(4, .s (.c (.tl 2000 (List.map (eInt .i64) (List.take x6 (List.take x5 s3.2 ++ List.replicate (s3.2.length - x5) 0))))))], [(0, .dead), (1, .blk [cI del_0] 3), (2000, .tail 1)], 0⟩) (Conv.mk (tau [(2000, 3)]) ⟨⟨_, rfl, .inl rfl⟩, trivial⟩ ⟨rfl, rfl, trivial⟩ rfl rfl rfl rfl) (Ok.ret ?_))))
  obtain rfl := Option.some.inj hr
  exact ⟨_, rfl, .inl rfl, ⟨rfl, (fun h => by cases h), rfl, trivial⟩⟩
  clear hk4
  refine Ok.seq (Ok.region (OkOps.y (aI x1.1) (OkOps.y (aI (IntKind.i64.wrap (x1.1 + 1))) (OkOps.y (aI (IntKind.i64.wrap (x1.1 + 1))) (OkOps.nil (Ok.block (Ok.loopK (fun (s7 : Int × Int × (List Int)) => ⟨[(0, .s (.c (.own 0))), (1, .s (.c (.fn 69 [(1, 0)]))), (5, .s (aI s7.1)), (6, .s (aI s7.2.1))], [(0, .vec 1 (List.map (eInt .i64) s7.2.2)), (1, .blk [cI del_0] 3)], 0⟩) hr (Conv.mk (tau []) ⟨⟨_, rfl, .inl rfl⟩, ⟨_, rfl, .inl rfl⟩, ⟨_, rfl, .inl rfl⟩, ⟨_, rfl, .inl rfl⟩, trivial⟩ ⟨rfl, rfl, trivial⟩ rfl rfl rfl rfl) ?_)))))))
  clear hr
  intro again8 s7 hr
  unfold sl_DeleteFunc_wo_L1 at hr
  refine Ok.seq (Ok.seq (Ok.region (OkOps.y (aI s7.2.1) (OkOps.y (.c (.own 0)) (OkOps.q (triLenV (enc := (eInt .i64)) s7.2.2 rfl rfl rfl rfl) (OkOps.y (aB (decide (s7.2.1 < (s7.2.2.length : Int)))) (OkOps.nil ?_)))))))
  refine Ok.cond (b := decide (s7.2.1 < (s7.2.2.length : Int))) rfl (fun h9 => ?_) (fun h9 => ?_)
  have hr := selT h9 hr
  refine Ok.skip ?_
  obtain ⟨k11, hk11, hr⟩ := jn_some hr
  refine Ok.join (fun (s10 : Int × (List Int)) => ⟨[(0, .s (.c (.own 0))), (1, .s (.c (.fn 69 [(1, 0)]))), (5, .s (aI s10.1)), (6, .s (aI s7.2.1))], [(0, .vec 1 (List.map (eInt .i64) s10.2)), (1, .blk [cI del_0] 3)], 0⟩) k11 r (fun s10 hr => ?_) ?_
  rw [hk11] at hr
  refine Ok.region (OkOps.y (aI s7.2.1) (OkOps.y (aI (IntKind.i64.wrap (s7.2.1 + 1))) (OkOps.y (aI (IntKind.i64.wrap (s7.2.1 + 1))) (OkOps.nil ?_))))
  exact ⟨(s10.1, IntKind.i64.wrap (s7.2.1 + 1), s10.2), hr, (Conv.mk (tau []) ⟨⟨_, rfl, .inl rfl⟩, ⟨_, rfl, .inl rfl⟩, ⟨_, rfl, .inl rfl⟩, ⟨_, rfl, .inl rfl⟩, trivial⟩ ⟨rfl, rfl, trivial⟩ rfl rfl rfl rfl)⟩
  clear hk11
  refine Ok.block (Ok.seq (Ok.region (OkOps.y (.c (.own 0)) (OkOps.y (aI s7.2.1) ?_))))
  obtain ⟨x12, hx12, hr⟩ := bind_some hr
  refine OkOps.q (triIdxV (enc := (eInt .i64)) (L := s7.2.2) hx12 rfl rfl rfl rfl trivial rfl) ?_
  obtain ⟨x13, hx13, hr⟩ := bind_some hr
  refine OkOps.q (triLoadV (enc := (eInt .i64)) (L := s7.2.2) (row := [dI x13]) (r := aI x13) hx13 rfl rfl rfl (fun _ => rfl) rfl  rfl) (OkOps.y (aI x13) (OkOps.nil (Ok.seq (Ok.region (OkOps.y (.c (.fn 69 [(1, 0)])) (OkOps.y (aI x13) ?_))))))
  obtain ⟨x14, hx14, hr⟩ := bind_some hr
  refine OkOps.q (TriL.keep (triCallF (caps := [(1, 0)]) (tau [(0, 1)]) (.s (aB x14)) [(1, .blk [cI del_0] 3)] rfl (fo_without_1_c _ _ hx14) rfl ⟨.inl rfl, .inl rfl, trivial⟩ trivial entry69 ⟨rfl, trivial⟩ rfl rfl rfl rfl trivial rfl rfl rfl) ⟨rfl, trivial⟩) (OkOps.y (aB (!x14)) (OkOps.nil ?_))
  refine Ok.cond (b := !x14) rfl (fun h15 => ?_) (fun h15 => ?_)
  have hr := selT h15 hr
  refine Ok.seq (Ok.region (OkOps.y (.c (.own 0)) (OkOps.y (aI s7.1) (OkOps.y (aI x13) ?_))))
  obtain ⟨x16, hx16, hr⟩ := bind_some hr
  refine OkOps.q (triIdxV (enc := (eInt .i64)) (L := s7.2.2) hx16 rfl rfl rfl rfl trivial rfl) (OkOps.w (triStoreV (enc := (eInt .i64)) (L := s7.2.2) x13 (.inr (ixO_spec hx16).2) rfl rfl rfl rfl rfl rfl (fun _ => rfl) rfl) (OkOps.nil (Ok.region (OkOps.y (aI s7.1) (OkOps.y (aI (IntKind.i64.wrap (s7.1 + 1))) (OkOps.y (aI (IntKind.i64.wrap (s7.1 + 1))) (OkOps.nil ?_)))))))
  exact ⟨(IntKind.i64.wrap (s7.1 + 1), List.set s7.2.2 x16 x13), hr, (Conv.mk (tau []) ⟨⟨_, rfl, .inl rfl⟩, ⟨_, rfl, .inl rfl⟩, ⟨_, rfl, .inl rfl⟩, ⟨_, rfl, .inl rfl⟩, trivial⟩ ⟨rfl, rfl, trivial⟩ rfl rfl rfl rfl)⟩
  have hr := selF h15 hr
  refine Ok.skip ?_
  exact ⟨(s7.1, s7.2.2), hr, (Conv.mk (tau []) ⟨⟨_, rfl, .inl rfl⟩, ⟨_, rfl, .inl rfl⟩, ⟨_, rfl, .inl rfl⟩, ⟨_, rfl, .inl rfl⟩, trivial⟩ ⟨rfl, rfl, trivial⟩ rfl rfl rfl rfl)⟩
  have hr := selF h9 hr
  refine Ok.exit ?_
  exact ⟨(s7.1, s7.2.2), hr, (Conv.mk (tau []) ⟨⟨_, rfl, .inl rfl⟩, ⟨_, rfl, .inl rfl⟩, trivial⟩ ⟨rfl, rfl, trivial⟩ rfl rfl rfl rfl)⟩
theorem slices_Clone_Sl_int_intV_c (s : (List Int)) {r : (List Int)} (hr : slices_Clone_Sl_int_intV s = some r) : Con Tryd.prog 38 [.c (.d (.sl (List.map (eInt .i64) s)))] [] (.s (.c (.own 2000))) [(2000, .vec 1 (List.map (eInt .i64) r))] := by
  unfold slices_Clone_Sl_int_intV at hr
  refine Con.of_ok 8 0 [.tmp 2] [(0, .s (.c (.d (.sl (List.map (eInt .i64) s)))))] Tryd.func38 rfl rfl rfl rfl rfl rfl rfl rfl fun w g M ρ _ => (Ok.seq (Ok.region (OkOps.q (triQ (x := .c (.d (.v (.slice none 0 0)))) rfl trivial rfl) (OkOps.nil (Ok.seq (Ok.seq (Ok.region (OkOps.q (triQ (x := .c (.d (.sl (List.map (eInt .i64) s)))) rfl trivial rfl) ?_))))))))
  refine OkOps.eqNil (e := 3) rfl (by kernel_rfl) trivial rfl (fun b hb => ?_)
  refine OkOps.nil ?_
  refine Ok.cond (b := b) rfl (fun h => ?_) (fun h => ?_)
  obtain rfl : s = [] := by simpa using hb h
  obtain rfl : r = [] := ((appO_spec hr).2 : _)
  refine Ok.seq (Ok.region (OkOps.q (triQ (x := .c (.d (.v (.slice none 0 0)))) rfl trivial rfl) (OkOps.nil (Ok.conv (Conv.nilV (enc := (eInt .i64)) 2 2000 1 0 rfl rfl) (Ok.ret ?_)))))
  exact ⟨_, rfl, .inl rfl, ⟨rfl, trivial⟩⟩
  refine Ok.skip (Ok.seq (Ok.region (OkOps.m 0 (triBSV (sz := 1) (enc := (eInt .i64)) (j := 0) [] rfl rfl rfl rfl rfl rfl rfl rfl (fun _ => rfl) trivial rfl rfl) (OkOps.q (triQ (x := .c (.d (.sl (List.map (eInt .i64) s)))) rfl trivial rfl) (OkOps.m2 0 (triAppV (enc := (eInt .i64)) (L := []) (X := s) (j := 0) (j' := 2000) hr rfl rfl rfl rfl rfl rfl (fun _ => rfl) (fun _ => rfl) trivial rfl rfl) (OkOps.q (triQ (x := .c (.own 2000)) rfl trivial rfl) (OkOps.nil (Ok.ret ?_))))))))
  exact ⟨_, rfl, .inl rfl, ⟨rfl, trivial⟩⟩
theorem fo_without_c (l : (List Int)) (id : Int) {r : (List Int)} (hr : fo_without l id = some r) : Con Tryd.prog 39 [.c (.d (.sl (List.map (eInt .i64) l))), aI id] [] (.s (.c (.tl 2000 (List.map (eInt .i64) r)))) [(2000, .tail 1)] := by
  unfold fo_without at hr
  refine Con.of_ok 9 0 [.tmp 4] [(0, .s (.c (.d (.sl (List.map (eInt .i64) l))))), (1, .s (aI id))] Tryd.func39 rfl rfl rfl rfl rfl rfl rfl rfl fun w g M ρ _ => (Ok.seq (Ok.region (OkOps.m 0 (triBox (j := 0) (cs := [cI id]) rfl rfl rfl rfl rfl) (OkOps.y (.c (.d (.v (.slice none 0 0)))) (OkOps.nil (Ok.seq (Ok.region (OkOps.y (.c (.d (.sl (List.map (eInt .i64) l)))) ?_))))))))
  obtain ⟨x1, hx1, hr⟩ := bind_some hr
  refine OkOps.m 0 (triCall (tau [(2000, 1)]) (.s (.c (.own 1))) [(1, .vec 1 (List.map (eInt .i64) x1))] (slices_Clone_Sl_int_intV_c _ hx1) rfl ⟨.inl rfl, trivial⟩ trivial entry38 trivial rfl rfl rfl rfl ⟨rfl, trivial⟩ rfl rfl rfl) (OkOps.q (triMkF [(0, 0)] rfl trivial rfl) ?_)
  obtain ⟨x2, hx2, hr⟩ := bind_some hr
  refine OkOps.m3 0 (triCall (tau [(0, 1), (1, 0), (2000, 2)]) (.s (.c (.tl 2 (List.map (eInt .i64) x2)))) [(0, .blk [cI id] 3), (1, .dead), (2, .tail 1)] (sl_DeleteFunc_wo_c _ _ hx2) rfl ⟨.inl rfl, .inl rfl, trivial⟩ trivial entry42 ⟨rfl, rfl, trivial⟩ rfl rfl rfl rfl ⟨rfl, trivial⟩ rfl rfl rfl) (OkOps.y (.c (.tl 2 (List.map (eInt .i64) x2))) (OkOps.nil (Ok.conv (T := ⟨[(4, .s (.c (.tl 2000 (List.map (eInt .i64) x2))))], [(2000, .tail 1)], 0⟩) (Conv.mk (tau [(2000, 2)]) ⟨⟨_, rfl, .inl rfl⟩, trivial⟩ ⟨rfl, trivial⟩ rfl rfl rfl rfl) (Ok.ret ?_))))
  obtain rfl := Option.some.inj hr
  exact ⟨_, rfl, .inl rfl, ⟨rfl, trivial⟩⟩
theorem fo_remember_c (past : (List Int)) (id : Int) {r : (List Int)} (hr : fo_remember past id = some r) : Con Tryd.prog 40 [.c (.d (.sl (List.map (eInt .i64) past))), aI id] [] (.s (.c (.d (.sl (List.map (eInt .i64) r))))) [] := by
  unfold fo_remember at hr
  refine Con.of_ok 17 0 [.tmp 4] [(0, .s (.c (.d (.sl (List.map (eInt .i64) past))))), (1, .s (aI id))] Tryd.func40 rfl rfl rfl rfl rfl rfl rfl rfl fun w g M ρ _ => (Ok.seq (Ok.region (OkOps.y (.c (.d (.v (.slice none 0 0)))) (OkOps.nil (Ok.seq (Ok.region (OkOps.y (.c (.d (.sl (List.map (eInt .i64) past)))) (OkOps.y (aI id) ?_))))))))
  obtain ⟨x1, hx1, hr⟩ := bind_some hr
  refine OkOps.m 0 (triCall (tau [(2000, 0)]) (.s (.c (.tl 0 (List.map (eInt .i64) x1)))) [(0, .tail 1)] (fo_without_c _ _ hx1) rfl ⟨.inl rfl, .inl rfl, trivial⟩ trivial entry39 trivial rfl rfl rfl rfl ⟨rfl, trivial⟩ rfl rfl rfl) (OkOps.y (aI id) (OkOps.m 0 (triBST (sz := 1) (enc := (eInt .i64)) (j := 1) ([id]) rfl rfl rfl rfl rfl rfl rfl rfl (fun _ => rfl) trivial rfl rfl) ?_))
  obtain ⟨x2, hx2, hr⟩ := bind_some hr
  refine OkOps.m2 0 (triApp (enc := (eInt .i64)) (L := x1) (X := [id]) (j := 0) (j' := 2) hx2 rfl rfl rfl rfl rfl rfl (fun _ => rfl) (fun _ => rfl) (by decide) trivial rfl rfl) (OkOps.y (.c (.tl 2 (List.map (eInt .i64) x2))) (OkOps.nil (Ok.seq (Ok.region (OkOps.y (.c (.tl 2 (List.map (eInt .i64) x2))) (OkOps.y (.c (.tl 2 (List.map (eInt .i64) x2))) (OkOps.q (triLen (enc := (eInt .i64)) x2 rfl rfl trivial rfl) (OkOps.y (aI (IntKind.i64.wrap ((x2.length : Int) - 16))) (OkOps.y (aI (mxI 0 (IntKind.i64.wrap ((x2.length : Int) - 16)))) ?_)))))))))
  obtain ⟨x3, hx3, hr⟩ := bind_some hr
  refine OkOps.q (triSlc (enc := (eInt .i64)) (L := x2) hx3 rfl rfl rfl (.inr ⟨_, rfl⟩) (.inl ⟨rfl, rfl⟩) rfl (fun _ => rfl) trivial rfl) (OkOps.y (.c (.d (.sl (List.map (eInt .i64) x3)))) (OkOps.nil (Ok.ret ?_)))
  obtain rfl := Option.some.inj hr
  exact ⟨_, rfl, .inl rfl, trivial⟩
theorem fo_Repair_1_c (id : Int) (c0 : Tree) {r : Bool} (hr : fo_Repair_1 id c0 = some r) : Con Tryd.prog 41 [aI id, .c (.loc 0 0)] [(0, .blk [cI c0.Root, cI c0.Next, .d (.sl (List.map Node.cs c0.Nodes))] 46)] (.s (aB r)) [(0, .blk [cI c0.Root, cI c0.Next, .d (.sl (List.map Node.cs c0.Nodes))] 46)] := by
  unfold fo_Repair_1 at hr
  refine Con.of_ok 13 0 [.tmp 3] [(0, .s (aI id)), (1, .s (.c (.loc 0 0)))] Tryd.func41 rfl rfl rfl rfl rfl rfl rfl rfl fun w g M ρ _ => (Ok.seq (Ok.region (OkOps.y (aB false) (OkOps.nil (Ok.seq (Ok.region (OkOps.y (.agg [cI c0.Root, cI c0.Next, .d (.sl (List.map Node.cs c0.Nodes))]) (OkOps.y (aI id) ?_))))))))
  obtain ⟨x1, hx1, hr⟩ := bind_some hr
  refine OkOps.q (triCl (tau []) (.tup [.agg [cI x1.1.ID, cI x1.1.Parent, cI x1.1.Kind, cS x1.1.Key, .d (.sl (List.map Attr.cs x1.1.Attrs)), .d (.sl (List.map Action.cs x1.1.Actions)), .d (.sl (List.map (eInt .i64) x1.1.Kids))], aB x1.2]) [] (vw_Find_c _ _ hx1) rfl ⟨.inl rfl, .inl rfl, trivial⟩ trivial entry33 trivial) (OkOps.q (triMv (v := .tup [.agg [cI x1.1.ID, cI x1.1.Parent, cI x1.1.Kind, cS x1.1.Key, .d (.sl (List.map Attr.cs x1.1.Attrs)), .d (.sl (List.map Action.cs x1.1.Actions)), .d (.sl (List.map (eInt .i64) x1.1.Kids))], aB x1.2]) rfl rfl) (OkOps.y (.agg [cI x1.1.ID, cI x1.1.Parent, cI x1.1.Kind, cS x1.1.Key, .d (.sl (List.map Attr.cs x1.1.Attrs)), .d (.sl (List.map Action.cs x1.1.Actions)), .d (.sl (List.map (eInt .i64) x1.1.Kids))]) (OkOps.y (aB x1.2) (OkOps.m 0 (triAlloc (j := 1) (cs := [cI 0, cI 0, cI 0, cS ByteArray.empty, .d (.v (.slice none 0 0)), .d (.v (.slice none 0 0)), .d (.v (.slice none 0 0))]) rfl rfl rfl rfl) (OkOps.w (triStore (cs' := [cI x1.1.ID, cI x1.1.Parent, cI x1.1.Kind, cS x1.1.Key, .d (.sl (List.map Attr.cs x1.1.Attrs)), .d (.sl (List.map Action.cs x1.1.Actions)), .d (.sl (List.map (eInt .i64) x1.1.Kids))]) rfl rfl rfl rfl rfl rfl rfl rfl rfl) (OkOps.y (aB x1.2) (OkOps.nil (Ok.seq (Ok.region (OkOps.y (aB x1.2) (OkOps.y (aB x1.2) (OkOps.nil (Ok.ret ?_)))))))))))))
  obtain rfl := Option.some.inj hr
  exact ⟨_, rfl, .inl rfl, ⟨rfl, trivial⟩⟩
theorem fo_Repair_2_c (id : Int) (c1 : Tree) {r : Bool} (hr : fo_Repair_2 id c1 = some r) : Con Tryd.prog 43 [aI id, .c (.loc 0 0)] [(0, .blk [.fn 41 [(1, 0)]] 103), (1, .blk [cI c1.Root, cI c1.Next, .d (.sl (List.map Node.cs c1.Nodes))] 46)] (.s (aB r)) [(0, .blk [.fn 41 [(1, 0)]] 103), (1, .blk [cI c1.Root, cI c1.Next, .d (.sl (List.map Node.cs c1.Nodes))] 46)] := by
  unfold fo_Repair_2 at hr
  refine Con.of_ok 8 0 [.tmp 3] [(0, .s (aI id)), (1, .s (.c (.loc 0 0)))] Tryd.func43 rfl rfl rfl rfl rfl rfl rfl rfl fun w g M ρ _ => (Ok.seq (Ok.region (OkOps.y (aB false) (OkOps.nil (Ok.seq (Ok.region (OkOps.y (.c (.fn 41 [(1, 0)])) (OkOps.y (aI id) ?_))))))))
  obtain ⟨x1, hx1, hr⟩ := bind_some hr
  refine OkOps.q (TriL.keep (triCallF (caps := [(1, 0)]) (tau [(0, 1)]) (.s (aB x1)) [(1, .blk [cI c1.Root, cI c1.Next, .d (.sl (List.map Node.cs c1.Nodes))] 46)] rfl (fo_Repair_1_c _ _ hx1) rfl ⟨.inl rfl, .inl rfl, trivial⟩ trivial entry41 ⟨rfl, trivial⟩ rfl rfl rfl rfl trivial rfl rfl rfl) ⟨rfl, trivial⟩) (OkOps.y (aB (!x1)) (OkOps.y (aB (!x1)) (OkOps.nil (Ok.ret ?_))))
  obtain rfl := Option.some.inj hr
  exact ⟨_, rfl, .inl rfl, ⟨rfl, rfl, trivial⟩⟩
theorem sl_IndexFunc_rep_c (p_s : (List Int)) (f_1 : Tree) {r : Int × (List Int)} (hr : sl_IndexFunc_rep p_s f_1 = some r) : Con Tryd.prog 70 [.c (.own 0), .c (.fn 43 [(1, 0)])] [(0, .vec 1 (List.map (eInt .i64) p_s)), (1, .blk [.fn 41 [(2, 0)]] 103), (2, .blk [cI f_1.Root, cI f_1.Next, .d (.sl (List.map Node.cs f_1.Nodes))] 46)] (.s (aI r.1)) [(0, .vec 1 (List.map (eInt .i64) r.2)), (1, .blk [.fn 41 [(2, 0)]] 103), (2, .blk [cI f_1.Root, cI f_1.Next, .d (.sl (List.map Node.cs f_1.Nodes))] 46)] := by
  unfold sl_IndexFunc_rep at hr
  refine Con.of_ok 19 0 [.tmp 4] [(0, .s (.c (.own 0))), (1, .s (.c (.fn 43 [(1, 0)])))] Tryd.func70 rfl rfl rfl rfl rfl rfl rfl rfl fun w g M ρ _ => (Ok.seq (Ok.region (OkOps.y (aI 0) (OkOps.nil ?_))))
  obtain ⟨k2, hk2, hr⟩ := jn_some hr
  refine Ok.join (fun (s1 : Unit) => ⟨[], [(0, .vec 1 (List.map (eInt .i64) p_s)), (1, .blk [.fn 41 [(2, 0)]] 103), (2, .blk [cI f_1.Root, cI f_1.Next, .d (.sl (List.map Node.cs f_1.Nodes))] 46)], 0⟩) k2 r (fun s1 hr => ?_) ?_
  rw [hk2] at hr
  refine Ok.seq (Ok.region (OkOps.y (aI (-1)) (OkOps.nil (Ok.ret ?_))))
  obtain rfl := Option.some.inj hr
  exact ⟨_, rfl, .inl rfl, ⟨rfl, rfl, rfl, trivial⟩⟩
  clear hk2
  refine Ok.seq (Ok.region (OkOps.y (.c (.own 0)) (OkOps.q (triLenV (enc := (eInt .i64)) p_s rfl rfl rfl rfl) (OkOps.y (aI 0) (OkOps.nil (Ok.block (Ok.loopK (fun (s3 : Int) => ⟨[(0, .s (.c (.own 0))), (1, .s (.c (.fn 43 [(1, 0)]))), (7, .s (aI (p_s.length : Int))), (8, .s (aI s3))], [(0, .vec 1 (List.map (eInt .i64) p_s)), (1, .blk [.fn 41 [(2, 0)]] 103), (2, .blk [cI f_1.Root, cI f_1.Next, .d (.sl (List.map Node.cs f_1.Nodes))] 46)], 0⟩) hr (Conv.mk (tau []) ⟨⟨_, rfl, .inl rfl⟩, ⟨_, rfl, .inl rfl⟩, ⟨_, rfl, .inl rfl⟩, ⟨_, rfl, .inl rfl⟩, trivial⟩ ⟨rfl, rfl, rfl, trivial⟩ rfl rfl rfl rfl) ?_)))))))
  clear hr
  intro again4 s3 hr
  unfold sl_IndexFunc_rep_L1 at hr
  refine Ok.seq (Ok.region (OkOps.y (aB (decide (s3 < (p_s.length : Int)))) (OkOps.nil (Ok.seq ?_))))
  refine Ok.cond (b := decide (s3 < (p_s.length : Int))) rfl (fun h5 => ?_) (fun h5 => ?_)
  have hr := selT h5 hr
  refine Ok.skip (Ok.seq (Ok.block (Ok.seq (Ok.region (OkOps.y (aI s3) (OkOps.y (aI s3) (OkOps.nil (Ok.seq (Ok.region (OkOps.y (.c (.fn 43 [(1, 0)])) (OkOps.y (.c (.own 0)) (OkOps.y (aI s3) ?_))))))))))))
  obtain ⟨x6, hx6, hr⟩ := bind_some hr
  refine OkOps.q (triIdxV (enc := (eInt .i64)) (L := p_s) hx6 rfl rfl rfl rfl trivial rfl) ?_
  obtain ⟨x7, hx7, hr⟩ := bind_some hr
  refine OkOps.q (triLoadV (enc := (eInt .i64)) (L := p_s) (row := [dI x7]) (r := aI x7) hx7 rfl rfl rfl (fun _ => rfl) rfl  rfl) ?_
  obtain ⟨x8, hx8, hr⟩ := bind_some hr
  refine OkOps.q (TriL.keep (triCallF (caps := [(1, 0)]) (tau [(0, 1), (1, 2)]) (.s (aB x8)) [(1, .blk [.fn 41 [(2, 0)]] 103), (2, .blk [cI f_1.Root, cI f_1.Next, .d (.sl (List.map Node.cs f_1.Nodes))] 46)] rfl (fo_Repair_2_c _ _ hx8) rfl ⟨.inl rfl, .inl rfl, trivial⟩ trivial entry43 ⟨rfl, rfl, trivial⟩ rfl rfl rfl rfl trivial rfl rfl rfl) ⟨rfl, rfl, trivial⟩) (OkOps.nil ?_)
  refine Ok.cond (b := x8) rfl (fun h9 => ?_) (fun h9 => ?_)
  have hr := selT h9 hr
  refine Ok.seq (Ok.region (OkOps.y (aI s3) (OkOps.y (aI s3) (OkOps.nil (Ok.ret ?_)))))
  obtain rfl := Option.some.inj hr
  exact ⟨_, rfl, .inl rfl, ⟨rfl, rfl, rfl, trivial⟩⟩
  have hr := selF h9 hr
  refine Ok.skip (Ok.region (OkOps.y (aI (IntKind.i64.wrap (s3 + 1))) (OkOps.y (aI (IntKind.i64.wrap (s3 + 1))) (OkOps.nil ?_))))
  exact ⟨IntKind.i64.wrap (s3 + 1), hr, (Conv.mk (tau []) ⟨⟨_, rfl, .inl rfl⟩, ⟨_, rfl, .inl rfl⟩, ⟨_, rfl, .inl rfl⟩, ⟨_, rfl, .inl rfl⟩, trivial⟩ ⟨rfl, rfl, rfl, trivial⟩ rfl rfl rfl rfl)⟩
  have hr := selF h5 hr
  refine Ok.exit ?_
  exact ⟨(), hr, (Conv.mk (tau []) trivial ⟨rfl, rfl, rfl, trivial⟩ rfl rfl rfl rfl)⟩
theorem sl_DeleteFunc_rep_c (p_s : (List Int)) (del_1 : Tree) {r : (List Int)} (hr : sl_DeleteFunc_rep p_s del_1 = some r) : Con Tryd.prog 42 [.c (.own 0), .c (.fn 43 [(1, 0)])] [(0, .vec 1 (List.map (eInt .i64) p_s)), (1, .blk [.fn 41 [(2, 0)]] 103), (2, .blk [cI del_1.Root, cI del_1.Next, .d (.sl (List.map Node.cs del_1.Nodes))] 46)] (.s (.c (.tl 2000 (List.map (eInt .i64) r)))) [(1, .blk [.fn 41 [(2, 0)]] 103), (2, .blk [cI del_1.Root, cI del_1.Next, .d (.sl (List.map Node.cs del_1.Nodes))] 46), (0, .dead), (2000, .tail 1)] := by
  unfold sl_DeleteFunc_rep at hr
  refine Con.of_ok 42 0 [.tmp 4] [(0, .s (.c (.own 0))), (1, .s (.c (.fn 43 [(1, 0)])))] Tryd.func42 rfl rfl rfl rfl rfl rfl rfl rfl fun w g M ρ _ => (Ok.seq (Ok.region (OkOps.y (.c (.d (.v (.slice none 0 0)))) (OkOps.nil (Ok.seq (Ok.region (OkOps.y (.c (.own 0)) (OkOps.y (.c (.fn 43 [(1, 0)])) ?_))))))))
  obtain ⟨x1, hx1, hr⟩ := bind_some hr
  refine OkOps.m3 0 (triCl (tau [(0, 0), (1, 1), (2, 2)]) (.s (aI x1.1)) [(0, .vec 1 (List.map (eInt .i64) x1.2)), (1, .blk [.fn 41 [(2, 0)]] 103), (2, .blk [cI del_1.Root, cI del_1.Next, .d (.sl (List.map Node.cs del_1.Nodes))] 46)] (sl_IndexFunc_rep_c _ _ hx1) rfl ⟨.inl rfl, .inl rfl, trivial⟩ trivial entry70 ⟨rfl, rfl, rfl, trivial⟩) (OkOps.y (aI x1.1) (OkOps.nil (Ok.seq (Ok.seq (Ok.region (OkOps.y (aI x1.1) (OkOps.y (aB (x1.1 == (-1))) (OkOps.nil ?_))))))))
  refine Ok.cond (b := x1.1 == (-1)) rfl (fun h2 => ?_) (fun h2 => ?_)
  have hr := selT h2 hr
  refine Ok.seq (Ok.region (OkOps.y (.c (.own 0)) (OkOps.y (.c (.own 0)) (OkOps.nil (Ok.conv (Conv.freeze (enc := (eInt .i64)) (L := x1.2) [0, 4, 8, 13] 0 3 1 0 ⟨rfl, rfl, rfl, rfl, trivial⟩ rfl (fun _ => rfl) rfl) (Ok.conv (T := ⟨[(4, .s (.c (.tl 2000 (List.map (eInt .i64) x1.2))))], [(0, .dead), (1, .blk [.fn 41 [(2, 0)]] 103), (2, .blk [cI del_1.Root, cI del_1.Next, .d (.sl (List.map Node.cs del_1.Nodes))] 46), (2000, .tail 1)], 0⟩) (Conv.mk (tau [(2000, 3)]) ⟨⟨_, rfl, .inl rfl⟩, trivial⟩ ⟨rfl, rfl, rfl, trivial⟩ rfl rfl rfl rfl) (Ok.ret ?_)))))))
  obtain rfl := Option.some.inj hr
  exact ⟨_, rfl, .inl rfl, ⟨rfl, rfl, (fun h => by cases h), rfl, trivial⟩⟩
  have hr := selF h2 hr
  refine Ok.skip ?_
  obtain ⟨k4, hk4, hr⟩ := jn_some hr
  refine Ok.join (fun (s3 : Int × (List Int)) => ⟨[(0, .s (.c (.own 0))), (5, .s (aI s3.1))], [(0, .vec 1 (List.map (eInt .i64) s3.2)), (1, .blk [.fn 41 [(2, 0)]] 103), (2, .blk [cI del_1.Root, cI del_1.Next, .d (.sl (List.map Node.cs del_1.Nodes))] 46)], 0⟩) k4 r (fun s3 hr => ?_) ?_
  rw [hk4] at hr
  refine Ok.seq (Ok.region (OkOps.y (.c (.own 0)) (OkOps.y (aI s3.1) ?_)))
  obtain ⟨x5, hx5, hr⟩ := bind_some hr
  refine OkOps.clrV (enc := (eInt .i64)) (L := s3.2) 0 hx5 rfl rfl rfl rfl rfl rfl rfl (fun _ => rfl) trivial rfl rfl (OkOps.nil (Ok.seq (Ok.region (OkOps.y (.c (.own 0)) (OkOps.y (aI s3.1) ?_)))))
  obtain ⟨x6, hx6, hr⟩ := bind_some hr
  refine OkOps.m2 0 (triSlcV (enc := (eInt .i64)) (L := List.take x5 s3.2 ++ List.replicate (s3.2.length - x5) 0) (j := 0) (j' := 4) hx6 rfl rfl rfl rfl (fun _ => rfl) trivial rfl rfl) (OkOps.y (.c (.tl 4 (List.map (eInt .i64) (List.take x6 (List.take x5 s3.2 ++ List.replicate (s3.2.length - x5) 0))))) (OkOps.nil (Ok.conv (T := ⟨[(4, .s (.c (.tl 2000 (List.map (eInt .i64) (List.take x6 (List.take x5 s3.2 ++ List.replicate (s3.2.length - x5) 0))))))], [(0, .dead), (1, .blk [.fn 41 [(2, 0)]] 103), (2, .blk [cI del_1.Root, cI del_1.Next, .d (.sl (List.map Node.cs del_1.Nodes))] 46), (2000, .tail 1)], 0⟩) (Conv.mk (tau [(2000, 4)]) ⟨⟨_, rfl, .inl rfl⟩, trivial⟩ ⟨rfl, rfl, rfl, trivial⟩ rfl rfl rfl rfl) (Ok.ret ?_))))
  obtain rfl := Option.some.inj hr
  exact ⟨_, rfl, .inl rfl, ⟨rfl, rfl, (fun h => by cases h), rfl, trivial⟩⟩
  clear hk4
  refine Ok.seq (Ok.region (OkOps.y (aI x1.1) (OkOps.y (aI (IntKind.i64.wrap (x1.1 + 1))) (OkOps.y (aI (IntKind.i64.wrap (x1.1 + 1))) (OkOps.nil (Ok.block (Ok.loopK (fun (s7 : Int × Int × (List Int)) => ⟨[(0, .s (.c (.own 0))), (1, .s (.c (.fn 43 [(1, 0)]))), (5, .s (aI s7.1)), (6, .s (aI s7.2.1))], [(0, .vec 1 (List.map (eInt .i64) s7.2.2)), (1, .blk [.fn 41 [(2, 0)]] 103), (2, .blk [cI del_1.Root, cI del_1.Next, .d (.sl (List.map Node.cs del_1.Nodes))] 46)], 0⟩) hr (Conv.mk (tau []) ⟨⟨_, rfl, .inl rfl⟩, ⟨_, rfl, .inl rfl⟩, ⟨_, rfl, .inl rfl⟩, ⟨_, rfl, .inl rfl⟩, trivial⟩ ⟨rfl, rfl, rfl, trivial⟩ rfl rfl rfl rfl) ?_)))))))
  clear hr
  intro again8 s7 hr
  unfold sl_DeleteFunc_rep_L1 at hr
  refine Ok.seq (Ok.seq (Ok.region (OkOps.y (aI s7.2.1) (OkOps.y (.c (.own 0)) (OkOps.q (triLenV (enc := (eInt .i64)) s7.2.2 rfl rfl rfl rfl) (OkOps.y (aB (decide (s7.2.1 < (s7.2.2.length : Int)))) (OkOps.nil ?_)))))))
  refine Ok.cond (b := decide (s7.2.1 < (s7.2.2.length : Int))) rfl (fun h9 => ?_) (fun h9 => ?_)
  have hr := selT h9 hr
  refine Ok.skip ?_
  obtain ⟨k11, hk11, hr⟩ := jn_some hr
  refine Ok.join (fun (s10 : Int × (List Int)) => ⟨[(0, .s (.c (.own 0))), (1, .s (.c (.fn 43 [(1, 0)]))), (5, .s (aI s10.1)), (6, .s (aI s7.2.1))], [(0, .vec 1 (List.map (eInt .i64) s10.2)), (1, .blk [.fn 41 [(2, 0)]] 103), (2, .blk [cI del_1.Root, cI del_1.Next, .d (.sl (List.map Node.cs del_1.Nodes))] 46)], 0⟩) k11 r (fun s10 hr => ?_) ?_
  rw [hk11] at hr
  refine Ok.region (OkOps.y (aI s7.2.1) (OkOps.y (aI (IntKind.i64.wrap (s7.2.1 + 1))) (OkOps.y (aI (IntKind.i64.wrap (s7.2.1 + 1))) (OkOps.nil ?_))))
  exact ⟨(s10.1, IntKind.i64.wrap (s7.2.1 + 1), s10.2), hr, (Conv.mk (tau []) ⟨⟨_, rfl, .inl rfl⟩, ⟨_, rfl, .inl rfl⟩, ⟨_, rfl, .inl rfl⟩, ⟨_, rfl, .inl rfl⟩, trivial⟩ ⟨rfl, rfl, rfl, trivial⟩ rfl rfl rfl rfl)⟩
  clear hk11
  refine Ok.block (Ok.seq (Ok.region (OkOps.y (.c (.own 0)) (OkOps.y (aI s7.2.1) ?_))))
  obtain ⟨x12, hx12, hr⟩ := bind_some hr
  refine OkOps.q (triIdxV (enc := (eInt .i64)) (L := s7.2.2) hx12 rfl rfl rfl rfl trivial rfl) ?_
  obtain ⟨x13, hx13, hr⟩ := bind_some hr
  refine OkOps.q (triLoadV (enc := (eInt .i64)) (L := s7.2.2) (row := [dI x13]) (r := aI x13) hx13 rfl rfl rfl (fun _ => rfl) rfl  rfl) (OkOps.y (aI x13) (OkOps.nil (Ok.seq (Ok.region (OkOps.y (.c (.fn 43 [(1, 0)])) (OkOps.y (aI x13) ?_))))))
  obtain ⟨x14, hx14, hr⟩ := bind_some hr
  refine OkOps.q (TriL.keep (triCallF (caps := [(1, 0)]) (tau [(0, 1), (1, 2)]) (.s (aB x14)) [(1, .blk [.fn 41 [(2, 0)]] 103), (2, .blk [cI del_1.Root, cI del_1.Next, .d (.sl (List.map Node.cs del_1.Nodes))] 46)] rfl (fo_Repair_2_c _ _ hx14) rfl ⟨.inl rfl, .inl rfl, trivial⟩ trivial entry43 ⟨rfl, rfl, trivial⟩ rfl rfl rfl rfl trivial rfl rfl rfl) ⟨rfl, rfl, trivial⟩) (OkOps.y (aB (!x14)) (OkOps.nil ?_))
  refine Ok.cond (b := !x14) rfl (fun h15 => ?_) (fun h15 => ?_)
  have hr := selT h15 hr
  refine Ok.seq (Ok.region (OkOps.y (.c (.own 0)) (OkOps.y (aI s7.1) (OkOps.y (aI x13) ?_))))
  obtain ⟨x16, hx16, hr⟩ := bind_some hr
  refine OkOps.q (triIdxV (enc := (eInt .i64)) (L := s7.2.2) hx16 rfl rfl rfl rfl trivial rfl) (OkOps.w (triStoreV (enc := (eInt .i64)) (L := s7.2.2) x13 (.inr (ixO_spec hx16).2) rfl rfl rfl rfl rfl rfl (fun _ => rfl) rfl) (OkOps.nil (Ok.region (OkOps.y (aI s7.1) (OkOps.y (aI (IntKind.i64.wrap (s7.1 + 1))) (OkOps.y (aI (IntKind.i64.wrap (s7.1 + 1))) (OkOps.nil ?_)))))))
  exact ⟨(IntKind.i64.wrap (s7.1 + 1), List.set s7.2.2 x16 x13), hr, (Conv.mk (tau []) ⟨⟨_, rfl, .inl rfl⟩, ⟨_, rfl, .inl rfl⟩, ⟨_, rfl, .inl rfl⟩, ⟨_, rfl, .inl rfl⟩, trivial⟩ ⟨rfl, rfl, rfl, trivial⟩ rfl rfl rfl rfl)⟩
  have hr := selF h15 hr
  refine Ok.skip ?_
  exact ⟨(s7.1, s7.2.2), hr, (Conv.mk (tau []) ⟨⟨_, rfl, .inl rfl⟩, ⟨_, rfl, .inl rfl⟩, ⟨_, rfl, .inl rfl⟩, ⟨_, rfl, .inl rfl⟩, trivial⟩ ⟨rfl, rfl, rfl, trivial⟩ rfl rfl rfl rfl)⟩
  have hr := selF h9 hr
  refine Ok.exit ?_
  exact ⟨(s7.1, s7.2.2), hr, (Conv.mk (tau []) ⟨⟨_, rfl, .inl rfl⟩, ⟨_, rfl, .inl rfl⟩, trivial⟩ ⟨rfl, rfl, rfl, trivial⟩ rfl rfl rfl rfl)⟩
theorem slices_Index_Sl_int_int_c (p_s : (List Int)) (v : Int) {r : Int} (hr : slices_Index_Sl_int_int p_s v = some r) : Con Tryd.prog 48 [.c (.d (.sl (List.map (eInt .i64) p_s))), aI v] [] (.s (aI r)) [] := by
  unfold slices_Index_Sl_int_int at hr
  refine Con.of_ok 19 0 [.tmp 4] [(0, .s (.c (.d (.sl (List.map (eInt .i64) p_s))))), (1, .s (aI v))] Tryd.func48 rfl rfl rfl rfl rfl rfl rfl rfl fun w g M ρ _ => (Ok.seq (Ok.region (OkOps.y (aI 0) (OkOps.nil ?_))))
  obtain ⟨k2, hk2, hr⟩ := jn_some hr
  refine Ok.join (fun (s1 : Unit) => ⟨[], [], 0⟩) k2 r (fun s1 hr => ?_) ?_
  rw [hk2] at hr
  refine Ok.seq (Ok.region (OkOps.y (aI (-1)) (OkOps.nil (Ok.ret ?_))))
  obtain rfl := Option.some.inj hr
  exact ⟨_, rfl, .inl rfl, trivial⟩
  clear hk2
  refine Ok.seq (Ok.region (OkOps.y (.c (.d (.sl (List.map (eInt .i64) p_s)))) (OkOps.q (triLen (enc := (eInt .i64)) p_s rfl rfl trivial rfl) (OkOps.y (aI 0) (OkOps.nil (Ok.block (Ok.loopK (fun (s3 : Int) => ⟨[(0, .s (.c (.d (.sl (List.map (eInt .i64) p_s))))), (1, .s (aI v)), (7, .s (aI (p_s.length : Int))), (8, .s (aI s3))], [], 0⟩) hr (Conv.mk (tau []) ⟨⟨_, rfl, .inl rfl⟩, ⟨_, rfl, .inl rfl⟩, ⟨_, rfl, .inl rfl⟩, ⟨_, rfl, .inl rfl⟩, trivial⟩ trivial rfl rfl rfl rfl) ?_)))))))
  clear hr
  intro again4 s3 hr
  unfold slices_Index_Sl_int_int_L1 at hr
  refine Ok.seq (Ok.region (OkOps.y (aB (decide (s3 < (p_s.length : Int)))) (OkOps.nil (Ok.seq ?_))))
  refine Ok.cond (b := decide (s3 < (p_s.length : Int))) rfl (fun h5 => ?_) (fun h5 => ?_)
  have hr := selT h5 hr
  refine Ok.skip (Ok.seq (Ok.block (Ok.seq (Ok.region (OkOps.y (aI s3) (OkOps.y (aI s3) (OkOps.nil (Ok.seq (Ok.region (OkOps.y (aI v) (OkOps.y (.c (.d (.sl (List.map (eInt .i64) p_s)))) (OkOps.y (aI s3) ?_))))))))))))
  obtain ⟨x6, hx6, hr⟩ := bind_some hr
  refine OkOps.q (triIdx (enc := (eInt .i64)) (L := p_s) (row := [dI x6]) hx6 rfl rfl rfl rfl (fun _ => rfl) trivial rfl) (OkOps.y (aI x6) (OkOps.y (aB (v == x6)) (OkOps.nil ?_)))
  refine Ok.cond (b := v == x6) rfl (fun h7 => ?_) (fun h7 => ?_)
  have hr := selT h7 hr
  refine Ok.seq (Ok.region (OkOps.y (aI s3) (OkOps.y (aI s3) (OkOps.nil (Ok.ret ?_)))))
  obtain rfl := Option.some.inj hr
  exact ⟨_, rfl, .inl rfl, trivial⟩
  have hr := selF h7 hr
  refine Ok.skip (Ok.region (OkOps.y (aI (IntKind.i64.wrap (s3 + 1))) (OkOps.y (aI (IntKind.i64.wrap (s3 + 1))) (OkOps.nil ?_))))
  exact ⟨IntKind.i64.wrap (s3 + 1), hr, (Conv.mk (tau []) ⟨⟨_, rfl, .inl rfl⟩, ⟨_, rfl, .inl rfl⟩, ⟨_, rfl, .inl rfl⟩, ⟨_, rfl, .inl rfl⟩, trivial⟩ trivial rfl rfl rfl rfl)⟩
  have hr := selF h5 hr
  refine Ok.exit ?_
  exact ⟨(), hr, (Conv.mk (tau []) trivial trivial rfl rfl rfl rfl)⟩
theorem slices_Contains_Sl_int_int_c (p_s : (List Int)) (v : Int) {r : Bool} (hr : slices_Contains_Sl_int_int p_s v = some r) : Con Tryd.prog 44 [.c (.d (.sl (List.map (eInt .i64) p_s))), aI v] [] (.s (aB r)) [] := by
  unfold slices_Contains_Sl_int_int at hr
  refine Con.of_ok 9 0 [.tmp 4] [(0, .s (.c (.d (.sl (List.map (eInt .i64) p_s))))), (1, .s (aI v))] Tryd.func44 rfl rfl rfl rfl rfl rfl rfl rfl fun w g M ρ _ => (Ok.seq (Ok.region (OkOps.y (aB false) (OkOps.nil (Ok.seq (Ok.region (OkOps.y (.c (.d (.sl (List.map (eInt .i64) p_s)))) (OkOps.y (aI v) ?_))))))))
  obtain ⟨x1, hx1, hr⟩ := bind_some hr
  refine OkOps.q (triCl (tau []) (.s (aI x1)) [] (slices_Index_Sl_int_int_c _ _ hx1) rfl ⟨.inl rfl, .inl rfl, trivial⟩ trivial entry48 trivial) (OkOps.y (aB (decide (x1 ≥ 0))) (OkOps.y (aB (decide (x1 ≥ 0))) (OkOps.nil (Ok.ret ?_))))
  obtain rfl := Option.some.inj hr
  exact ⟨_, rfl, .inl rfl, trivial⟩
theorem fo_heir_1_c (id : Int) (c0 : (List Int)) {r : Bool} (hr : fo_heir_1 id c0 = some r) : Con Tryd.prog 71 [aI id, .c (.loc 0 0)] [(0, .blk [.d (.sl (List.map (eInt .i64) c0))] 22)] (.s (aB r)) [(0, .blk [.d (.sl (List.map (eInt .i64) c0))] 22)] := by
  unfold fo_heir_1 at hr
  refine Con.of_ok 7 0 [.tmp 3] [(0, .s (aI id)), (1, .s (.c (.loc 0 0)))] Tryd.func71 rfl rfl rfl rfl rfl rfl rfl rfl fun w g M ρ _ => (Ok.seq (Ok.region (OkOps.y (aB false) (OkOps.nil (Ok.seq (Ok.region (OkOps.y (.c (.d (.sl (List.map (eInt .i64) c0)))) (OkOps.y (aI id) ?_))))))))
  obtain ⟨x1, hx1, hr⟩ := bind_some hr
  refine OkOps.q (triCl (tau []) (.s (aB x1)) [] (slices_Contains_Sl_int_int_c _ _ hx1) rfl ⟨.inl rfl, .inl rfl, trivial⟩ trivial entry44 trivial) (OkOps.y (aB x1) (OkOps.nil (Ok.ret ?_)))
  obtain rfl := Option.some.inj hr
  exact ⟨_, rfl, .inl rfl, ⟨rfl, trivial⟩⟩
theorem fo_heir_c (order : (List Int)) (past : (List Int)) (candidates : (List Int)) (now : (List Int)) (lost : Int) {r : Int} (hr : fo_heir order past candidates now lost = some r) : Con Tryd.prog 45 [.c (.d (.sl (List.map (eInt .i64) order))), .c (.d (.sl (List.map (eInt .i64) past))), .c (.d (.sl (List.map (eInt .i64) candidates))), .c (.d (.sl (List.map (eInt .i64) now))), aI lost] [] (.s (aI r)) [] := by
  unfold fo_heir at hr
  refine Con.of_ok 63 0 [.cell 10 3] [(0, .s (.c (.d (.sl (List.map (eInt .i64) order))))), (1, .s (.c (.d (.sl (List.map (eInt .i64) past))))), (2, .s (.c (.d (.sl (List.map (eInt .i64) candidates))))), (3, .s (.c (.d (.sl (List.map (eInt .i64) now))))), (4, .s (aI lost))] Tryd.func45 rfl rfl rfl rfl rfl rfl rfl rfl fun w g M ρ _ => (Ok.seq (Ok.region (OkOps.m 0 (triBox (j := 0) (cs := [.d (.sl (List.map (eInt .i64) candidates))]) rfl rfl rfl rfl rfl) (OkOps.m 0 (triAlloc (j := 1) (cs := [cI 0]) rfl rfl rfl rfl) (OkOps.nil (Ok.seq (Ok.region (OkOps.q (triMkF [(0, 0)] rfl trivial rfl) (OkOps.m 0 (triAlloc (j := 2) (cs := [.d (.v .nilFunc)]) rfl rfl rfl rfl) (OkOps.w (triStore (cs' := [.fn 71 [(0, 0)]]) rfl rfl rfl rfl rfl rfl rfl rfl rfl) (OkOps.nil ?_)))))))))))
  obtain ⟨k2, hk2, hr⟩ := jn_some hr
  refine Ok.join (fun (s1 : Unit) => ⟨[(0, .s (.c (.d (.sl (List.map (eInt .i64) order))))), (3, .s (.c (.d (.sl (List.map (eInt .i64) now))))), (4, .s (aI lost)), (10, .s (.c (.loc 1 0))), (11, .s (.c (.loc 2 0)))], [(0, .blk [.d (.sl (List.map (eInt .i64) candidates))] 22), (1, .blk [cI 0] 3), (2, .blk [.fn 71 [(0, 0)]] 103)], 0⟩) k2 r (fun s1 hr => ?_) ?_
  rw [hk2] at hr
  obtain ⟨k4, hk4, hr⟩ := jn_some hr
  refine Ok.join (fun (s3 : Unit) => ⟨[(3, .s (.c (.d (.sl (List.map (eInt .i64) now))))), (10, .s (.c (.loc 1 0)))], [(1, .blk [cI 0] 3)], 0⟩) k4 r (fun s3 hr => ?_) ?_
  rw [hk4] at hr
  refine Ok.seq (Ok.seq (Ok.region (OkOps.y (.c (.d (.sl (List.map (eInt .i64) now)))) (OkOps.q (triLen (enc := (eInt .i64)) now rfl rfl trivial rfl) (OkOps.y (aB (decide ((now.length : Int) > 0))) (OkOps.nil ?_))))))
  refine Ok.cond (b := decide ((now.length : Int) > 0)) rfl (fun h5 => ?_) (fun h5 => ?_)
  have hr := selT h5 hr
  refine Ok.seq (Ok.region (OkOps.y (.c (.d (.sl (List.map (eInt .i64) now)))) ?_))
  obtain ⟨x6, hx6, hr⟩ := bind_some hr
  refine OkOps.q (triIdx (enc := (eInt .i64)) (L := now) (row := [dI x6]) hx6 rfl rfl rfl rfl (fun _ => rfl) trivial rfl) (OkOps.y (aI x6) (OkOps.w (triStore (cs' := [cI x6]) rfl rfl rfl rfl rfl rfl rfl rfl rfl) (OkOps.nil (Ok.ret ?_))))
  obtain rfl := Option.some.inj hr
  exact ⟨_, rfl, .inl rfl, trivial⟩
  have hr := selF h5 hr
  refine Ok.skip (Ok.seq (Ok.region (OkOps.w (triStore (cs' := [cI 0]) rfl rfl rfl rfl rfl rfl rfl rfl rfl) (OkOps.nil (Ok.ret ?_)))))
  obtain rfl := Option.some.inj hr
  exact ⟨_, rfl, .inl rfl, trivial⟩
  clear hk4
  refine Ok.seq (Ok.region (OkOps.y (.c (.d (.sl (List.map (eInt .i64) order)))) (OkOps.y (aI lost) ?_)))
  obtain ⟨x7, hx7, hr⟩ := bind_some hr
  refine OkOps.q (triCl (tau []) (.s (aI x7)) [] (slices_Index_Sl_int_int_c _ _ hx7) rfl ⟨.inl rfl, .inl rfl, trivial⟩ trivial entry48 trivial) (OkOps.y (aI x7) (OkOps.nil (Ok.seq (Ok.region (OkOps.y (aI x7) (OkOps.y (aB (decide (x7 ≥ 0))) (OkOps.nil ?_)))))))
  refine Ok.cond (b := decide (x7 ≥ 0)) rfl (fun h8 => ?_) (fun h8 => ?_)
  have hr := selT h8 hr
  obtain ⟨k10, hk10, hr⟩ := jn_some hr
  refine Ok.join (fun (s9 : Unit) => ⟨[(0, .s (.c (.d (.sl (List.map (eInt .i64) order))))), (3, .s (.c (.d (.sl (List.map (eInt .i64) now))))), (10, .s (.c (.loc 1 0))), (11, .s (.c (.loc 2 0))), (14, .s (aI x7))], [(0, .blk [.d (.sl (List.map (eInt .i64) candidates))] 22), (1, .blk [cI 0] 3), (2, .blk [.fn 71 [(0, 0)]] 103)], 0⟩) k10 r (fun s9 hr => ?_) ?_
  rw [hk10] at hr
  refine Ok.seq (Ok.region (OkOps.y (.c (.d (.sl (List.map (eInt .i64) order)))) (OkOps.y (aI x7) ?_)))
  obtain ⟨x11, hx11, hr⟩ := bind_some hr
  refine OkOps.q (triSlc (enc := (eInt .i64)) (L := order) hx11 rfl rfl rfl (.inl ⟨rfl, rfl⟩) (.inr ⟨_, rfl⟩) rfl (fun _ => rfl) trivial rfl) (OkOps.m 0 (triCall (tau [(0, 3)]) (.s (.c (.fn 92 [(3, 0)]))) [(3, .blk [.d (.sl (List.map (eInt .i64) x11))] 22)] (slices_Backward_Sl_int_int_c x11) rfl ⟨.inl rfl, trivial⟩ trivial entry72 trivial rfl rfl rfl rfl ⟨rfl, trivial⟩ rfl rfl rfl) (OkOps.nil (Ok.block ?_)))
  refine Ok.rangeB (jl := 4) (nx := 0) (nx1 := 0) (caps := [(3, 0)]) rfl rfl trivial Tryd.func92 rfl rfl rfl rfl rfl rfl (fun l ρ1 M1 ob hT1 E => ?_)
  refine Ok.seq (Ok.region (OkOps.y (.c (.d (.sl (List.map (eInt .i64) x11)))) (OkOps.q (triLen (enc := (eInt .i64)) x11 rfl rfl trivial rfl) (OkOps.y (aI (IntKind.i64.wrap ((x11.length : Int) - 1))) (OkOps.y (aI (IntKind.i64.wrap ((x11.length : Int) - 1))) (OkOps.nil ?_))))))
  obtain ⟨k13, hk13, hr⟩ := jn_some hr
  refine Ok.joinEnd (fun (s12 : Unit) => ⟨[], [(0, .blk [.d (.sl (List.map (eInt .i64) candidates))] 22), (1, .blk [cI 0] 3), (2, .blk [.fn 71 [(0, 0)]] 103), (3, .blk [.d (.sl (List.map (eInt .i64) x11))] 22), (4, .obj (ob .ready none))], 0⟩) k13 r (fun s12 hr => ?_) ?_
  rw [hk13] at hr
  refine ⟨.inr rfl, .inl ⟨rfl, ?_⟩⟩
  exact ⟨(), hr, (Conv.mk (tau []) ⟨⟨_, rfl, .inl rfl⟩, ⟨_, rfl, .inl rfl⟩, trivial⟩ ⟨rfl, trivial⟩ rfl rfl rfl rfl)⟩
  clear hk13
  refine Ok.block (Ok.loopK (fun (s14 : Int) => ⟨[(0, .s (.c (.d (.v (yl l))))), (1, .s (.c (.loc 3 0))), (3, .s (aI s14))], [(0, .blk [.d (.sl (List.map (eInt .i64) candidates))] 22), (1, .blk [cI 0] 3), (2, .blk [.fn 71 [(0, 0)]] 103), (3, .blk [.d (.sl (List.map (eInt .i64) x11))] 22), (4, .obj (ob .ready none))], 0⟩) hr (Conv.mk (tau []) ⟨⟨_, rfl, .inl rfl⟩, ⟨_, rfl, .inl rfl⟩, ⟨_, rfl, .inl rfl⟩, trivial⟩ ⟨rfl, rfl, rfl, rfl, rfl, trivial⟩ rfl rfl rfl rfl) ?_)
  clear hr
  intro again15 s14 hr
  unfold fo_heir_L1 at hr
  refine Ok.seq (Ok.seq (Ok.region (OkOps.y (aI s14) (OkOps.y (aB (decide (s14 ≥ 0))) (OkOps.nil ?_)))))
  refine Ok.cond (b := decide (s14 ≥ 0)) rfl (fun h16 => ?_) (fun h16 => ?_)
  have hr := selT h16 hr
  refine Ok.skip (Ok.seq (Ok.block (Ok.seq (Ok.region (OkOps.y (.c (.d (.v (yl l)))) (OkOps.y (aI s14) (OkOps.y (.c (.d (.sl (List.map (eInt .i64) x11)))) (OkOps.y (aI s14) ?_))))))))
  obtain ⟨x17, hx17, hr⟩ := bind_some hr
  refine OkOps.q (triIdx (enc := (eInt .i64)) (L := x11) (row := [dI x17]) hx17 rfl rfl rfl rfl (fun _ => rfl) trivial rfl) (OkOps.y (aI x17) ?_)
  refine OkOps.yield (jl := 4) (v1 := aI s14) (v2 := aI x17) (nx := 0) E (by decide) rfl rfl rfl rfl trivial rfl rfl dom_cons dom_self (fun ρc Mc hT2 => ?_)
  refine Ok.region (OkOps.y (aI x17) (OkOps.nil ?_))
  refine ⟨rfl, rfl, ?_⟩
  refine Ok.block (Ok.seq (Ok.region (OkOps.y (.c (.fn 71 [(0, 0)])) (OkOps.y (aI x17) ?_))))
  obtain ⟨x18, hx18, hr⟩ := bind_some hr
  refine OkOps.q (TriL.keep (triCallF (caps := [(0, 0)]) (tau [(0, 0)]) (.s (aB x18)) [(0, .blk [.d (.sl (List.map (eInt .i64) candidates))] 22)] rfl (fo_heir_1_c _ _ hx18) rfl ⟨.inl rfl, .inl rfl, trivial⟩ trivial entry71 ⟨rfl, trivial⟩ rfl rfl rfl rfl trivial rfl rfl rfl) ⟨rfl, trivial⟩) (OkOps.nil ?_)
  refine Ok.cond (b := x18) rfl (fun h19 => ?_) (fun h19 => ?_)
  have hr := selT h19 hr
  refine Ok.seq (Ok.region (OkOps.y (aI x17) (OkOps.w (triStore (cs' := [cI x17]) rfl rfl rfl rfl rfl rfl rfl rfl rfl) (OkOps.nil (Ok.ret ?_)))))
  refine ⟨rfl, ?_⟩
  refine OkOps.y (aB (!false)) (OkOps.nil ?_)
  refine Ok.cond (b := !false) rfl (fun _ => ?_) (fun h => by cases h)
  refine Ok.ret ?_
  refine ⟨.inl rfl, .inr ⟨.ret, _, rfl, rfl, ?_⟩⟩
  obtain rfl := Option.some.inj hr
  exact ⟨_, rfl, .inl rfl, trivial⟩
  have hr := selF h19 hr
  refine Ok.skip ?_
  refine ⟨rfl, ?_⟩
  refine OkOps.y (aB (!true)) (OkOps.nil ?_)
  refine Ok.cond (b := !true) rfl (fun h => by cases h) (fun _ => ?_)
  refine Ok.skip (Ok.region (OkOps.y (aI s14) (OkOps.y (aI (IntKind.i64.wrap (s14 - 1))) (OkOps.y (aI (IntKind.i64.wrap (s14 - 1))) (OkOps.nil ?_)))))
  exact ⟨IntKind.i64.wrap (s14 - 1), hr, (Conv.mk (tau []) ⟨⟨_, rfl, .inl rfl⟩, ⟨_, rfl, .inl rfl⟩, ⟨_, rfl, .inl rfl⟩, trivial⟩ ⟨rfl, rfl, rfl, rfl, rfl, trivial⟩ rfl rfl rfl rfl)⟩
  have hr := selF h16 hr
  refine Ok.exit ?_
  exact ⟨(), hr, (Conv.mk (tau []) trivial ⟨rfl, rfl, rfl, rfl, rfl, trivial⟩ rfl rfl rfl rfl)⟩
  clear hk10
  refine Ok.seq (Ok.region (OkOps.y (.c (.d (.sl (List.map (eInt .i64) order)))) (OkOps.y (aI x7) (OkOps.y (aI (IntKind.i64.wrap (x7 + 1))) ?_))))
  obtain ⟨x22, hx22, hr⟩ := bind_some hr
  refine OkOps.q (triSlc (enc := (eInt .i64)) (L := order) hx22 rfl rfl rfl (.inr ⟨_, rfl⟩) (.inl ⟨rfl, rfl⟩) rfl (fun _ => rfl) trivial rfl) (OkOps.q (triLen (enc := (eInt .i64)) x22 rfl rfl trivial rfl) (OkOps.y (aI 0) (OkOps.nil (Ok.block (Ok.loopK (fun (s23 : Int) => ⟨[(0, .s (.c (.d (.sl (List.map (eInt .i64) order))))), (3, .s (.c (.d (.sl (List.map (eInt .i64) now))))), (10, .s (.c (.loc 1 0))), (11, .s (.c (.loc 2 0))), (14, .s (aI x7)), (36, .s (.c (.d (.sl (List.map (eInt .i64) x22))))), (37, .s (aI (x22.length : Int))), (38, .s (aI s23))], [(0, .blk [.d (.sl (List.map (eInt .i64) candidates))] 22), (1, .blk [cI 0] 3), (2, .blk [.fn 71 [(0, 0)]] 103)], 0⟩) hr (Conv.mk (tau []) ⟨⟨_, rfl, .inl rfl⟩, ⟨_, rfl, .inl rfl⟩, ⟨_, rfl, .inl rfl⟩, ⟨_, rfl, .inl rfl⟩, ⟨_, rfl, .inl rfl⟩, ⟨_, rfl, .inl rfl⟩, ⟨_, rfl, .inl rfl⟩, ⟨_, rfl, .inl rfl⟩, trivial⟩ ⟨rfl, rfl, rfl, trivial⟩ rfl rfl rfl rfl) ?_)))))
  clear hr
  intro again24 s23 hr
  unfold fo_heir_L2 at hr
  refine Ok.seq (Ok.region (OkOps.y (aB (decide (s23 < (x22.length : Int)))) (OkOps.nil (Ok.seq ?_))))
  refine Ok.cond (b := decide (s23 < (x22.length : Int))) rfl (fun h25 => ?_) (fun h25 => ?_)
  have hr := selT h25 hr
  refine Ok.skip (Ok.seq (Ok.block (Ok.seq (Ok.region ?_))))
  obtain ⟨x26, hx26, hr⟩ := bind_some hr
  refine OkOps.q (triIdx (enc := (eInt .i64)) (L := x22) (row := [dI x26]) hx26 rfl rfl rfl rfl (fun _ => rfl) trivial rfl) (OkOps.y (aI x26) (OkOps.y (aI x26) (OkOps.nil (Ok.seq (Ok.region (OkOps.y (.c (.fn 71 [(0, 0)])) (OkOps.y (aI x26) ?_)))))))
  obtain ⟨x27, hx27, hr⟩ := bind_some hr
  refine OkOps.q (TriL.keep (triCallF (caps := [(0, 0)]) (tau [(0, 0)]) (.s (aB x27)) [(0, .blk [.d (.sl (List.map (eInt .i64) candidates))] 22)] rfl (fo_heir_1_c _ _ hx27) rfl ⟨.inl rfl, .inl rfl, trivial⟩ trivial entry71 ⟨rfl, trivial⟩ rfl rfl rfl rfl trivial rfl rfl rfl) ⟨rfl, trivial⟩) (OkOps.nil ?_)
  refine Ok.cond (b := x27) rfl (fun h28 => ?_) (fun h28 => ?_)
  have hr := selT h28 hr
  refine Ok.seq (Ok.region (OkOps.y (aI x26) (OkOps.w (triStore (cs' := [cI x26]) rfl rfl rfl rfl rfl rfl rfl rfl rfl) (OkOps.nil (Ok.ret ?_)))))
  obtain rfl := Option.some.inj hr
  exact ⟨_, rfl, .inl rfl, trivial⟩
  have hr := selF h28 hr
  refine Ok.skip (Ok.region (OkOps.y (aI (IntKind.i64.wrap (s23 + 1))) (OkOps.y (aI (IntKind.i64.wrap (s23 + 1))) (OkOps.nil ?_))))
  exact ⟨IntKind.i64.wrap (s23 + 1), hr, (Conv.mk (tau []) ⟨⟨_, rfl, .inl rfl⟩, ⟨_, rfl, .inl rfl⟩, ⟨_, rfl, .inl rfl⟩, ⟨_, rfl, .inl rfl⟩, ⟨_, rfl, .inl rfl⟩, ⟨_, rfl, .inl rfl⟩, ⟨_, rfl, .inl rfl⟩, ⟨_, rfl, .inl rfl⟩, trivial⟩ ⟨rfl, rfl, rfl, trivial⟩ rfl rfl rfl rfl)⟩
  have hr := selF h25 hr
  refine Ok.exit ?_
  exact ⟨(), hr, (Conv.mk (tau []) ⟨⟨_, rfl, .inl rfl⟩, ⟨_, rfl, .inl rfl⟩, ⟨_, rfl, .inl rfl⟩, ⟨_, rfl, .inl rfl⟩, ⟨_, rfl, .inl rfl⟩, trivial⟩ ⟨rfl, rfl, rfl, trivial⟩ rfl rfl rfl rfl)⟩
  have hr := selF h8 hr
  refine Ok.skip ?_
  exact ⟨(), hr, (Conv.mk (tau []) ⟨⟨_, rfl, .inl rfl⟩, ⟨_, rfl, .inl rfl⟩, trivial⟩ ⟨rfl, trivial⟩ rfl rfl rfl rfl)⟩
  clear hk2
  refine Ok.seq (Ok.region (OkOps.y (.c (.d (.sl (List.map (eInt .i64) past)))) (OkOps.m 0 (triCall (tau [(0, 5)]) (.s (.c (.fn 92 [(5, 0)]))) [(5, .blk [.d (.sl (List.map (eInt .i64) past))] 22)] (slices_Backward_Sl_int_int_c past) rfl ⟨.inl rfl, trivial⟩ trivial entry72 trivial rfl rfl rfl rfl ⟨rfl, trivial⟩ rfl rfl rfl) (OkOps.nil (Ok.block ?_)))))
  refine Ok.rangeB (jl := 6) (nx := 0) (nx1 := 0) (caps := [(5, 0)]) rfl rfl trivial Tryd.func92 rfl rfl rfl rfl rfl rfl (fun l ρ1 M1 ob hT1 E => ?_)
  refine Ok.seq (Ok.region (OkOps.y (.c (.d (.sl (List.map (eInt .i64) past)))) (OkOps.q (triLen (enc := (eInt .i64)) past rfl rfl trivial rfl) (OkOps.y (aI (IntKind.i64.wrap ((past.length : Int) - 1))) (OkOps.y (aI (IntKind.i64.wrap ((past.length : Int) - 1))) (OkOps.nil ?_))))))
  obtain ⟨k30, hk30, hr⟩ := jn_some hr
  refine Ok.joinEnd (fun (s29 : Unit) => ⟨[], [(0, .blk [.d (.sl (List.map (eInt .i64) candidates))] 22), (1, .blk [cI 0] 3), (2, .blk [.fn 71 [(0, 0)]] 103), (5, .blk [.d (.sl (List.map (eInt .i64) past))] 22), (6, .obj (ob .ready none))], 0⟩) k30 r (fun s29 hr => ?_) ?_
  rw [hk30] at hr
  refine ⟨.inr rfl, .inl ⟨rfl, ?_⟩⟩
  exact ⟨(), hr, (Conv.mk (tau []) ⟨⟨_, rfl, .inl rfl⟩, ⟨_, rfl, .inl rfl⟩, ⟨_, rfl, .inl rfl⟩, ⟨_, rfl, .inl rfl⟩, ⟨_, rfl, .inl rfl⟩, trivial⟩ ⟨rfl, rfl, rfl, trivial⟩ rfl rfl rfl rfl)⟩
  clear hk30
  refine Ok.block (Ok.loopK (fun (s31 : Int) => ⟨[(0, .s (.c (.d (.v (yl l))))), (1, .s (.c (.loc 5 0))), (3, .s (aI s31))], [(0, .blk [.d (.sl (List.map (eInt .i64) candidates))] 22), (1, .blk [cI 0] 3), (2, .blk [.fn 71 [(0, 0)]] 103), (5, .blk [.d (.sl (List.map (eInt .i64) past))] 22), (6, .obj (ob .ready none))], 0⟩) hr (Conv.mk (tau []) ⟨⟨_, rfl, .inl rfl⟩, ⟨_, rfl, .inl rfl⟩, ⟨_, rfl, .inl rfl⟩, trivial⟩ ⟨rfl, rfl, rfl, rfl, rfl, trivial⟩ rfl rfl rfl rfl) ?_)
  clear hr
  intro again32 s31 hr
  unfold fo_heir_L3 at hr
  refine Ok.seq (Ok.seq (Ok.region (OkOps.y (aI s31) (OkOps.y (aB (decide (s31 ≥ 0))) (OkOps.nil ?_)))))
  refine Ok.cond (b := decide (s31 ≥ 0)) rfl (fun h33 => ?_) (fun h33 => ?_)
  have hr := selT h33 hr
  refine Ok.skip (Ok.seq (Ok.block (Ok.seq (Ok.region (OkOps.y (.c (.d (.v (yl l)))) (OkOps.y (aI s31) (OkOps.y (.c (.d (.sl (List.map (eInt .i64) past)))) (OkOps.y (aI s31) ?_))))))))
  obtain ⟨x34, hx34, hr⟩ := bind_some hr
  refine OkOps.q (triIdx (enc := (eInt .i64)) (L := past) (row := [dI x34]) hx34 rfl rfl rfl rfl (fun _ => rfl) trivial rfl) (OkOps.y (aI x34) ?_)
  refine OkOps.yield (jl := 6) (v1 := aI s31) (v2 := aI x34) (nx := 0) E (by decide) rfl rfl rfl rfl trivial rfl rfl dom_cons dom_self (fun ρc Mc hT2 => ?_)
  refine Ok.region (OkOps.y (aI x34) (OkOps.nil ?_))
  refine ⟨rfl, rfl, ?_⟩
  refine Ok.block (Ok.seq (Ok.region (OkOps.y (.c (.fn 71 [(0, 0)])) (OkOps.y (aI x34) ?_))))
  obtain ⟨x35, hx35, hr⟩ := bind_some hr
  refine OkOps.q (TriL.keep (triCallF (caps := [(0, 0)]) (tau [(0, 0)]) (.s (aB x35)) [(0, .blk [.d (.sl (List.map (eInt .i64) candidates))] 22)] rfl (fo_heir_1_c _ _ hx35) rfl ⟨.inl rfl, .inl rfl, trivial⟩ trivial entry71 ⟨rfl, trivial⟩ rfl rfl rfl rfl trivial rfl rfl rfl) ⟨rfl, trivial⟩) (OkOps.nil ?_)
  refine Ok.cond (b := x35) rfl (fun h36 => ?_) (fun h36 => ?_)
  have hr := selT h36 hr
  refine Ok.seq (Ok.region (OkOps.y (aI x34) (OkOps.w (triStore (cs' := [cI x34]) rfl rfl rfl rfl rfl rfl rfl rfl rfl) (OkOps.nil (Ok.ret ?_)))))
  refine ⟨rfl, ?_⟩
  refine OkOps.y (aB (!false)) (OkOps.nil ?_)
  refine Ok.cond (b := !false) rfl (fun _ => ?_) (fun h => by cases h)
  refine Ok.ret ?_
  refine ⟨.inl rfl, .inr ⟨.ret, _, rfl, rfl, ?_⟩⟩
  obtain rfl := Option.some.inj hr
  exact ⟨_, rfl, .inl rfl, trivial⟩
  have hr := selF h36 hr
  refine Ok.skip ?_
  refine ⟨rfl, ?_⟩
  refine OkOps.y (aB (!true)) (OkOps.nil ?_)
  refine Ok.cond (b := !true) rfl (fun h => by cases h) (fun _ => ?_)
  refine Ok.skip (Ok.region (OkOps.y (aI s31) (OkOps.y (aI (IntKind.i64.wrap (s31 - 1))) (OkOps.y (aI (IntKind.i64.wrap (s31 - 1))) (OkOps.nil ?_)))))
  exact ⟨IntKind.i64.wrap (s31 - 1), hr, (Conv.mk (tau []) ⟨⟨_, rfl, .inl rfl⟩, ⟨_, rfl, .inl rfl⟩, ⟨_, rfl, .inl rfl⟩, trivial⟩ ⟨rfl, rfl, rfl, rfl, rfl, trivial⟩ rfl rfl rfl rfl)⟩
  have hr := selF h33 hr
  refine Ok.exit ?_
  exact ⟨(), hr, (Conv.mk (tau []) trivial ⟨rfl, rfl, rfl, rfl, rfl, trivial⟩ rfl rfl rfl rfl)⟩
theorem fo_Repair_c (old : Tree) (t : Tree) (oldStyles : (List Styled)) (st : (List Styled)) (f : FocusState) {r : FocusState} (hr : fo_Repair old t oldStyles st f = some r) : Con Tryd.prog 22 [.agg [cI old.Root, cI old.Next, .d (.sl (List.map Node.cs old.Nodes))], .agg [cI t.Root, cI t.Next, .d (.sl (List.map Node.cs t.Nodes))], .c (.d (.sl (List.map Styled.cs oldStyles))), .c (.d (.sl (List.map Styled.cs st))), .agg [cI f.Focused, cB_ f.Visible, .d (.sl (List.map (eInt .i64) f.Past))]] [] (.s (.agg [cI r.Focused, cB_ r.Visible, .d (.sl (List.map (eInt .i64) r.Past))])) [] := by
  unfold fo_Repair at hr
  refine Con.of_ok 72 0 [.cell 10 69] [(0, .s (.agg [cI old.Root, cI old.Next, .d (.sl (List.map Node.cs old.Nodes))])), (1, .s (.agg [cI t.Root, cI t.Next, .d (.sl (List.map Node.cs t.Nodes))])), (2, .s (.c (.d (.sl (List.map Styled.cs oldStyles))))), (3, .s (.c (.d (.sl (List.map Styled.cs st))))), (4, .s (.agg [cI f.Focused, cB_ f.Visible, .d (.sl (List.map (eInt .i64) f.Past))]))] Tryd.func22 rfl rfl rfl rfl rfl rfl rfl rfl fun w g M ρ _ => (Ok.seq (Ok.region (OkOps.m 0 (triBox (j := 0) (cs := [cI old.Root, cI old.Next, .d (.sl (List.map Node.cs old.Nodes))]) rfl rfl rfl rfl rfl) (OkOps.m 0 (triBox (j := 1) (cs := [cI t.Root, cI t.Next, .d (.sl (List.map Node.cs t.Nodes))]) rfl rfl rfl rfl rfl) (OkOps.m 0 (triBox (j := 2) (cs := [cI f.Focused, cB_ f.Visible, .d (.sl (List.map (eInt .i64) f.Past))]) rfl rfl rfl rfl rfl) (OkOps.m 0 (triAlloc (j := 3) (cs := [cI 0, cB_ false, .d (.v (.slice none 0 0))]) rfl rfl rfl rfl) (OkOps.nil (Ok.seq (Ok.region (OkOps.q (triMkF [(1, 0)] rfl trivial rfl) (OkOps.m 0 (triAlloc (j := 4) (cs := [.d (.v .nilFunc)]) rfl rfl rfl rfl) (OkOps.w (triStore (cs' := [.fn 41 [(1, 0)]]) rfl rfl rfl rfl rfl rfl rfl rfl rfl) (OkOps.nil (Ok.seq (Ok.region ?_)))))))))))))))
  refine OkOps.y (.c (.loc 2 2)) (OkOps.y (.c (.d (.sl (List.map (eInt .i64) f.Past)))) ?_)
  obtain ⟨x1, hx1, hr⟩ := bind_some hr
  refine OkOps.m 0 (triCall (tau [(2000, 5)]) (.s (.c (.own 5))) [(5, .vec 1 (List.map (eInt .i64) x1))] (slices_Clone_Sl_int_intV_c _ hx1) rfl ⟨.inl rfl, trivial⟩ trivial entry38 trivial rfl rfl rfl rfl ⟨rfl, trivial⟩ rfl rfl rfl) (OkOps.q (triMkF [(4, 0)] rfl trivial rfl) ?_)
  obtain ⟨x2, hx2, hr⟩ := bind_some hr
  refine OkOps.wq [(4, .blk [.fn 41 [(1, 0)]] 103), (1, .blk [cI t.Root, cI t.Next, .d (.sl (List.map Node.cs t.Nodes))] 46), (5, .dead), (6, .tail 1)] (triCall (tau [(0, 5), (1, 4), (2, 1), (2000, 6)]) (.s (.c (.tl 6 (List.map (eInt .i64) x2)))) [(4, .blk [.fn 41 [(1, 0)]] 103), (1, .blk [cI t.Root, cI t.Next, .d (.sl (List.map Node.cs t.Nodes))] 46), (5, .dead), (6, .tail 1)] (sl_DeleteFunc_rep_c _ _ hx2) rfl ⟨.inl rfl, .inl rfl, trivial⟩ trivial entry42 ⟨rfl, rfl, rfl, trivial⟩ rfl rfl rfl rfl ⟨rfl, trivial⟩ rfl rfl rfl) (OkOps.y (.c (.loc 2 2)) (OkOps.w (triStore (cs' := [cI f.Focused, cB_ f.Visible, .tl 6 (List.map (eInt .i64) x2)]) rfl rfl rfl rfl rfl rfl rfl rfl rfl) (OkOps.nil (Ok.seq (Ok.region (OkOps.y (.agg [cI t.Root, cI t.Next, .d (.sl (List.map Node.cs t.Nodes))]) (OkOps.y (.c (.d (.sl (List.map Styled.cs st)))) ?_)))))))
  obtain ⟨x3, hx3, hr⟩ := bind_some hr
  refine OkOps.m 0 (triCall (tau [(2000, 7)]) (.s (.c (.own 7))) [(7, .vec 1 (List.map (eInt .i64) x3))] (fo_Candidates_c _ _ hx3) rfl ⟨.inl rfl, .inl rfl, trivial⟩ trivial entry31 trivial rfl rfl rfl rfl ⟨rfl, trivial⟩ rfl rfl rfl) (OkOps.y (.c (.own 7)) (OkOps.nil (Ok.seq (Ok.seq (Ok.region (OkOps.y (.c (.loc 2 0)) (OkOps.y (aI f.Focused) (OkOps.y (aB (f.Focused == 0)) (OkOps.y (aB (f.Focused == 0)) (OkOps.q (triQG (x := .c (.own 7)) rfl rfl trivial rfl) (OkOps.q (triQG (x := .c (.loc 2 0)) rfl rfl trivial rfl) (OkOps.q (triQG (x := aI f.Focused) rfl rfl ⟨fun h => h, trivial⟩ rfl) ?_))))))))))))
  obtain ⟨x4, hx4, hr⟩ := bind_some hr
  refine OkOps.q (triLoanG (x := aB x4) (fun hg => slices_Contains_Sl_int_int_c _ _ (gO_t hx4 hg)) rfl rfl ⟨.inr ⟨_, _, _, rfl, rfl, rfl⟩, .inl (.inl rfl), trivial⟩ ⟨fun h => h, ⟨fun h => h, trivial⟩⟩ entry44 rfl rfl rfl) ?_
  refine OkOps.q (triOr rfl rfl (fun h => by rw [h]; rfl) rfl) ?_
  refine OkOps.nil ?_
  refine Ok.cond (b := (f.Focused == 0) || x4) rfl (fun h5 => ?_) (fun h5 => ?_)
  have hr := selT h5 hr
  refine Ok.seq (Ok.region (OkOps.y (.agg [cI f.Focused, cB_ f.Visible, .tl 6 (List.map (eInt .i64) x2)]) (OkOps.w (triStore (cs' := [cI f.Focused, cB_ f.Visible, .tl 6 (List.map (eInt .i64) x2)]) rfl rfl rfl rfl rfl rfl rfl rfl rfl) (OkOps.nil (Ok.ret ?_)))))
  obtain rfl := Option.some.inj hr
  exact ⟨_, rfl, .inr rfl, trivial⟩
  have hr := selF h5 hr
  refine Ok.skip (Ok.seq (Ok.region (OkOps.y (.c (.loc 2 0)) (OkOps.y (aI f.Focused) (OkOps.y (aI f.Focused) (OkOps.nil (Ok.seq (Ok.regionD (by kernel_rfl) (OkD.x (.agg [cI old.Root, cI old.Next, .d (.sl (List.map Node.cs old.Nodes))]) rfl trivial rfl (OkD.x (.c (.d (.sl (List.map Styled.cs oldStyles)))) rfl trivial rfl ?_))))))))))
  obtain ⟨x6, hx6, hr⟩ := bind_some hr
  refine OkD.q (triCl (tau []) (.s (.c (.d (.sl (List.map (eInt .i64) x6))))) [] (fo_Order_c _ _ hx6) rfl ⟨.inl rfl, .inl rfl, trivial⟩ trivial entry16 trivial) (OkD.x (.c (.loc 2 2)) rfl trivial rfl (OkD.x (.c (.tl 6 (List.map (eInt .i64) x2))) rfl trivial rfl (OkD.x (.c (.own 7)) rfl trivial rfl (OkD.x (.agg [cI t.Root, cI t.Next, .d (.sl (List.map Node.cs t.Nodes))]) rfl trivial rfl (OkD.x (.c (.d (.sl (List.map Styled.cs st)))) rfl trivial rfl ?_)))))
  obtain ⟨x7, hx7, hr⟩ := bind_some hr
  refine OkD.q (triCl (tau []) (.s (.c (.d (.sl (List.map (eInt .i64) x7))))) [] (fo_Order_c _ _ hx7) rfl ⟨.inl rfl, .inl rfl, trivial⟩ trivial entry16 trivial) (OkD.x (aI f.Focused) rfl trivial rfl ?_)
  obtain ⟨x8, hx8, hr⟩ := bind_some hr
  refine OkD.q (triLoan (fo_heir_c _ _ _ _ _ hx8) rfl ⟨.inl (.inl rfl), .inl (.inr rfl), .inr ⟨_, _, _, rfl, rfl, rfl⟩, .inl (.inl rfl), .inl (.inl rfl), trivial⟩ trivial entry45 rfl rfl rfl) (OkD.x (.c (.loc 2 0)) rfl trivial rfl (OkD.w (triStore (cs' := [cI x8, cB_ f.Visible, .tl 6 (List.map (eInt .i64) x2)]) rfl rfl rfl rfl rfl rfl rfl rfl rfl) (OkD.nil (by kernel_rfl) (Ok.seq (Ok.region (OkOps.y (.c (.loc 2 2)) (OkOps.y (.c (.tl 6 (List.map (eInt .i64) x2))) (OkOps.y (.c (.loc 2 0)) (OkOps.y (aI x8) ?_)))))))))
  obtain ⟨x9, hx9, hr⟩ := bind_some hr
  refine OkOps.m 0 (triCall (tau [(2000, 8)]) (.s (.c (.tl 8 (List.map (eInt .i64) x9)))) [(8, .tail 1)] (fo_without_c _ _ hx9) rfl ⟨.inr rfl, .inl rfl, trivial⟩ trivial entry39 trivial rfl rfl rfl rfl ⟨rfl, trivial⟩ rfl rfl rfl) (OkOps.y (.c (.loc 2 2)) (OkOps.w (triStore (cs' := [cI x8, cB_ f.Visible, .tl 8 (List.map (eInt .i64) x9)]) rfl rfl rfl rfl rfl rfl rfl rfl rfl) (OkOps.nil ?_)))
  obtain ⟨k11, hk11, hr⟩ := jn_some hr
  refine Ok.join (fun (s10 : (List Int)) => ⟨[(9, .s (.c (.loc 2 0))), (10, .s (.c (.loc 3 0)))], [(2, .blk [cI x8, cB_ f.Visible, .d (.sl (List.map (eInt .i64) s10))] 69), (3, .blk [cI 0, cB_ false, .d (.v (.slice none 0 0))] 69)], 0⟩) k11 r (fun s10 hr => ?_) ?_
  rw [hk11] at hr
  refine Ok.seq (Ok.region (OkOps.y (.c (.loc 2 2)) (OkOps.y (.c (.d (.sl (List.map (eInt .i64) s10)))) (OkOps.y (.c (.loc 2 2)) (OkOps.y (.c (.d (.sl (List.map (eInt .i64) s10)))) (OkOps.q (triLen (enc := (eInt .i64)) s10 rfl rfl trivial rfl) (OkOps.y (aI (IntKind.i64.wrap ((s10.length : Int) - 16))) (OkOps.y (aI (mxI 0 (IntKind.i64.wrap ((s10.length : Int) - 16)))) ?_))))))))
  obtain ⟨x12, hx12, hr⟩ := bind_some hr
  refine OkOps.q (triSlc (enc := (eInt .i64)) (L := s10) hx12 rfl rfl rfl (.inr ⟨_, rfl⟩) (.inl ⟨rfl, rfl⟩) rfl (fun _ => rfl) trivial rfl) (OkOps.y (.c (.loc 2 2)) (OkOps.w (triStore (cs' := [cI x8, cB_ f.Visible, .d (.sl (List.map (eInt .i64) x12))]) rfl rfl rfl rfl rfl rfl rfl rfl rfl) (OkOps.nil (Ok.seq (Ok.region (OkOps.y (.agg [cI x8, cB_ f.Visible, .d (.sl (List.map (eInt .i64) x12))]) (OkOps.w (triStore (cs' := [cI x8, cB_ f.Visible, .d (.sl (List.map (eInt .i64) x12))]) rfl rfl rfl rfl rfl rfl rfl rfl rfl) (OkOps.nil (Ok.ret ?_)))))))))
  obtain rfl := Option.some.inj hr
  exact ⟨_, rfl, .inl rfl, trivial⟩
  clear hk11
  refine Ok.seq (Ok.region (OkOps.y (.c (.fn 41 [(1, 0)])) (OkOps.y (aI f.Focused) ?_)))
  obtain ⟨x13, hx13, hr⟩ := bind_some hr
  refine OkOps.q (TriL.keep (triCallF (caps := [(1, 0)]) (tau [(0, 1)]) (.s (aB x13)) [(1, .blk [cI t.Root, cI t.Next, .d (.sl (List.map Node.cs t.Nodes))] 46)] rfl (fo_Repair_1_c _ _ hx13) rfl ⟨.inl rfl, .inl rfl, trivial⟩ trivial entry41 ⟨rfl, trivial⟩ rfl rfl rfl rfl trivial rfl rfl rfl) ⟨rfl, trivial⟩) (OkOps.nil ?_)
  refine Ok.cond (b := x13) rfl (fun h14 => ?_) (fun h14 => ?_)
  have hr := selT h14 hr
  refine Ok.region (OkOps.y (.c (.loc 2 2)) (OkOps.y (.c (.tl 8 (List.map (eInt .i64) x9))) (OkOps.y (aI f.Focused) ?_)))
  obtain ⟨x15, hx15, hr⟩ := bind_some hr
  refine OkOps.q (triCl (tau []) (.s (.c (.d (.sl (List.map (eInt .i64) x15))))) [] (fo_remember_c _ _ hx15) rfl ⟨.inr rfl, .inl rfl, trivial⟩ trivial entry40 trivial) (OkOps.y (.c (.loc 2 2)) (OkOps.w (triStore (cs' := [cI x8, cB_ f.Visible, .d (.sl (List.map (eInt .i64) x15))]) rfl rfl rfl rfl rfl rfl rfl rfl rfl) (OkOps.nil ?_)))
  exact ⟨x15, hr, (Conv.mk (tau []) ⟨⟨_, rfl, .inl rfl⟩, ⟨_, rfl, .inl rfl⟩, trivial⟩ ⟨rfl, rfl, trivial⟩ rfl rfl rfl rfl)⟩
  have hr := selF h14 hr
  refine Ok.skip ?_
  exact ⟨x9, hr, (Conv.trans (Conv.norm 2 [cI x8, cB_ f.Visible, .tl 8 (List.map (eInt .i64) x9)] [cI x8, cB_ f.Visible, .d (.sl (List.map (eInt .i64) x9))] 69 0 rfl rfl) (Conv.mk (tau []) ⟨⟨_, rfl, .inl rfl⟩, ⟨_, rfl, .inl rfl⟩, trivial⟩ ⟨rfl, rfl, trivial⟩ rfl rfl rfl rfl))⟩
theorem fo_Set_c (f : FocusState) (id : Int) (visible : Bool) {r : FocusState} (hr : fo_Set f id visible = some r) : Con Tryd.prog 20 [.agg [cI f.Focused, cB_ f.Visible, .d (.sl (List.map (eInt .i64) f.Past))], aI id, aB visible] [] (.s (.agg [cI r.Focused, cB_ r.Visible, .d (.sl (List.map (eInt .i64) r.Past))])) [] := by
  unfold fo_Set at hr
  refine Con.of_ok 47 0 [.cell 6 69] [(0, .s (.agg [cI f.Focused, cB_ f.Visible, .d (.sl (List.map (eInt .i64) f.Past))])), (1, .s (aI id)), (2, .s (aB visible))] Tryd.func20 rfl rfl rfl rfl rfl rfl rfl rfl fun w g M ρ _ => (Ok.seq (Ok.region (OkOps.m 0 (triBox (j := 0) (cs := [cI f.Focused, cB_ f.Visible, .d (.sl (List.map (eInt .i64) f.Past))]) rfl rfl rfl rfl rfl) (OkOps.m 0 (triAlloc (j := 1) (cs := [cI 0, cB_ false, .d (.v (.slice none 0 0))]) rfl rfl rfl rfl) (OkOps.nil (Ok.seq (Ok.region (OkOps.y (aI id) (OkOps.y (aB visible) (OkOps.y (.c (.loc 0 2)) (OkOps.y (.c (.d (.sl (List.map (eInt .i64) f.Past)))) ?_)))))))))))
  obtain ⟨x1, hx1, hr⟩ := bind_some hr
  refine OkOps.m 0 (triCall (tau [(2000, 2)]) (.s (.c (.own 2))) [(2, .vec 1 (List.map (eInt .i64) x1))] (slices_Clone_Sl_int_intV_c _ hx1) rfl ⟨.inl rfl, trivial⟩ trivial entry38 trivial rfl rfl rfl rfl ⟨rfl, trivial⟩ rfl rfl rfl) (OkOps.conv (Conv.freeze (enc := (eInt .i64)) (L := x1) [12] 2 3 1 0 ⟨rfl, trivial⟩ rfl (fun _ => rfl) rfl) (OkOps.y (.agg [cI id, cB_ visible, .tl 3 (List.map (eInt .i64) x1)]) (OkOps.m 0 (triAlloc (j := 4) (cs := [cI 0, cB_ false, .d (.v (.slice none 0 0))]) rfl rfl rfl rfl) (OkOps.w (triStore (cs' := [cI id, cB_ visible, .tl 3 (List.map (eInt .i64) x1)]) rfl rfl rfl rfl rfl rfl rfl rfl rfl) (OkOps.nil (Ok.seq (Ok.seq (Ok.region (OkOps.y (aI id) (OkOps.y (.c (.loc 0 0)) (OkOps.y (aI f.Focused) (OkOps.y (aB (id == f.Focused)) (OkOps.nil ?_)))))))))))))
  refine Ok.cond (b := id == f.Focused) rfl (fun h2 => ?_) (fun h2 => ?_)
  have hr := selT h2 hr
  refine Ok.seq (Ok.region (OkOps.y (.agg [cI id, cB_ visible, .tl 3 (List.map (eInt .i64) x1)]) (OkOps.w (triStore (cs' := [cI id, cB_ visible, .tl 3 (List.map (eInt .i64) x1)]) rfl rfl rfl rfl rfl rfl rfl rfl rfl) (OkOps.nil (Ok.ret ?_)))))
  obtain rfl := Option.some.inj hr
  exact ⟨_, rfl, .inr rfl, trivial⟩
  have hr := selF h2 hr
  refine Ok.skip (Ok.seq (Ok.region (OkOps.y (.c (.loc 4 2)) (OkOps.y (.c (.tl 3 (List.map (eInt .i64) x1))) (OkOps.y (aI id) ?_)))))
  obtain ⟨x3, hx3, hr⟩ := bind_some hr
  refine OkOps.m 0 (triCall (tau [(2000, 5)]) (.s (.c (.tl 5 (List.map (eInt .i64) x3)))) [(5, .tail 1)] (fo_without_c _ _ hx3) rfl ⟨.inr rfl, .inl rfl, trivial⟩ trivial entry39 trivial rfl rfl rfl rfl ⟨rfl, trivial⟩ rfl rfl rfl) (OkOps.y (.c (.loc 4 2)) (OkOps.w (triStore (cs' := [cI id, cB_ visible, .tl 5 (List.map (eInt .i64) x3)]) rfl rfl rfl rfl rfl rfl rfl rfl rfl) (OkOps.nil ?_)))
  obtain ⟨k5, hk5, hr⟩ := jn_some hr
  refine Ok.join (fun (s4 : (List Int)) => ⟨[(6, .s (.c (.loc 1 0))), (7, .s (.c (.loc 4 0)))], [(1, .blk [cI 0, cB_ false, .d (.v (.slice none 0 0))] 69), (4, .blk [cI id, cB_ visible, .d (.sl (List.map (eInt .i64) s4))] 69)], 0⟩) k5 r (fun s4 hr => ?_) ?_
  rw [hk5] at hr
  refine Ok.seq (Ok.region (OkOps.y (.c (.loc 4 2)) (OkOps.y (.c (.d (.sl (List.map (eInt .i64) s4)))) (OkOps.y (.c (.loc 4 2)) (OkOps.y (.c (.d (.sl (List.map (eInt .i64) s4)))) (OkOps.q (triLen (enc := (eInt .i64)) s4 rfl rfl trivial rfl) (OkOps.y (aI (IntKind.i64.wrap ((s4.length : Int) - 16))) (OkOps.y (aI (mxI 0 (IntKind.i64.wrap ((s4.length : Int) - 16)))) ?_))))))))
  obtain ⟨x6, hx6, hr⟩ := bind_some hr
  refine OkOps.q (triSlc (enc := (eInt .i64)) (L := s4) hx6 rfl rfl rfl (.inr ⟨_, rfl⟩) (.inl ⟨rfl, rfl⟩) rfl (fun _ => rfl) trivial rfl) (OkOps.y (.c (.loc 4 2)) (OkOps.w (triStore (cs' := [cI id, cB_ visible, .d (.sl (List.map (eInt .i64) x6))]) rfl rfl rfl rfl rfl rfl rfl rfl rfl) (OkOps.nil (Ok.seq (Ok.region (OkOps.y (.agg [cI id, cB_ visible, .d (.sl (List.map (eInt .i64) x6))]) (OkOps.w (triStore (cs' := [cI id, cB_ visible, .d (.sl (List.map (eInt .i64) x6))]) rfl rfl rfl rfl rfl rfl rfl rfl rfl) (OkOps.nil (Ok.ret ?_)))))))))
  obtain rfl := Option.some.inj hr
  exact ⟨_, rfl, .inl rfl, trivial⟩
  clear hk5
  refine Ok.seq (Ok.region (OkOps.y (.c (.loc 0 0)) (OkOps.y (aI f.Focused) (OkOps.y (aB (f.Focused != 0)) (OkOps.nil ?_)))))
  refine Ok.cond (b := f.Focused != 0) rfl (fun h7 => ?_) (fun h7 => ?_)
  have hr := selT h7 hr
  refine Ok.region (OkOps.y (.c (.loc 4 2)) (OkOps.y (.c (.tl 5 (List.map (eInt .i64) x3))) (OkOps.y (.c (.loc 0 0)) (OkOps.y (aI f.Focused) ?_))))
  obtain ⟨x8, hx8, hr⟩ := bind_some hr
  refine OkOps.q (triCl (tau []) (.s (.c (.d (.sl (List.map (eInt .i64) x8))))) [] (fo_remember_c _ _ hx8) rfl ⟨.inr rfl, .inl rfl, trivial⟩ trivial entry40 trivial) (OkOps.y (.c (.loc 4 2)) (OkOps.w (triStore (cs' := [cI id, cB_ visible, .d (.sl (List.map (eInt .i64) x8))]) rfl rfl rfl rfl rfl rfl rfl rfl rfl) (OkOps.nil ?_)))
  exact ⟨x8, hr, (Conv.mk (tau []) ⟨⟨_, rfl, .inl rfl⟩, ⟨_, rfl, .inl rfl⟩, trivial⟩ ⟨rfl, rfl, trivial⟩ rfl rfl rfl rfl)⟩
  have hr := selF h7 hr
  refine Ok.region (OkOps.y (.c (.loc 4 2)) (OkOps.y (.c (.tl 5 (List.map (eInt .i64) x3))) ?_))
  obtain ⟨x9, hx9, hr⟩ := bind_some hr
  refine OkOps.m 0 (triCall (tau [(2000, 6)]) (.s (.c (.tl 6 (List.map (eInt .i64) x9)))) [(6, .tail 1)] (fo_without_c _ _ hx9) rfl ⟨.inr rfl, .inl rfl, trivial⟩ trivial entry39 trivial rfl rfl rfl rfl ⟨rfl, trivial⟩ rfl rfl rfl) (OkOps.y (.c (.loc 4 2)) (OkOps.w (triStore (cs' := [cI id, cB_ visible, .tl 6 (List.map (eInt .i64) x9)]) rfl rfl rfl rfl rfl rfl rfl rfl rfl) (OkOps.nil ?_)))
  exact ⟨x9, hr, (Conv.trans (Conv.norm 4 [cI id, cB_ visible, .tl 6 (List.map (eInt .i64) x9)] [cI id, cB_ visible, .d (.sl (List.map (eInt .i64) x9))] 69 0 rfl rfl) (Conv.mk (tau []) ⟨⟨_, rfl, .inl rfl⟩, ⟨_, rfl, .inl rfl⟩, trivial⟩ ⟨rfl, rfl, trivial⟩ rfl rfl rfl rfl))⟩
end Go.Proofs.YtfoigppmcelgfaaDoor
end
section
set_option maxRecDepth 100000
namespace Go.Proofs.YtfoigppmcelgfaaDoor
open Go Go.E2
theorem r11_join_B_c (self0 : AType → AType → Option (AType × Bool)) (hself0 : ∀ (a : AType) (b : AType) {r : AType × Bool}, self0 a b = some r → Con Tryd.prog 121 [.agg [cI a.Kind, .d (.sl (List.map AType.cs a.Of))], .agg [cI b.Kind, .d (.sl (List.map AType.cs b.Of))]] [] (.tup [.agg [cI r.1.Kind, .d (.sl (List.map AType.cs r.1.Of))], aB r.2]) []) (a : AType) (b : AType) {r : AType × Bool} (hr : r11_join_B self0 a b = some r) : Con Tryd.prog 121 [.agg [cI a.Kind, .d (.sl (List.map AType.cs a.Of))], .agg [cI b.Kind, .d (.sl (List.map AType.cs b.Of))]] [] (.tup [.agg [cI r.1.Kind, .d (.sl (List.map AType.cs r.1.Of))], aB r.2]) [] := by
  unfold r11_join_B at hr
  refine Con.of_ok 44 0 [.cell 4 182, .tmp 5] [(0, .s (.agg [cI a.Kind, .d (.sl (List.map AType.cs a.Of))])), (1, .s (.agg [cI b.Kind, .d (.sl (List.map AType.cs b.Of))]))] Tryd.func121 rfl rfl rfl rfl rfl rfl rfl rfl fun w g M ρ _ => (Ok.seq (Ok.region (OkOps.m 0 (triBox (j := 0) (cs := [cI a.Kind, .d (.sl (List.map AType.cs a.Of))]) rfl rfl rfl rfl rfl) (OkOps.m 0 (triBox (j := 1) (cs := [cI b.Kind, .d (.sl (List.map AType.cs b.Of))]) rfl rfl rfl rfl rfl) (OkOps.m 0 (triAlloc (j := 2) (cs := [cI 0, .d (.v (.slice none 0 0))]) rfl rfl rfl rfl) (OkOps.y (aB false) (OkOps.nil (Ok.seq (Ok.seq (Ok.region (OkOps.y (.c (.loc 0 0)) (OkOps.y (aI a.Kind) (OkOps.y (.c (.loc 1 0)) (OkOps.y (aI b.Kind) (OkOps.y (aB (a.Kind != b.Kind)) ?_)))))))))))))))
  refine OkOps.nil ?_
  refine Ok.cond (b := a.Kind != b.Kind) rfl (fun h1 => ?_) (fun h1 => ?_)
  have hr := selT h1 hr
  refine Ok.seq (Ok.region (OkOps.y (.agg [cI 0, .d (.v (.slice none 0 0))]) (OkOps.w (triStore (cs' := [cI 0, .d (.v (.slice none 0 0))]) rfl rfl rfl rfl rfl rfl rfl rfl rfl) (OkOps.y (aB false) (OkOps.nil (Ok.ret ?_))))))
  obtain rfl := Option.some.inj hr
  exact ⟨_, rfl, .inr rfl, trivial⟩
  have hr := selF h1 hr
  refine Ok.skip (Ok.seq (Ok.seq (Ok.region (OkOps.y (.c (.loc 0 1)) (OkOps.y (.c (.d (.sl (List.map AType.cs a.Of)))) (OkOps.q (triLen (enc := AType.cs) a.Of rfl rfl trivial rfl) (OkOps.y (aB ((a.Of.length : Int) == 0)) (OkOps.nil ?_))))))))
  refine Ok.cond (b := (a.Of.length : Int) == 0) rfl (fun h2 => ?_) (fun h2 => ?_)
  have hr := selT h2 hr
  refine Ok.seq (Ok.region (OkOps.y (.agg [cI b.Kind, .d (.sl (List.map AType.cs b.Of))]) (OkOps.w (triStore (cs' := [cI b.Kind, .d (.sl (List.map AType.cs b.Of))]) rfl rfl rfl rfl rfl rfl rfl rfl rfl) (OkOps.y (aB true) (OkOps.nil (Ok.ret ?_))))))
  obtain rfl := Option.some.inj hr
  exact ⟨_, rfl, .inl rfl, trivial⟩
  have hr := selF h2 hr
  refine Ok.skip (Ok.seq (Ok.seq (Ok.region (OkOps.y (.c (.loc 1 1)) (OkOps.y (.c (.d (.sl (List.map AType.cs b.Of)))) (OkOps.q (triLen (enc := AType.cs) b.Of rfl rfl trivial rfl) (OkOps.y (aB ((b.Of.length : Int) == 0)) (OkOps.nil ?_))))))))
  refine Ok.cond (b := (b.Of.length : Int) == 0) rfl (fun h3 => ?_) (fun h3 => ?_)
  have hr := selT h3 hr
  refine Ok.seq (Ok.region (OkOps.y (.agg [cI a.Kind, .d (.sl (List.map AType.cs a.Of))]) (OkOps.w (triStore (cs' := [cI a.Kind, .d (.sl (List.map AType.cs a.Of))]) rfl rfl rfl rfl rfl rfl rfl rfl rfl) (OkOps.y (aB true) (OkOps.nil (Ok.ret ?_))))))
  obtain rfl := Option.some.inj hr
  exact ⟨_, rfl, .inl rfl, trivial⟩
  have hr := selF h3 hr
  refine Ok.skip (Ok.seq (Ok.regionD (by kernel_rfl) (OkD.x (.c (.loc 0 1)) rfl trivial rfl (OkD.x (.c (.d (.sl (List.map AType.cs a.Of)))) rfl trivial rfl ?_))))
  obtain ⟨x4, hx4, hr⟩ := bind_some hr
  refine OkD.q (triIdx (enc := AType.cs) (L := a.Of) (row := [dI x4.Kind, .sl (List.map AType.cs x4.Of)]) hx4 (AType.cs_eq _) rfl rfl rfl (fun x => by rw [AType.cs_eq]; rfl) trivial rfl) ?_
  refine OkD.x (.agg [cI x4.Kind, .d (.sl (List.map AType.cs x4.Of))]) rfl trivial rfl (OkD.x (.c (.loc 1 1)) rfl trivial rfl (OkD.x (.c (.d (.sl (List.map AType.cs b.Of)))) rfl trivial rfl ?_))
  obtain ⟨x5, hx5, hr⟩ := bind_some hr
  refine OkD.q (triIdx (enc := AType.cs) (L := b.Of) (row := [dI x5.Kind, .sl (List.map AType.cs x5.Of)]) hx5 (AType.cs_eq _) rfl rfl rfl (fun x => by rw [AType.cs_eq]; rfl) trivial rfl) ?_
  refine OkD.x (.agg [cI x5.Kind, .d (.sl (List.map AType.cs x5.Of))]) rfl trivial rfl ?_
  obtain ⟨x6, hx6, hr⟩ := bind_some hr
  refine OkD.q (triCl (tau []) (.tup [.agg [cI x6.1.Kind, .d (.sl (List.map AType.cs x6.1.Of))], aB x6.2]) [] (hself0 _ _ hx6) rfl ⟨.inl rfl, .inl rfl, trivial⟩ trivial entry121 trivial) (OkD.q (triMv (v := .tup [.agg [cI x6.1.Kind, .d (.sl (List.map AType.cs x6.1.Of))], aB x6.2]) rfl rfl) (OkD.x (.agg [cI x6.1.Kind, .d (.sl (List.map AType.cs x6.1.Of))]) rfl trivial rfl (OkD.x (aB x6.2) rfl trivial rfl (OkD.m 0 (triAlloc (j := 3) (cs := [cI 0, .d (.v (.slice none 0 0))]) rfl rfl rfl rfl) (OkD.w (triStore (cs' := [cI x6.1.Kind, .d (.sl (List.map AType.cs x6.1.Of))]) rfl rfl rfl rfl rfl rfl rfl rfl rfl) (OkD.x (aB x6.2) rfl trivial rfl (OkD.nil (by kernel_rfl) (Ok.seq (Ok.seq (Ok.region (OkOps.y (aB x6.2) (OkOps.y (aB (!x6.2)) (OkOps.nil ?_)))))))))))))
  refine Ok.cond (b := !x6.2) rfl (fun h7 => ?_) (fun h7 => ?_)
  have hr := selT h7 hr
  refine Ok.seq (Ok.region (OkOps.y (.agg [cI 0, .d (.v (.slice none 0 0))]) (OkOps.w (triStore (cs' := [cI 0, .d (.v (.slice none 0 0))]) rfl rfl rfl rfl rfl rfl rfl rfl rfl) (OkOps.y (aB false) (OkOps.nil (Ok.ret ?_))))))
  obtain rfl := Option.some.inj hr
  exact ⟨_, rfl, .inr rfl, trivial⟩
  have hr := selF h7 hr
  refine Ok.skip (Ok.seq (Ok.region (OkOps.y (.c (.loc 0 0)) (OkOps.y (aI a.Kind) (OkOps.y (.agg [cI x6.1.Kind, .d (.sl (List.map AType.cs x6.1.Of))]) ?_)))))
  refine OkOps.m 0 (triBST (sz := 2) (enc := AType.cs) (j := 4) ([x6.1]) rfl rfl rfl rfl rfl (rows := [[dI x6.1.Kind, .sl (List.map AType.cs x6.1.Of)]]) (by simp only [List.map, AType.cs_eq]) rfl rfl (fun x => by rw [AType.cs_eq]; rfl) trivial rfl rfl) ?_
  refine OkOps.y (.agg [cI a.Kind, .tl 4 (List.map AType.cs ([x6.1]))]) (OkOps.w (triStore (cs' := [cI a.Kind, .tl 4 (List.map AType.cs ([x6.1]))]) rfl rfl rfl rfl rfl rfl rfl rfl rfl) (OkOps.y (aB true) (OkOps.nil (Ok.ret ?_))))
  obtain rfl := Option.some.inj hr
  exact ⟨_, rfl, .inr rfl, trivial⟩
theorem r11_join_all : ∀ n : Nat, (∀ (a : AType) (b : AType) {r : AType × Bool}, r11_join n a b = some r → Con Tryd.prog 121 [.agg [cI a.Kind, .d (.sl (List.map AType.cs a.Of))], .agg [cI b.Kind, .d (.sl (List.map AType.cs b.Of))]] [] (.tup [.agg [cI r.1.Kind, .d (.sl (List.map AType.cs r.1.Of))], aB r.2]) []) ∧ True := by
  intro n
  induction n with
  | zero => exact ⟨(by intros; rename_i hr; cases hr), trivial⟩
  | succ n ih => exact ⟨(by intros; rename_i hr; exact r11_join_B_c _ ih.1 _ _ hr), trivial⟩
theorem r11_join_c (n : Nat) (a : AType) (b : AType) {r : AType × Bool} (hr : r11_join n a b = some r) : Con Tryd.prog 121 [.agg [cI a.Kind, .d (.sl (List.map AType.cs a.Of))], .agg [cI b.Kind, .d (.sl (List.map AType.cs b.Of))]] [] (.tup [.agg [cI r.1.Kind, .d (.sl (List.map AType.cs r.1.Of))], aB r.2]) [] := (r11_join_all n).1 a b hr
theorem r11_check_B_c (self0 : AValue → Int → Int → Option (AType × Int × Int)) (hself0 : ∀ (v : AValue) (depth : Int) (met : Int) {r : AType × Int × Int}, self0 v depth met = some r → Con Tryd.prog 112 [.agg [cI v.Kind, cI v.N, cS v.S, .d (.sl (List.map AValue.cs v.L))], aI depth, aI met] [] (.tup [.agg [cI r.1.Kind, .d (.sl (List.map AType.cs r.1.Of))], aI r.2.1, aI r.2.2]) []) (v : AValue) (depth : Int) (met : Int) {r : AType × Int × Int} (hr : r11_check_B self0 v depth met = some r) : Con Tryd.prog 112 [.agg [cI v.Kind, cI v.N, cS v.S, .d (.sl (List.map AValue.cs v.L))], aI depth, aI met] [] (.tup [.agg [cI r.1.Kind, .d (.sl (List.map AType.cs r.1.Of))], aI r.2.1, aI r.2.2]) [] := by
  unfold r11_check_B at hr
  refine Con.of_ok 184 0 [.cell 6 182, .tmp 7, .tmp 8] [(0, .s (.agg [cI v.Kind, cI v.N, cS v.S, .d (.sl (List.map AValue.cs v.L))])), (1, .s (aI depth)), (2, .s (aI met))] Tryd.func112 rfl rfl rfl rfl rfl rfl rfl rfl fun w g M ρ _ => (Ok.seq (Ok.region (OkOps.m 0 (triBox (j := 0) (cs := [cI v.Kind, cI v.N, cS v.S, .d (.sl (List.map AValue.cs v.L))]) rfl rfl rfl rfl rfl) (OkOps.m 0 (triAlloc (j := 1) (cs := [cI 0, .d (.v (.slice none 0 0))]) rfl rfl rfl rfl) (OkOps.y (aI 0) (OkOps.y (aI 0) (OkOps.nil (Ok.seq (Ok.region (OkOps.y (aI met) (OkOps.y (aI (IntKind.i64.wrap (met + 1))) (OkOps.y (aI (IntKind.i64.wrap (met + 1))) (OkOps.nil (Ok.seq (Ok.region ?_)))))))))))))))
  refine OkOps.y (.c (.loc 0 0)) (OkOps.y (aI v.Kind) (OkOps.y (aB (v.Kind == 4)) (OkOps.y (aB (v.Kind == 4)) (OkOps.nil (Ok.seq (Ok.seq (Ok.region (OkOps.y (aB (v.Kind == 4)) (OkOps.y (aB (v.Kind == 4)) (OkOps.q (triQG (x := aI depth) rfl rfl trivial rfl) (OkOps.q (triQG (x := aB (decide (depth > 16))) rfl rfl ⟨fun h => h, trivial⟩ rfl) (OkOps.q (triAnd rfl rfl (fun h => h) rfl) (OkOps.nil ?_)))))))))))))
  refine Ok.cond (b := (v.Kind == 4) && (decide (depth > 16))) rfl (fun h1 => ?_) (fun h1 => ?_)
  have hr := selT h1 hr
  refine Ok.seq (Ok.region (OkOps.y (.agg [cI 0, .d (.v (.slice none 0 0))]) (OkOps.y (aI (IntKind.i64.wrap (met + 1))) (OkOps.w (triStore (cs' := [cI 0, .d (.v (.slice none 0 0))]) rfl rfl rfl rfl rfl rfl rfl rfl rfl) (OkOps.y (aI (IntKind.i64.wrap (met + 1))) (OkOps.y (aI 8) (OkOps.nil (Ok.ret ?_))))))))
  obtain rfl := Option.some.inj hr
  exact ⟨_, rfl, .inr rfl, trivial⟩
  have hr := selF h1 hr
  refine Ok.skip (Ok.seq (Ok.seq (Ok.region (OkOps.y (.c (.loc 0 0)) (OkOps.y (aI v.Kind) (OkOps.y (aB (decide (v.Kind < 1))) (OkOps.y (aB (decide (v.Kind < 1))) (OkOps.q (triQG (x := .c (.loc 0 0)) rfl rfl trivial rfl) (OkOps.q (triQG (x := aI v.Kind) rfl rfl ⟨fun h => h, trivial⟩ rfl) (OkOps.q (triQG (x := aB (decide (v.Kind > 4))) rfl rfl ⟨fun h => h, trivial⟩ rfl) ?_))))))))))
  refine OkOps.q (triOr rfl rfl (fun h => by rw [h]; rfl) rfl) ?_
  refine OkOps.y (aB ((decide (v.Kind < 1)) || (decide (v.Kind > 4)))) (OkOps.q (triQG (x := .c (.loc 0 1)) rfl rfl trivial rfl) (OkOps.q (triQG (x := aI v.N) rfl rfl ⟨fun h => h, trivial⟩ rfl) (OkOps.q (triQG (x := aB (v.N != 0)) rfl rfl ⟨fun h => h, trivial⟩ rfl) (OkOps.q (triQG (x := aB (v.N != 0)) rfl rfl ⟨fun h => h, trivial⟩ rfl) (OkOps.q (triQG (x := .c (.loc 0 0)) rfl rfl trivial rfl) (OkOps.q (triQG (x := aI v.Kind) rfl rfl ⟨fun h => h, trivial⟩ rfl) (OkOps.q (triQG (x := aB (v.Kind != 1)) rfl rfl ⟨fun h => h, trivial⟩ rfl) ?_)))))))
  refine OkOps.q (triAndG rfl rfl rfl (fun h => h) (fun h h2 => by rw [h, h2]; rfl) rfl) ?_
  refine OkOps.q (triQG (x := aB ((v.N != 0) && (v.Kind != 1))) rfl rfl ⟨fun h => h, trivial⟩ rfl) (OkOps.q (triQG (x := .c (.loc 0 0)) rfl rfl trivial rfl) (OkOps.q (triQG (x := aI v.Kind) rfl rfl ⟨fun h => h, trivial⟩ rfl) (OkOps.q (triQG (x := aB (v.Kind != 2)) rfl rfl ⟨fun h => h, trivial⟩ rfl) ?_)))
  refine OkOps.q (triAndG rfl rfl rfl (fun h => h) (fun h h2 => by rw [h, h2]; rfl) rfl) ?_
  refine OkOps.q (triOr rfl rfl (fun h => by rw [h]; rfl) rfl) ?_
  refine OkOps.y (aB (((decide (v.Kind < 1)) || (decide (v.Kind > 4))) || (((v.N != 0) && (v.Kind != 1)) && (v.Kind != 2)))) (OkOps.q (triQG (x := .c (.loc 0 2)) rfl rfl trivial rfl) (OkOps.q (triQG (x := aS v.S) rfl rfl ⟨fun h => h, trivial⟩ rfl) (OkOps.q (triQG (x := aB (!(v.S.toList == (ByteArray.mk #[]).toList))) rfl rfl ⟨fun h => h, trivial⟩ rfl) (OkOps.q (triQG (x := aB (!(v.S.toList == (ByteArray.mk #[]).toList))) rfl rfl ⟨fun h => h, trivial⟩ rfl) (OkOps.q (triQG (x := .c (.loc 0 0)) rfl rfl trivial rfl) (OkOps.q (triQG (x := aI v.Kind) rfl rfl ⟨fun h => h, trivial⟩ rfl) (OkOps.q (triQG (x := aB (v.Kind != 3)) rfl rfl ⟨fun h => h, trivial⟩ rfl) ?_)))))))
  refine OkOps.q (triAndG rfl rfl rfl (fun h => h) (fun h h2 => by rw [h, h2]; rfl) rfl) ?_
  refine OkOps.q (triOr rfl rfl (fun h => by rw [h]; rfl) rfl) ?_
  refine OkOps.y (aB ((((decide (v.Kind < 1)) || (decide (v.Kind > 4))) || (((v.N != 0) && (v.Kind != 1)) && (v.Kind != 2))) || ((!(v.S.toList == (ByteArray.mk #[]).toList)) && (v.Kind != 3)))) (OkOps.q (triQG (x := .c (.loc 0 3)) rfl rfl trivial rfl) (OkOps.q (triQG (x := .c (.d (.sl (List.map AValue.cs v.L)))) rfl rfl ⟨fun h => h, trivial⟩ rfl) (OkOps.q (triLenG (enc := AValue.cs) v.L rfl rfl rfl ⟨fun h => h, trivial⟩ rfl) (OkOps.q (triQG (x := aB (decide ((v.L.length : Int) > 0))) rfl rfl ⟨fun h => h, trivial⟩ rfl) (OkOps.q (triQG (x := aB (decide ((v.L.length : Int) > 0))) rfl rfl ⟨fun h => h, trivial⟩ rfl) (OkOps.q (triQG (x := aB (v.Kind == 4)) rfl rfl trivial rfl) (OkOps.q (triQG (x := aB (!(v.Kind == 4))) rfl rfl ⟨fun h => h, trivial⟩ rfl) ?_)))))))
  refine OkOps.q (triAndG rfl rfl rfl (fun h => h) (fun h h2 => by rw [h, h2]; rfl) rfl) ?_
  refine OkOps.q (triOr rfl rfl (fun h => by rw [h]; rfl) rfl) ?_
  refine OkOps.nil ?_
  refine Ok.cond (b := ((((decide (v.Kind < 1)) || (decide (v.Kind > 4))) || (((v.N != 0) && (v.Kind != 1)) && (v.Kind != 2))) || ((!(v.S.toList == (ByteArray.mk #[]).toList)) && (v.Kind != 3))) || ((decide ((v.L.length : Int) > 0)) && (!(v.Kind == 4)))) rfl (fun h2 => ?_) (fun h2 => ?_)
  have hr := selT h2 hr
  refine Ok.seq (Ok.region (OkOps.y (.agg [cI 0, .d (.v (.slice none 0 0))]) (OkOps.y (aI (IntKind.i64.wrap (met + 1))) (OkOps.w (triStore (cs' := [cI 0, .d (.v (.slice none 0 0))]) rfl rfl rfl rfl rfl rfl rfl rfl rfl) (OkOps.y (aI (IntKind.i64.wrap (met + 1))) (OkOps.y (aI 9) (OkOps.nil (Ok.ret ?_))))))))
  obtain rfl := Option.some.inj hr
  exact ⟨_, rfl, .inr rfl, trivial⟩
  have hr := selF h2 hr
  refine Ok.skip (Ok.seq (Ok.seq (Ok.region (OkOps.y (.c (.loc 0 0)) (OkOps.y (aI v.Kind) (OkOps.y (aB (v.Kind == 1)) (OkOps.y (aB (v.Kind == 1)) (OkOps.q (triQG (x := .c (.loc 0 1)) rfl rfl trivial rfl) (OkOps.q (triQG (x := aI v.N) rfl rfl ⟨fun h => h, trivial⟩ rfl) (OkOps.q (triQG (x := aB (decide (v.N < (-1099511627776)))) rfl rfl ⟨fun h => h, trivial⟩ rfl) (OkOps.q (triQG (x := aB (decide (v.N < (-1099511627776)))) rfl rfl ⟨fun h => h, trivial⟩ rfl) (OkOps.q (triQG (x := .c (.loc 0 1)) rfl rfl trivial rfl) (OkOps.q (triQG (x := aI v.N) rfl rfl ⟨fun h => h, trivial⟩ rfl) (OkOps.q (triQG (x := aB (decide (v.N > 1099511627776))) rfl rfl ⟨fun h => h, trivial⟩ rfl) ?_))))))))))))))
  refine OkOps.q (triOrG rfl rfl rfl (fun h => h) (fun h h2 => by rw [h, h2]; rfl) rfl) ?_
  refine OkOps.q (triAnd rfl rfl (fun h => h) rfl) (OkOps.y (aB ((v.Kind == 1) && ((decide (v.N < (-1099511627776))) || (decide (v.N > 1099511627776))))) (OkOps.q (triQG (x := .c (.loc 0 0)) rfl rfl trivial rfl) (OkOps.q (triQG (x := aI v.Kind) rfl rfl ⟨fun h => h, trivial⟩ rfl) (OkOps.q (triQG (x := aB (v.Kind == 2)) rfl rfl ⟨fun h => h, trivial⟩ rfl) (OkOps.q (triQG (x := aB (v.Kind == 2)) rfl rfl ⟨fun h => h, trivial⟩ rfl) (OkOps.q (triQG (x := .c (.loc 0 1)) rfl rfl trivial rfl) (OkOps.q (triQG (x := aI v.N) rfl rfl ⟨fun h => h, trivial⟩ rfl) (OkOps.q (triQG (x := aB (v.N != 0)) rfl rfl ⟨fun h => h, trivial⟩ rfl) ?_))))))))
  refine OkOps.q (triAndG rfl rfl rfl (fun h => h) (fun h h2 => by rw [h, h2]; rfl) rfl) ?_
  refine OkOps.q (triQG (x := aB ((v.Kind == 2) && (v.N != 0))) rfl rfl ⟨fun h => h, trivial⟩ rfl) (OkOps.q (triQG (x := .c (.loc 0 1)) rfl rfl trivial rfl) (OkOps.q (triQG (x := aI v.N) rfl rfl ⟨fun h => h, trivial⟩ rfl) (OkOps.q (triQG (x := aB (v.N != 1)) rfl rfl ⟨fun h => h, trivial⟩ rfl) ?_)))
  refine OkOps.q (triAndG rfl rfl rfl (fun h => h) (fun h h2 => by rw [h, h2]; rfl) rfl) ?_
  refine OkOps.q (triOr rfl rfl (fun h => by rw [h]; rfl) rfl) ?_
  refine OkOps.nil ?_
  refine Ok.cond (b := ((v.Kind == 1) && ((decide (v.N < (-1099511627776))) || (decide (v.N > 1099511627776)))) || (((v.Kind == 2) && (v.N != 0)) && (v.N != 1))) rfl (fun h3 => ?_) (fun h3 => ?_)
  have hr := selT h3 hr
  refine Ok.seq (Ok.region (OkOps.y (.agg [cI 0, .d (.v (.slice none 0 0))]) (OkOps.y (aI (IntKind.i64.wrap (met + 1))) (OkOps.w (triStore (cs' := [cI 0, .d (.v (.slice none 0 0))]) rfl rfl rfl rfl rfl rfl rfl rfl rfl) (OkOps.y (aI (IntKind.i64.wrap (met + 1))) (OkOps.y (aI 1) (OkOps.nil (Ok.ret ?_))))))))
  obtain rfl := Option.some.inj hr
  exact ⟨_, rfl, .inr rfl, trivial⟩
  have hr := selF h3 hr
  refine Ok.skip (Ok.seq (Ok.seq (Ok.region (OkOps.y (.c (.loc 0 2)) (OkOps.y (aS v.S) (OkOps.y (aI (v.S.size : Int)) (OkOps.y (aB (decide ((v.S.size : Int) > 2000))) (OkOps.y (aB (decide ((v.S.size : Int) > 2000))) (OkOps.q (triQG (x := .c (.loc 0 3)) rfl rfl trivial rfl) (OkOps.q (triQG (x := .c (.d (.sl (List.map AValue.cs v.L)))) rfl rfl ⟨fun h => h, trivial⟩ rfl) (OkOps.q (triLenG (enc := AValue.cs) v.L rfl rfl rfl ⟨fun h => h, trivial⟩ rfl) (OkOps.q (triQG (x := aB (decide ((v.L.length : Int) > 100))) rfl rfl ⟨fun h => h, trivial⟩ rfl) ?_))))))))))))
  refine OkOps.q (triOr rfl rfl (fun h => by rw [h]; rfl) rfl) ?_
  refine OkOps.y (aB ((decide ((v.S.size : Int) > 2000)) || (decide ((v.L.length : Int) > 100)))) (OkOps.q (triQG (x := aI (IntKind.i64.wrap (met + 1))) rfl rfl trivial rfl) (OkOps.q (triQG (x := aB (decide ((IntKind.i64.wrap (met + 1)) > 1000))) rfl rfl ⟨fun h => h, trivial⟩ rfl) ?_))
  refine OkOps.q (triOr rfl rfl (fun h => by rw [h]; rfl) rfl) ?_
  refine OkOps.nil ?_
  refine Ok.cond (b := ((decide ((v.S.size : Int) > 2000)) || (decide ((v.L.length : Int) > 100))) || (decide ((IntKind.i64.wrap (met + 1)) > 1000))) rfl (fun h4 => ?_) (fun h4 => ?_)
  have hr := selT h4 hr
  refine Ok.seq (Ok.region (OkOps.y (.agg [cI 0, .d (.v (.slice none 0 0))]) (OkOps.y (aI (IntKind.i64.wrap (met + 1))) (OkOps.w (triStore (cs' := [cI 0, .d (.v (.slice none 0 0))]) rfl rfl rfl rfl rfl rfl rfl rfl rfl) (OkOps.y (aI (IntKind.i64.wrap (met + 1))) (OkOps.y (aI 2) (OkOps.nil (Ok.ret ?_))))))))
  obtain rfl := Option.some.inj hr
  exact ⟨_, rfl, .inr rfl, trivial⟩
  have hr := selF h4 hr
  refine Ok.skip (Ok.seq (Ok.seq (Ok.region (OkOps.y (.c (.loc 0 2)) (OkOps.y (aS v.S) ?_)))))
  obtain ⟨x5, hx5, hr⟩ := bind_some hr
  refine OkOps.q (triCl (tau []) (.s (aB x5)) [] (r11_UTF8_c _ hx5) rfl ⟨.inl rfl, trivial⟩ trivial entry120 trivial) (OkOps.y (aB (!x5)) (OkOps.nil ?_))
  refine Ok.cond (b := !x5) rfl (fun h6 => ?_) (fun h6 => ?_)
  have hr := selT h6 hr
  refine Ok.seq (Ok.region (OkOps.y (.agg [cI 0, .d (.v (.slice none 0 0))]) (OkOps.y (aI (IntKind.i64.wrap (met + 1))) (OkOps.w (triStore (cs' := [cI 0, .d (.v (.slice none 0 0))]) rfl rfl rfl rfl rfl rfl rfl rfl rfl) (OkOps.y (aI (IntKind.i64.wrap (met + 1))) (OkOps.y (aI 3) (OkOps.nil (Ok.ret ?_))))))))
  obtain rfl := Option.some.inj hr
  exact ⟨_, rfl, .inr rfl, trivial⟩
  have hr := selF h6 hr
  refine Ok.skip (Ok.seq (Ok.region (OkOps.y (.c (.loc 0 0)) (OkOps.y (aI v.Kind) (OkOps.y (.agg [cI v.Kind, .d (.v (.slice none 0 0))]) (OkOps.m 0 (triAlloc (j := 2) (cs := [cI 0, .d (.v (.slice none 0 0))]) rfl rfl rfl rfl) (OkOps.w (triStore (cs' := [cI v.Kind, .d (.v (.slice none 0 0))]) rfl rfl rfl rfl rfl rfl rfl rfl rfl) (OkOps.nil (Ok.seq (Ok.region (OkOps.y (aB true) (OkOps.nil ?_))))))))))))
  obtain ⟨k8, hk8, hr⟩ := jn_some hr
  refine Ok.join (fun (s7 : Int × Bool × (List AType)) => ⟨[(2, .s (aI s7.1)), (6, .s (.c (.loc 1 0))), (10, .s (.c (.loc 2 0))), (11, .s (aB s7.2.1))], [(1, .blk [cI 0, .d (.v (.slice none 0 0))] 182), (2, .blk [cI v.Kind, .tl 1007 (List.map AType.cs s7.2.2)] 182), (1007, .tail 2)], 0⟩) k8 r (fun s7 hr => ?_) ?_
  rw [hk8] at hr
  refine Ok.seq (Ok.seq (Ok.region (OkOps.y (aB s7.2.1) (OkOps.y (aB (!s7.2.1)) (OkOps.nil ?_)))))
  refine Ok.cond (b := !s7.2.1) rfl (fun h9 => ?_) (fun h9 => ?_)
  have hr := selT h9 hr
  refine Ok.seq (Ok.region (OkOps.y (.agg [cI 0, .d (.v (.slice none 0 0))]) (OkOps.y (aI s7.1) (OkOps.w (triStore (cs' := [cI 0, .d (.v (.slice none 0 0))]) rfl rfl rfl rfl rfl rfl rfl rfl rfl) (OkOps.y (aI s7.1) (OkOps.y (aI 5) (OkOps.nil (Ok.ret ?_))))))))
  obtain rfl := Option.some.inj hr
  exact ⟨_, rfl, .inr rfl, trivial⟩
  have hr := selF h9 hr
  refine Ok.skip (Ok.seq (Ok.region (OkOps.y (.agg [cI v.Kind, .tl 1007 (List.map AType.cs s7.2.2)]) (OkOps.y (aI s7.1) (OkOps.w (triStore (cs' := [cI v.Kind, .tl 1007 (List.map AType.cs s7.2.2)]) rfl rfl rfl rfl rfl rfl rfl rfl rfl) (OkOps.y (aI s7.1) (OkOps.y (aI 0) (OkOps.nil (Ok.ret ?_)))))))))
  obtain rfl := Option.some.inj hr
  exact ⟨_, rfl, .inr rfl, trivial⟩
  clear hk8
  refine Ok.seq (Ok.region (OkOps.y (aI 0) (OkOps.nil (Ok.block (Ok.loopK (fun (s10 : Int × Bool × Int × (List AType)) => ⟨[(1, .s (aI depth)), (2, .s (aI s10.1)), (3, .s (.c (.loc 0 0))), (6, .s (.c (.loc 1 0))), (10, .s (.c (.loc 2 0))), (11, .s (aB s10.2.1)), (12, .s (aI s10.2.2.1))], [(0, .blk [cI v.Kind, cI v.N, cS v.S, .d (.sl (List.map AValue.cs v.L))] 62), (1, .blk [cI 0, .d (.v (.slice none 0 0))] 182), (2, .blk [cI v.Kind, .tl 1011 (List.map AType.cs s10.2.2.2)] 182), (1011, .tail 2)], 0⟩) hr (Conv.trans (Conv.nilO 2 1 1014 2 [cI v.Kind, .d (.v (.slice none 0 0))] [cI v.Kind, .tl 1014 (List.map AType.cs ([] : (List AType)))] 182 0 rfl rfl rfl rfl) (Conv.mk (tau [(1011, 1014)]) ⟨⟨_, rfl, .inl rfl⟩, ⟨_, rfl, .inl rfl⟩, ⟨_, rfl, .inl rfl⟩, ⟨_, rfl, .inl rfl⟩, ⟨_, rfl, .inl rfl⟩, ⟨_, rfl, .inl rfl⟩, ⟨_, rfl, .inl rfl⟩, trivial⟩ ⟨rfl, rfl, rfl, rfl, trivial⟩ rfl rfl rfl rfl)) ?_)))))
  clear hr
  intro again11 s10 hr
  unfold r11_check_L1 at hr
  refine Ok.seq (Ok.seq (Ok.region (OkOps.y (aI s10.2.2.1) (OkOps.y (.c (.loc 0 3)) (OkOps.y (.c (.d (.sl (List.map AValue.cs v.L)))) (OkOps.q (triLen (enc := AValue.cs) v.L rfl rfl trivial rfl) (OkOps.y (aB (decide (s10.2.2.1 < (v.L.length : Int)))) (OkOps.nil ?_))))))))
  refine Ok.cond (b := decide (s10.2.2.1 < (v.L.length : Int))) rfl (fun h12 => ?_) (fun h12 => ?_)
  have hr := selT h12 hr
  refine Ok.skip ?_
  obtain ⟨k14, hk14, hr⟩ := jn_some hr
  refine Ok.join (fun (s13 : Int × Bool × (List AType)) => ⟨[(1, .s (aI depth)), (2, .s (aI s13.1)), (3, .s (.c (.loc 0 0))), (6, .s (.c (.loc 1 0))), (10, .s (.c (.loc 2 0))), (11, .s (aB s13.2.1)), (12, .s (aI s10.2.2.1))], [(0, .blk [cI v.Kind, cI v.N, cS v.S, .d (.sl (List.map AValue.cs v.L))] 62), (1, .blk [cI 0, .d (.v (.slice none 0 0))] 182), (2, .blk [cI v.Kind, .tl 1015 (List.map AType.cs s13.2.2)] 182), (1015, .tail 2)], 0⟩) k14 r (fun s13 hr => ?_) ?_
  rw [hk14] at hr
  refine Ok.region (OkOps.y (aI s10.2.2.1) (OkOps.y (aI (IntKind.i64.wrap (s10.2.2.1 + 1))) (OkOps.y (aI (IntKind.i64.wrap (s10.2.2.1 + 1))) (OkOps.nil ?_))))
  exact ⟨(s13.1, s13.2.1, IntKind.i64.wrap (s10.2.2.1 + 1), s13.2.2), hr, (Conv.mk (tau [(1011, 1015)]) ⟨⟨_, rfl, .inl rfl⟩, ⟨_, rfl, .inl rfl⟩, ⟨_, rfl, .inl rfl⟩, ⟨_, rfl, .inl rfl⟩, ⟨_, rfl, .inl rfl⟩, ⟨_, rfl, .inl rfl⟩, ⟨_, rfl, .inl rfl⟩, trivial⟩ ⟨rfl, rfl, rfl, rfl, trivial⟩ rfl rfl rfl rfl)⟩
  clear hk14
  refine Ok.block (Ok.seq (Ok.region (OkOps.y (.c (.loc 0 3)) (OkOps.y (.c (.d (.sl (List.map AValue.cs v.L)))) (OkOps.y (aI s10.2.2.1) ?_)))))
  obtain ⟨x15, hx15, hr⟩ := bind_some hr
  refine OkOps.q (triIdx (enc := AValue.cs) (L := v.L) (row := [dI x15.Kind, dI x15.N, dS x15.S, .sl (List.map AValue.cs x15.L)]) hx15 (AValue.cs_eq _) rfl rfl rfl (fun x => by rw [AValue.cs_eq]; rfl) trivial rfl) ?_
  refine OkOps.y (.agg [cI x15.Kind, cI x15.N, cS x15.S, .d (.sl (List.map AValue.cs x15.L))]) (OkOps.y (aI depth) (OkOps.y (aI (IntKind.i64.wrap (depth + 1))) (OkOps.y (aI s10.1) ?_)))
  obtain ⟨x16, hx16, hr⟩ := bind_some hr
  refine OkOps.q (triCl (tau []) (.tup [.agg [cI x16.1.Kind, .d (.sl (List.map AType.cs x16.1.Of))], aI x16.2.1, aI x16.2.2]) [] (hself0 _ _ _ hx16) rfl ⟨.inl rfl, .inl rfl, .inl rfl, trivial⟩ trivial entry112 trivial) (OkOps.q (triMv (v := .tup [.agg [cI x16.1.Kind, .d (.sl (List.map AType.cs x16.1.Of))], aI x16.2.1, aI x16.2.2]) rfl rfl) (OkOps.y (.agg [cI x16.1.Kind, .d (.sl (List.map AType.cs x16.1.Of))]) (OkOps.y (aI x16.2.1) (OkOps.y (aI x16.2.2) (OkOps.m 0 (triAlloc (j := 3) (cs := [cI 0, .d (.v (.slice none 0 0))]) rfl rfl rfl rfl) (OkOps.w (triStore (cs' := [cI x16.1.Kind, .d (.sl (List.map AType.cs x16.1.Of))]) rfl rfl rfl rfl rfl rfl rfl rfl rfl) (OkOps.y (aI x16.2.1) (OkOps.y (aI x16.2.2) (OkOps.nil (Ok.seq (Ok.region (OkOps.y (aI x16.2.1) (OkOps.y (aI x16.2.1) (OkOps.nil (Ok.seq ?_)))))))))))))))
  refine Ok.seq (Ok.region (OkOps.y (aI x16.2.2) (OkOps.y (aB (x16.2.2 != 0)) (OkOps.nil ?_))))
  refine Ok.cond (b := x16.2.2 != 0) rfl (fun h17 => ?_) (fun h17 => ?_)
  have hr := selT h17 hr
  refine Ok.seq (Ok.region (OkOps.y (.agg [cI 0, .d (.v (.slice none 0 0))]) (OkOps.y (aI x16.2.1) (OkOps.y (aI x16.2.2) (OkOps.w (triStore (cs' := [cI 0, .d (.v (.slice none 0 0))]) rfl rfl rfl rfl rfl rfl rfl rfl rfl) (OkOps.y (aI x16.2.1) (OkOps.y (aI x16.2.2) (OkOps.nil (Ok.ret ?_)))))))))
  obtain rfl := Option.some.inj hr
  exact ⟨_, rfl, .inr rfl, trivial⟩
  have hr := selF h17 hr
  refine Ok.skip (Ok.seq (Ok.seq (Ok.region (OkOps.y (aB s10.2.1) (OkOps.y (aB (!s10.2.1)) (OkOps.nil ?_))))))
  refine Ok.cond (b := !s10.2.1) rfl (fun h18 => ?_) (fun h18 => ?_)
  have hr := selT h18 hr
  refine Ok.exit ?_
  exact ⟨(x16.2.1, s10.2.1, s10.2.2.2), hr, (Conv.mk (tau [(1015, 1011)]) ⟨⟨_, rfl, .inl rfl⟩, ⟨_, rfl, .inl rfl⟩, ⟨_, rfl, .inl rfl⟩, ⟨_, rfl, .inl rfl⟩, ⟨_, rfl, .inl rfl⟩, ⟨_, rfl, .inl rfl⟩, ⟨_, rfl, .inl rfl⟩, trivial⟩ ⟨rfl, rfl, rfl, rfl, trivial⟩ rfl rfl rfl rfl)⟩
  have hr := selF h18 hr
  refine Ok.skip (Ok.seq (Ok.seq (Ok.region (OkOps.y (.c (.loc 2 1)) (OkOps.y (.c (.tl 1011 (List.map AType.cs s10.2.2.2))) (OkOps.q (triLen (enc := AType.cs) s10.2.2.2 rfl rfl trivial rfl) (OkOps.y (aB ((s10.2.2.2.length : Int) == 0)) (OkOps.nil ?_))))))))
  refine Ok.cond (b := (s10.2.2.2.length : Int) == 0) rfl (fun h19 => ?_) (fun h19 => ?_)
  have hr := selT h19 hr
  refine Ok.seq (Ok.region (OkOps.y (.agg [cI x16.1.Kind, .d (.sl (List.map AType.cs x16.1.Of))]) ?_))
  refine OkOps.m 0 (triBST (sz := 2) (enc := AType.cs) (j := 4) ([x16.1]) rfl rfl rfl rfl rfl (rows := [[dI x16.1.Kind, .sl (List.map AType.cs x16.1.Of)]]) (by simp only [List.map, AType.cs_eq]) rfl rfl (fun x => by rw [AType.cs_eq]; rfl) trivial rfl rfl) ?_
  refine OkOps.y (.c (.loc 2 1)) (OkOps.w (triStore (cs' := [cI v.Kind, .tl 4 (List.map AType.cs ([x16.1]))]) rfl rfl rfl rfl rfl rfl rfl rfl rfl) (OkOps.nil (Ok.exit ?_)))
  exact ⟨(x16.2.1, s10.2.1, [x16.1]), hr, (Conv.mk (tau [(1015, 4)]) ⟨⟨_, rfl, .inl rfl⟩, ⟨_, rfl, .inl rfl⟩, ⟨_, rfl, .inl rfl⟩, ⟨_, rfl, .inl rfl⟩, ⟨_, rfl, .inl rfl⟩, ⟨_, rfl, .inl rfl⟩, ⟨_, rfl, .inl rfl⟩, trivial⟩ ⟨rfl, rfl, rfl, rfl, trivial⟩ rfl rfl rfl rfl)⟩
  have hr := selF h19 hr
  refine Ok.skip (Ok.seq (Ok.regionD (by kernel_rfl) (OkD.x (.c (.loc 2 1)) rfl trivial rfl (OkD.x (.c (.tl 1011 (List.map AType.cs s10.2.2.2))) rfl trivial rfl ?_))))
  obtain ⟨x20, hx20, hr⟩ := bind_some hr
  refine OkD.q (triIdx (enc := AType.cs) (L := s10.2.2.2) (row := [dI x20.Kind, .sl (List.map AType.cs x20.Of)]) hx20 (AType.cs_eq _) rfl rfl rfl (fun x => by rw [AType.cs_eq]; rfl) trivial rfl) ?_
  refine OkD.x (.agg [cI x20.Kind, .d (.sl (List.map AType.cs x20.Of))]) rfl trivial rfl (OkD.x (.agg [cI x16.1.Kind, .d (.sl (List.map AType.cs x16.1.Of))]) rfl trivial rfl ?_)
  obtain ⟨x21, hx21, hr⟩ := bind_some hr
  refine OkD.q (triCl (tau []) (.tup [.agg [cI x21.1.Kind, .d (.sl (List.map AType.cs x21.1.Of))], aB x21.2]) [] (r11_join_c _ _ _ hx21) rfl ⟨.inl rfl, .inl rfl, trivial⟩ trivial entry121 trivial) (OkD.q (triMv (v := .tup [.agg [cI x21.1.Kind, .d (.sl (List.map AType.cs x21.1.Of))], aB x21.2]) rfl rfl) (OkD.x (.agg [cI x21.1.Kind, .d (.sl (List.map AType.cs x21.1.Of))]) rfl trivial rfl (OkD.x (aB x21.2) rfl trivial rfl (OkD.m 0 (triAlloc (j := 5) (cs := [cI 0, .d (.v (.slice none 0 0))]) rfl rfl rfl rfl) (OkD.w (triStore (cs' := [cI x21.1.Kind, .d (.sl (List.map AType.cs x21.1.Of))]) rfl rfl rfl rfl rfl rfl rfl rfl rfl) (OkD.x (aB x21.2) rfl trivial rfl (OkD.nil (by kernel_rfl) (Ok.seq (Ok.region (OkOps.y (aB x21.2) (OkOps.y (aB x21.2) (OkOps.nil (Ok.region (OkOps.y (.agg [cI x21.1.Kind, .d (.sl (List.map AType.cs x21.1.Of))]) ?_))))))))))))))
  refine OkOps.m 0 (triBST (sz := 2) (enc := AType.cs) (j := 6) ([x21.1]) rfl rfl rfl rfl rfl (rows := [[dI x21.1.Kind, .sl (List.map AType.cs x21.1.Of)]]) (by simp only [List.map, AType.cs_eq]) rfl rfl (fun x => by rw [AType.cs_eq]; rfl) trivial rfl rfl) ?_
  refine OkOps.y (.c (.loc 2 1)) (OkOps.w (triStore (cs' := [cI v.Kind, .tl 6 (List.map AType.cs ([x21.1]))]) rfl rfl rfl rfl rfl rfl rfl rfl rfl) (OkOps.nil ?_))
  exact ⟨(x16.2.1, x21.2, [x21.1]), hr, (Conv.mk (tau [(1015, 6)]) ⟨⟨_, rfl, .inl rfl⟩, ⟨_, rfl, .inl rfl⟩, ⟨_, rfl, .inl rfl⟩, ⟨_, rfl, .inl rfl⟩, ⟨_, rfl, .inl rfl⟩, ⟨_, rfl, .inl rfl⟩, ⟨_, rfl, .inl rfl⟩, trivial⟩ ⟨rfl, rfl, rfl, rfl, trivial⟩ rfl rfl rfl rfl)⟩
  have hr := selF h12 hr
  refine Ok.exit ?_
  exact ⟨(s10.1, s10.2.1, s10.2.2.2), hr, (Conv.mk (tau [(1007, 1011)]) ⟨⟨_, rfl, .inl rfl⟩, ⟨_, rfl, .inl rfl⟩, ⟨_, rfl, .inl rfl⟩, ⟨_, rfl, .inl rfl⟩, trivial⟩ ⟨rfl, rfl, rfl, trivial⟩ rfl rfl rfl rfl)⟩
theorem r11_check_all : ∀ n : Nat, (∀ (v : AValue) (depth : Int) (met : Int) {r : AType × Int × Int}, r11_check n v depth met = some r → Con Tryd.prog 112 [.agg [cI v.Kind, cI v.N, cS v.S, .d (.sl (List.map AValue.cs v.L))], aI depth, aI met] [] (.tup [.agg [cI r.1.Kind, .d (.sl (List.map AType.cs r.1.Of))], aI r.2.1, aI r.2.2]) []) ∧ True := by
  intro n
  induction n with
  | zero => exact ⟨(by intros; rename_i hr; cases hr), trivial⟩
  | succ n ih => exact ⟨(by intros; rename_i hr; exact r11_check_B_c _ ih.1 _ _ _ hr), trivial⟩
theorem r11_check_c (n : Nat) (v : AValue) (depth : Int) (met : Int) {r : AType × Int × Int} (hr : r11_check n v depth met = some r) : Con Tryd.prog 112 [.agg [cI v.Kind, cI v.N, cS v.S, .d (.sl (List.map AValue.cs v.L))], aI depth, aI met] [] (.tup [.agg [cI r.1.Kind, .d (.sl (List.map AType.cs r.1.Of))], aI r.2.1, aI r.2.2]) [] := (r11_check_all n).1 v depth met hr
theorem r11_TypeOf_c (v : AValue) {r : AType × Int} (hr : r11_TypeOf v = some r) : Con Tryd.prog 100 [.agg [cI v.Kind, cI v.N, cS v.S, .d (.sl (List.map AValue.cs v.L))]] [] (.tup [.agg [cI r.1.Kind, .d (.sl (List.map AType.cs r.1.Of))], aI r.2]) [] := by
  unfold r11_TypeOf at hr
  refine Con.of_ok 15 0 [.cell 2 182, .tmp 3] [(0, .s (.agg [cI v.Kind, cI v.N, cS v.S, .d (.sl (List.map AValue.cs v.L))]))] Tryd.func100 rfl rfl rfl rfl rfl rfl rfl rfl fun w g M ρ _ => (Ok.seq (Ok.region (OkOps.m 0 (triBox (j := 0) (cs := [cI v.Kind, cI v.N, cS v.S, .d (.sl (List.map AValue.cs v.L))]) rfl rfl rfl rfl rfl) (OkOps.m 0 (triAlloc (j := 1) (cs := [cI 0, .d (.v (.slice none 0 0))]) rfl rfl rfl rfl) (OkOps.y (aI 0) (OkOps.nil (Ok.seq (Ok.region (OkOps.y (.agg [cI v.Kind, cI v.N, cS v.S, .d (.sl (List.map AValue.cs v.L))]) ?_)))))))))
  obtain ⟨x1, hx1, hr⟩ := bind_some hr
  refine OkOps.q (triCl (tau []) (.tup [.agg [cI x1.1.Kind, .d (.sl (List.map AType.cs x1.1.Of))], aI x1.2.1, aI x1.2.2]) [] (r11_check_c _ _ _ _ hx1) rfl ⟨.inl rfl, .inl rfl, .inl rfl, trivial⟩ trivial entry112 trivial) (OkOps.q (triMv (v := .tup [.agg [cI x1.1.Kind, .d (.sl (List.map AType.cs x1.1.Of))], aI x1.2.1, aI x1.2.2]) rfl rfl) (OkOps.y (.agg [cI x1.1.Kind, .d (.sl (List.map AType.cs x1.1.Of))]) (OkOps.y (aI x1.2.1) (OkOps.y (aI x1.2.2) (OkOps.m 0 (triAlloc (j := 2) (cs := [cI 0, .d (.v (.slice none 0 0))]) rfl rfl rfl rfl) (OkOps.w (triStore (cs' := [cI x1.1.Kind, .d (.sl (List.map AType.cs x1.1.Of))]) rfl rfl rfl rfl rfl rfl rfl rfl rfl) (OkOps.y (aI x1.2.1) (OkOps.y (aI x1.2.2) (OkOps.nil (Ok.seq (Ok.region (OkOps.y (.agg [cI x1.1.Kind, .d (.sl (List.map AType.cs x1.1.Of))]) (OkOps.y (aI x1.2.2) (OkOps.w (triStore (cs' := [cI x1.1.Kind, .d (.sl (List.map AType.cs x1.1.Of))]) rfl rfl rfl rfl rfl rfl rfl rfl rfl) (OkOps.y (aI x1.2.2) ?_)))))))))))))))
  refine OkOps.nil (Ok.ret ?_)
  obtain rfl := Option.some.inj hr
  exact ⟨_, rfl, .inl rfl, trivial⟩
theorem r11_Check_c (v : AValue) {r : Int} (hr : r11_Check v = some r) : Con Tryd.prog 77 [.agg [cI v.Kind, cI v.N, cS v.S, .d (.sl (List.map AValue.cs v.L))]] [] (.s (aI r)) [] := by
  unfold r11_Check at hr
  refine Con.of_ok 11 0 [.tmp 2] [(0, .s (.agg [cI v.Kind, cI v.N, cS v.S, .d (.sl (List.map AValue.cs v.L))]))] Tryd.func77 rfl rfl rfl rfl rfl rfl rfl rfl fun w g M ρ _ => (Ok.seq (Ok.region (OkOps.m 0 (triBox (j := 0) (cs := [cI v.Kind, cI v.N, cS v.S, .d (.sl (List.map AValue.cs v.L))]) rfl rfl rfl rfl rfl) (OkOps.y (aI 0) (OkOps.nil (Ok.seq (Ok.region (OkOps.y (.agg [cI v.Kind, cI v.N, cS v.S, .d (.sl (List.map AValue.cs v.L))]) ?_))))))))
  obtain ⟨x1, hx1, hr⟩ := bind_some hr
  refine OkOps.q (triCl (tau []) (.tup [.agg [cI x1.1.Kind, .d (.sl (List.map AType.cs x1.1.Of))], aI x1.2]) [] (r11_TypeOf_c _ hx1) rfl ⟨.inl rfl, trivial⟩ trivial entry100 trivial) (OkOps.q (triMv (v := .tup [.agg [cI x1.1.Kind, .d (.sl (List.map AType.cs x1.1.Of))], aI x1.2]) rfl rfl) (OkOps.y (.agg [cI x1.1.Kind, .d (.sl (List.map AType.cs x1.1.Of))]) (OkOps.y (aI x1.2) (OkOps.m 0 (triAlloc (j := 1) (cs := [cI 0, .d (.v (.slice none 0 0))]) rfl rfl rfl rfl) (OkOps.w (triStore (cs' := [cI x1.1.Kind, .d (.sl (List.map AType.cs x1.1.Of))]) rfl rfl rfl rfl rfl rfl rfl rfl rfl) (OkOps.y (aI x1.2) (OkOps.nil (Ok.seq (Ok.region (OkOps.y (aI x1.2) (OkOps.y (aI x1.2) (OkOps.nil (Ok.ret ?_)))))))))))))
  obtain rfl := Option.some.inj hr
  exact ⟨_, rfl, .inl rfl, trivial⟩
end Go.Proofs.YtfoigppmcelgfaaDoor
end
section
set_option maxRecDepth 100000
namespace Go.Proofs.YtfoigppmcelgfaaDoor
open Go Go.E2
theorem r14_validate_B_c (self0 : View → Int → Int → Option (Int × Int)) (hself0 : ∀ (v : View) (depth : Int) (met : Int) {r : Int × Int}, self0 v depth met = some r → Con Tryd.prog 49 [.agg [cI v.Kind, cS v.Key, .d (.sl (List.map Attr.cs v.Attrs)), .d (.sl (List.map Action.cs v.Actions)), .d (.sl (List.map View.cs v.Kids))], aI depth, aI met] [] (.tup [aI r.1, aI r.2]) []) (v : View) (depth : Int) (met : Int) {r : Int × Int} (hr : r14_validate_B self0 v depth met = some r) : Con Tryd.prog 49 [.agg [cI v.Kind, cS v.Key, .d (.sl (List.map Attr.cs v.Attrs)), .d (.sl (List.map Action.cs v.Actions)), .d (.sl (List.map View.cs v.Kids))], aI depth, aI met] [] (.tup [aI r.1, aI r.2]) [] := by
  unfold r14_validate_B at hr
  refine Con.of_ok 230 0 [.tmp 6, .tmp 7] [(0, .s (.agg [cI v.Kind, cS v.Key, .d (.sl (List.map Attr.cs v.Attrs)), .d (.sl (List.map Action.cs v.Actions)), .d (.sl (List.map View.cs v.Kids))])), (1, .s (aI depth)), (2, .s (aI met))] Tryd.func49 rfl rfl rfl rfl rfl rfl rfl rfl fun w g M ρ _ => (Ok.seq (Ok.region (OkOps.m 0 (triBox (j := 0) (cs := [cI v.Kind, cS v.Key, .d (.sl (List.map Attr.cs v.Attrs)), .d (.sl (List.map Action.cs v.Actions)), .d (.sl (List.map View.cs v.Kids))]) rfl rfl rfl rfl rfl) (OkOps.y (aI 0) (OkOps.y (aI 0) (OkOps.nil (Ok.seq (Ok.region (OkOps.y (aI met) (OkOps.y (aI (IntKind.i64.wrap (met + 1))) (OkOps.y (aI (IntKind.i64.wrap (met + 1))) (OkOps.nil (Ok.seq (Ok.seq (Ok.region ?_)))))))))))))))
  refine OkOps.y (aI depth) (OkOps.y (aB (decide (depth > 16))) (OkOps.nil ?_))
  refine Ok.cond (b := decide (depth > 16)) rfl (fun h1 => ?_) (fun h1 => ?_)
  have hr := selT h1 hr
  refine Ok.seq (Ok.region (OkOps.y (aI (IntKind.i64.wrap (met + 1))) (OkOps.y (aI (IntKind.i64.wrap (met + 1))) (OkOps.y (aI 8) (OkOps.nil (Ok.ret ?_))))))
  obtain rfl := Option.some.inj hr
  exact ⟨_, rfl, .inl rfl, trivial⟩
  have hr := selF h1 hr
  refine Ok.skip (Ok.seq (Ok.seq (Ok.region (OkOps.y (aI (IntKind.i64.wrap (met + 1))) (OkOps.y (aB (decide ((IntKind.i64.wrap (met + 1)) > 400))) (OkOps.nil ?_))))))
  refine Ok.cond (b := decide ((IntKind.i64.wrap (met + 1)) > 400)) rfl (fun h2 => ?_) (fun h2 => ?_)
  have hr := selT h2 hr
  refine Ok.seq (Ok.region (OkOps.y (aI (IntKind.i64.wrap (met + 1))) (OkOps.y (aI (IntKind.i64.wrap (met + 1))) (OkOps.y (aI 2) (OkOps.nil (Ok.ret ?_))))))
  obtain rfl := Option.some.inj hr
  exact ⟨_, rfl, .inl rfl, trivial⟩
  have hr := selF h2 hr
  refine Ok.skip (Ok.seq (Ok.seq (Ok.region (OkOps.y (.c (.loc 0 0)) (OkOps.y (aI v.Kind) (OkOps.y (aB (decide (v.Kind < 1))) (OkOps.y (aB (decide (v.Kind < 1))) (OkOps.q (triQG (x := .c (.loc 0 0)) rfl rfl trivial rfl) (OkOps.q (triQG (x := aI v.Kind) rfl rfl ⟨fun h => h, trivial⟩ rfl) (OkOps.q (triQG (x := aB (decide (v.Kind > 13))) rfl rfl ⟨fun h => h, trivial⟩ rfl) ?_))))))))))
  refine OkOps.q (triOr rfl rfl (fun h => by rw [h]; rfl) rfl) ?_
  refine OkOps.nil ?_
  refine Ok.cond (b := (decide (v.Kind < 1)) || (decide (v.Kind > 13))) rfl (fun h3 => ?_) (fun h3 => ?_)
  have hr := selT h3 hr
  refine Ok.seq (Ok.region (OkOps.y (aI (IntKind.i64.wrap (met + 1))) (OkOps.y (aI (IntKind.i64.wrap (met + 1))) (OkOps.y (aI 9) (OkOps.nil (Ok.ret ?_))))))
  obtain rfl := Option.some.inj hr
  exact ⟨_, rfl, .inl rfl, trivial⟩
  have hr := selF h3 hr
  refine Ok.skip (Ok.seq (Ok.seq (Ok.region (OkOps.y (.c (.loc 0 1)) (OkOps.y (aS v.Key) ?_)))))
  obtain ⟨x4, hx4, hr⟩ := bind_some hr
  refine OkOps.q (triCl (tau []) (.s (aB x4)) [] (r14_Key_c _ hx4) rfl ⟨.inl rfl, trivial⟩ trivial entry75 trivial) (OkOps.y (aB (!x4)) (OkOps.nil ?_))
  refine Ok.cond (b := !x4) rfl (fun h5 => ?_) (fun h5 => ?_)
  have hr := selT h5 hr
  refine Ok.seq (Ok.region (OkOps.y (aI (IntKind.i64.wrap (met + 1))) (OkOps.y (aI (IntKind.i64.wrap (met + 1))) (OkOps.y (aI 4) (OkOps.nil (Ok.ret ?_))))))
  obtain rfl := Option.some.inj hr
  exact ⟨_, rfl, .inl rfl, trivial⟩
  have hr := selF h5 hr
  refine Ok.skip (Ok.seq (Ok.seq (Ok.region (OkOps.y (.c (.loc 0 2)) (OkOps.y (.c (.d (.sl (List.map Attr.cs v.Attrs)))) (OkOps.q (triLen (enc := Attr.cs) v.Attrs rfl rfl trivial rfl) (OkOps.y (aB (decide ((v.Attrs.length : Int) > 24))) (OkOps.y (aB (decide ((v.Attrs.length : Int) > 24))) (OkOps.q (triQG (x := .c (.loc 0 3)) rfl rfl trivial rfl) (OkOps.q (triQG (x := .c (.d (.sl (List.map Action.cs v.Actions)))) rfl rfl ⟨fun h => h, trivial⟩ rfl) (OkOps.q (triLenG (enc := Action.cs) v.Actions rfl rfl rfl ⟨fun h => h, trivial⟩ rfl) (OkOps.q (triQG (x := aB (decide ((v.Actions.length : Int) > 24))) rfl rfl ⟨fun h => h, trivial⟩ rfl) ?_))))))))))))
  refine OkOps.q (triOr rfl rfl (fun h => by rw [h]; rfl) rfl) ?_
  refine OkOps.y (aB ((decide ((v.Attrs.length : Int) > 24)) || (decide ((v.Actions.length : Int) > 24)))) (OkOps.q (triQG (x := .c (.loc 0 4)) rfl rfl trivial rfl) (OkOps.q (triQG (x := .c (.d (.sl (List.map View.cs v.Kids)))) rfl rfl ⟨fun h => h, trivial⟩ rfl) (OkOps.q (triLenG (enc := View.cs) v.Kids rfl rfl rfl ⟨fun h => h, trivial⟩ rfl) (OkOps.q (triQG (x := aB (decide ((v.Kids.length : Int) > 100))) rfl rfl ⟨fun h => h, trivial⟩ rfl) ?_))))
  refine OkOps.q (triOr rfl rfl (fun h => by rw [h]; rfl) rfl) ?_
  refine OkOps.nil ?_
  refine Ok.cond (b := ((decide ((v.Attrs.length : Int) > 24)) || (decide ((v.Actions.length : Int) > 24))) || (decide ((v.Kids.length : Int) > 100))) rfl (fun h6 => ?_) (fun h6 => ?_)
  have hr := selT h6 hr
  refine Ok.seq (Ok.region (OkOps.y (aI (IntKind.i64.wrap (met + 1))) (OkOps.y (aI (IntKind.i64.wrap (met + 1))) (OkOps.y (aI 2) (OkOps.nil (Ok.ret ?_))))))
  obtain rfl := Option.some.inj hr
  exact ⟨_, rfl, .inl rfl, trivial⟩
  have hr := selF h6 hr
  refine Ok.skip ?_
  obtain ⟨k8, hk8, hr⟩ := jn_some hr
  refine Ok.join (fun (s7 : Unit) => ⟨[(1, .s (aI depth)), (2, .s (aI (IntKind.i64.wrap (met + 1)))), (3, .s (.c (.loc 0 0)))], [(0, .blk [cI v.Kind, cS v.Key, .d (.sl (List.map Attr.cs v.Attrs)), .d (.sl (List.map Action.cs v.Actions)), .d (.sl (List.map View.cs v.Kids))] 29)], 0⟩) k8 r (fun s7 hr => ?_) ?_
  rw [hk8] at hr
  obtain ⟨k10, hk10, hr⟩ := jn_some hr
  refine Ok.join (fun (s9 : Unit) => ⟨[(1, .s (aI depth)), (2, .s (aI (IntKind.i64.wrap (met + 1)))), (3, .s (.c (.loc 0 0)))], [(0, .blk [cI v.Kind, cS v.Key, .d (.sl (List.map Attr.cs v.Attrs)), .d (.sl (List.map Action.cs v.Actions)), .d (.sl (List.map View.cs v.Kids))] 29)], 0⟩) k10 r (fun s9 hr => ?_) ?_
  rw [hk10] at hr
  obtain ⟨k12, hk12, hr⟩ := jn_some hr
  refine Ok.join (fun (s11 : Unit) => ⟨[(1, .s (aI depth)), (2, .s (aI (IntKind.i64.wrap (met + 1)))), (3, .s (.c (.loc 0 0)))], [(0, .blk [cI v.Kind, cS v.Key, .d (.sl (List.map Attr.cs v.Attrs)), .d (.sl (List.map Action.cs v.Actions)), .d (.sl (List.map View.cs v.Kids))] 29)], 0⟩) k12 r (fun s11 hr => ?_) ?_
  rw [hk12] at hr
  obtain ⟨k14, hk14, hr⟩ := jn_some hr
  refine Ok.join (fun (s13 : Int) => ⟨[(2, .s (aI s13))], [], 0⟩) k14 r (fun s13 hr => ?_) ?_
  rw [hk14] at hr
  refine Ok.seq (Ok.region (OkOps.y (aI s13) (OkOps.y (aI s13) (OkOps.y (aI 0) (OkOps.nil (Ok.ret ?_))))))
  obtain rfl := Option.some.inj hr
  exact ⟨_, rfl, .inl rfl, trivial⟩
  clear hk14
  refine Ok.seq (Ok.region (OkOps.y (aI 0) (OkOps.nil (Ok.block (Ok.loopK (fun (s15 : Int × Int) => ⟨[(1, .s (aI depth)), (2, .s (aI s15.1)), (3, .s (.c (.loc 0 0))), (16, .s (aI s15.2))], [(0, .blk [cI v.Kind, cS v.Key, .d (.sl (List.map Attr.cs v.Attrs)), .d (.sl (List.map Action.cs v.Actions)), .d (.sl (List.map View.cs v.Kids))] 29)], 0⟩) hr (Conv.mk (tau []) ⟨⟨_, rfl, .inl rfl⟩, ⟨_, rfl, .inl rfl⟩, ⟨_, rfl, .inl rfl⟩, ⟨_, rfl, .inl rfl⟩, trivial⟩ ⟨rfl, trivial⟩ rfl rfl rfl rfl) ?_)))))
  clear hr
  intro again16 s15 hr
  unfold r14_validate_L1 at hr
  refine Ok.seq (Ok.seq (Ok.region (OkOps.y (aI s15.2) (OkOps.y (.c (.loc 0 4)) (OkOps.y (.c (.d (.sl (List.map View.cs v.Kids)))) (OkOps.q (triLen (enc := View.cs) v.Kids rfl rfl trivial rfl) (OkOps.y (aB (decide (s15.2 < (v.Kids.length : Int)))) (OkOps.nil ?_))))))))
  refine Ok.cond (b := decide (s15.2 < (v.Kids.length : Int))) rfl (fun h17 => ?_) (fun h17 => ?_)
  have hr := selT h17 hr
  refine Ok.skip (Ok.seq (Ok.block (Ok.seq (Ok.region (OkOps.y (.c (.loc 0 4)) (OkOps.y (.c (.d (.sl (List.map View.cs v.Kids)))) (OkOps.y (aI s15.2) ?_)))))))
  obtain ⟨x18, hx18, hr⟩ := bind_some hr
  refine OkOps.q (triIdx (enc := View.cs) (L := v.Kids) (row := [dI x18.Kind, dS x18.Key, .sl (List.map Attr.cs x18.Attrs), .sl (List.map Action.cs x18.Actions), .sl (List.map View.cs x18.Kids)]) hx18 (View.cs_eq _) rfl rfl rfl (fun x => by rw [View.cs_eq]; rfl) trivial rfl) ?_
  refine OkOps.y (.agg [cI x18.Kind, cS x18.Key, .d (.sl (List.map Attr.cs x18.Attrs)), .d (.sl (List.map Action.cs x18.Actions)), .d (.sl (List.map View.cs x18.Kids))]) (OkOps.y (aI depth) (OkOps.y (aI (IntKind.i64.wrap (depth + 1))) (OkOps.y (aI s15.1) ?_)))
  obtain ⟨x19, hx19, hr⟩ := bind_some hr
  refine OkOps.q (triCl (tau []) (.tup [aI x19.1, aI x19.2]) [] (hself0 _ _ _ hx19) rfl ⟨.inl rfl, .inl rfl, .inl rfl, trivial⟩ trivial entry49 trivial) (OkOps.q (triMv (v := .tup [aI x19.1, aI x19.2]) rfl rfl) (OkOps.y (aI x19.1) (OkOps.y (aI x19.2) (OkOps.y (aI x19.1) (OkOps.y (aI x19.2) (OkOps.nil (Ok.seq (Ok.region (OkOps.y (aI x19.1) (OkOps.y (aI x19.1) (OkOps.nil (Ok.seq (Ok.region (OkOps.y (aI x19.2) (OkOps.y (aB (x19.2 != 0)) ?_)))))))))))))))
  refine OkOps.nil ?_
  refine Ok.cond (b := x19.2 != 0) rfl (fun h20 => ?_) (fun h20 => ?_)
  have hr := selT h20 hr
  refine Ok.seq (Ok.region (OkOps.y (aI x19.1) (OkOps.y (aI x19.2) (OkOps.y (aI x19.1) (OkOps.y (aI x19.2) (OkOps.nil (Ok.ret ?_)))))))
  obtain rfl := Option.some.inj hr
  exact ⟨_, rfl, .inl rfl, trivial⟩
  have hr := selF h20 hr
  refine Ok.skip (Ok.region (OkOps.y (aI s15.2) (OkOps.y (aI (IntKind.i64.wrap (s15.2 + 1))) (OkOps.y (aI (IntKind.i64.wrap (s15.2 + 1))) (OkOps.nil ?_)))))
  exact ⟨(x19.1, IntKind.i64.wrap (s15.2 + 1)), hr, (Conv.mk (tau []) ⟨⟨_, rfl, .inl rfl⟩, ⟨_, rfl, .inl rfl⟩, ⟨_, rfl, .inl rfl⟩, ⟨_, rfl, .inl rfl⟩, trivial⟩ ⟨rfl, trivial⟩ rfl rfl rfl rfl)⟩
  have hr := selF h17 hr
  refine Ok.exit ?_
  exact ⟨s15.1, hr, (Conv.mk (tau []) ⟨⟨_, rfl, .inl rfl⟩, trivial⟩ trivial rfl rfl rfl rfl)⟩
  clear hk12
  refine Ok.seq (Ok.region (OkOps.y (aI 0) (OkOps.nil (Ok.block (Ok.loopK (fun (s21 : Int) => ⟨[(1, .s (aI depth)), (2, .s (aI (IntKind.i64.wrap (met + 1)))), (3, .s (.c (.loc 0 0))), (14, .s (aI s21))], [(0, .blk [cI v.Kind, cS v.Key, .d (.sl (List.map Attr.cs v.Attrs)), .d (.sl (List.map Action.cs v.Actions)), .d (.sl (List.map View.cs v.Kids))] 29)], 0⟩) hr (Conv.mk (tau []) ⟨⟨_, rfl, .inl rfl⟩, ⟨_, rfl, .inl rfl⟩, ⟨_, rfl, .inl rfl⟩, ⟨_, rfl, .inl rfl⟩, trivial⟩ ⟨rfl, trivial⟩ rfl rfl rfl rfl) ?_)))))
  clear hr
  intro again22 s21 hr
  unfold r14_validate_L3 at hr
  refine Ok.seq (Ok.seq (Ok.region (OkOps.y (aI s21) (OkOps.y (.c (.loc 0 4)) (OkOps.y (.c (.d (.sl (List.map View.cs v.Kids)))) (OkOps.q (triLen (enc := View.cs) v.Kids rfl rfl trivial rfl) (OkOps.y (aB (decide (s21 < (v.Kids.length : Int)))) (OkOps.nil ?_))))))))
  refine Ok.cond (b := decide (s21 < (v.Kids.length : Int))) rfl (fun h23 => ?_) (fun h23 => ?_)
  have hr := selT h23 hr
  refine Ok.skip ?_
  obtain ⟨k25, hk25, hr⟩ := jn_some hr
  refine Ok.join (fun (s24 : Unit) => ⟨[(1, .s (aI depth)), (2, .s (aI (IntKind.i64.wrap (met + 1)))), (3, .s (.c (.loc 0 0))), (14, .s (aI s21))], [(0, .blk [cI v.Kind, cS v.Key, .d (.sl (List.map Attr.cs v.Attrs)), .d (.sl (List.map Action.cs v.Actions)), .d (.sl (List.map View.cs v.Kids))] 29)], 0⟩) k25 r (fun s24 hr => ?_) ?_
  rw [hk25] at hr
  refine Ok.region (OkOps.y (aI s21) (OkOps.y (aI (IntKind.i64.wrap (s21 + 1))) (OkOps.y (aI (IntKind.i64.wrap (s21 + 1))) (OkOps.nil ?_))))
  exact ⟨IntKind.i64.wrap (s21 + 1), hr, (Conv.mk (tau []) ⟨⟨_, rfl, .inl rfl⟩, ⟨_, rfl, .inl rfl⟩, ⟨_, rfl, .inl rfl⟩, ⟨_, rfl, .inl rfl⟩, trivial⟩ ⟨rfl, trivial⟩ rfl rfl rfl rfl)⟩
  clear hk25
  refine Ok.block (Ok.seq (Ok.region (OkOps.y (aI 0) (OkOps.nil ?_))))
  obtain ⟨k27, hk27, hr⟩ := jn_some hr
  refine Ok.joinEnd (fun (s26 : Unit) => ⟨[(1, .s (aI depth)), (2, .s (aI (IntKind.i64.wrap (met + 1)))), (3, .s (.c (.loc 0 0))), (14, .s (aI s21))], [(0, .blk [cI v.Kind, cS v.Key, .d (.sl (List.map Attr.cs v.Attrs)), .d (.sl (List.map Action.cs v.Actions)), .d (.sl (List.map View.cs v.Kids))] 29)], 0⟩) k27 r (fun s26 hr => ?_) ?_
  rw [hk27] at hr
  exact ⟨(), hr, (Conv.mk (tau []) ⟨⟨_, rfl, .inl rfl⟩, ⟨_, rfl, .inl rfl⟩, ⟨_, rfl, .inl rfl⟩, ⟨_, rfl, .inl rfl⟩, trivial⟩ ⟨rfl, trivial⟩ rfl rfl rfl rfl)⟩
  clear hk27
  refine Ok.block (Ok.loopK (fun (s28 : Int) => ⟨[(1, .s (aI depth)), (2, .s (aI (IntKind.i64.wrap (met + 1)))), (3, .s (.c (.loc 0 0))), (14, .s (aI s21)), (15, .s (aI s28))], [(0, .blk [cI v.Kind, cS v.Key, .d (.sl (List.map Attr.cs v.Attrs)), .d (.sl (List.map Action.cs v.Actions)), .d (.sl (List.map View.cs v.Kids))] 29)], 0⟩) hr (Conv.mk (tau []) ⟨⟨_, rfl, .inl rfl⟩, ⟨_, rfl, .inl rfl⟩, ⟨_, rfl, .inl rfl⟩, ⟨_, rfl, .inl rfl⟩, ⟨_, rfl, .inl rfl⟩, trivial⟩ ⟨rfl, trivial⟩ rfl rfl rfl rfl) ?_)
  clear hr
  intro again29 s28 hr
  unfold r14_validate_L2 at hr
  refine Ok.seq (Ok.seq (Ok.region (OkOps.y (aI s28) (OkOps.y (aI s21) (OkOps.y (aB (decide (s28 < s21))) (OkOps.nil ?_))))))
  refine Ok.cond (b := decide (s28 < s21)) rfl (fun h30 => ?_) (fun h30 => ?_)
  have hr := selT h30 hr
  refine Ok.skip (Ok.seq (Ok.block (Ok.seq (Ok.regionD (by kernel_rfl) (OkD.x (.c (.loc 0 4)) rfl trivial rfl (OkD.x (.c (.d (.sl (List.map View.cs v.Kids)))) rfl trivial rfl (OkD.x (aI s21) rfl trivial rfl ?_)))))))
  obtain ⟨x31, hx31, hr⟩ := bind_some hr
  refine OkD.q (triIdx (enc := View.cs) (L := v.Kids) (row := [dI x31.Kind, dS x31.Key, .sl (List.map Attr.cs x31.Attrs), .sl (List.map Action.cs x31.Actions), .sl (List.map View.cs x31.Kids)]) hx31 (View.cs_eq _) rfl rfl rfl (fun x => by rw [View.cs_eq]; rfl) trivial rfl) ?_
  refine OkD.x (.c (.pt [dS x31.Key, .sl (List.map Attr.cs x31.Attrs), .sl (List.map Action.cs x31.Actions), .sl (List.map View.cs x31.Kids)])) rfl trivial rfl (OkD.x (aS x31.Key) rfl trivial rfl (OkD.x (aB (!(x31.Key.toList == (ByteArray.mk #[]).toList))) rfl trivial rfl (OkD.x (aB (!(x31.Key.toList == (ByteArray.mk #[]).toList))) rfl trivial rfl (OkD.q (triQG (x := .c (.loc 0 4)) rfl rfl trivial rfl) (OkD.q (triQG (x := .c (.d (.sl (List.map View.cs v.Kids)))) rfl rfl ⟨fun h => h, trivial⟩ rfl) (OkD.q (triQG (x := aI s21) rfl rfl trivial rfl) ?_))))))
  obtain ⟨x32, hx32, hr⟩ := bind_some hr
  refine OkD.q (triIdxG (enc := View.cs) (L := v.Kids) (row := [dI x32.Kind, dS x32.Key, .sl (List.map Attr.cs x32.Attrs), .sl (List.map Action.cs x32.Actions), .sl (List.map View.cs x32.Kids)]) (gO_t hx32) (View.cs_eq _) rfl rfl rfl rfl (fun x => by rw [View.cs_eq]; rfl) ⟨fun h => h, ⟨fun h => h, trivial⟩⟩ rfl) ?_
  refine OkD.q (triQG (x := .c (.pt [dS x32.Key, .sl (List.map Attr.cs x32.Attrs), .sl (List.map Action.cs x32.Actions), .sl (List.map View.cs x32.Kids)])) rfl rfl ⟨fun h => h, trivial⟩ rfl) (OkD.q (triQG (x := aS x32.Key) rfl rfl ⟨fun h => h, trivial⟩ rfl) (OkD.q (triQG (x := .c (.loc 0 4)) rfl rfl trivial rfl) (OkD.q (triQG (x := .c (.d (.sl (List.map View.cs v.Kids)))) rfl rfl ⟨fun h => h, trivial⟩ rfl) (OkD.q (triQG (x := aI s28) rfl rfl trivial rfl) ?_))))
  obtain ⟨x33, hx33, hr⟩ := bind_some hr
  refine OkD.q (triIdxG (enc := View.cs) (L := v.Kids) (row := [dI x33.Kind, dS x33.Key, .sl (List.map Attr.cs x33.Attrs), .sl (List.map Action.cs x33.Actions), .sl (List.map View.cs x33.Kids)]) (gO_t hx33) (View.cs_eq _) rfl rfl rfl rfl (fun x => by rw [View.cs_eq]; rfl) ⟨fun h => h, ⟨fun h => h, trivial⟩⟩ rfl) ?_
  refine OkD.q (triQG (x := .c (.pt [dS x33.Key, .sl (List.map Attr.cs x33.Attrs), .sl (List.map Action.cs x33.Actions), .sl (List.map View.cs x33.Kids)])) rfl rfl ⟨fun h => h, trivial⟩ rfl) (OkD.q (triQG (x := aS x33.Key) rfl rfl ⟨fun h => h, trivial⟩ rfl) (OkD.q (triQG (x := aB (x32.Key.toList == x33.Key.toList)) rfl rfl ⟨fun h => h, ⟨fun h => h, trivial⟩⟩ rfl) (OkD.q (triAnd rfl rfl (fun h => h) rfl) (OkD.nil (by kernel_rfl) ?_))))
  refine Ok.cond (b := (!(x31.Key.toList == (ByteArray.mk #[]).toList)) && (x32.Key.toList == x33.Key.toList)) rfl (fun h34 => ?_) (fun h34 => ?_)
  have hr := selT h34 hr
  refine Ok.seq (Ok.region (OkOps.y (aI (IntKind.i64.wrap (met + 1))) (OkOps.y (aI (IntKind.i64.wrap (met + 1))) (OkOps.y (aI 6) (OkOps.nil (Ok.ret ?_))))))
  obtain rfl := Option.some.inj hr
  exact ⟨_, rfl, .inl rfl, trivial⟩
  have hr := selF h34 hr
  refine Ok.skip (Ok.region (OkOps.y (aI s28) (OkOps.y (aI (IntKind.i64.wrap (s28 + 1))) (OkOps.y (aI (IntKind.i64.wrap (s28 + 1))) (OkOps.nil ?_)))))
  exact ⟨IntKind.i64.wrap (s28 + 1), hr, (Conv.mk (tau []) ⟨⟨_, rfl, .inl rfl⟩, ⟨_, rfl, .inl rfl⟩, ⟨_, rfl, .inl rfl⟩, ⟨_, rfl, .inl rfl⟩, ⟨_, rfl, .inl rfl⟩, trivial⟩ ⟨rfl, trivial⟩ rfl rfl rfl rfl)⟩
  have hr := selF h30 hr
  refine Ok.exit ?_
  exact ⟨(), hr, (Conv.mk (tau []) ⟨⟨_, rfl, .inl rfl⟩, ⟨_, rfl, .inl rfl⟩, ⟨_, rfl, .inl rfl⟩, ⟨_, rfl, .inl rfl⟩, trivial⟩ ⟨rfl, trivial⟩ rfl rfl rfl rfl)⟩
  have hr := selF h23 hr
  refine Ok.exit ?_
  exact ⟨(), hr, (Conv.mk (tau []) ⟨⟨_, rfl, .inl rfl⟩, ⟨_, rfl, .inl rfl⟩, ⟨_, rfl, .inl rfl⟩, trivial⟩ ⟨rfl, trivial⟩ rfl rfl rfl rfl)⟩
  clear hk10
  refine Ok.seq (Ok.region (OkOps.y (aI 0) (OkOps.nil (Ok.block (Ok.loopK (fun (s35 : Int) => ⟨[(1, .s (aI depth)), (2, .s (aI (IntKind.i64.wrap (met + 1)))), (3, .s (.c (.loc 0 0))), (10, .s (aI s35))], [(0, .blk [cI v.Kind, cS v.Key, .d (.sl (List.map Attr.cs v.Attrs)), .d (.sl (List.map Action.cs v.Actions)), .d (.sl (List.map View.cs v.Kids))] 29)], 0⟩) hr (Conv.mk (tau []) ⟨⟨_, rfl, .inl rfl⟩, ⟨_, rfl, .inl rfl⟩, ⟨_, rfl, .inl rfl⟩, ⟨_, rfl, .inl rfl⟩, trivial⟩ ⟨rfl, trivial⟩ rfl rfl rfl rfl) ?_)))))
  clear hr
  intro again36 s35 hr
  unfold r14_validate_L5 at hr
  refine Ok.seq (Ok.seq (Ok.region (OkOps.y (aI s35) (OkOps.y (.c (.loc 0 3)) (OkOps.y (.c (.d (.sl (List.map Action.cs v.Actions)))) (OkOps.q (triLen (enc := Action.cs) v.Actions rfl rfl trivial rfl) (OkOps.y (aB (decide (s35 < (v.Actions.length : Int)))) (OkOps.nil ?_))))))))
  refine Ok.cond (b := decide (s35 < (v.Actions.length : Int))) rfl (fun h37 => ?_) (fun h37 => ?_)
  have hr := selT h37 hr
  refine Ok.skip ?_
  obtain ⟨k39, hk39, hr⟩ := jn_some hr
  refine Ok.join (fun (s38 : Unit) => ⟨[(1, .s (aI depth)), (2, .s (aI (IntKind.i64.wrap (met + 1)))), (3, .s (.c (.loc 0 0))), (10, .s (aI s35))], [(0, .blk [cI v.Kind, cS v.Key, .d (.sl (List.map Attr.cs v.Attrs)), .d (.sl (List.map Action.cs v.Actions)), .d (.sl (List.map View.cs v.Kids))] 29)], 0⟩) k39 r (fun s38 hr => ?_) ?_
  rw [hk39] at hr
  refine Ok.region (OkOps.y (aI s35) (OkOps.y (aI (IntKind.i64.wrap (s35 + 1))) (OkOps.y (aI (IntKind.i64.wrap (s35 + 1))) (OkOps.nil ?_))))
  exact ⟨IntKind.i64.wrap (s35 + 1), hr, (Conv.mk (tau []) ⟨⟨_, rfl, .inl rfl⟩, ⟨_, rfl, .inl rfl⟩, ⟨_, rfl, .inl rfl⟩, ⟨_, rfl, .inl rfl⟩, trivial⟩ ⟨rfl, trivial⟩ rfl rfl rfl rfl)⟩
  clear hk39
  refine Ok.block (Ok.seq (Ok.region (OkOps.y (.c (.loc 0 3)) (OkOps.y (.c (.d (.sl (List.map Action.cs v.Actions)))) (OkOps.y (aI s35) ?_)))))
  obtain ⟨x40, hx40, hr⟩ := bind_some hr
  refine OkOps.q (triIdx (enc := Action.cs) (L := v.Actions) (row := [dS x40.Event, dS x40.Instance, dS x40.Handler, .sl (List.map AValue.cs x40.Args)]) hx40 rfl rfl rfl rfl (fun _ => rfl) trivial rfl) (OkOps.y (.agg [cS x40.Event, cS x40.Instance, cS x40.Handler, .d (.sl (List.map AValue.cs x40.Args))]) (OkOps.m 0 (triAlloc (j := 1) (cs := [cS ByteArray.empty, cS ByteArray.empty, cS ByteArray.empty, .d (.v (.slice none 0 0))]) rfl rfl rfl rfl) (OkOps.w (triStore (cs' := [cS x40.Event, cS x40.Instance, cS x40.Handler, .d (.sl (List.map AValue.cs x40.Args))]) rfl rfl rfl rfl rfl rfl rfl rfl rfl) (OkOps.nil (Ok.seq (Ok.seq (Ok.region (OkOps.y (.c (.loc 1 0)) (OkOps.y (aS x40.Event) ?_)))))))))
  obtain ⟨x41, hx41, hr⟩ := bind_some hr
  refine OkOps.q (triCl (tau []) (.s (aB x41)) [] (r11_Name_c _ hx41) rfl ⟨.inl rfl, trivial⟩ trivial entry76 trivial) (OkOps.y (aB (!x41)) (OkOps.y (aB (!x41)) (OkOps.q (triQG (x := .c (.loc 1 2)) rfl rfl trivial rfl) (OkOps.q (triQG (x := aS x40.Handler) rfl rfl ⟨fun h => h, trivial⟩ rfl) ?_))))
  obtain ⟨x42, hx42, hr⟩ := bind_some hr
  refine OkOps.q (triCallG (x := aB x42) (fun hg => r11_Name_c _ (gO_t hx42 hg)) rfl rfl ⟨.inl rfl, trivial⟩ ⟨fun h => h, trivial⟩ entry76 rfl rfl rfl) (OkOps.q (triQG (x := aB (!x42)) rfl rfl ⟨fun h => h, trivial⟩ rfl) ?_)
  refine OkOps.q (triOr rfl rfl (fun h => by rw [h]; rfl) rfl) ?_
  refine OkOps.nil ?_
  refine Ok.cond (b := (!x41) || (!x42)) rfl (fun h43 => ?_) (fun h43 => ?_)
  have hr := selT h43 hr
  refine Ok.seq (Ok.region (OkOps.y (aI (IntKind.i64.wrap (met + 1))) (OkOps.y (aI (IntKind.i64.wrap (met + 1))) (OkOps.y (aI 4) (OkOps.nil (Ok.ret ?_))))))
  obtain rfl := Option.some.inj hr
  exact ⟨_, rfl, .inl rfl, trivial⟩
  have hr := selF h43 hr
  refine Ok.skip (Ok.seq (Ok.seq (Ok.regionD (by kernel_rfl) (OkD.x (aI s35) rfl trivial rfl (OkD.x (aB (decide (s35 > 0))) rfl trivial rfl (OkD.x (aB (decide (s35 > 0))) rfl trivial rfl (OkD.q (triQG (x := .c (.loc 1 0)) rfl rfl trivial rfl) (OkD.q (triQG (x := aS x40.Event) rfl rfl ⟨fun h => h, trivial⟩ rfl) (OkD.q (triQG (x := .c (.loc 0 3)) rfl rfl trivial rfl) (OkD.q (triQG (x := .c (.d (.sl (List.map Action.cs v.Actions)))) rfl rfl ⟨fun h => h, trivial⟩ rfl) (OkD.q (triQG (x := aI s35) rfl rfl trivial rfl) (OkD.q (triQG (x := aI (IntKind.i64.wrap (s35 - 1))) rfl rfl ⟨fun h => h, trivial⟩ rfl) ?_))))))))))))
  obtain ⟨x44, hx44, hr⟩ := bind_some hr
  refine OkD.q (triIdxG (enc := Action.cs) (L := v.Actions) (row := [dS x44.Event, dS x44.Instance, dS x44.Handler, .sl (List.map AValue.cs x44.Args)]) (gO_t hx44) rfl rfl rfl rfl rfl (fun _ => rfl) ⟨fun h => h, ⟨fun h => h, trivial⟩⟩ rfl) (OkD.q (triQG (x := .c (.pt [dS x44.Event, dS x44.Instance, dS x44.Handler, .sl (List.map AValue.cs x44.Args)])) rfl rfl ⟨fun h => h, trivial⟩ rfl) (OkD.q (triQG (x := aS x44.Event) rfl rfl ⟨fun h => h, trivial⟩ rfl) (OkD.q (triQG (x := aB (Op.bytesLess x40.Event.toList x44.Event.toList || x40.Event.toList == x44.Event.toList)) rfl rfl ⟨fun h => h, ⟨fun h => h, trivial⟩⟩ rfl) (OkD.q (triAnd rfl rfl (fun h => h) rfl) (OkD.nil (by kernel_rfl) ?_)))))
  refine Ok.cond (b := (decide (s35 > 0)) && (Op.bytesLess x40.Event.toList x44.Event.toList || x40.Event.toList == x44.Event.toList)) rfl (fun h45 => ?_) (fun h45 => ?_)
  have hr := selT h45 hr
  refine Ok.seq (Ok.region (OkOps.y (aI (IntKind.i64.wrap (met + 1))) (OkOps.y (aI (IntKind.i64.wrap (met + 1))) (OkOps.y (aI 10) (OkOps.nil (Ok.ret ?_))))))
  obtain rfl := Option.some.inj hr
  exact ⟨_, rfl, .inl rfl, trivial⟩
  have hr := selF h45 hr
  refine Ok.skip (Ok.seq (Ok.seq (Ok.region (OkOps.y (.c (.loc 1 1)) (OkOps.y (aS x40.Instance) (OkOps.y (aI (x40.Instance.size : Int)) (OkOps.y (aB (decide ((x40.Instance.size : Int) > 400))) (OkOps.y (aB (decide ((x40.Instance.size : Int) > 400))) (OkOps.q (triQG (x := .c (.loc 1 3)) rfl rfl trivial rfl) (OkOps.q (triQG (x := .c (.d (.sl (List.map AValue.cs x40.Args)))) rfl rfl ⟨fun h => h, trivial⟩ rfl) (OkOps.q (triLenG (enc := AValue.cs) x40.Args rfl rfl rfl ⟨fun h => h, trivial⟩ rfl) (OkOps.q (triQG (x := aB (decide ((x40.Args.length : Int) > 100))) rfl rfl ⟨fun h => h, trivial⟩ rfl) ?_))))))))))))
  refine OkOps.q (triOr rfl rfl (fun h => by rw [h]; rfl) rfl) ?_
  refine OkOps.nil ?_
  refine Ok.cond (b := (decide ((x40.Instance.size : Int) > 400)) || (decide ((x40.Args.length : Int) > 100))) rfl (fun h46 => ?_) (fun h46 => ?_)
  have hr := selT h46 hr
  refine Ok.seq (Ok.region (OkOps.y (aI (IntKind.i64.wrap (met + 1))) (OkOps.y (aI (IntKind.i64.wrap (met + 1))) (OkOps.y (aI 2) (OkOps.nil (Ok.ret ?_))))))
  obtain rfl := Option.some.inj hr
  exact ⟨_, rfl, .inl rfl, trivial⟩
  have hr := selF h46 hr
  refine Ok.skip (Ok.seq (Ok.region (OkOps.y (aI 0) (OkOps.nil ?_))))
  obtain ⟨k48, hk48, hr⟩ := jn_some hr
  refine Ok.joinEnd (fun (s47 : Unit) => ⟨[(1, .s (aI depth)), (2, .s (aI (IntKind.i64.wrap (met + 1)))), (3, .s (.c (.loc 0 0))), (10, .s (aI s35))], [(0, .blk [cI v.Kind, cS v.Key, .d (.sl (List.map Attr.cs v.Attrs)), .d (.sl (List.map Action.cs v.Actions)), .d (.sl (List.map View.cs v.Kids))] 29)], 0⟩) k48 r (fun s47 hr => ?_) ?_
  rw [hk48] at hr
  exact ⟨(), hr, (Conv.mk (tau []) ⟨⟨_, rfl, .inl rfl⟩, ⟨_, rfl, .inl rfl⟩, ⟨_, rfl, .inl rfl⟩, ⟨_, rfl, .inl rfl⟩, trivial⟩ ⟨rfl, trivial⟩ rfl rfl rfl rfl)⟩
  clear hk48
  refine Ok.block (Ok.loopK (fun (s49 : Int) => ⟨[(1, .s (aI depth)), (2, .s (aI (IntKind.i64.wrap (met + 1)))), (3, .s (.c (.loc 0 0))), (10, .s (aI s35)), (11, .s (.c (.loc 1 0))), (12, .s (aI s49))], [(0, .blk [cI v.Kind, cS v.Key, .d (.sl (List.map Attr.cs v.Attrs)), .d (.sl (List.map Action.cs v.Actions)), .d (.sl (List.map View.cs v.Kids))] 29), (1, .blk [cS x40.Event, cS x40.Instance, cS x40.Handler, .d (.sl (List.map AValue.cs x40.Args))] 151)], 0⟩) hr (Conv.mk (tau []) ⟨⟨_, rfl, .inl rfl⟩, ⟨_, rfl, .inl rfl⟩, ⟨_, rfl, .inl rfl⟩, ⟨_, rfl, .inl rfl⟩, ⟨_, rfl, .inl rfl⟩, ⟨_, rfl, .inl rfl⟩, trivial⟩ ⟨rfl, rfl, trivial⟩ rfl rfl rfl rfl) ?_)
  clear hr
  intro again50 s49 hr
  unfold r14_validate_L4 at hr
  refine Ok.seq (Ok.seq (Ok.region (OkOps.y (aI s49) (OkOps.y (.c (.loc 1 3)) (OkOps.y (.c (.d (.sl (List.map AValue.cs x40.Args)))) (OkOps.q (triLen (enc := AValue.cs) x40.Args rfl rfl trivial rfl) (OkOps.y (aB (decide (s49 < (x40.Args.length : Int)))) (OkOps.nil ?_))))))))
  refine Ok.cond (b := decide (s49 < (x40.Args.length : Int))) rfl (fun h51 => ?_) (fun h51 => ?_)
  have hr := selT h51 hr
  refine Ok.skip (Ok.seq (Ok.block (Ok.seq (Ok.region (OkOps.y (.c (.loc 1 3)) (OkOps.y (.c (.d (.sl (List.map AValue.cs x40.Args)))) (OkOps.y (aI s49) ?_)))))))
  obtain ⟨x52, hx52, hr⟩ := bind_some hr
  refine OkOps.q (triIdx (enc := AValue.cs) (L := x40.Args) (row := [dI x52.Kind, dI x52.N, dS x52.S, .sl (List.map AValue.cs x52.L)]) hx52 (AValue.cs_eq _) rfl rfl rfl (fun x => by rw [AValue.cs_eq]; rfl) trivial rfl) ?_
  refine OkOps.y (.agg [cI x52.Kind, cI x52.N, cS x52.S, .d (.sl (List.map AValue.cs x52.L))]) ?_
  obtain ⟨x53, hx53, hr⟩ := bind_some hr
  refine OkOps.q (triCl (tau []) (.s (aI x53)) [] (r11_Check_c _ hx53) rfl ⟨.inl rfl, trivial⟩ trivial entry77 trivial) (OkOps.y (aI x53) (OkOps.nil (Ok.seq (Ok.region (OkOps.y (aI x53) (OkOps.y (aB (x53 != 0)) (OkOps.nil ?_)))))))
  refine Ok.cond (b := x53 != 0) rfl (fun h54 => ?_) (fun h54 => ?_)
  have hr := selT h54 hr
  refine Ok.seq (Ok.region (OkOps.y (aI (IntKind.i64.wrap (met + 1))) (OkOps.y (aI x53) (OkOps.y (aI (IntKind.i64.wrap (met + 1))) (OkOps.y (aI x53) (OkOps.nil (Ok.ret ?_)))))))
  obtain rfl := Option.some.inj hr
  exact ⟨_, rfl, .inl rfl, trivial⟩
  have hr := selF h54 hr
  refine Ok.skip (Ok.region (OkOps.y (aI s49) (OkOps.y (aI (IntKind.i64.wrap (s49 + 1))) (OkOps.y (aI (IntKind.i64.wrap (s49 + 1))) (OkOps.nil ?_)))))
  exact ⟨IntKind.i64.wrap (s49 + 1), hr, (Conv.mk (tau []) ⟨⟨_, rfl, .inl rfl⟩, ⟨_, rfl, .inl rfl⟩, ⟨_, rfl, .inl rfl⟩, ⟨_, rfl, .inl rfl⟩, ⟨_, rfl, .inl rfl⟩, ⟨_, rfl, .inl rfl⟩, trivial⟩ ⟨rfl, rfl, trivial⟩ rfl rfl rfl rfl)⟩
  have hr := selF h51 hr
  refine Ok.exit ?_
  exact ⟨(), hr, (Conv.mk (tau []) ⟨⟨_, rfl, .inl rfl⟩, ⟨_, rfl, .inl rfl⟩, ⟨_, rfl, .inl rfl⟩, ⟨_, rfl, .inl rfl⟩, trivial⟩ ⟨rfl, trivial⟩ rfl rfl rfl rfl)⟩
  have hr := selF h37 hr
  refine Ok.exit ?_
  exact ⟨(), hr, (Conv.mk (tau []) ⟨⟨_, rfl, .inl rfl⟩, ⟨_, rfl, .inl rfl⟩, ⟨_, rfl, .inl rfl⟩, trivial⟩ ⟨rfl, trivial⟩ rfl rfl rfl rfl)⟩
  clear hk8
  refine Ok.seq (Ok.region (OkOps.y (aI 0) (OkOps.nil (Ok.block (Ok.loopK (fun (s55 : Int) => ⟨[(1, .s (aI depth)), (2, .s (aI (IntKind.i64.wrap (met + 1)))), (3, .s (.c (.loc 0 0))), (8, .s (aI s55))], [(0, .blk [cI v.Kind, cS v.Key, .d (.sl (List.map Attr.cs v.Attrs)), .d (.sl (List.map Action.cs v.Actions)), .d (.sl (List.map View.cs v.Kids))] 29)], 0⟩) hr (Conv.mk (tau []) ⟨⟨_, rfl, .inl rfl⟩, ⟨_, rfl, .inl rfl⟩, ⟨_, rfl, .inl rfl⟩, ⟨_, rfl, .inl rfl⟩, trivial⟩ ⟨rfl, trivial⟩ rfl rfl rfl rfl) ?_)))))
  clear hr
  intro again56 s55 hr
  unfold r14_validate_L6 at hr
  refine Ok.seq (Ok.seq (Ok.region (OkOps.y (aI s55) (OkOps.y (.c (.loc 0 2)) (OkOps.y (.c (.d (.sl (List.map Attr.cs v.Attrs)))) (OkOps.q (triLen (enc := Attr.cs) v.Attrs rfl rfl trivial rfl) (OkOps.y (aB (decide (s55 < (v.Attrs.length : Int)))) (OkOps.nil ?_))))))))
  refine Ok.cond (b := decide (s55 < (v.Attrs.length : Int))) rfl (fun h57 => ?_) (fun h57 => ?_)
  have hr := selT h57 hr
  refine Ok.skip (Ok.seq (Ok.block (Ok.seq (Ok.seq (Ok.region (OkOps.y (.c (.loc 0 2)) (OkOps.y (.c (.d (.sl (List.map Attr.cs v.Attrs)))) (OkOps.y (aI s55) ?_))))))))
  obtain ⟨x58, hx58, hr⟩ := bind_some hr
  refine OkOps.q (triIdx (enc := Attr.cs) (L := v.Attrs) (row := [dS x58.Name, dI x58.Value.Kind, dI x58.Value.N, dS x58.Value.S, .sl (List.map AValue.cs x58.Value.L)]) hx58 rfl rfl rfl rfl (fun _ => rfl) trivial rfl) (OkOps.y (.c (.pt [dS x58.Name, dI x58.Value.Kind, dI x58.Value.N, dS x58.Value.S, .sl (List.map AValue.cs x58.Value.L)])) (OkOps.y (aS x58.Name) ?_))
  obtain ⟨x59, hx59, hr⟩ := bind_some hr
  refine OkOps.q (triCl (tau []) (.s (aB x59)) [] (r11_Name_c _ hx59) rfl ⟨.inl rfl, trivial⟩ trivial entry76 trivial) (OkOps.y (aB (!x59)) (OkOps.nil ?_))
  refine Ok.cond (b := !x59) rfl (fun h60 => ?_) (fun h60 => ?_)
  have hr := selT h60 hr
  refine Ok.seq (Ok.region (OkOps.y (aI (IntKind.i64.wrap (met + 1))) (OkOps.y (aI (IntKind.i64.wrap (met + 1))) (OkOps.y (aI 4) (OkOps.nil (Ok.ret ?_))))))
  obtain rfl := Option.some.inj hr
  exact ⟨_, rfl, .inl rfl, trivial⟩
  have hr := selF h60 hr
  refine Ok.skip (Ok.seq (Ok.seq (Ok.regionD (by kernel_rfl) (OkD.x (aI s55) rfl trivial rfl (OkD.x (aB (decide (s55 > 0))) rfl trivial rfl (OkD.x (aB (decide (s55 > 0))) rfl trivial rfl (OkD.q (triQG (x := .c (.loc 0 2)) rfl rfl trivial rfl) (OkD.q (triQG (x := .c (.d (.sl (List.map Attr.cs v.Attrs)))) rfl rfl ⟨fun h => h, trivial⟩ rfl) (OkD.q (triQG (x := aI s55) rfl rfl trivial rfl) ?_)))))))))
  obtain ⟨x61, hx61, hr⟩ := bind_some hr
  refine OkD.q (triIdxG (enc := Attr.cs) (L := v.Attrs) (row := [dS x61.Name, dI x61.Value.Kind, dI x61.Value.N, dS x61.Value.S, .sl (List.map AValue.cs x61.Value.L)]) (gO_t hx61) rfl rfl rfl rfl rfl (fun _ => rfl) ⟨fun h => h, ⟨fun h => h, trivial⟩⟩ rfl) (OkD.q (triQG (x := .c (.pt [dS x61.Name, dI x61.Value.Kind, dI x61.Value.N, dS x61.Value.S, .sl (List.map AValue.cs x61.Value.L)])) rfl rfl ⟨fun h => h, trivial⟩ rfl) (OkD.q (triQG (x := aS x61.Name) rfl rfl ⟨fun h => h, trivial⟩ rfl) (OkD.q (triQG (x := .c (.loc 0 2)) rfl rfl trivial rfl) (OkD.q (triQG (x := .c (.d (.sl (List.map Attr.cs v.Attrs)))) rfl rfl ⟨fun h => h, trivial⟩ rfl) (OkD.q (triQG (x := aI s55) rfl rfl trivial rfl) (OkD.q (triQG (x := aI (IntKind.i64.wrap (s55 - 1))) rfl rfl ⟨fun h => h, trivial⟩ rfl) ?_))))))
  obtain ⟨x62, hx62, hr⟩ := bind_some hr
  refine OkD.q (triIdxG (enc := Attr.cs) (L := v.Attrs) (row := [dS x62.Name, dI x62.Value.Kind, dI x62.Value.N, dS x62.Value.S, .sl (List.map AValue.cs x62.Value.L)]) (gO_t hx62) rfl rfl rfl rfl rfl (fun _ => rfl) ⟨fun h => h, ⟨fun h => h, trivial⟩⟩ rfl) (OkD.q (triQG (x := .c (.pt [dS x62.Name, dI x62.Value.Kind, dI x62.Value.N, dS x62.Value.S, .sl (List.map AValue.cs x62.Value.L)])) rfl rfl ⟨fun h => h, trivial⟩ rfl) (OkD.q (triQG (x := aS x62.Name) rfl rfl ⟨fun h => h, trivial⟩ rfl) (OkD.q (triQG (x := aB (Op.bytesLess x61.Name.toList x62.Name.toList || x61.Name.toList == x62.Name.toList)) rfl rfl ⟨fun h => h, ⟨fun h => h, trivial⟩⟩ rfl) (OkD.q (triAnd rfl rfl (fun h => h) rfl) (OkD.nil (by kernel_rfl) ?_)))))
  refine Ok.cond (b := (decide (s55 > 0)) && (Op.bytesLess x61.Name.toList x62.Name.toList || x61.Name.toList == x62.Name.toList)) rfl (fun h63 => ?_) (fun h63 => ?_)
  have hr := selT h63 hr
  refine Ok.seq (Ok.region (OkOps.y (aI (IntKind.i64.wrap (met + 1))) (OkOps.y (aI (IntKind.i64.wrap (met + 1))) (OkOps.y (aI 10) (OkOps.nil (Ok.ret ?_))))))
  obtain rfl := Option.some.inj hr
  exact ⟨_, rfl, .inl rfl, trivial⟩
  have hr := selF h63 hr
  refine Ok.skip (Ok.seq (Ok.region (OkOps.y (.c (.loc 0 2)) (OkOps.y (.c (.d (.sl (List.map Attr.cs v.Attrs)))) (OkOps.y (aI s55) ?_)))))
  obtain ⟨x64, hx64, hr⟩ := bind_some hr
  refine OkOps.q (triIdx (enc := Attr.cs) (L := v.Attrs) (row := [dS x64.Name, dI x64.Value.Kind, dI x64.Value.N, dS x64.Value.S, .sl (List.map AValue.cs x64.Value.L)]) hx64 rfl rfl rfl rfl (fun _ => rfl) trivial rfl) (OkOps.y (.c (.pt [dI x64.Value.Kind, dI x64.Value.N, dS x64.Value.S, .sl (List.map AValue.cs x64.Value.L)])) (OkOps.y (.agg [cI x64.Value.Kind, cI x64.Value.N, cS x64.Value.S, .d (.sl (List.map AValue.cs x64.Value.L))]) ?_))
  obtain ⟨x65, hx65, hr⟩ := bind_some hr
  refine OkOps.q (triCl (tau []) (.s (aI x65)) [] (r11_Check_c _ hx65) rfl ⟨.inl rfl, trivial⟩ trivial entry77 trivial) (OkOps.y (aI x65) (OkOps.nil (Ok.seq (Ok.region (OkOps.y (aI x65) (OkOps.y (aB (x65 != 0)) (OkOps.nil ?_)))))))
  refine Ok.cond (b := x65 != 0) rfl (fun h66 => ?_) (fun h66 => ?_)
  have hr := selT h66 hr
  refine Ok.seq (Ok.region (OkOps.y (aI (IntKind.i64.wrap (met + 1))) (OkOps.y (aI x65) (OkOps.y (aI (IntKind.i64.wrap (met + 1))) (OkOps.y (aI x65) (OkOps.nil (Ok.ret ?_)))))))
  obtain rfl := Option.some.inj hr
  exact ⟨_, rfl, .inl rfl, trivial⟩
  have hr := selF h66 hr
  refine Ok.skip (Ok.region (OkOps.y (aI s55) (OkOps.y (aI (IntKind.i64.wrap (s55 + 1))) (OkOps.y (aI (IntKind.i64.wrap (s55 + 1))) (OkOps.nil ?_)))))
  exact ⟨IntKind.i64.wrap (s55 + 1), hr, (Conv.mk (tau []) ⟨⟨_, rfl, .inl rfl⟩, ⟨_, rfl, .inl rfl⟩, ⟨_, rfl, .inl rfl⟩, ⟨_, rfl, .inl rfl⟩, trivial⟩ ⟨rfl, trivial⟩ rfl rfl rfl rfl)⟩
  have hr := selF h57 hr
  refine Ok.exit ?_
  exact ⟨(), hr, (Conv.mk (tau []) ⟨⟨_, rfl, .inl rfl⟩, ⟨_, rfl, .inl rfl⟩, ⟨_, rfl, .inl rfl⟩, trivial⟩ ⟨rfl, trivial⟩ rfl rfl rfl rfl)⟩
theorem r14_validate_all : ∀ n : Nat, (∀ (v : View) (depth : Int) (met : Int) {r : Int × Int}, r14_validate n v depth met = some r → Con Tryd.prog 49 [.agg [cI v.Kind, cS v.Key, .d (.sl (List.map Attr.cs v.Attrs)), .d (.sl (List.map Action.cs v.Actions)), .d (.sl (List.map View.cs v.Kids))], aI depth, aI met] [] (.tup [aI r.1, aI r.2]) []) ∧ True := by
  intro n
  induction n with
  | zero => exact ⟨(by intros; rename_i hr; cases hr), trivial⟩
  | succ n ih => exact ⟨(by intros; rename_i hr; exact r14_validate_B_c _ ih.1 _ _ _ hr), trivial⟩
theorem r14_validate_c (n : Nat) (v : View) (depth : Int) (met : Int) {r : Int × Int} (hr : r14_validate n v depth met = some r) : Con Tryd.prog 49 [.agg [cI v.Kind, cS v.Key, .d (.sl (List.map Attr.cs v.Attrs)), .d (.sl (List.map Action.cs v.Actions)), .d (.sl (List.map View.cs v.Kids))], aI depth, aI met] [] (.tup [aI r.1, aI r.2]) [] := (r14_validate_all n).1 v depth met hr
theorem r14_Validate_c (v : View) {r : Int} (hr : r14_Validate v = some r) : Con Tryd.prog 25 [.agg [cI v.Kind, cS v.Key, .d (.sl (List.map Attr.cs v.Attrs)), .d (.sl (List.map Action.cs v.Actions)), .d (.sl (List.map View.cs v.Kids))]] [] (.s (aI r)) [] := by
  unfold r14_Validate at hr
  refine Con.of_ok 11 0 [.tmp 2] [(0, .s (.agg [cI v.Kind, cS v.Key, .d (.sl (List.map Attr.cs v.Attrs)), .d (.sl (List.map Action.cs v.Actions)), .d (.sl (List.map View.cs v.Kids))]))] Tryd.func25 rfl rfl rfl rfl rfl rfl rfl rfl fun w g M ρ _ => (Ok.seq (Ok.region (OkOps.m 0 (triBox (j := 0) (cs := [cI v.Kind, cS v.Key, .d (.sl (List.map Attr.cs v.Attrs)), .d (.sl (List.map Action.cs v.Actions)), .d (.sl (List.map View.cs v.Kids))]) rfl rfl rfl rfl rfl) (OkOps.y (aI 0) (OkOps.nil (Ok.seq (Ok.region (OkOps.y (.agg [cI v.Kind, cS v.Key, .d (.sl (List.map Attr.cs v.Attrs)), .d (.sl (List.map Action.cs v.Actions)), .d (.sl (List.map View.cs v.Kids))]) ?_))))))))
  obtain ⟨x1, hx1, hr⟩ := bind_some hr
  refine OkOps.q (triCl (tau []) (.tup [aI x1.1, aI x1.2]) [] (r14_validate_c _ _ _ _ hx1) rfl ⟨.inl rfl, .inl rfl, .inl rfl, trivial⟩ trivial entry49 trivial) (OkOps.q (triMv (v := .tup [aI x1.1, aI x1.2]) rfl rfl) (OkOps.y (aI x1.1) (OkOps.y (aI x1.2) (OkOps.y (aI x1.1) (OkOps.y (aI x1.2) (OkOps.nil (Ok.seq (Ok.region (OkOps.y (aI x1.2) (OkOps.y (aI x1.2) (OkOps.nil (Ok.ret ?_))))))))))))
  obtain rfl := Option.some.inj hr
  exact ⟨_, rfl, .inl rfl, trivial⟩
end Go.Proofs.YtfoigppmcelgfaaDoor
end
section
set_option maxRecDepth 100000
namespace Go.Proofs.YtfoigppmcelgfaaDoor
open Go Go.E2
theorem r14_build_B_c (self0 : View → Int → Tree → Option Tree) (hself0 : ∀ (v : View) (parent : Int) (t : Tree) {r : Tree}, self0 v parent t = some r → Con Tryd.prog 26 [.agg [cI v.Kind, cS v.Key, .d (.sl (List.map Attr.cs v.Attrs)), .d (.sl (List.map Action.cs v.Actions)), .d (.sl (List.map View.cs v.Kids))], aI parent, .agg [cI t.Root, cI t.Next, .own 0]] [(0, .vec 7 (List.map Node.cs t.Nodes))] (.s (.agg [cI r.Root, cI r.Next, .own 2000])) [(0, .dead), (2000, .vec 7 (List.map Node.cs r.Nodes))]) (v : View) (parent : Int) (t : Tree) {r : Tree} (hr : r14_build_B self0 v parent t = some r) : Con Tryd.prog 26 [.agg [cI v.Kind, cS v.Key, .d (.sl (List.map Attr.cs v.Attrs)), .d (.sl (List.map Action.cs v.Actions)), .d (.sl (List.map View.cs v.Kids))], aI parent, .agg [cI t.Root, cI t.Next, .own 0]] [(0, .vec 7 (List.map Node.cs t.Nodes))] (.s (.agg [cI r.Root, cI r.Next, .own 2000])) [(0, .dead), (2000, .vec 7 (List.map Node.cs r.Nodes))] := by
  unfold r14_build_B at hr
  refine Con.of_ok 63 0 [.cell 6 46] [(0, .s (.agg [cI v.Kind, cS v.Key, .d (.sl (List.map Attr.cs v.Attrs)), .d (.sl (List.map Action.cs v.Actions)), .d (.sl (List.map View.cs v.Kids))])), (1, .s (aI parent)), (2, .s (.agg [cI t.Root, cI t.Next, .own 0]))] Tryd.func26 rfl rfl rfl rfl rfl rfl rfl rfl fun w g M ρ _ => (Ok.seq (Ok.region (OkOps.m 0 (triBox (j := 1) (cs := [cI v.Kind, cS v.Key, .d (.sl (List.map Attr.cs v.Attrs)), .d (.sl (List.map Action.cs v.Actions)), .d (.sl (List.map View.cs v.Kids))]) rfl rfl rfl rfl rfl) (OkOps.m 0 (triBox (j := 2) (cs := [cI t.Root, cI t.Next, .own 0]) rfl rfl rfl rfl rfl) (OkOps.m 0 (triAlloc (j := 3) (cs := [cI 0, cI 0, .d (.v (.slice none 0 0))]) rfl rfl rfl rfl) (OkOps.nil (Ok.seq (Ok.region (OkOps.y (.c (.loc 2 1)) (OkOps.y (aI t.Next) (OkOps.y (aI t.Next) (OkOps.nil (Ok.seq (Ok.region (OkOps.y (.c (.loc 2 2)) ?_)))))))))))))))
  refine OkOps.y (.c (.own 0)) (OkOps.q (triLenV (enc := Node.cs) t.Nodes rfl rfl rfl rfl) (OkOps.y (aI (t.Nodes.length : Int)) (OkOps.nil (Ok.seq (Ok.region (OkOps.y (.c (.loc 2 2)) (OkOps.y (.c (.own 0)) (OkOps.y (aI t.Next) (OkOps.y (aI parent) (OkOps.y (.c (.loc 1 0)) (OkOps.y (aI v.Kind) (OkOps.y (.c (.loc 1 1)) (OkOps.y (aS v.Key) (OkOps.y (.c (.loc 1 2)) (OkOps.y (.c (.d (.sl (List.map Attr.cs v.Attrs)))) ?_)))))))))))))))
  refine OkOps.y (.c (.loc 1 3)) (OkOps.y (.c (.d (.sl (List.map Action.cs v.Actions)))) (OkOps.y (.agg [cI t.Next, cI parent, cI v.Kind, cS v.Key, .d (.sl (List.map Attr.cs v.Attrs)), .d (.sl (List.map Action.cs v.Actions)), .d (.v (.slice none 0 0))]) (OkOps.m 0 (triBST (sz := 7) (enc := Node.cs) (j := 4) ([(Node.mk t.Next parent v.Kind v.Key v.Attrs v.Actions ([] : (List Int)))]) rfl rfl rfl rfl rfl rfl rfl rfl (fun _ => rfl) trivial rfl rfl) ?_)))
  obtain ⟨x1, hx1, hr⟩ := bind_some hr
  refine OkOps.m2 0 (triAppV (enc := Node.cs) (L := t.Nodes) (X := [(Node.mk t.Next parent v.Kind v.Key v.Attrs v.Actions ([] : (List Int)))]) (j := 0) (j' := 5) hx1 rfl rfl rfl rfl rfl rfl (fun _ => rfl) (fun _ => rfl) trivial rfl rfl) (OkOps.y (.c (.loc 2 2)) (OkOps.w (triStoreF (cs' := [cI t.Root, cI t.Next, .own 5]) rfl rfl rfl rfl rfl rfl rfl rfl) (OkOps.nil (Ok.seq (Ok.region (OkOps.y (.c (.loc 2 1)) (OkOps.y (aI t.Next) (OkOps.y (aI (IntKind.i64.wrap (t.Next + 1))) (OkOps.y (.c (.loc 2 1)) (OkOps.w (triStore (cs' := [cI t.Root, cI (IntKind.i64.wrap (t.Next + 1)), .own 5]) rfl rfl rfl rfl rfl rfl rfl rfl rfl) (OkOps.nil (Ok.seq (Ok.region (OkOps.y (.c (.d (.v (.slice none 0 0)))) (OkOps.nil ?_)))))))))))))))
  obtain ⟨k3, hk3, hr⟩ := jn_some hr
  refine Ok.join (fun (s2 : (List Int) × Int × Int × (List Node)) => ⟨[(5, .s (.c (.loc 2 0))), (6, .s (.c (.loc 3 0))), (8, .s (aI (t.Nodes.length : Int))), (9, .s (.c (.tl 1007 (List.map (eInt .i64) s2.1))))], [(0, .dead), (2, .blk [cI s2.2.1, cI s2.2.2.1, .own 1008] 46), (3, .blk [cI 0, cI 0, .d (.v (.slice none 0 0))] 46), (1007, .tail 1), (1008, .vec 7 (List.map Node.cs s2.2.2.2))], 0⟩) k3 r (fun s2 hr => ?_) ?_
  rw [hk3] at hr
  refine Ok.seq (Ok.region (OkOps.y (.c (.loc 2 2)) (OkOps.y (.c (.own 1008)) (OkOps.y (aI (t.Nodes.length : Int)) (OkOps.y (.c (.tl 1007 (List.map (eInt .i64) s2.1))) ?_)))))
  obtain ⟨x4, hx4, hr⟩ := bind_some hr
  refine OkOps.q (triIdxV (enc := Node.cs) (L := s2.2.2.2) hx4 rfl rfl rfl rfl trivial rfl) (OkOps.q (triFldV (o := 6) (enc := Node.cs) (L := s2.2.2.2) rfl rfl rfl (by have := (ixO_spec hx4).2; omega) rfl) ?_)
  obtain ⟨x5, hx5, hr⟩ := bind_some hr
  refine OkOps.w (triStoreVF (n := 1) (enc := Node.cs) (L := s2.2.2.2) (z := (Node.mk x5.ID x5.Parent x5.Kind x5.Key x5.Attrs x5.Actions s2.1)) hx5 rfl rfl rfl rfl rfl rfl rfl rfl (by decide) (fun _ => rfl) rfl) (OkOps.nil (Ok.seq (Ok.region (OkOps.y (.agg [cI s2.2.1, cI s2.2.2.1, .own 1008]) (OkOps.w (triStoreF (cs' := [cI s2.2.1, cI s2.2.2.1, .own 1008]) rfl rfl rfl rfl rfl rfl rfl rfl) (OkOps.nil (Ok.conv (T := ⟨[(6, .s (.c (.loc 3 0)))], [(0, .dead), (3, .blk [cI s2.2.1, cI s2.2.2.1, .own 2000] 46), (2000, .vec 7 (List.map Node.cs (List.set s2.2.2.2 x4 (Node.mk x5.ID x5.Parent x5.Kind x5.Key x5.Attrs x5.Actions s2.1))))], 0⟩) (Conv.mk (tau [(2000, 1008)]) ⟨⟨_, rfl, .inl rfl⟩, trivial⟩ ⟨rfl, rfl, trivial⟩ rfl rfl rfl rfl) (Ok.ret ?_))))))))
  obtain rfl := Option.some.inj hr
  exact ⟨_, rfl, .inl rfl, ⟨(fun h => by cases h), rfl, trivial⟩⟩
  clear hk3
  refine Ok.seq (Ok.region (OkOps.y (aI 0) (OkOps.nil (Ok.block (Ok.loopK (fun (s6 : (List Int) × Int × Int × Int × (List Node)) => ⟨[(3, .s (.c (.loc 1 0))), (5, .s (.c (.loc 2 0))), (6, .s (.c (.loc 3 0))), (7, .s (aI t.Next)), (8, .s (aI (t.Nodes.length : Int))), (9, .s (.c (.tl 1012 (List.map (eInt .i64) s6.1)))), (10, .s (aI s6.2.1))], [(0, .dead), (1, .blk [cI v.Kind, cS v.Key, .d (.sl (List.map Attr.cs v.Attrs)), .d (.sl (List.map Action.cs v.Actions)), .d (.sl (List.map View.cs v.Kids))] 29), (2, .blk [cI s6.2.2.1, cI s6.2.2.2.1, .own 1013] 46), (3, .blk [cI 0, cI 0, .d (.v (.slice none 0 0))] 46), (1012, .tail 1), (1013, .vec 7 (List.map Node.cs s6.2.2.2.2))], 0⟩) hr (Conv.trans (Conv.nil 9 1016 1 0 rfl rfl) (Conv.mk (tau [(1012, 1016), (1013, 5)]) ⟨⟨_, rfl, .inl rfl⟩, ⟨_, rfl, .inl rfl⟩, ⟨_, rfl, .inl rfl⟩, ⟨_, rfl, .inl rfl⟩, ⟨_, rfl, .inl rfl⟩, ⟨_, rfl, .inl rfl⟩, ⟨_, rfl, .inl rfl⟩, trivial⟩ ⟨rfl, rfl, rfl, rfl, rfl, trivial⟩ rfl rfl rfl rfl)) ?_)))))
  clear hr
  intro again7 s6 hr
  unfold r14_build_L1 at hr
  refine Ok.seq (Ok.seq (Ok.region (OkOps.y (aI s6.2.1) (OkOps.y (.c (.loc 1 4)) (OkOps.y (.c (.d (.sl (List.map View.cs v.Kids)))) (OkOps.q (triLen (enc := View.cs) v.Kids rfl rfl trivial rfl) (OkOps.y (aB (decide (s6.2.1 < (v.Kids.length : Int)))) (OkOps.nil ?_))))))))
  refine Ok.cond (b := decide (s6.2.1 < (v.Kids.length : Int))) rfl (fun h8 => ?_) (fun h8 => ?_)
  have hr := selT h8 hr
  refine Ok.skip (Ok.seq (Ok.block (Ok.seq (Ok.region (OkOps.y (.c (.tl 1012 (List.map (eInt .i64) s6.1))) (OkOps.y (.c (.loc 2 1)) (OkOps.y (aI s6.2.2.2.1) (OkOps.m 0 (triBST (sz := 1) (enc := (eInt .i64)) (j := 6) ([s6.2.2.2.1]) rfl rfl rfl rfl rfl rfl rfl rfl (fun _ => rfl) trivial rfl rfl) ?_))))))))
  obtain ⟨x9, hx9, hr⟩ := bind_some hr
  refine OkOps.m2 0 (triApp (enc := (eInt .i64)) (L := s6.1) (X := [s6.2.2.2.1]) (j := 1012) (j' := 7) hx9 rfl rfl rfl rfl rfl rfl (fun _ => rfl) (fun _ => rfl) (by decide) trivial rfl rfl) (OkOps.y (.c (.tl 7 (List.map (eInt .i64) x9))) (OkOps.nil (Ok.regionD (by kernel_rfl) (OkD.x (.c (.loc 1 4)) rfl trivial rfl (OkD.x (.c (.d (.sl (List.map View.cs v.Kids)))) rfl trivial rfl (OkD.x (aI s6.2.1) rfl trivial rfl ?_))))))
  obtain ⟨x10, hx10, hr⟩ := bind_some hr
  refine OkD.q (triIdx (enc := View.cs) (L := v.Kids) (row := [dI x10.Kind, dS x10.Key, .sl (List.map Attr.cs x10.Attrs), .sl (List.map Action.cs x10.Actions), .sl (List.map View.cs x10.Kids)]) hx10 (View.cs_eq _) rfl rfl rfl (fun x => by rw [View.cs_eq]; rfl) trivial rfl) ?_
  refine OkD.x (.agg [cI x10.Kind, cS x10.Key, .d (.sl (List.map Attr.cs x10.Attrs)), .d (.sl (List.map Action.cs x10.Actions)), .d (.sl (List.map View.cs x10.Kids))]) rfl trivial rfl (OkD.x (aI t.Next) rfl trivial rfl (OkD.x (.agg [cI s6.2.2.1, cI s6.2.2.2.1, .own 1013]) rfl trivial rfl ?_))
  obtain ⟨x11, hx11, hr⟩ := bind_some hr
  refine OkD.m2 0 (triCall (tau [(0, 1013), (2000, 8)]) (.s (.agg [cI x11.Root, cI x11.Next, .own 8])) [(1013, .dead), (8, .vec 7 (List.map Node.cs x11.Nodes))] (hself0 _ _ _ hx11) rfl ⟨.inl rfl, .inl rfl, .inl rfl, trivial⟩ trivial entry26 ⟨rfl, trivial⟩ rfl rfl rfl rfl ⟨rfl, trivial⟩ rfl rfl rfl) (OkD.w (triStoreF (cs' := [cI x11.Root, cI x11.Next, .own 8]) rfl rfl rfl rfl rfl rfl rfl rfl) (OkD.nil (by kernel_rfl) (Ok.region (OkOps.y (aI s6.2.1) (OkOps.y (aI (IntKind.i64.wrap (s6.2.1 + 1))) (OkOps.y (aI (IntKind.i64.wrap (s6.2.1 + 1))) (OkOps.nil ?_)))))))
  exact ⟨(x9, IntKind.i64.wrap (s6.2.1 + 1), x11.Root, x11.Next, x11.Nodes), hr, (Conv.mk (tau [(1012, 7), (1013, 8)]) ⟨⟨_, rfl, .inl rfl⟩, ⟨_, rfl, .inl rfl⟩, ⟨_, rfl, .inl rfl⟩, ⟨_, rfl, .inl rfl⟩, ⟨_, rfl, .inl rfl⟩, ⟨_, rfl, .inl rfl⟩, ⟨_, rfl, .inl rfl⟩, trivial⟩ ⟨rfl, rfl, rfl, rfl, rfl, trivial⟩ rfl rfl rfl rfl)⟩
  have hr := selF h8 hr
  refine Ok.exit ?_
  exact ⟨(s6.1, s6.2.2.1, s6.2.2.2.1, s6.2.2.2.2), hr, (Conv.mk (tau [(1007, 1012), (1008, 1013)]) ⟨⟨_, rfl, .inl rfl⟩, ⟨_, rfl, .inl rfl⟩, ⟨_, rfl, .inl rfl⟩, ⟨_, rfl, .inl rfl⟩, trivial⟩ ⟨rfl, rfl, rfl, rfl, trivial⟩ rfl rfl rfl rfl)⟩
theorem r14_build_all : ∀ n : Nat, (∀ (v : View) (parent : Int) (t : Tree) {r : Tree}, r14_build n v parent t = some r → Con Tryd.prog 26 [.agg [cI v.Kind, cS v.Key, .d (.sl (List.map Attr.cs v.Attrs)), .d (.sl (List.map Action.cs v.Actions)), .d (.sl (List.map View.cs v.Kids))], aI parent, .agg [cI t.Root, cI t.Next, .own 0]] [(0, .vec 7 (List.map Node.cs t.Nodes))] (.s (.agg [cI r.Root, cI r.Next, .own 2000])) [(0, .dead), (2000, .vec 7 (List.map Node.cs r.Nodes))]) ∧ True := by
  intro n
  induction n with
  | zero => exact ⟨(by intros; rename_i hr; cases hr), trivial⟩
  | succ n ih => exact ⟨(by intros; rename_i hr; exact r14_build_B_c _ ih.1 _ _ _ hr), trivial⟩
theorem r14_build_c (n : Nat) (v : View) (parent : Int) (t : Tree) {r : Tree} (hr : r14_build n v parent t = some r) : Con Tryd.prog 26 [.agg [cI v.Kind, cS v.Key, .d (.sl (List.map Attr.cs v.Attrs)), .d (.sl (List.map Action.cs v.Actions)), .d (.sl (List.map View.cs v.Kids))], aI parent, .agg [cI t.Root, cI t.Next, .own 0]] [(0, .vec 7 (List.map Node.cs t.Nodes))] (.s (.agg [cI r.Root, cI r.Next, .own 2000])) [(0, .dead), (2000, .vec 7 (List.map Node.cs r.Nodes))] := (r14_build_all n).1 v parent t hr
theorem r14_Build_c (v : View) (next : Int) {r : Tree × Int} (hr : r14_Build v next = some r) : Con Tryd.prog 11 [.agg [cI v.Kind, cS v.Key, .d (.sl (List.map Attr.cs v.Attrs)), .d (.sl (List.map Action.cs v.Actions)), .d (.sl (List.map View.cs v.Kids))], aI next] [] (.tup [.agg [cI r.1.Root, cI r.1.Next, .d (.sl (List.map Node.cs r.1.Nodes))], aI r.2]) [] := by
  unfold r14_Build at hr
  refine Con.of_ok 27 0 [.cell 4 46, .tmp 5] [(0, .s (.agg [cI v.Kind, cS v.Key, .d (.sl (List.map Attr.cs v.Attrs)), .d (.sl (List.map Action.cs v.Actions)), .d (.sl (List.map View.cs v.Kids))])), (1, .s (aI next))] Tryd.func11 rfl rfl rfl rfl rfl rfl rfl rfl fun w g M ρ _ => (Ok.seq (Ok.region (OkOps.m 0 (triBox (j := 0) (cs := [cI v.Kind, cS v.Key, .d (.sl (List.map Attr.cs v.Attrs)), .d (.sl (List.map Action.cs v.Actions)), .d (.sl (List.map View.cs v.Kids))]) rfl rfl rfl rfl rfl) (OkOps.m 0 (triAlloc (j := 1) (cs := [cI 0, cI 0, .d (.v (.slice none 0 0))]) rfl rfl rfl rfl) (OkOps.y (aI 0) (OkOps.nil (Ok.seq (Ok.seq (Ok.region (OkOps.y (.agg [cI v.Kind, cS v.Key, .d (.sl (List.map Attr.cs v.Attrs)), .d (.sl (List.map Action.cs v.Actions)), .d (.sl (List.map View.cs v.Kids))]) ?_))))))))))
  obtain ⟨x1, hx1, hr⟩ := bind_some hr
  refine OkOps.q (triCl (tau []) (.s (aI x1)) [] (r14_Validate_c _ hx1) rfl ⟨.inl rfl, trivial⟩ trivial entry25 trivial) (OkOps.y (aI x1) (OkOps.nil (Ok.seq (Ok.region (OkOps.y (aI x1) (OkOps.y (aB (x1 != 0)) (OkOps.nil ?_)))))))
  refine Ok.cond (b := x1 != 0) rfl (fun h2 => ?_) (fun h2 => ?_)
  have hr := selT h2 hr
  refine Ok.seq (Ok.region (OkOps.y (.agg [cI 0, cI 0, .d (.v (.slice none 0 0))]) (OkOps.y (aI x1) (OkOps.w (triStore (cs' := [cI 0, cI 0, .d (.v (.slice none 0 0))]) rfl rfl rfl rfl rfl rfl rfl rfl rfl) (OkOps.y (aI x1) (OkOps.nil (Ok.ret ?_)))))))
  obtain rfl := Option.some.inj hr
  exact ⟨_, rfl, .inr rfl, trivial⟩
  have hr := selF h2 hr
  refine Ok.skip (Ok.seq (Ok.seq (Ok.region (OkOps.y (aI next) (OkOps.y (aB (decide (next < 1))) (OkOps.y (aB (decide (next < 1))) (OkOps.q (triQG (x := aI next) rfl rfl trivial rfl) (OkOps.q (triQG (x := aB (decide (next > 1099511627376))) rfl rfl ⟨fun h => h, trivial⟩ rfl) ?_))))))))
  refine OkOps.q (triOr rfl rfl (fun h => by rw [h]; rfl) rfl) ?_
  refine OkOps.nil ?_
  refine Ok.cond (b := (decide (next < 1)) || (decide (next > 1099511627376))) rfl (fun h3 => ?_) (fun h3 => ?_)
  have hr := selT h3 hr
  refine Ok.seq (Ok.region (OkOps.y (.agg [cI 0, cI 0, .d (.v (.slice none 0 0))]) (OkOps.w (triStore (cs' := [cI 0, cI 0, .d (.v (.slice none 0 0))]) rfl rfl rfl rfl rfl rfl rfl rfl rfl) (OkOps.y (aI 1) (OkOps.nil (Ok.ret ?_))))))
  obtain rfl := Option.some.inj hr
  exact ⟨_, rfl, .inr rfl, trivial⟩
  have hr := selF h3 hr
  refine Ok.skip (Ok.seq (Ok.region (OkOps.y (aI next) (OkOps.y (aI next) (OkOps.y (.agg [cI next, cI next, .d (.v (.slice none 0 0))]) (OkOps.m 0 (triAlloc (j := 2) (cs := [cI 0, cI 0, .d (.v (.slice none 0 0))]) rfl rfl rfl rfl) (OkOps.w (triStore (cs' := [cI next, cI next, .d (.v (.slice none 0 0))]) rfl rfl rfl rfl rfl rfl rfl rfl rfl) (OkOps.nil (Ok.seq (Ok.region (OkOps.y (.agg [cI v.Kind, cS v.Key, .d (.sl (List.map Attr.cs v.Attrs)), .d (.sl (List.map Action.cs v.Actions)), .d (.sl (List.map View.cs v.Kids))]) (OkOps.y (.agg [cI next, cI next, .d (.v (.slice none 0 0))]) (OkOps.conv (Conv.nilAg 25 2 3 (.vec 7 (List.map Node.cs ([] : (List Node)))) (.own 3) [cI next, cI next, .d (.v (.slice none 0 0))] [cI next, cI next, .own 3] 0 rfl rfl rfl rfl (nil_vec Node.cs 7 3) (fun _ _ h => h.symm)) ?_)))))))))))))
  obtain ⟨x4, hx4, hr⟩ := bind_some hr
  refine OkOps.m2 0 (triCall (tau [(0, 3), (2000, 4)]) (.s (.agg [cI x4.Root, cI x4.Next, .own 4])) [(3, .dead), (4, .vec 7 (List.map Node.cs x4.Nodes))] (r14_build_c _ _ _ _ hx4) rfl ⟨.inl rfl, .inl rfl, .inl rfl, trivial⟩ trivial entry26 ⟨rfl, trivial⟩ rfl rfl rfl rfl ⟨rfl, trivial⟩ rfl rfl rfl) (OkOps.w (triStoreF (cs' := [cI x4.Root, cI x4.Next, .own 4]) rfl rfl rfl rfl rfl rfl rfl rfl) (OkOps.y (aI 0) (OkOps.nil (Ok.conv (Conv.freezeV (enc := Node.cs) (L := x4.Nodes) [(26, .s (.agg [cI x4.Root, cI x4.Next, .d (.sl (List.map Node.cs x4.Nodes))]))] [(1, .blk [cI x4.Root, cI x4.Next, .d (.sl (List.map Node.cs x4.Nodes))] 46)] 4 0 rfl (fun _ => rfl) ⟨⟨_, rfl, rfl⟩, trivial⟩ ⟨⟨_, _, rfl, rfl⟩, trivial⟩) (Ok.ret ?_)))))
  obtain rfl := Option.some.inj hr
  exact ⟨_, rfl, .inl rfl, trivial⟩
end Go.Proofs.YtfoigppmcelgfaaDoor
end
section
set_option maxRecDepth 100000
namespace Go.Proofs.YtfoigppmcelgfaaDoor
open Go Go.E2
theorem b_New_c (l : (List Int)) {r : widgetrybase_Src} (hr : b_New l = some r) : Con Tryd.prog 7 [.c (.d (.sl (List.map (eInt .i64) l)))] [] (.s (.c (.loc 0 0))) [(0, .blk [.d (.sl (List.map (eInt .i64) r.L)), cI r.At] 77)] := by
  unfold b_New at hr
  refine Con.of_ok 11 0 [.tmp 2] [(0, .s (.c (.d (.sl (List.map (eInt .i64) l)))))] Tryd.func7 rfl rfl rfl rfl rfl rfl rfl rfl fun w g M ρ _ => (Ok.seq (Ok.region (OkOps.y (.c (.d (.v (.pointer none)))) (OkOps.nil ?_))))
  obtain ⟨k2, hk2, hr⟩ := jn_some hr
  refine Ok.join (fun (s1 : (List Int)) => ⟨[(0, .s (.c (.d (.sl (List.map (eInt .i64) s1)))))], [], 0⟩) k2 r (fun s1 hr => ?_) ?_
  rw [hk2] at hr
  refine Ok.seq (Ok.region (OkOps.y (.c (.d (.sl (List.map (eInt .i64) s1)))) (OkOps.y (.agg [.d (.sl (List.map (eInt .i64) s1)), cI 0]) (OkOps.m 0 (triBox (j := 0) (cs := [.d (.sl (List.map (eInt .i64) s1)), cI 0]) rfl rfl rfl rfl rfl) (OkOps.y (.c (.loc 0 0)) (OkOps.nil (Ok.ret ?_)))))))
  obtain rfl := Option.some.inj hr
  exact ⟨_, rfl, .inl rfl, ⟨rfl, trivial⟩⟩
  clear hk2
  refine Ok.seq (Ok.region (OkOps.y (.c (.d (.sl (List.map (eInt .i64) l)))) (OkOps.q (triLen (enc := (eInt .i64)) l rfl rfl trivial rfl) (OkOps.y (aB (decide ((l.length : Int) > 4000))) (OkOps.nil ?_)))))
  refine Ok.cond (b := decide ((l.length : Int) > 4000)) rfl (fun h3 => ?_) (fun h3 => ?_)
  have hr := selT h3 hr
  refine Ok.region (OkOps.y (.c (.d (.sl (List.map (eInt .i64) l)))) ?_)
  obtain ⟨x4, hx4, hr⟩ := bind_some hr
  refine OkOps.q (triSlc (enc := (eInt .i64)) (L := l) hx4 rfl rfl rfl (.inl ⟨rfl, rfl⟩) (.inr ⟨_, rfl⟩) rfl (fun _ => rfl) trivial rfl) (OkOps.y (.c (.d (.sl (List.map (eInt .i64) x4)))) (OkOps.nil ?_))
  exact ⟨x4, hr, (Conv.mk (tau []) ⟨⟨_, rfl, .inl rfl⟩, trivial⟩ trivial rfl rfl rfl rfl)⟩
  have hr := selF h3 hr
  refine Ok.skip ?_
  exact ⟨l, hr, (Conv.mk (tau []) ⟨⟨_, rfl, .inl rfl⟩, trivial⟩ trivial rfl rfl rfl rfl)⟩
theorem b_Src_N_c (p_s : widgetrybase_Src) (p_n : Int) {r : Int × widgetrybase_Src} (hr : b_Src_N p_s p_n = some r) : Con Tryd.prog 10 [.c (.loc 0 0), aI p_n] [(0, .blk [.d (.sl (List.map (eInt .i64) p_s.L)), cI p_s.At] 77)] (.s (aI r.1)) [(0, .blk [.d (.sl (List.map (eInt .i64) r.2.L)), cI r.2.At] 77)] := by
  unfold b_Src_N at hr
  refine Con.of_ok 45 0 [.tmp 4] [(0, .s (.c (.loc 0 0))), (1, .s (aI p_n))] Tryd.func10 rfl rfl rfl rfl rfl rfl rfl rfl fun w g M ρ _ => (Ok.seq (Ok.region (OkOps.y (aI 0) (OkOps.nil (Ok.seq (Ok.seq (Ok.regionD (by kernel_rfl) (OkD.x (.c (.loc 0 0)) rfl trivial rfl (OkD.x (.c (.loc 0 0)) rfl trivial rfl (OkD.x (.c (.loc 0 1)) rfl trivial rfl (OkD.x (aI p_s.At) rfl trivial rfl (OkD.x (.c (.loc 0 0)) rfl trivial rfl (OkD.x (.c (.loc 0 0)) rfl trivial rfl (OkD.x (.c (.loc 0 0)) rfl trivial rfl (OkD.x (.c (.d (.sl (List.map (eInt .i64) p_s.L)))) rfl trivial rfl ?_)))))))))))))))
  refine OkD.q (triLen (enc := (eInt .i64)) p_s.L rfl rfl trivial rfl) (OkD.x (aB (decide (p_s.At ≥ (p_s.L.length : Int)))) rfl trivial rfl (OkD.x (aB (decide (p_s.At ≥ (p_s.L.length : Int)))) rfl trivial rfl (OkD.q (triQG (x := aI p_n) rfl rfl trivial rfl) (OkD.q (triQG (x := aB (decide (p_n < 1))) rfl rfl ⟨fun h => h, trivial⟩ rfl) ?_))))
  refine OkD.q (triOr rfl rfl (fun h => by rw [h]; rfl) rfl) ?_
  refine OkD.nil (by kernel_rfl) ?_
  refine Ok.cond (b := (decide (p_s.At ≥ (p_s.L.length : Int))) || (decide (p_n < 1))) rfl (fun h1 => ?_) (fun h1 => ?_)
  have hr := selT h1 hr
  refine Ok.seq (Ok.region (OkOps.y (aI 0) (OkOps.nil (Ok.ret ?_))))
  obtain rfl := Option.some.inj hr
  exact ⟨_, rfl, .inl rfl, ⟨rfl, trivial⟩⟩
  have hr := selF h1 hr
  refine Ok.skip (Ok.seq (Ok.regionD (by kernel_rfl) (OkD.x (.c (.loc 0 0)) rfl trivial rfl (OkD.x (.c (.loc 0 0)) rfl trivial rfl (OkD.x (.c (.loc 0 0)) rfl trivial rfl (OkD.x (.c (.d (.sl (List.map (eInt .i64) p_s.L)))) rfl trivial rfl (OkD.x (.c (.loc 0 0)) rfl trivial rfl (OkD.x (.c (.loc 0 0)) rfl trivial rfl (OkD.x (.c (.loc 0 1)) rfl trivial rfl (OkD.x (aI p_s.At) rfl trivial rfl ?_))))))))))
  obtain ⟨x2, hx2, hr⟩ := bind_some hr
  refine OkD.q (triIdx (enc := (eInt .i64)) (L := p_s.L) (row := [dI x2]) hx2 rfl rfl rfl rfl (fun _ => rfl) trivial rfl) (OkD.x (aI x2) rfl trivial rfl (OkD.x (aI p_n) rfl trivial rfl ?_))
  obtain ⟨x3, hx3, hr⟩ := bind_some hr
  refine OkD.q (triRem hx3 rfl rfl trivial rfl) (OkD.x (aI x3) rfl trivial rfl (OkD.nil (by kernel_rfl) (Ok.seq (Ok.region (OkOps.y (.c (.loc 0 0)) (OkOps.y (.c (.loc 0 0)) (OkOps.y (.c (.loc 0 1)) (OkOps.y (aI p_s.At) (OkOps.y (aI (IntKind.i64.wrap (p_s.At + 1))) (OkOps.y (.c (.loc 0 0)) (OkOps.y (.c (.loc 0 1)) (OkOps.w (triStore (cs' := [.d (.sl (List.map (eInt .i64) p_s.L)), cI (IntKind.i64.wrap (p_s.At + 1))]) rfl rfl rfl rfl rfl rfl rfl rfl rfl) (OkOps.nil ?_)))))))))))))
  obtain ⟨k5, hk5, hr⟩ := jn_some hr
  refine Ok.join (fun (s4 : Int) => ⟨[(5, .s (aI s4))], [(0, .blk [.d (.sl (List.map (eInt .i64) p_s.L)), cI (IntKind.i64.wrap (p_s.At + 1))] 77)], 0⟩) k5 r (fun s4 hr => ?_) ?_
  rw [hk5] at hr
  refine Ok.seq (Ok.region (OkOps.y (aI s4) (OkOps.y (aI s4) (OkOps.nil (Ok.ret ?_)))))
  obtain rfl := Option.some.inj hr
  exact ⟨_, rfl, .inl rfl, ⟨rfl, trivial⟩⟩
  clear hk5
  refine Ok.seq (Ok.region (OkOps.y (aI x3) (OkOps.y (aB (decide (x3 < 0))) (OkOps.nil ?_))))
  refine Ok.cond (b := decide (x3 < 0)) rfl (fun h6 => ?_) (fun h6 => ?_)
  have hr := selT h6 hr
  refine Ok.region (OkOps.y (aI x3) (OkOps.y (aI p_n) (OkOps.y (aI (IntKind.i64.wrap (x3 + p_n))) (OkOps.y (aI (IntKind.i64.wrap (x3 + p_n))) (OkOps.nil ?_)))))
  exact ⟨IntKind.i64.wrap (x3 + p_n), hr, (Conv.mk (tau []) ⟨⟨_, rfl, .inl rfl⟩, trivial⟩ ⟨rfl, trivial⟩ rfl rfl rfl rfl)⟩
  have hr := selF h6 hr
  refine Ok.skip ?_
  exact ⟨x3, hr, (Conv.mk (tau []) ⟨⟨_, rfl, .inl rfl⟩, trivial⟩ ⟨rfl, trivial⟩ rfl rfl rfl rfl)⟩
end Go.Proofs.YtfoigppmcelgfaaDoor
end
section
set_option maxRecDepth 100000
namespace Go.Proofs.YtfoigppmcelgfaaDoor
open Go Go.E2
theorem l31_styles_c (t : Tree) {r : (List Styled)} (hr : l31_styles t = some r) : Con Tryd.prog 17 [.agg [cI t.Root, cI t.Next, .d (.sl (List.map Node.cs t.Nodes))]] [] (.s (.c (.d (.sl (List.map Styled.cs r))))) [] := by
  unfold l31_styles at hr
  refine Con.of_ok 24 0 [.tmp 2] [(0, .s (.agg [cI t.Root, cI t.Next, .d (.sl (List.map Node.cs t.Nodes))]))] Tryd.func17 rfl rfl rfl rfl rfl rfl rfl rfl fun w g M ρ _ => (Ok.seq (Ok.region (OkOps.m 0 (triBox (j := 0) (cs := [cI t.Root, cI t.Next, .d (.sl (List.map Node.cs t.Nodes))]) rfl rfl rfl rfl rfl) (OkOps.y (.c (.d (.v (.slice none 0 0)))) (OkOps.nil (Ok.seq (Ok.region (OkOps.y (.c (.d (.v (.slice none 0 0)))) (OkOps.nil ?_)))))))))
  obtain ⟨k2, hk2, hr⟩ := jn_some hr
  refine Ok.join (fun (s1 : (List Styled)) => ⟨[(3, .s (.c (.tl 1004 (List.map Styled.cs s1))))], [(1004, .tail 23)], 0⟩) k2 r (fun s1 hr => ?_) ?_
  rw [hk2] at hr
  refine Ok.seq (Ok.region (OkOps.y (.c (.tl 1004 (List.map Styled.cs s1))) (OkOps.y (.c (.tl 1004 (List.map Styled.cs s1))) (OkOps.nil (Ok.ret ?_)))))
  obtain rfl := Option.some.inj hr
  exact ⟨_, rfl, .inr rfl, trivial⟩
  clear hk2
  refine Ok.seq (Ok.region (OkOps.y (aI 0) (OkOps.nil (Ok.block (Ok.loopK (fun (s3 : (List Styled) × Int) => ⟨[(1, .s (.c (.loc 0 0))), (3, .s (.c (.tl 1007 (List.map Styled.cs s3.1)))), (4, .s (aI s3.2))], [(0, .blk [cI t.Root, cI t.Next, .d (.sl (List.map Node.cs t.Nodes))] 46), (1007, .tail 23)], 0⟩) hr (Conv.trans (Conv.nil 3 1009 23 0 rfl rfl) (Conv.mk (tau [(1007, 1009)]) ⟨⟨_, rfl, .inl rfl⟩, ⟨_, rfl, .inl rfl⟩, ⟨_, rfl, .inl rfl⟩, trivial⟩ ⟨rfl, rfl, trivial⟩ rfl rfl rfl rfl)) ?_)))))
  clear hr
  intro again4 s3 hr
  unfold l31_styles_L1 at hr
  refine Ok.seq (Ok.seq (Ok.region (OkOps.y (aI s3.2) (OkOps.y (.c (.loc 0 2)) (OkOps.y (.c (.d (.sl (List.map Node.cs t.Nodes)))) (OkOps.q (triLen (enc := Node.cs) t.Nodes rfl rfl trivial rfl) (OkOps.y (aB (decide (s3.2 < (t.Nodes.length : Int)))) (OkOps.nil ?_))))))))
  refine Ok.cond (b := decide (s3.2 < (t.Nodes.length : Int))) rfl (fun h5 => ?_) (fun h5 => ?_)
  have hr := selT h5 hr
  refine Ok.skip (Ok.seq (Ok.block (Ok.regionD (by kernel_rfl) (OkD.x (.c (.tl 1007 (List.map Styled.cs s3.1))) rfl trivial rfl (OkD.x (.c (.loc 0 2)) rfl trivial rfl (OkD.x (.c (.d (.sl (List.map Node.cs t.Nodes)))) rfl trivial rfl (OkD.x (aI s3.2) rfl trivial rfl ?_)))))))
  obtain ⟨x6, hx6, hr⟩ := bind_some hr
  refine OkD.q (triIdx (enc := Node.cs) (L := t.Nodes) (row := [dI x6.ID, dI x6.Parent, dI x6.Kind, dS x6.Key, .sl (List.map Attr.cs x6.Attrs), .sl (List.map Action.cs x6.Actions), .sl (List.map (eInt .i64) x6.Kids)]) hx6 rfl rfl rfl rfl (fun _ => rfl) trivial rfl) (OkD.x (.c (.pt [dI x6.ID, dI x6.Parent, dI x6.Kind, dS x6.Key, .sl (List.map Attr.cs x6.Attrs), .sl (List.map Action.cs x6.Actions), .sl (List.map (eInt .i64) x6.Kids)])) rfl trivial rfl (OkD.x (aI x6.ID) rfl trivial rfl ?_))
  obtain ⟨x7, hx7, hr⟩ := bind_some hr
  refine OkD.q (triCl (tau []) (.s (.agg [cI (x7 0), cI (x7 1), cI (x7 2), cI (x7 3), cI (x7 4), cI (x7 5), cI (x7 6), cI (x7 7), cI (x7 8), cI (x7 9), cI (x7 10), cI (x7 11), cI (x7 12), cI (x7 13), cI (x7 14), cI (x7 15), cI (x7 16), cI (x7 17), cI (x7 18), cI (x7 19), cI (x7 20), cI (x7 21)])) [] (r17_Initial_c  hx7) rfl trivial trivial entry9 trivial) (OkD.q (triQ (x := .agg [cI x6.ID, cI (x7 0), cI (x7 1), cI (x7 2), cI (x7 3), cI (x7 4), cI (x7 5), cI (x7 6), cI (x7 7), cI (x7 8), cI (x7 9), cI (x7 10), cI (x7 11), cI (x7 12), cI (x7 13), cI (x7 14), cI (x7 15), cI (x7 16), cI (x7 17), cI (x7 18), cI (x7 19), cI (x7 20), cI (x7 21)]) (by kernel_rfl) trivial rfl) (OkD.m 0 (triBST (sz := 23) (enc := Styled.cs) (j := 1) ([(Styled.mk x6.ID x7)]) (cs := [cI x6.ID, cI (x7 0), cI (x7 1), cI (x7 2), cI (x7 3), cI (x7 4), cI (x7 5), cI (x7 6), cI (x7 7), cI (x7 8), cI (x7 9), cI (x7 10), cI (x7 11), cI (x7 12), cI (x7 13), cI (x7 14), cI (x7 15), cI (x7 16), cI (x7 17), cI (x7 18), cI (x7 19), cI (x7 20), cI (x7 21)]) rfl rfl rfl rfl (by kernel_rfl) rfl rfl rfl (fun _ => rfl) trivial rfl rfl) ?_))
  obtain ⟨x8, hx8, hr⟩ := bind_some hr
  refine OkD.m2 0 (triApp (enc := Styled.cs) (L := s3.1) (X := [(Styled.mk x6.ID x7)]) (j := 1007) (j' := 2) hx8 rfl rfl rfl rfl rfl rfl (fun _ => rfl) (fun _ => rfl) (by decide) trivial rfl rfl) (OkD.x (.c (.tl 2 (List.map Styled.cs x8))) rfl trivial rfl (OkD.nil (by kernel_rfl) (Ok.region (OkOps.y (aI s3.2) (OkOps.y (aI (IntKind.i64.wrap (s3.2 + 1))) (OkOps.y (aI (IntKind.i64.wrap (s3.2 + 1))) (OkOps.nil ?_)))))))
  exact ⟨(x8, IntKind.i64.wrap (s3.2 + 1)), hr, (Conv.mk (tau [(1007, 2)]) ⟨⟨_, rfl, .inl rfl⟩, ⟨_, rfl, .inl rfl⟩, ⟨_, rfl, .inl rfl⟩, trivial⟩ ⟨rfl, rfl, trivial⟩ rfl rfl rfl rfl)⟩
  have hr := selF h5 hr
  refine Ok.exit ?_
  exact ⟨s3.1, hr, (Conv.mk (tau [(1004, 1007)]) ⟨⟨_, rfl, .inl rfl⟩, trivial⟩ ⟨rfl, trivial⟩ rfl rfl rfl rfl)⟩
theorem l31_awake_c  {r : Bool} (hr : l31_awake  = some r) : Con Tryd.prog 18 [] [] (.s (aB r)) [] := by
  unfold l31_awake at hr
  refine Con.of_ok 65 0 [.tmp 0] [] Tryd.func18 rfl rfl rfl rfl rfl rfl rfl rfl fun w g M ρ _ => (Ok.seq (Ok.region (OkOps.y (aB false) (OkOps.nil (Ok.seq (Ok.region (OkOps.y (.agg [cI 3, cS (ByteArray.mk #[98]), .d (.v (.slice none 0 0)), .d (.v (.slice none 0 0)), .d (.v (.slice none 0 0))]) (OkOps.m 0 (triAlloc (j := 0) (cs := [cI 0, cS ByteArray.empty, .d (.v (.slice none 0 0)), .d (.v (.slice none 0 0)), .d (.v (.slice none 0 0))]) rfl rfl rfl rfl) (OkOps.w (triStore (cs' := [cI 3, cS (ByteArray.mk #[98]), .d (.v (.slice none 0 0)), .d (.v (.slice none 0 0)), .d (.v (.slice none 0 0))]) rfl rfl rfl rfl rfl rfl rfl rfl rfl) (OkOps.nil (Ok.seq (Ok.region (OkOps.y (.agg [cI 4, cS ByteArray.empty, .d (.v (.slice none 0 0)), .d (.v (.slice none 0 0)), .d (.v (.slice none 0 0))]) ?_)))))))))))))
  refine OkOps.m 0 (triBST (sz := 5) (enc := View.cs) (j := 1) ([(View.mk 4 ByteArray.empty ([] : (List Attr)) ([] : (List Action)) ([] : (List View)))]) rfl rfl rfl rfl rfl (rows := [[dI 4, dS ByteArray.empty, .sl [], .sl [], .sl []]]) (by simp only [List.map, View.cs_eq]) rfl rfl (fun x => by rw [View.cs_eq]; rfl) trivial rfl rfl) ?_
  refine OkOps.y (.agg [cI 12, cS (ByteArray.mk #[100]), .d (.v (.slice none 0 0)), .d (.v (.slice none 0 0)), .tl 1 (List.map View.cs ([(View.mk 4 ByteArray.empty ([] : (List Attr)) ([] : (List Action)) ([] : (List View)))]))]) (OkOps.m 0 (triAlloc (j := 2) (cs := [cI 0, cS ByteArray.empty, .d (.v (.slice none 0 0)), .d (.v (.slice none 0 0)), .d (.v (.slice none 0 0))]) rfl rfl rfl rfl) (OkOps.w (triStore (cs' := [cI 12, cS (ByteArray.mk #[100]), .d (.v (.slice none 0 0)), .d (.v (.slice none 0 0)), .tl 1 (List.map View.cs ([(View.mk 4 ByteArray.empty ([] : (List Attr)) ([] : (List Action)) ([] : (List View)))]))]) rfl rfl rfl rfl rfl rfl rfl rfl rfl) (OkOps.nil (Ok.seq (Ok.region (OkOps.y (.agg [cI 3, cS (ByteArray.mk #[98]), .d (.v (.slice none 0 0)), .d (.v (.slice none 0 0)), .d (.v (.slice none 0 0))]) ?_))))))
  refine OkOps.m 0 (triBST (sz := 5) (enc := View.cs) (j := 3) ([(View.mk 3 (ByteArray.mk #[98]) ([] : (List Attr)) ([] : (List Action)) ([] : (List View)))]) rfl rfl rfl rfl rfl (rows := [[dI 3, dS (ByteArray.mk #[98]), .sl [], .sl [], .sl []]]) (by simp only [List.map, View.cs_eq]) rfl rfl (fun x => by rw [View.cs_eq]; rfl) trivial rfl rfl) ?_
  refine OkOps.y (.agg [cI 1, cS ByteArray.empty, .d (.v (.slice none 0 0)), .d (.v (.slice none 0 0)), .tl 3 (List.map View.cs ([(View.mk 3 (ByteArray.mk #[98]) ([] : (List Attr)) ([] : (List Action)) ([] : (List View)))]))]) ?_
  obtain ⟨x1, hx1, hr⟩ := bind_some hr
  refine OkOps.q (triCl (tau []) (.tup [.agg [cI x1.1.Root, cI x1.1.Next, .d (.sl (List.map Node.cs x1.1.Nodes))], aI x1.2]) [] (r14_Build_c _ _ hx1) rfl ⟨.inr rfl, .inl rfl, trivial⟩ trivial entry11 trivial) (OkOps.q (triMv (v := .tup [.agg [cI x1.1.Root, cI x1.1.Next, .d (.sl (List.map Node.cs x1.1.Nodes))], aI x1.2]) rfl rfl) (OkOps.y (.agg [cI x1.1.Root, cI x1.1.Next, .d (.sl (List.map Node.cs x1.1.Nodes))]) (OkOps.y (aI x1.2) (OkOps.m 0 (triAlloc (j := 4) (cs := [cI 0, cI 0, .d (.v (.slice none 0 0))]) rfl rfl rfl rfl) (OkOps.w (triStore (cs' := [cI x1.1.Root, cI x1.1.Next, .d (.sl (List.map Node.cs x1.1.Nodes))]) rfl rfl rfl rfl rfl rfl rfl rfl rfl) (OkOps.y (aI x1.2) (OkOps.nil (Ok.seq (Ok.region (OkOps.y (.agg [cI 3, cS (ByteArray.mk #[98]), .d (.v (.slice none 0 0)), .d (.v (.slice none 0 0)), .d (.v (.slice none 0 0))]) (OkOps.y (.agg [cI 12, cS (ByteArray.mk #[100]), .d (.v (.slice none 0 0)), .d (.v (.slice none 0 0)), .tl 1 (List.map View.cs ([(View.mk 4 ByteArray.empty ([] : (List Attr)) ([] : (List Action)) ([] : (List View)))]))]) ?_)))))))))))
  refine OkOps.m 0 (triBST (sz := 5) (enc := View.cs) (j := 5) ([(View.mk 3 (ByteArray.mk #[98]) ([] : (List Attr)) ([] : (List Action)) ([] : (List View))), (View.mk 12 (ByteArray.mk #[100]) ([] : (List Attr)) ([] : (List Action)) ([(View.mk 4 ByteArray.empty ([] : (List Attr)) ([] : (List Action)) ([] : (List View)))]))]) rfl rfl rfl rfl rfl (rows := [[dI 3, dS (ByteArray.mk #[98]), .sl [], .sl [], .sl []], [dI 12, dS (ByteArray.mk #[100]), .sl [], .sl [], .sl (List.map View.cs ([(View.mk 4 ByteArray.empty ([] : (List Attr)) ([] : (List Action)) ([] : (List View)))]))]]) (by simp only [List.map, View.cs_eq]) rfl rfl (fun x => by rw [View.cs_eq]; rfl) trivial rfl rfl) ?_
  refine OkOps.y (.agg [cI 1, cS ByteArray.empty, .d (.v (.slice none 0 0)), .d (.v (.slice none 0 0)), .tl 5 (List.map View.cs ([(View.mk 3 (ByteArray.mk #[98]) ([] : (List Attr)) ([] : (List Action)) ([] : (List View))), (View.mk 12 (ByteArray.mk #[100]) ([] : (List Attr)) ([] : (List Action)) ([(View.mk 4 ByteArray.empty ([] : (List Attr)) ([] : (List Action)) ([] : (List View)))]))]))]) ?_
  obtain ⟨x2, hx2, hr⟩ := bind_some hr
  refine OkOps.q (triCl (tau []) (.tup [.agg [cI x2.1.Root, cI x2.1.Next, .d (.sl (List.map Node.cs x2.1.Nodes))], aI x2.2]) [] (r14_Build_c _ _ hx2) rfl ⟨.inr rfl, .inl rfl, trivial⟩ trivial entry11 trivial) (OkOps.q (triMv (v := .tup [.agg [cI x2.1.Root, cI x2.1.Next, .d (.sl (List.map Node.cs x2.1.Nodes))], aI x2.2]) rfl rfl) (OkOps.y (.agg [cI x2.1.Root, cI x2.1.Next, .d (.sl (List.map Node.cs x2.1.Nodes))]) (OkOps.y (aI x2.2) (OkOps.m 0 (triAlloc (j := 6) (cs := [cI 0, cI 0, .d (.v (.slice none 0 0))]) rfl rfl rfl rfl) (OkOps.w (triStore (cs' := [cI x2.1.Root, cI x2.1.Next, .d (.sl (List.map Node.cs x2.1.Nodes))]) rfl rfl rfl rfl rfl rfl rfl rfl rfl) (OkOps.y (aI x2.2) (OkOps.nil (Ok.seq (Ok.regionD (by kernel_rfl) (OkD.x (.agg [cI x1.1.Root, cI x1.1.Next, .d (.sl (List.map Node.cs x1.1.Nodes))]) rfl trivial rfl (OkD.x (.agg [cI x2.1.Root, cI x2.1.Next, .d (.sl (List.map Node.cs x2.1.Nodes))]) rfl trivial rfl (OkD.x (.agg [cI x1.1.Root, cI x1.1.Next, .d (.sl (List.map Node.cs x1.1.Nodes))]) rfl trivial rfl ?_))))))))))))
  obtain ⟨x3, hx3, hr⟩ := bind_some hr
  refine OkD.q (triCl (tau []) (.s (.c (.d (.sl (List.map Styled.cs x3))))) [] (l31_styles_c _ hx3) rfl ⟨.inl rfl, trivial⟩ trivial entry17 trivial) (OkD.x (.agg [cI x2.1.Root, cI x2.1.Next, .d (.sl (List.map Node.cs x2.1.Nodes))]) rfl trivial rfl ?_)
  obtain ⟨x4, hx4, hr⟩ := bind_some hr
  refine OkD.q (triCl (tau []) (.s (.c (.d (.sl (List.map Styled.cs x4))))) [] (l31_styles_c _ hx4) rfl ⟨.inl rfl, trivial⟩ trivial entry17 trivial) (OkD.x (.agg [cI 2, cB_ false, .d (.v (.slice none 0 0))]) rfl trivial rfl ?_)
  obtain ⟨x5, hx5, hr⟩ := bind_some hr
  refine OkD.q (triCl (tau []) (.s (.agg [cI x5.Focused, cB_ x5.Visible, .d (.sl (List.map (eInt .i64) x5.Past))])) [] (fo_Repair_c _ _ _ _ _ hx5) rfl ⟨.inl rfl, .inl rfl, .inl rfl, .inl rfl, .inr rfl, trivial⟩ trivial entry22 trivial) (OkD.m 0 (triAlloc (j := 7) (cs := [cI 0, cB_ false, .d (.v (.slice none 0 0))]) rfl rfl rfl rfl) (OkD.w (triStore (cs' := [cI x5.Focused, cB_ x5.Visible, .d (.sl (List.map (eInt .i64) x5.Past))]) rfl rfl rfl rfl rfl rfl rfl rfl rfl) (OkD.nil (by kernel_rfl) (Ok.seq (Ok.regionD (by kernel_rfl) (OkD.x (.agg [cI x2.1.Root, cI x2.1.Next, .d (.sl (List.map Node.cs x2.1.Nodes))]) rfl trivial rfl (OkD.x (.agg [cI x1.1.Root, cI x1.1.Next, .d (.sl (List.map Node.cs x1.1.Nodes))]) rfl trivial rfl (OkD.x (.agg [cI x2.1.Root, cI x2.1.Next, .d (.sl (List.map Node.cs x2.1.Nodes))]) rfl trivial rfl ?_))))))))
  obtain ⟨x6, hx6, hr⟩ := bind_some hr
  refine OkD.q (triCl (tau []) (.s (.c (.d (.sl (List.map Styled.cs x6))))) [] (l31_styles_c _ hx6) rfl ⟨.inl rfl, trivial⟩ trivial entry17 trivial) (OkD.x (.agg [cI x1.1.Root, cI x1.1.Next, .d (.sl (List.map Node.cs x1.1.Nodes))]) rfl trivial rfl ?_)
  obtain ⟨x7, hx7, hr⟩ := bind_some hr
  refine OkD.q (triCl (tau []) (.s (.c (.d (.sl (List.map Styled.cs x7))))) [] (l31_styles_c _ hx7) rfl ⟨.inl rfl, trivial⟩ trivial entry17 trivial) (OkD.x (.agg [cI x5.Focused, cB_ x5.Visible, .d (.sl (List.map (eInt .i64) x5.Past))]) rfl trivial rfl ?_)
  obtain ⟨x8, hx8, hr⟩ := bind_some hr
  refine OkD.q (triCl (tau []) (.s (.agg [cI x8.Focused, cB_ x8.Visible, .d (.sl (List.map (eInt .i64) x8.Past))])) [] (fo_Repair_c _ _ _ _ _ hx8) rfl ⟨.inl rfl, .inl rfl, .inl rfl, .inl rfl, .inl rfl, trivial⟩ trivial entry22 trivial) (OkD.m 0 (triAlloc (j := 8) (cs := [cI 0, cB_ false, .d (.v (.slice none 0 0))]) rfl rfl rfl rfl) (OkD.w (triStore (cs' := [cI x8.Focused, cB_ x8.Visible, .d (.sl (List.map (eInt .i64) x8.Past))]) rfl rfl rfl rfl rfl rfl rfl rfl rfl) (OkD.nil (by kernel_rfl) (Ok.seq (Ok.region (OkOps.y (.c (.loc 7 0)) (OkOps.y (aI x5.Focused) (OkOps.y (aB (x5.Focused == 4)) (OkOps.y (aB (x5.Focused == 4)) (OkOps.q (triQG (x := .c (.loc 7 2)) rfl rfl trivial rfl) (OkOps.q (triQG (x := .c (.d (.sl (List.map (eInt .i64) x5.Past)))) rfl rfl ⟨fun h => h, trivial⟩ rfl) (OkOps.q (triLenG (enc := (eInt .i64)) x5.Past rfl rfl rfl ⟨fun h => h, trivial⟩ rfl) (OkOps.q (triQG (x := aB ((x5.Past.length : Int) == 1)) rfl rfl ⟨fun h => h, trivial⟩ rfl) (OkOps.q (triAnd rfl rfl (fun h => h) rfl) (OkOps.y (aB ((x5.Focused == 4) && ((x5.Past.length : Int) == 1))) ?_)))))))))))))))
  refine OkOps.q (triQG (x := .c (.loc 7 2)) rfl rfl trivial rfl) (OkOps.q (triQG (x := .c (.d (.sl (List.map (eInt .i64) x5.Past)))) rfl rfl ⟨fun h => h, trivial⟩ rfl) ?_)
  obtain ⟨x9, hx9, hr⟩ := bind_some hr
  refine OkOps.q (triIdxG (enc := (eInt .i64)) (L := x5.Past) (row := [dI x9]) (gO_t hx9) rfl rfl rfl rfl rfl (fun _ => rfl) ⟨fun h => h, trivial⟩ rfl) (OkOps.q (triQG (x := aI x9) rfl rfl ⟨fun h => h, trivial⟩ rfl) (OkOps.q (triQG (x := aB (x9 == 2)) rfl rfl ⟨fun h => h, trivial⟩ rfl) (OkOps.q (triAnd rfl rfl (fun h => h) rfl) (OkOps.y (aB (((x5.Focused == 4) && ((x5.Past.length : Int) == 1)) && (x9 == 2))) (OkOps.q (triQG (x := .c (.loc 8 0)) rfl rfl trivial rfl) (OkOps.q (triQG (x := aI x8.Focused) rfl rfl ⟨fun h => h, trivial⟩ rfl) (OkOps.q (triQG (x := aB (x8.Focused == 2)) rfl rfl ⟨fun h => h, trivial⟩ rfl) (OkOps.q (triAnd rfl rfl (fun h => h) rfl) (OkOps.y (aB ((((x5.Focused == 4) && ((x5.Past.length : Int) == 1)) && (x9 == 2)) && (x8.Focused == 2))) (OkOps.nil (Ok.ret ?_)))))))))))
  obtain rfl := Option.some.inj hr
  exact ⟨_, rfl, .inl rfl, trivial⟩
theorem b_Src_More_c (p_s : widgetrybase_Src) {r : Bool × widgetrybase_Src} (hr : b_Src_More p_s = some r) : Con Tryd.prog 19 [.c (.loc 0 0)] [(0, .blk [.d (.sl (List.map (eInt .i64) p_s.L)), cI p_s.At] 77)] (.s (aB r.1)) [(0, .blk [.d (.sl (List.map (eInt .i64) r.2.L)), cI r.2.At] 77)] := by
  unfold b_Src_More at hr
  refine Con.of_ok 13 0 [.tmp 2] [(0, .s (.c (.loc 0 0)))] Tryd.func19 rfl rfl rfl rfl rfl rfl rfl rfl fun w g M ρ _ => (Ok.seq (Ok.region (OkOps.y (aB false) (OkOps.nil (Ok.seq (Ok.regionD (by kernel_rfl) (OkD.x (.c (.loc 0 0)) rfl trivial rfl (OkD.x (.c (.loc 0 0)) rfl trivial rfl (OkD.x (.c (.loc 0 1)) rfl trivial rfl (OkD.x (aI p_s.At) rfl trivial rfl (OkD.x (.c (.loc 0 0)) rfl trivial rfl (OkD.x (.c (.loc 0 0)) rfl trivial rfl (OkD.x (.c (.loc 0 0)) rfl trivial rfl (OkD.x (.c (.d (.sl (List.map (eInt .i64) p_s.L)))) rfl trivial rfl (OkD.q (triLen (enc := (eInt .i64)) p_s.L rfl rfl trivial rfl) ?_)))))))))))))))
  refine OkD.x (aB (decide (p_s.At < (p_s.L.length : Int)))) rfl trivial rfl (OkD.x (aB (decide (p_s.At < (p_s.L.length : Int)))) rfl trivial rfl (OkD.nil (by kernel_rfl) (Ok.ret ?_)))
  obtain rfl := Option.some.inj hr
  exact ⟨_, rfl, .inl rfl, ⟨rfl, trivial⟩⟩
theorem l31_index_c (l : (List Int)) (p_n : Int) {r : Int} (hr : l31_index l p_n = some r) : Con Tryd.prog 21 [.c (.d (.sl (List.map (eInt .i64) l))), aI p_n] [] (.s (aI r)) [] := by
  unfold l31_index at hr
  refine Con.of_ok 19 0 [.tmp 4] [(0, .s (.c (.d (.sl (List.map (eInt .i64) l))))), (1, .s (aI p_n))] Tryd.func21 rfl rfl rfl rfl rfl rfl rfl rfl fun w g M ρ _ => (Ok.seq (Ok.region (OkOps.y (aI 0) (OkOps.nil ?_))))
  obtain ⟨k2, hk2, hr⟩ := jn_some hr
  refine Ok.join (fun (s1 : Unit) => ⟨[], [], 0⟩) k2 r (fun s1 hr => ?_) ?_
  rw [hk2] at hr
  refine Ok.seq (Ok.region (OkOps.y (aI (-1)) (OkOps.nil (Ok.ret ?_))))
  obtain rfl := Option.some.inj hr
  exact ⟨_, rfl, .inl rfl, trivial⟩
  clear hk2
  refine Ok.seq (Ok.region (OkOps.y (aI 0) (OkOps.nil (Ok.block (Ok.loopK (fun (s3 : Int) => ⟨[(0, .s (.c (.d (.sl (List.map (eInt .i64) l))))), (1, .s (aI p_n)), (5, .s (aI s3))], [], 0⟩) hr (Conv.mk (tau []) ⟨⟨_, rfl, .inl rfl⟩, ⟨_, rfl, .inl rfl⟩, ⟨_, rfl, .inl rfl⟩, trivial⟩ trivial rfl rfl rfl rfl) ?_)))))
  clear hr
  intro again4 s3 hr
  unfold l31_index_L1 at hr
  refine Ok.seq (Ok.seq (Ok.region (OkOps.y (aI s3) (OkOps.y (.c (.d (.sl (List.map (eInt .i64) l)))) (OkOps.q (triLen (enc := (eInt .i64)) l rfl rfl trivial rfl) (OkOps.y (aB (decide (s3 < (l.length : Int)))) (OkOps.nil ?_)))))))
  refine Ok.cond (b := decide (s3 < (l.length : Int))) rfl (fun h5 => ?_) (fun h5 => ?_)
  have hr := selT h5 hr
  refine Ok.skip (Ok.seq (Ok.block (Ok.seq (Ok.region (OkOps.y (.c (.d (.sl (List.map (eInt .i64) l)))) (OkOps.y (aI s3) ?_))))))
  obtain ⟨x6, hx6, hr⟩ := bind_some hr
  refine OkOps.q (triIdx (enc := (eInt .i64)) (L := l) (row := [dI x6]) hx6 rfl rfl rfl rfl (fun _ => rfl) trivial rfl) (OkOps.y (aI x6) (OkOps.y (aI p_n) (OkOps.y (aB (x6 == p_n)) (OkOps.nil ?_))))
  refine Ok.cond (b := x6 == p_n) rfl (fun h7 => ?_) (fun h7 => ?_)
  have hr := selT h7 hr
  refine Ok.seq (Ok.region (OkOps.y (aI s3) (OkOps.y (aI s3) (OkOps.nil (Ok.ret ?_)))))
  obtain rfl := Option.some.inj hr
  exact ⟨_, rfl, .inl rfl, trivial⟩
  have hr := selF h7 hr
  refine Ok.skip (Ok.region (OkOps.y (aI s3) (OkOps.y (aI (IntKind.i64.wrap (s3 + 1))) (OkOps.y (aI (IntKind.i64.wrap (s3 + 1))) (OkOps.nil ?_)))))
  exact ⟨IntKind.i64.wrap (s3 + 1), hr, (Conv.mk (tau []) ⟨⟨_, rfl, .inl rfl⟩, ⟨_, rfl, .inl rfl⟩, ⟨_, rfl, .inl rfl⟩, trivial⟩ trivial rfl rfl rfl rfl)⟩
  have hr := selF h5 hr
  refine Ok.exit ?_
  exact ⟨(), hr, (Conv.mk (tau []) trivial trivial rfl rfl rfl rfl)⟩
theorem l31_FocusPast_c (l : (List Int)) {r : Bool} (hr : l31_FocusPast l = some r) : Con Tryd.prog 5 [.c (.d (.sl (List.map (eInt .i64) l)))] [] (.s (aB r)) [] := by
  unfold l31_FocusPast at hr
  refine Con.of_ok 111 0 [.tmp 2] [(0, .s (.c (.d (.sl (List.map (eInt .i64) l)))))] Tryd.func5 rfl rfl rfl rfl rfl rfl rfl rfl fun w g M ρ _ => (Ok.seq (Ok.region (OkOps.y (aB false) (OkOps.nil (Ok.seq (Ok.region (OkOps.y (.c (.d (.sl (List.map (eInt .i64) l)))) ?_)))))))
  obtain ⟨x1, hx1, hr⟩ := bind_some hr
  refine OkOps.m 0 (triCall (tau [(0, 0)]) (.s (.c (.loc 0 0))) [(0, .blk [.d (.sl (List.map (eInt .i64) x1.L)), cI x1.At] 77)] (b_New_c _ hx1) rfl ⟨.inl rfl, trivial⟩ trivial entry7 trivial rfl rfl rfl rfl ⟨rfl, trivial⟩ rfl rfl rfl) (OkOps.y (.c (.loc 0 0)) (OkOps.nil (Ok.seq (Ok.region (OkOps.m 0 (triAlloc (j := 1) (cs := [cI 0, cB_ false, .d (.v (.slice none 0 0))]) rfl rfl rfl rfl) (OkOps.nil ?_))))))
  obtain ⟨k3, hk3, hr⟩ := jn_some hr
  refine Ok.join (fun (s2 : Unit) => ⟨[], [], 0⟩) k3 r (fun s2 hr => ?_) ?_
  rw [hk3] at hr
  refine Ok.seq (Ok.region ?_)
  obtain ⟨x4, hx4, hr⟩ := bind_some hr
  refine OkOps.q (triCl (tau []) (.s (aB x4)) [] (l31_awake_c  hx4) rfl trivial trivial entry18 trivial) (OkOps.y (aB x4) (OkOps.nil (Ok.ret ?_)))
  obtain rfl := Option.some.inj hr
  exact ⟨_, rfl, .inl rfl, trivial⟩
  clear hk3
  refine Ok.seq (Ok.region (OkOps.y (aI 0) (OkOps.nil (Ok.block (Ok.loopK (fun (s5 : Int × (List Int) × Int × Int × Bool × (List Int)) => ⟨[(3, .s (.c (.loc 0 0))), (4, .s (.c (.loc 1 0))), (5, .s (aI s5.1))], [(0, .blk [.d (.sl (List.map (eInt .i64) s5.2.1)), cI s5.2.2.1] 77), (1, .blk [cI s5.2.2.2.1, cB_ s5.2.2.2.2.1, .d (.sl (List.map (eInt .i64) s5.2.2.2.2.2))] 69)], 0⟩) hr (Conv.trans (Conv.norm 1 [cI 0, cB_ false, .d (.v (.slice none 0 0))] [cI 0, cB_ false, .d (.sl (List.map (eInt .i64) ([] : (List Int))))] 69 0 rfl rfl) (Conv.mk (tau []) ⟨⟨_, rfl, .inl rfl⟩, ⟨_, rfl, .inl rfl⟩, ⟨_, rfl, .inl rfl⟩, trivial⟩ ⟨rfl, rfl, trivial⟩ rfl rfl rfl rfl)) ?_)))))
  clear hr
  intro again6 s5 hr
  unfold l31_FocusPast_L2 at hr
  refine Ok.seq (Ok.seq (Ok.region (OkOps.y (aI s5.1) (OkOps.y (aB (decide (s5.1 < 60))) (OkOps.y (aB (decide (s5.1 < 60))) (OkOps.q (triQG (x := aI s5.1) rfl rfl trivial rfl) (OkOps.q (triQG (x := aB (decide (s5.1 < 4))) rfl rfl ⟨fun h => h, trivial⟩ rfl) (OkOps.q (triQG (x := aB (decide (s5.1 < 4))) rfl rfl ⟨fun h => h, trivial⟩ rfl) (OkOps.q (triQG (x := .c (.loc 0 0)) rfl rfl trivial rfl) ?_)))))))))
  obtain ⟨x7, hx7, hr⟩ := bind_some hr
  refine OkOps.m 0 (triCallGW (tau [(0, 0)]) (aB x7.1) [(0, .blk [.d (.sl (List.map (eInt .i64) x7.2.L)), cI x7.2.At] 77)] (fun hg => b_Src_More_c _ (selT hg hx7)) (fun hg => by cases selF hg hx7; rfl) rfl rfl ⟨.inl rfl, trivial⟩ ⟨fun h => h, trivial⟩ entry19 ⟨rfl, trivial⟩ rfl rfl rfl rfl rfl rfl rfl rfl) ?_
  refine OkOps.q (triOrG rfl rfl rfl (fun h => h) (fun h h2 => by rw [h, h2]; rfl) rfl) ?_
  refine OkOps.q (triAnd rfl rfl (fun h => h) rfl) (OkOps.nil ?_)
  refine Ok.cond (b := (decide (s5.1 < 60)) && ((decide (s5.1 < 4)) || x7.1)) rfl (fun h8 => ?_) (fun h8 => ?_)
  have hr := selT h8 hr
  refine Ok.skip ?_
  obtain ⟨k10, hk10, hr⟩ := jn_some hr
  refine Ok.join (fun (s9 : (List Int) × Int × Int × Bool × (List Int)) => ⟨[(3, .s (.c (.loc 0 0))), (4, .s (.c (.loc 1 0))), (5, .s (aI s5.1))], [(0, .blk [.d (.sl (List.map (eInt .i64) s9.1)), cI s9.2.1] 77), (1, .blk [cI s9.2.2.1, cB_ s9.2.2.2.1, .d (.sl (List.map (eInt .i64) s9.2.2.2.2))] 69)], 0⟩) k10 r (fun s9 hr => ?_) ?_
  rw [hk10] at hr
  refine Ok.region (OkOps.y (aI s5.1) (OkOps.y (aI (IntKind.i64.wrap (s5.1 + 1))) (OkOps.y (aI (IntKind.i64.wrap (s5.1 + 1))) (OkOps.nil ?_))))
  exact ⟨(IntKind.i64.wrap (s5.1 + 1), s9.1, s9.2.1, s9.2.2.1, s9.2.2.2.1, s9.2.2.2.2), hr, (Conv.mk (tau []) ⟨⟨_, rfl, .inl rfl⟩, ⟨_, rfl, .inl rfl⟩, ⟨_, rfl, .inl rfl⟩, trivial⟩ ⟨rfl, rfl, trivial⟩ rfl rfl rfl rfl)⟩
  clear hk10
  refine Ok.block (Ok.seq (Ok.regionD (by kernel_rfl) (OkD.x (.c (.loc 1 0)) rfl trivial rfl (OkD.x (aI s5.2.2.2.1) rfl trivial rfl (OkD.x (.c (.loc 0 0)) rfl trivial rfl ?_)))))
  obtain ⟨x11, hx11, hr⟩ := bind_some hr
  refine OkD.m 0 (triCl (tau [(0, 0)]) (.s (aI x11.1)) [(0, .blk [.d (.sl (List.map (eInt .i64) x11.2.L)), cI x11.2.At] 77)] (b_Src_N_c _ _ hx11) rfl ⟨.inl rfl, .inl rfl, trivial⟩ trivial entry10 ⟨rfl, trivial⟩) (OkD.x (aI s5.2.2.2.1) rfl trivial rfl (OkD.x (aI x11.1) rfl trivial rfl (OkD.nil (by kernel_rfl) (Ok.seq (Ok.region (OkOps.y (.agg [cI s5.2.2.2.1, cB_ s5.2.2.2.2.1, .d (.sl (List.map (eInt .i64) s5.2.2.2.2.2))]) (OkOps.y (aI x11.1) (OkOps.y (aI s5.1) (OkOps.y (aI (s5.1.tmod 2)) (OkOps.y (aB ((s5.1.tmod 2) == 0)) ?_))))))))))
  obtain ⟨x12, hx12, hr⟩ := bind_some hr
  refine OkOps.q (triCl (tau []) (.s (.agg [cI x12.Focused, cB_ x12.Visible, .d (.sl (List.map (eInt .i64) x12.Past))])) [] (fo_Set_c _ _ _ hx12) rfl ⟨.inl rfl, .inl rfl, .inl rfl, trivial⟩ trivial entry20 trivial) (OkOps.w (triStore (cs' := [cI x12.Focused, cB_ x12.Visible, .d (.sl (List.map (eInt .i64) x12.Past))]) rfl rfl rfl rfl rfl rfl rfl rfl rfl) (OkOps.nil (Ok.seq (Ok.seq (Ok.region (OkOps.y (.c (.loc 1 0)) (OkOps.y (aI x12.Focused) (OkOps.y (aI x11.1) (OkOps.y (aB (x12.Focused != x11.1)) (OkOps.y (aB (x12.Focused != x11.1)) (OkOps.q (triQG (x := .c (.loc 1 1)) rfl rfl trivial rfl) (OkOps.q (triQG (x := aB x12.Visible) rfl rfl ⟨fun h => h, trivial⟩ rfl) (OkOps.q (triQG (x := aI s5.1) rfl rfl trivial rfl) (OkOps.q (triQG (x := aI (s5.1.tmod 2)) rfl rfl ⟨fun h => h, trivial⟩ rfl) (OkOps.q (triQG (x := aB ((s5.1.tmod 2) == 0)) rfl rfl ⟨fun h => h, trivial⟩ rfl) ?_)))))))))))))))
  refine OkOps.q (triQG (x := aB (x12.Visible != ((s5.1.tmod 2) == 0))) rfl rfl ⟨fun h => h, ⟨fun h => h, trivial⟩⟩ rfl) ?_
  refine OkOps.q (triOr rfl rfl (fun h => by rw [h]; rfl) rfl) ?_
  refine OkOps.y (aB ((x12.Focused != x11.1) || (x12.Visible != ((s5.1.tmod 2) == 0)))) (OkOps.q (triQG (x := .c (.loc 1 2)) rfl rfl trivial rfl) (OkOps.q (triQG (x := .c (.d (.sl (List.map (eInt .i64) x12.Past)))) rfl rfl ⟨fun h => h, trivial⟩ rfl) (OkOps.q (triLenG (enc := (eInt .i64)) x12.Past rfl rfl rfl ⟨fun h => h, trivial⟩ rfl) (OkOps.q (triQG (x := aB (decide ((x12.Past.length : Int) > 16))) rfl rfl ⟨fun h => h, trivial⟩ rfl) ?_))))
  refine OkOps.q (triOr rfl rfl (fun h => by rw [h]; rfl) rfl) ?_
  refine OkOps.nil ?_
  refine Ok.cond (b := ((x12.Focused != x11.1) || (x12.Visible != ((s5.1.tmod 2) == 0))) || (decide ((x12.Past.length : Int) > 16))) rfl (fun h13 => ?_) (fun h13 => ?_)
  have hr := selT h13 hr
  refine Ok.seq (Ok.region (OkOps.y (aB false) (OkOps.nil (Ok.ret ?_))))
  obtain rfl := Option.some.inj hr
  exact ⟨_, rfl, .inl rfl, trivial⟩
  have hr := selF h13 hr
  refine Ok.skip (Ok.seq (Ok.seq (Ok.region (OkOps.y (aI s5.2.2.2.1) (OkOps.y (aI x11.1) (OkOps.y (aB (s5.2.2.2.1 != x11.1)) (OkOps.y (aB (s5.2.2.2.1 != x11.1)) (OkOps.q (triQG (x := aI s5.2.2.2.1) rfl rfl trivial rfl) (OkOps.q (triQG (x := aB (s5.2.2.2.1 != 0)) rfl rfl ⟨fun h => h, trivial⟩ rfl) (OkOps.q (triAnd rfl rfl (fun h => h) rfl) (OkOps.y (aB ((s5.2.2.2.1 != x11.1) && (s5.2.2.2.1 != 0))) (OkOps.q (triQG (x := .c (.loc 1 2)) rfl rfl trivial rfl) (OkOps.q (triQG (x := .c (.d (.sl (List.map (eInt .i64) x12.Past)))) rfl rfl ⟨fun h => h, trivial⟩ rfl) (OkOps.q (triLenG (enc := (eInt .i64)) x12.Past rfl rfl rfl ⟨fun h => h, trivial⟩ rfl) (OkOps.q (triQG (x := aB ((x12.Past.length : Int) == 0)) rfl rfl ⟨fun h => h, trivial⟩ rfl) ?_)))))))))))))))
  refine OkOps.q (triQG (x := aB ((x12.Past.length : Int) == 0)) rfl rfl ⟨fun h => h, trivial⟩ rfl) (OkOps.q (triQG (x := .c (.loc 1 2)) rfl rfl trivial rfl) (OkOps.q (triQG (x := .c (.d (.sl (List.map (eInt .i64) x12.Past)))) rfl rfl ⟨fun h => h, trivial⟩ rfl) (OkOps.q (triQG (x := .c (.loc 1 2)) rfl rfl trivial rfl) (OkOps.q (triQG (x := .c (.d (.sl (List.map (eInt .i64) x12.Past)))) rfl rfl ⟨fun h => h, trivial⟩ rfl) (OkOps.q (triLenG (enc := (eInt .i64)) x12.Past rfl rfl rfl ⟨fun h => h, trivial⟩ rfl) (OkOps.q (triQG (x := aI (IntKind.i64.wrap ((x12.Past.length : Int) - 1))) rfl rfl ⟨fun h => h, trivial⟩ rfl) ?_))))))
  obtain ⟨x14, hx14, hr⟩ := bind_some hr
  refine OkOps.q (triIdxG (enc := (eInt .i64)) (L := x12.Past) (row := [dI x14]) (gO_t hx14) rfl rfl rfl rfl rfl (fun _ => rfl) ⟨fun h => h, ⟨fun h => h, trivial⟩⟩ rfl) (OkOps.q (triQG (x := aI x14) rfl rfl ⟨fun h => h, trivial⟩ rfl) (OkOps.q (triQG (x := aI s5.2.2.2.1) rfl rfl trivial rfl) (OkOps.q (triQG (x := aB (x14 != s5.2.2.2.1)) rfl rfl ⟨fun h => h, ⟨fun h => h, trivial⟩⟩ rfl) ?_)))
  refine OkOps.q (triOrG rfl rfl rfl (fun h => h) (fun h h2 => by rw [h, h2]; rfl) rfl) ?_
  refine OkOps.q (triAnd rfl rfl (fun h => h) rfl) (OkOps.nil ?_)
  refine Ok.cond (b := ((s5.2.2.2.1 != x11.1) && (s5.2.2.2.1 != 0)) && (((x12.Past.length : Int) == 0) || (x14 != s5.2.2.2.1))) rfl (fun h15 => ?_) (fun h15 => ?_)
  have hr := selT h15 hr
  refine Ok.seq (Ok.region (OkOps.y (aB false) (OkOps.nil (Ok.ret ?_))))
  obtain rfl := Option.some.inj hr
  exact ⟨_, rfl, .inl rfl, trivial⟩
  have hr := selF h15 hr
  refine Ok.skip (Ok.seq (Ok.region (OkOps.y (aI 0) (OkOps.nil ?_))))
  obtain ⟨k17, hk17, hr⟩ := jn_some hr
  refine Ok.joinEnd (fun (s16 : Unit) => ⟨[(3, .s (.c (.loc 0 0))), (4, .s (.c (.loc 1 0))), (5, .s (aI s5.1))], [(0, .blk [.d (.sl (List.map (eInt .i64) x11.2.L)), cI x11.2.At] 77), (1, .blk [cI x12.Focused, cB_ x12.Visible, .d (.sl (List.map (eInt .i64) x12.Past))] 69)], 0⟩) k17 r (fun s16 hr => ?_) ?_
  rw [hk17] at hr
  exact ⟨(x11.2.L, x11.2.At, x12.Focused, x12.Visible, x12.Past), hr, (Conv.mk (tau []) ⟨⟨_, rfl, .inl rfl⟩, ⟨_, rfl, .inl rfl⟩, ⟨_, rfl, .inl rfl⟩, trivial⟩ ⟨rfl, rfl, trivial⟩ rfl rfl rfl rfl)⟩
  clear hk17
  refine Ok.block (Ok.loopK (fun (s18 : Int) => ⟨[(3, .s (.c (.loc 0 0))), (4, .s (.c (.loc 1 0))), (5, .s (aI s5.1)), (7, .s (aI x11.1)), (8, .s (aI s18))], [(0, .blk [.d (.sl (List.map (eInt .i64) x11.2.L)), cI x11.2.At] 77), (1, .blk [cI x12.Focused, cB_ x12.Visible, .d (.sl (List.map (eInt .i64) x12.Past))] 69)], 0⟩) hr (Conv.mk (tau []) ⟨⟨_, rfl, .inl rfl⟩, ⟨_, rfl, .inl rfl⟩, ⟨_, rfl, .inl rfl⟩, ⟨_, rfl, .inl rfl⟩, ⟨_, rfl, .inl rfl⟩, trivial⟩ ⟨rfl, rfl, trivial⟩ rfl rfl rfl rfl) ?_)
  clear hr
  intro again19 s18 hr
  unfold l31_FocusPast_L1 at hr
  refine Ok.seq (Ok.seq (Ok.region (OkOps.y (aI s18) (OkOps.y (.c (.loc 1 2)) (OkOps.y (.c (.d (.sl (List.map (eInt .i64) x12.Past)))) (OkOps.q (triLen (enc := (eInt .i64)) x12.Past rfl rfl trivial rfl) (OkOps.y (aB (decide (s18 < (x12.Past.length : Int)))) (OkOps.nil ?_))))))))
  refine Ok.cond (b := decide (s18 < (x12.Past.length : Int))) rfl (fun h20 => ?_) (fun h20 => ?_)
  have hr := selT h20 hr
  refine Ok.skip (Ok.seq (Ok.block (Ok.seq (Ok.regionD (by kernel_rfl) (OkD.x (.c (.loc 1 2)) rfl trivial rfl (OkD.x (.c (.d (.sl (List.map (eInt .i64) x12.Past)))) rfl trivial rfl (OkD.x (aI s18) rfl trivial rfl ?_)))))))
  obtain ⟨x21, hx21, hr⟩ := bind_some hr
  refine OkD.q (triIdx (enc := (eInt .i64)) (L := x12.Past) (row := [dI x21]) hx21 rfl rfl rfl rfl (fun _ => rfl) trivial rfl) (OkD.x (aI x21) rfl trivial rfl (OkD.x (aI x11.1) rfl trivial rfl (OkD.x (aB (x21 == x11.1)) rfl trivial rfl (OkD.x (aB (x21 == x11.1)) rfl trivial rfl (OkD.q (triQG (x := .c (.loc 1 2)) rfl rfl trivial rfl) (OkD.q (triQG (x := .c (.d (.sl (List.map (eInt .i64) x12.Past)))) rfl rfl ⟨fun h => h, trivial⟩ rfl) (OkD.q (triQG (x := aI s18) rfl rfl trivial rfl) ?_)))))))
  obtain ⟨x22, hx22, hr⟩ := bind_some hr
  refine OkD.q (triIdxG (enc := (eInt .i64)) (L := x12.Past) (row := [dI x22]) (gO_t hx22) rfl rfl rfl rfl rfl (fun _ => rfl) ⟨fun h => h, ⟨fun h => h, trivial⟩⟩ rfl) (OkD.q (triQG (x := aI x22) rfl rfl ⟨fun h => h, trivial⟩ rfl) (OkD.q (triQG (x := aB (x22 == 0)) rfl rfl ⟨fun h => h, trivial⟩ rfl) ?_))
  refine OkD.q (triOr rfl rfl (fun h => by rw [h]; rfl) rfl) ?_
  refine OkD.x (aB ((x21 == x11.1) || (x22 == 0))) rfl trivial rfl (OkD.q (triQG (x := .c (.loc 1 2)) rfl rfl trivial rfl) (OkD.q (triQG (x := .c (.d (.sl (List.map (eInt .i64) x12.Past)))) rfl rfl ⟨fun h => h, trivial⟩ rfl) (OkD.q (triQG (x := .c (.loc 1 2)) rfl rfl trivial rfl) (OkD.q (triQG (x := .c (.d (.sl (List.map (eInt .i64) x12.Past)))) rfl rfl ⟨fun h => h, trivial⟩ rfl) (OkD.q (triQG (x := aI s18) rfl rfl trivial rfl) ?_)))))
  obtain ⟨x23, hx23, hr⟩ := bind_some hr
  refine OkD.q (triIdxG (enc := (eInt .i64)) (L := x12.Past) (row := [dI x23]) (gO_t hx23) rfl rfl rfl rfl rfl (fun _ => rfl) ⟨fun h => h, ⟨fun h => h, trivial⟩⟩ rfl) (OkD.q (triQG (x := aI x23) rfl rfl ⟨fun h => h, trivial⟩ rfl) ?_)
  obtain ⟨x24, hx24, hr⟩ := bind_some hr
  refine OkD.q (triCallG (x := aI x24) (fun hg => l31_index_c _ _ (gO_t hx24 hg)) rfl rfl ⟨.inl rfl, .inl rfl, trivial⟩ ⟨fun h => h, ⟨fun h => h, trivial⟩⟩ entry21 rfl rfl rfl) (OkD.q (triQG (x := aI s18) rfl rfl trivial rfl) (OkD.q (triQG (x := aB (x24 != s18)) rfl rfl ⟨fun h => h, ⟨fun h => h, trivial⟩⟩ rfl) ?_))
  refine OkD.q (triOr rfl rfl (fun h => by rw [h]; rfl) rfl) ?_
  refine OkD.nil (by kernel_rfl) ?_
  refine Ok.cond (b := ((x21 == x11.1) || (x22 == 0)) || (x24 != s18)) rfl (fun h25 => ?_) (fun h25 => ?_)
  have hr := selT h25 hr
  refine Ok.seq (Ok.region (OkOps.y (aB false) (OkOps.nil (Ok.ret ?_))))
  obtain rfl := Option.some.inj hr
  exact ⟨_, rfl, .inl rfl, trivial⟩
  have hr := selF h25 hr
  refine Ok.skip (Ok.region (OkOps.y (aI s18) (OkOps.y (aI (IntKind.i64.wrap (s18 + 1))) (OkOps.y (aI (IntKind.i64.wrap (s18 + 1))) (OkOps.nil ?_)))))
  exact ⟨IntKind.i64.wrap (s18 + 1), hr, (Conv.mk (tau []) ⟨⟨_, rfl, .inl rfl⟩, ⟨_, rfl, .inl rfl⟩, ⟨_, rfl, .inl rfl⟩, ⟨_, rfl, .inl rfl⟩, ⟨_, rfl, .inl rfl⟩, trivial⟩ ⟨rfl, rfl, trivial⟩ rfl rfl rfl rfl)⟩
  have hr := selF h20 hr
  refine Ok.exit ?_
  exact ⟨(), hr, (Conv.mk (tau []) ⟨⟨_, rfl, .inl rfl⟩, ⟨_, rfl, .inl rfl⟩, ⟨_, rfl, .inl rfl⟩, trivial⟩ ⟨rfl, rfl, trivial⟩ rfl rfl rfl rfl)⟩
  have hr := selF h8 hr
  refine Ok.exit ?_
  exact ⟨(), hr, (Conv.mk (tau []) trivial trivial rfl rfl rfl rfl)⟩
end Go.Proofs.YtfoigppmcelgfaaDoor
end
section
namespace Go.E2
open Go
theorem wrap_id {x : Int} (h1 : -9223372036854775808 ≤ x) (h2 : x < 9223372036854775808) : IntKind.i64.wrap x = x := by
  rw [IntKind.wrap_i64]; omega
theorem wrap_suc {i n : Nat} (h : i < n) (hn : n < N0) : IntKind.i64.wrap ((i : Int) + 1) = ((i + 1 : Nat) : Int) := by
  unfold N0 at hn; rw [wrap_id (by omega) (by omega)]; omega
theorem loopK_ind {S R : Type} {B : (S → Option R) → S → Option R} (P : S → Option R → Prop) (μ : S → Nat)
    (step : ∀ s again, (∀ s', μ s' < μ s → P s' (again s')) → P s (B again s)) : ∀ n s, μ s < n → P s (loopK B n s)
  | 0, _, h => absurd h (Nat.not_lt_zero _)
  | n + 1, s, h => step s _ (fun s' h' => loopK_ind P μ step n s' (by omega))
theorem idxO_nat {α : Type} {L : List α} {k : Nat} : idxO L (k : Int) = L[k]? := rfl
@[simp] theorem sel_true {α : Type} (a b : α) : sel true a b = a := rfl
@[simp] theorem sel_false {α : Type} (a b : α) : sel false a b = b := rfl
@[simp] theorem gO_true {α : Type} [Inhabited α] (o : Option α) : gO true o = o := rfl
@[simp] theorem gO_false {α : Type} [Inhabited α] (o : Option α) : gO false o = some default := rfl
@[simp] theorem bind_some' {α β : Type} (x : α) (k : α → Option β) : (some x).bind k = k x := rfl
@[simp] theorem jn_eq {S R : Type} (k : S → Option R) (b : (S → Option R) → Option R) : jn k b = b k := rfl
theorem appO_eq {α : Type} {L X : List α} (h : L.length + X.length ≤ 1073741824) : appO L X = some (L ++ X) := if_pos h
theorem slcO_eq {α : Type} {L : List α} {n : Nat} (h : n ≤ L.length) : slcO L 0 (n : Int) = some (L.take n) := by
  have : slcO L 0 (n : Int) = some ((L.take (n : Int).toNat).drop (0 : Int).toNat) := if_pos ⟨Int.le_refl 0, by omega, by omega⟩
  rw [this]; simp
theorem nz_lt {i n : Nat} (h : i < n) : decide ((i : Int) < (n : Int)) = true := by simpa using h
theorem nz_ge {i n : Nat} (h : n ≤ i) : decide ((i : Int) < (n : Int)) = false := by simpa using h
theorem passLoop {R : Type} {n : Nat} {B : (Int → Option R) → Int → Option R} {o : Option R} (hn : n < N0) (hc : ∀ again (i : Nat), i < n → B again (i : Int) = again ((i + 1 : Nat) : Int)) (he : ∀ again (i : Nat), n ≤ i → B again (i : Int) = o) : loopK B N0 0 = o := by
  have key := loopK_ind (B := B) (fun st r => ∀ i : Nat, st = i → r = o) (fun st => n - st.toNat) (fun st again ih => by
      intro i hi
      subst hi
      by_cases hl : i < n
      · rw [hc again i hl]
        exact ih _ (by omega) (i + 1) rfl
      · exact he again i (by omega)) N0 0 (by omega) 0 rfl
  exact key
theorem ixO_nat {n i : Nat} (h : i < n) : ixO n (i : Int) = some i := by
  show (if i < n then some i else none) = _; rw [if_pos h]
theorem idxO_ok {α : Type} {L : List α} {r : Int} (h0 : 0 ≤ r) (h1 : r < L.length) : ∃ x, idxO L r = some x ∧ x ∈ L := by
  obtain ⟨n, rfl⟩ : ∃ n : Nat, r = n := ⟨r.toNat, by omega⟩
  have : n < L.length := by omega
  exact ⟨L[n], by rw [idxO_nat, List.getElem?_eq_getElem this], List.getElem_mem this⟩
theorem idxO_at {α : Type} {L : List α} {i : Nat} (h : i < L.length) : idxO L (i : Int) = some L[i] := by rw [idxO_nat, List.getElem?_eq_getElem h]
end Go.E2
end
section
namespace Go.E2
open Go
theorem loopF {α σ R S : Type} {L : List α} {B : (S → Option R) → S → Option R} (st : σ → Nat → S) (P : Nat → σ → Prop) (Q : Option R → Prop)
    (hc : ∀ again s i x, L[i]? = some x → i < L.length → P i s → Q (B again (st s i)) ∨ ∃ s', P (i + 1) s' ∧ B again (st s i) = again (st s' (i + 1)))
    (he : ∀ again s, P L.length s → Q (B again (st s L.length))) : ∀ (f i : Nat) (s : σ), i ≤ L.length → L.length - i < f → P i s → Q (loopK B f (st s i))
  | 0, _, _, _, h, _ => absurd h (Nat.not_lt_zero _)
  | f + 1, i, s, hi, hf, hp => by
    show Q (B (loopK B f) (st s i))
    rcases Nat.lt_or_ge i L.length with h | h
    · rcases hc (loopK B f) s i L[i] (List.getElem?_eq_getElem h) h hp with h1 | ⟨s', h1, h2⟩
      · exact h1
      · rw [h2]; exact loopF st P Q hc he f (i + 1) s' (by omega) (by omega) h1
    · obtain rfl : i = L.length := by omega
      exact he _ s hp
theorem loopI {α σ R S : Type} {L : List α} {B : (S → Option R) → S → Option R} (st : σ → Nat → S) (P : Nat → σ → Prop) (Q : Option R → Prop) (hn : L.length < N0)
    (hc : ∀ again s i x, L[i]? = some x → i < L.length → P i s → Q (B again (st s i)) ∨ ∃ s', P (i + 1) s' ∧ B again (st s i) = again (st s' (i + 1)))
    (he : ∀ again s, P L.length s → Q (B again (st s L.length))) (s : σ) (h0 : P 0 s) : Q (loopK B N0 (st s 0)) :=
  loopF st P Q hc he N0 0 s (Nat.zero_le _) (by omega) h0
theorem loopNF {σ R S : Type} {n : Nat} {B : (S → Option R) → S → Option R} (st : σ → Nat → S) (P : Nat → σ → Prop) (Q : Option R → Prop)
    (hc : ∀ again s i, i < n → P i s → Q (B again (st s i)) ∨ ∃ s', P (i + 1) s' ∧ B again (st s i) = again (st s' (i + 1)))
    (he : ∀ again s, P n s → Q (B again (st s n))) : ∀ (f i : Nat) (s : σ), i ≤ n → n - i < f → P i s → Q (loopK B f (st s i))
  | 0, _, _, _, h, _ => absurd h (Nat.not_lt_zero _)
  | f + 1, i, s, hi, hf, hp => by
    show Q (B (loopK B f) (st s i))
    rcases Nat.lt_or_ge i n with h | h
    · rcases hc (loopK B f) s i h hp with h1 | ⟨s', h1, h2⟩
      · exact h1
      · rw [h2]; exact loopNF st P Q hc he f (i + 1) s' (by omega) (by omega) h1
    · obtain rfl : i = n := by omega
      exact he _ s hp
theorem jnN {S R : Type} (k : S → Option R) (b : (S → Option R) → Option R) : jn k b = b k := id rfl
theorem bindN {α β : Type} (x : α) (k : α → Option β) : (some x).bind k = k x := id rfl
theorem selT' {α : Type} (a b : α) : sel true a b = a := id rfl
theorem selF' {α : Type} (a b : α) : sel false a b = b := id rfl
theorem gOT' {α : Type} [Inhabited α] (o : Option α) : gO true o = o := id rfl
instance : LawfulBEq ByteArray where
  eq_of_beq := by
    intro a b h
    have h' : (a.data == b.data) = true := h
    have := eq_of_beq h'
    cases a; cases b; simp_all
  rfl := by
    intro a
    show (a.data == a.data) = true
    exact beq_self_eq_true _
theorem take_suc {α : Type} {L : List α} {i : Nat} {x : α} (h : L[i]? = some x) : L.take (i + 1) = L.take i ++ [x] := by
  rw [List.take_add_one, h]; rfl
end Go.E2
end
section
namespace Go.E2
open Go
def idxG_L1 {α : Type} (f : α → Option Bool) (p_s : List α) (k2 : Unit → Option (Int × (List α))) (again4 : Int → Option (Int × (List α))) (s3 : Int) : Option (Int × (List α)) := sel (decide (s3 < (p_s.length : Int))) ((ixO p_s.length s3).bind fun x6 => (p_s[x6]?).bind fun x7 => (f x7).bind fun x8 => sel x8 (some (s3, p_s)) (again4 (IntKind.i64.wrap (s3 + 1)))) (k2 ())
def idxG {α : Type} (f : α → Option Bool) (p_s : List α) : Option (Int × (List α)) := jn (fun (_s1 : Unit) => some ((-1), p_s)) fun k2 => loopK (idxG_L1 f p_s k2) N0 0
def delG_L1 {α : Type} (f : α → Option Bool) (k4 : (Int × (List α)) → Option (List α)) (again8 : (Int × Int × (List α)) → Option (List α)) (s7 : Int × Int × (List α)) : Option (List α) := sel (decide (s7.2.1 < (s7.2.2.length : Int))) (jn (fun (s10 : Int × (List α)) => again8 (s10.1, IntKind.i64.wrap (s7.2.1 + 1), s10.2)) fun k11 => (ixO s7.2.2.length s7.2.1).bind fun x12 => (s7.2.2[x12]?).bind fun x13 => (f x13).bind fun x14 => sel (!x14) ((ixO s7.2.2.length s7.1).bind fun x16 => k11 (IntKind.i64.wrap (s7.1 + 1), List.set s7.2.2 x16 x13)) (k11 (s7.1, s7.2.2))) (k4 (s7.1, s7.2.2))
def delG {α : Type} (z : α) (f : α → Option Bool) (p_s : List α) : Option (List α) := (idxG f p_s).bind fun x1 => sel (x1.1 == (-1)) (some x1.2) (jn (fun (s3 : Int × (List α)) => (ixO (s3.2.length + 1) s3.1).bind fun x5 => (ixO ((List.take x5 s3.2 ++ List.replicate (s3.2.length - x5) z).length + 1) s3.1).bind fun x6 => some (List.take x6 (List.take x5 s3.2 ++ List.replicate (s3.2.length - x5) z))) fun k4 => loopK (delG_L1 f k4) N0 (x1.1, IntKind.i64.wrap (x1.1 + 1), x1.2))
theorem idxG_ok {α : Type} {f : α → Option Bool} {l : List α} (p : α → Bool) (hf : ∀ x ∈ l, f x = some (p x)) (hn : l.length ≤ 1073741824) :
    (idxG f l = some (-1, l) ∧ ∀ x ∈ l, p x = false) ∨ ∃ i, i < l.length ∧ idxG f l = some ((i : Int), l) ∧ (∀ j, j < i → ∀ x, l[j]? = some x → p x = false) ∧ ∃ x, l[i]? = some x ∧ p x = true := by
  have hN : l.length < N0 := by unfold N0; omega
  have key := loopI (L := l) (B := idxG_L1 f l (fun _ => some ((-1), l))) (fun (_ : Unit) i => (i : Int)) (fun i _ => ∀ j, j < i → ∀ x, l[j]? = some x → p x = false)
    (fun r => (r = some (-1, l) ∧ ∀ x ∈ l, p x = false) ∨ ∃ i, i < l.length ∧ r = some ((i : Int), l) ∧ (∀ j, j < i → ∀ x, l[j]? = some x → p x = false) ∧ ∃ x, l[i]? = some x ∧ p x = true) hN
    (fun again _ i x hx hi hp => by
      unfold idxG_L1
      rw [nz_lt hi, selT', ixO_nat hi, bindN, hx, bindN, hf x (List.mem_of_getElem? hx), bindN]
      cases hpx : p x with
      | true => exact .inl (.inr ⟨i, hi, rfl, hp, x, hx, hpx⟩)
      | false =>
        refine .inr ⟨(), fun j hj y hy => ?_, ?_⟩
        · rcases Nat.lt_or_ge j i with h | h
          · exact hp j h y hy
          · obtain rfl : j = i := by omega
            rw [hx] at hy; cases hy; exact hpx
        · rw [selF', wrap_suc hi hN])
    (fun again _ hp => by
      unfold idxG_L1
      rw [nz_ge (Nat.le_refl _), selF']
      refine .inl ⟨rfl, fun x hx => ?_⟩
      obtain ⟨j, hj, e⟩ := List.getElem_of_mem hx
      exact hp j hj x (by rw [List.getElem?_eq_getElem hj, e])) () (fun j hj => absurd hj (Nat.not_lt_zero _))
  exact key
theorem filter_none {α : Type} {q : α → Bool} : ∀ {l : List α}, (∀ x ∈ l, q x = true) → l.filter q = l := fun h => List.filter_eq_self.2 h
theorem delG_ok {α : Type} {f : α → Option Bool} {l : List α} (z : α) (p : α → Bool) (hf : ∀ x ∈ l, f x = some (p x)) (hn : l.length ≤ 1073741824) : delG z f l = some (l.filter fun x => !p x) := by
  unfold delG
  have hN : l.length < N0 := by unfold N0; omega
  rcases idxG_ok p hf hn with ⟨e, ha⟩ | ⟨i0, hi0, e, hb, x0, hx0, hp0⟩
  · rw [e, bindN, show (((-1 : Int), l).1 == (-1)) = true from rfl, selT', filter_none (fun x hx => by rw [ha x hx]; rfl)]
  · rw [e, bindN, show ((((i0 : Int), l).1) == (-1)) = false from beq_eq_false_iff_ne.2 (by show (i0 : Int) ≠ -1; omega), selF', jnN]
    rw [show ((i0 : Int), l).1 = (i0 : Int) from rfl, wrap_suc hi0 hN]
    refine loopNF (n := l.length) (fun (s : Nat × List α) j => ((s.1 : Int), (j : Int), s.2)) (fun j s => s.2.length = l.length ∧ s.1 < j ∧ s.2.take s.1 = (l.take j).filter (fun x => !p x) ∧ s.2.drop j = l.drop j) (fun r => r = some (l.filter fun x => !p x))
      (fun again s j hj hp => ?_) (fun again s hp => ?_) N0 (i0 + 1) (i0, l) (by omega) (by unfold N0; omega) ⟨rfl, Nat.lt_succ_self _, ?_, rfl⟩
    · obtain ⟨h1, h2, h3, h4⟩ := hp
      have hx : s.2[j]? = some l[j] := by
        have := congrArg (fun l => l[0]?) h4
        simp only [List.getElem?_drop, Nat.add_zero] at this
        rw [this, List.getElem?_eq_getElem hj]
      have hm : f l[j] = some (p l[j]) := hf _ (List.getElem_mem hj)
      unfold delG_L1
      rw [nz_lt (show j < s.2.length by omega), selT', jnN, ixO_nat (show j < s.2.length by omega), bindN, hx, bindN, hm, bindN]
      have ht : (l.take (j + 1)).filter (fun x => !p x) = (l.take j).filter (fun x => !p x) ++ [l[j]].filter (fun x => !p x) := by
        rw [take_suc (List.getElem?_eq_getElem hj), List.filter_append]
      have hd : l.drop (j + 1) = s.2.drop (j + 1) := by
        have := congrArg (List.drop 1) h4
        rw [List.drop_drop, List.drop_drop] at this
        exact this.symm
      cases hpx : p l[j] with
      | true =>
        refine .inr ⟨(s.1, s.2), ⟨h1, by show s.1 < j + 1; omega, ?_, hd.symm⟩, ?_⟩
        · rw [ht, h3]; simp [hpx]
        · rw [show (!true) = false from rfl, selF', wrap_suc hj hN]
      | false =>
        refine .inr ⟨(s.1 + 1, s.2.set s.1 l[j]), ⟨by simpa using h1, by show s.1 + 1 < j + 1; omega, ?_, ?_⟩, ?_⟩
        · rw [ht, ← h3]
          show (s.2.set s.1 l[j]).take (s.1 + 1) = _
          rw [take_suc (x := l[j]) (by rw [List.getElem?_set_self (by omega)])]
          rw [List.take_set_of_le (Nat.le_refl _)]
          simp [hpx]
        · show (s.2.set s.1 l[j]).drop (j + 1) = _
          rw [List.drop_set_of_lt (by omega), hd]
        · rw [show (!false) = true from rfl, selT', ixO_nat (show s.1 < s.2.length by omega), bindN, wrap_suc hj hN, wrap_suc (show s.1 < l.length by omega) hN]
    · obtain ⟨h1, h2, h3, h4⟩ := hp
      unfold delG_L1
      rw [nz_ge (show s.2.length ≤ l.length by omega), selF']
      have hl : (List.take s.1 s.2 ++ List.replicate (s.2.length - s.1) z).length = s.2.length := by simp; omega
      show ((ixO (s.2.length + 1) (s.1 : Int)).bind _) = _
      rw [ixO_nat (show s.1 < s.2.length + 1 by omega), bindN, hl, ixO_nat (show s.1 < s.2.length + 1 by omega), bindN]
      rw [List.take_append_of_le_length (by simp; omega), List.take_take, Nat.min_self, h3, List.take_length]
    · show l.take i0 = _
      rw [take_suc hx0, List.filter_append, filter_none (l := l.take i0) (fun x hx => ?_)]
      · simp [hp0]
      · obtain ⟨j, hj, e⟩ := List.getElem_of_mem hx
        have hj' : j < i0 := by simp at hj; omega
        rw [hb j hj' x (by rw [← e, List.getElem_take]; exact List.getElem?_eq_getElem _)]; rfl
end Go.E2
end
section
namespace Go.E2
open Go
def Tt {α : Type} (Q : α → Prop) (o : Option α) : Prop := ∃ x, o = some x ∧ Q x
theorem Tt.pure {α : Type} {Q : α → Prop} {x : α} (h : Q x) : Tt Q (some x) := ⟨x, rfl, h⟩
theorem Tt.bind {α β : Type} {P : α → Prop} {Q : β → Prop} {o : Option α} {k : α → Option β} (h : Tt P o) (hk : ∀ x, P x → Tt Q (k x)) : Tt Q (o.bind k) := by
  obtain ⟨x, rfl, hx⟩ := h
  exact hk x hx
theorem Tt.sel {α : Type} {Q : α → Prop} {c : Bool} {a b : Option α} (h1 : c = true → Tt Q a) (h2 : c = false → Tt Q b) : Tt Q (sel c a b) := by
  cases c with
  | true => exact h1 rfl
  | false => exact h2 rfl
theorem Tt.gO {α : Type} [Inhabited α] {Q : α → Prop} {c : Bool} {a : Option α} (h1 : c = true → Tt Q a) (h2 : c = false → Q default) : Tt Q (gO c a) := by
  cases c with
  | true => exact h1 rfl
  | false => exact ⟨default, rfl, h2 rfl⟩
theorem Tt.mono {α : Type} {P Q : α → Prop} {o : Option α} (h : Tt P o) (hq : ∀ x, P x → Q x) : Tt Q o := by
  obtain ⟨x, e, hx⟩ := h
  exact ⟨x, e, hq x hx⟩
theorem Tt.loopN {σ R S : Type} {n : Nat} {B : (S → Option R) → S → Option R} {Q : R → Prop} (st : σ → Nat → S) (P : Nat → σ → Prop) (hn : n < N0)
    (hc : ∀ again s i, i < n → P i s → (∀ s', P (i + 1) s' → Tt Q (again (st s' (i + 1)))) → Tt Q (B again (st s i)))
    (he : ∀ again s, P n s → Tt Q (B again (st s n))) (s : σ) (h0 : P 0 s) : Tt Q (loopK B N0 (st s 0)) := by
  have key : ∀ (f i : Nat) (s : σ), i ≤ n → n - i < f → P i s → Tt Q (loopK B f (st s i)) := by
    intro f
    induction f with
    | zero => intro i s _ h; exact absurd h (Nat.not_lt_zero _)
    | succ f ih =>
      intro i s hi hf hp
      show Tt Q (B (loopK B f) (st s i))
      rcases Nat.lt_or_ge i n with h | h
      · exact hc _ s i h hp (fun s' h' => ih (i + 1) s' (by omega) (by omega) h')
      · obtain rfl : i = n := by omega
        exact he _ s hp
  exact key N0 0 s (Nat.zero_le _) (by omega) h0
end Go.E2
end
section
namespace Go.Proofs.YtfoigppmcelgfaaDoor
open Go Go.E2
theorem without_eq (l : List Int) (id : Int) : fo_without l id = (appO [] l).bind fun x1 => (delG 0 (fun x => fo_without_1 x id) x1).bind fun x2 => some x2 := rfl
theorem without_ok {l : List Int} {id : Int} (hn : l.length ≤ 1073741824) : fo_without l id = some (l.filter fun x => !(x == id)) := by
  rw [without_eq, appO_eq (by simpa using hn), List.nil_append, bindN, delG_ok (f := fun x => fo_without_1 x id) 0 (fun x => x == id) (fun x _ => rfl) hn, bindN]
theorem last16 {l : List Int} (hn : l.length ≤ 1073741824) : slcO l (mxI 0 (IntKind.i64.wrap ((l.length : Int) - 16))) (l.length : Int) = some (l.drop (l.length - 16)) := by
  rw [wrap_id (by omega) (by omega)]
  have e : mxI 0 ((l.length : Int) - 16) = ((l.length - 16 : Nat) : Int) := by unfold mxI; omega
  rw [e]
  unfold slcO
  rw [if_pos ⟨by omega, by omega, Int.le_refl _⟩]
  simp
theorem remember_ok {l : List Int} {id : Int} (hn : l.length ≤ 1073741823) : fo_remember l id = some (((l.filter fun x => !(x == id)) ++ [id]).drop ((l.filter fun x => !(x == id)).length + 1 - 16)) := by
  unfold fo_remember
  have h1 : (l.filter fun x => !(x == id)).length ≤ l.length := List.length_filter_le _ _
  rw [without_ok (by omega), bindN, appO_eq (by simp; omega), bindN]
  have h2 : ((l.filter fun x => !(x == id)) ++ [id]).length = (l.filter fun x => !(x == id)).length + 1 := by simp
  rw [last16 (by rw [h2]; omega), bindN, h2]
theorem Set_ok {f : FocusState} {id : Int} {vis : Bool} (hn : f.Past.length ≤ 1073741823) :
    fo_Set f id vis = some (if id = f.Focused then ⟨id, vis, f.Past⟩ else if f.Focused = 0 then ⟨id, vis, ((f.Past.filter fun x => !(x == id)).filter fun x => !(x == 0)).drop (((f.Past.filter fun x => !(x == id)).filter fun x => !(x == 0)).length - 16)⟩
      else ⟨id, vis, (((f.Past.filter fun x => !(x == id)).filter fun x => !(x == f.Focused)) ++ [f.Focused]).drop (((f.Past.filter fun x => !(x == id)).filter fun x => !(x == f.Focused)).length + 1 - 16)⟩) := by
  unfold fo_Set
  rw [show slices_Clone_Sl_int_intV f.Past = some f.Past from by unfold slices_Clone_Sl_int_intV; rw [appO_eq (by simp; omega)]; rfl, bindN]
  by_cases h : id = f.Focused
  · rw [if_pos h, show (id == f.Focused) = true from by simpa using h, selT']
  · rw [if_neg h, show (id == f.Focused) = false from by simpa using h, selF', without_ok (by omega), bindN, jnN]
    have h1 : (f.Past.filter fun x => !(x == id)).length ≤ f.Past.length := List.length_filter_le _ _
    by_cases h0 : f.Focused = 0
    · rw [if_pos h0, show (f.Focused != 0) = false from by simpa using h0, selF', without_ok (by omega), bindN]
      have h2 := List.length_filter_le (fun x : Int => !(x == 0)) (f.Past.filter fun x => !(x == id))
      show ((slcO _ _ _).bind _) = _
      rw [last16 (by omega), bindN]
    · rw [if_neg h0, show (f.Focused != 0) = true from by simpa using h0, selT', remember_ok (by omega), bindN]
      have h2 := List.length_filter_le (fun x : Int => !(x == f.Focused)) (f.Past.filter fun x => !(x == id))
      have h3 : ((((f.Past.filter fun x => !(x == id)).filter fun x => !(x == f.Focused)) ++ [f.Focused]).drop (((f.Past.filter fun x => !(x == id)).filter fun x => !(x == f.Focused)).length + 1 - 16)).length ≤ 16 := by simp; omega
      show ((slcO _ _ _).bind _) = _
      rw [last16 (by omega), bindN]
      have e : ((((f.Past.filter fun x => !(x == id)).filter fun x => !(x == f.Focused)) ++ [f.Focused]).drop (((f.Past.filter fun x => !(x == id)).filter fun x => !(x == f.Focused)).length + 1 - 16)).length - 16 = 0 := by omega
      rw [e, List.drop_zero]
def posN (l : List Int) (v : Int) : Int := match l.findIdx? (fun x => x == v) with
  | some i => i
  | none => -1
end Go.Proofs.YtfoigppmcelgfaaDoor
end
section
set_option maxRecDepth 100000
namespace Go.Proofs.YtfoigppmcelgfaaDoor
open Go Go.E2
theorem awake31_true : l31_awake = some true := by kernel_rfl
end Go.Proofs.YtfoigppmcelgfaaDoor
end
section
namespace Go.Proofs.YtfoigppmcelgfaaDoor
open Go Go.E2
def SrcOk (s : widgetrybase_Src) : Prop := 0 ≤ s.At ∧ s.At ≤ s.L.length ∧ s.L.length ≤ 4000
theorem New_t (l : List Int) : Tt SrcOk (b_New l) := by
  unfold b_New
  rw [jn_eq]
  by_cases h : (l.length : Int) > 4000
  · rw [decide_eq_true h, sel_true, show (4000 : Int) = ((4000 : Nat) : Int) from rfl, slcO_eq (by omega), bind_some']
    exact ⟨_, rfl, Int.le_refl 0, by simp, by simp; omega⟩
  · rw [decide_eq_false h, sel_false]
    exact ⟨_, rfl, Int.le_refl 0, by simp, by simp; omega⟩
theorem N_t {s : widgetrybase_Src} {n : Int} (h : SrcOk s) (h1 : 1 ≤ n) (h2 : n ≤ 1000000) : Tt (fun r => 0 ≤ r.1 ∧ r.1 < n ∧ SrcOk r.2) (b_Src_N s n) := by
  obtain ⟨a0, a1, a2⟩ := h
  unfold b_Src_N
  by_cases hc : s.At ≥ s.L.length
  · have : (decide (s.At ≥ (s.L.length : Int)) || decide (n < 1)) = true := by simp; omega
    rw [this, sel_true]
    exact ⟨(0, s), rfl, by show (0 : Int) ≤ 0; omega, by show (0 : Int) < n; omega, a0, a1, a2⟩
  · have : (decide (s.At ≥ (s.L.length : Int)) || decide (n < 1)) = false := by simp; omega
    rw [this, sel_false]
    obtain ⟨x, hx, _⟩ := idxO_ok a0 (by omega : s.At < s.L.length)
    rw [hx, bind_some']
    have hz : nzO n (x.tmod n) = some (x.tmod n) := if_neg (by omega)
    rw [hz, bind_some', jn_eq]
    have t1 : x.tmod n < n := Int.tmod_lt_of_pos x (by omega)
    have t2 : -n < x.tmod n := Int.lt_tmod_of_pos x (by omega)
    have hw : IntKind.i64.wrap (s.At + 1) = s.At + 1 := wrap_id (by omega) (by omega)
    rw [hw]
    have hs : SrcOk (widgetrybase_Src.mk s.L (s.At + 1)) := ⟨by show 0 ≤ s.At + 1; omega, by show s.At + 1 ≤ (s.L.length : Int); omega, a2⟩
    by_cases hm : x.tmod n < 0
    · rw [decide_eq_true hm, sel_true, wrap_id (by omega) (by omega)]
      exact ⟨_, rfl, by show 0 ≤ x.tmod n + n; omega, by show x.tmod n + n < n; omega, hs⟩
    · rw [decide_eq_false hm, sel_false]
      exact ⟨_, rfl, by show 0 ≤ x.tmod n; omega, t1, hs⟩
end Go.Proofs.YtfoigppmcelgfaaDoor
end
section
namespace Go.Proofs.YtfoigppmcelgfaaDoor
open Go Go.E2
structure Good (f : FocusState) : Prop where
  len : f.Past.length ≤ 16
  nodup : f.Past.Nodup
  zero : (0 : Int) ∉ f.Past
  self : f.Focused ∉ f.Past
theorem mem_drop' {α : Type} {l : List α} {n : Nat} {x : α} (h : x ∈ l.drop n) : x ∈ l := List.mem_of_mem_drop h
theorem Set_good {f : FocusState} (h : Good f) (id : Int) (vis : Bool) : ∃ g, fo_Set f id vis = some g ∧ g.Focused = id ∧ g.Visible = vis ∧ Good g ∧ (f.Focused ≠ id → f.Focused ≠ 0 → g.Past[g.Past.length - 1]? = some f.Focused) := by
  have hl := h.len
  rw [Set_ok (by omega)]
  refine ⟨_, rfl, ?_⟩
  by_cases e : id = f.Focused
  · rw [if_pos e]
    exact ⟨rfl, rfl, ⟨h.len, h.nodup, h.zero, by show id ∉ f.Past; rw [e]; exact h.self⟩, fun hne => absurd e.symm hne⟩
  · rw [if_neg e]
    have n1 : (f.Past.filter fun x => !(x == id)).Nodup := h.nodup.filter _
    have l1 := List.length_filter_le (fun x : Int => !(x == id)) f.Past
    by_cases z : f.Focused = 0
    · rw [if_pos z]
      have l2 := List.length_filter_le (fun x : Int => !(x == 0)) (f.Past.filter fun x => !(x == id))
      refine ⟨rfl, rfl, ⟨?_, ?_, ?_, ?_⟩, fun _ hz => absurd z hz⟩
      · show List.length (List.drop _ _) ≤ 16
        rw [List.length_drop]; omega
      · exact List.Nodup.sublist (List.drop_sublist _ _) (n1.filter _)
      · intro hm
        have := List.mem_filter.1 (mem_drop' hm)
        simp at this
      · intro hm
        have := List.mem_filter.1 (List.mem_filter.1 (mem_drop' hm)).1
        simp at this
    · rw [if_neg z]
      have l2 := List.length_filter_le (fun x : Int => !(x == f.Focused)) (f.Past.filter fun x => !(x == id))
      generalize hL : ((f.Past.filter fun x => !(x == id)).filter fun x => !(x == f.Focused)) = L at l2
      have hnot : f.Focused ∉ L := fun hm => by
        rw [← hL] at hm
        have := (List.mem_filter.1 hm).2
        simp at this
      have hz : (0 : Int) ∉ L := fun hm => by
        rw [← hL] at hm
        exact h.zero (List.mem_filter.1 (List.mem_filter.1 hm).1).1
      have hid : id ∉ L := fun hm => by
        rw [← hL] at hm
        have := (List.mem_filter.1 (List.mem_filter.1 hm).1).2
        simp at this
      have hnd : L.Nodup := by rw [← hL]; exact n1.filter _
      refine ⟨rfl, rfl, ⟨?_, ?_, ?_, ?_⟩, fun _ _ => ?_⟩
      · show (List.drop _ _).length ≤ 16
        rw [List.length_drop, List.length_append]
        show L.length + 1 - (L.length + 1 - 16) ≤ 16
        omega
      · refine List.Nodup.sublist (List.drop_sublist _ _) ?_
        rw [List.nodup_append]
        exact ⟨hnd, by simp, fun a ha b hb => by simp at hb; subst hb; exact fun e => hnot (e ▸ ha)⟩
      · intro hm
        rcases List.mem_append.1 (mem_drop' hm) with h2 | h2
        · exact hz h2
        · simp at h2; exact z h2.symm
      · intro hm
        rcases List.mem_append.1 (mem_drop' hm) with h2 | h2
        · exact hid h2
        · simp at h2; exact e h2
      · show (List.drop _ (L ++ [f.Focused]))[(List.drop _ (L ++ [f.Focused])).length - 1]? = _
        rw [List.getElem?_drop, List.length_drop, List.length_append]
        show (L ++ [f.Focused])[L.length + 1 - 16 + (L.length + 1 - (L.length + 1 - 16) - 1)]? = _
        rw [show L.length + 1 - 16 + (L.length + 1 - (L.length + 1 - 16) - 1) = L.length by omega]
        simp
theorem lindex_ok {l : List Int} {v : Int} (hn : l.length < N0) : l31_index l v = some (posN l v) := by
  unfold l31_index
  rw [jnN]
  refine loopI (L := l) (fun (_ : Unit) i => (i : Int)) (fun i _ => ∀ j, j < i → ∀ x, l[j]? = some x → x ≠ v) (fun r => r = some (posN l v)) hn (fun again _ i x hx hi hp => ?_) (fun again _ hp => ?_) () (fun j hj => absurd hj (Nat.not_lt_zero _))
  · unfold l31_index_L1
    rw [nz_lt hi, selT', idxO_nat, hx, bindN]
    by_cases e : x = v
    · left
      rw [show (x == v) = true from by simpa using e, selT']
      have : l.findIdx? (fun x => x == v) = some i := by
        rw [List.findIdx?_eq_some_iff_getElem]
        refine ⟨hi, ?_, fun j hj => ?_⟩
        · rw [List.getElem?_eq_getElem hi] at hx; cases hx; simpa using e
        · have := hp j hj _ (List.getElem?_eq_getElem (by omega)); simpa using this
      unfold posN; rw [this]
    · right
      refine ⟨(), fun j hj y hy => ?_, ?_⟩
      · rcases Nat.lt_or_ge j i with h | h
        · exact hp j h y hy
        · obtain rfl : j = i := by omega
          rw [hx] at hy; cases hy; exact e
      · rw [show (x == v) = false from by simpa using e, selF', wrap_suc hi hn]
  · unfold l31_index_L1
    rw [nz_ge (Nat.le_refl _), selF']
    have : l.findIdx? (fun x => x == v) = none := by
      rw [List.findIdx?_eq_none_iff]
      intro x hx
      obtain ⟨j, hj, e⟩ := List.getElem_of_mem hx
      have := hp j hj x (by rw [List.getElem?_eq_getElem hj, e])
      simpa using this
    unfold posN; rw [this]
theorem posN_at {l : List Int} (h : l.Nodup) {i : Nat} {x : Int} (hx : l[i]? = some x) : posN l x = i := by
  obtain ⟨hi, hx'⟩ := List.getElem?_eq_some_iff.1 hx
  have : l.findIdx? (fun y => y == x) = some i := by
    rw [List.findIdx?_eq_some_iff_getElem]
    refine ⟨hi, by simpa using hx', fun j hj => ?_⟩
    have : l[j] ≠ x := by
      rw [← hx']
      exact List.pairwise_iff_getElem.1 h j i (by omega) hi hj
    simpa using this
  unfold posN; rw [this]
theorem past_L1 {x11 : Int × widgetrybase_Src} {g : FocusState} {k : Unit → Option Bool} (h : Good g) (hid : g.Focused = x11.1) : loopK (l31_FocusPast_L1 x11 g k) N0 0 = k () := by
  have hl := h.len
  have hN : g.Past.length < N0 := by unfold N0; omega
  refine passLoop hN (fun again i hi => ?_) (fun again i hi => ?_)
  · have hm : g.Past[i] ∈ g.Past := List.getElem_mem hi
    have h1 : (g.Past[i] == x11.1) = false := by
      simp only [beq_eq_false_iff_ne, ne_eq]
      rw [← hid]; exact fun e => h.self (e ▸ hm)
    have h2 : (g.Past[i] == 0) = false := by
      simp only [beq_eq_false_iff_ne, ne_eq]
      exact fun e => h.zero (e ▸ hm)
    unfold l31_FocusPast_L1
    rw [nz_lt hi, selT', idxO_at hi, bindN, h1, show (!false) = true from rfl, gOT', bindN, h2, show (!(false || false)) = true from rfl, gOT', bindN, gOT', lindex_ok hN, bindN, posN_at h.nodup (List.getElem?_eq_getElem hi), show ((i : Int) != (i : Int)) = false from by simp, show (false || false || false) = false from rfl, selF', wrap_suc hi hN]
  · unfold l31_FocusPast_L1
    rw [nz_ge hi, selF']
theorem focusPast_true (l : List Int) (_h : l.length ≤ maxLen ∧ ∀ a ∈ l, (Lit.int .i64 a).wf = true) : l31_FocusPast l = some true := by
  have key : Tt (fun r => r = true) (l31_FocusPast l) := by
    unfold l31_FocusPast
    refine Tt.bind (New_t l) (fun x1 hx1 => ?_)
    rw [jnN]
    refine Tt.loopN (n := 60) (fun (s : widgetrybase_Src × FocusState) i => ((i : Int), s.1.L, s.1.At, s.2.Focused, s.2.Visible, s.2.Past)) (fun _ s => SrcOk s.1 ∧ Good s.2) (by unfold N0; omega) (fun again s i hi hp hag => ?_) (fun again s hp => ?_) (x1, ⟨0, false, []⟩) ⟨hx1, ⟨by simp, by simp, by simp, by simp⟩⟩
    · obtain ⟨hs, hg⟩ := hp
      unfold l31_FocusPast_L2
      have hk : Tt (fun r => r = true) ((l31_awake).bind fun x4 => some x4) := by rw [awake31_true]; exact ⟨true, rfl, rfl⟩
      refine Tt.bind (P := fun x => x.2 = s.1) ?_ (fun x7 h7 => ?_)
      · exact Tt.sel (fun _ => ⟨_, rfl, rfl⟩) (fun _ => ⟨_, rfl, rfl⟩)
      · refine Tt.sel (fun _ => ?_) (fun _ => hk)
        rw [jnN, h7]
        refine Tt.bind (N_t hs (by decide) (by decide)) (fun x11 h11 => ?_)
        obtain ⟨g, e, g1, g2, g3, g4⟩ := Set_good hg x11.1 (((i : Int).tmod 2) == 0)
        show Tt _ ((fo_Set s.2 x11.1 (((i : Int).tmod 2) == 0)).bind _)
        rw [e, bindN]
        have hl := g3.len
        have c1 : (((g.Focused != x11.1) || (g.Visible != (((i : Int).tmod 2) == 0))) || (decide ((g.Past.length : Int) > 16))) = false := by
          rw [g1, g2]; simp; omega
        rw [show ((((g.Focused != x11.1) || (g.Visible != ((((i : Int), s.1.L, s.1.At, s.2.Focused, s.2.Visible, s.2.Past).1.tmod 2) == 0))) || (decide ((g.Past.length : Int) > 16)))) = false from c1, selF']
        have hfin : Tt (fun r => r = true) (jn (fun (_ : Unit) => again (IntKind.i64.wrap ((i : Int) + 1), x11.2.L, x11.2.At, g.Focused, g.Visible, g.Past)) fun k17 => loopK (l31_FocusPast_L1 x11 g k17) N0 0) := by
          rw [jnN, past_L1 g3 g1, wrap_suc hi (by unfold N0; omega)]
          exact hag (x11.2, g) ⟨h11.2.2, g3⟩
        refine Tt.bind (P := fun x14 => (s.2.Focused != x11.1 && s.2.Focused != 0) = true → (((g.Past.length : Int) == 0) || (x14 != s.2.Focused)) = false) ?_ (fun x14 h14 => ?_)
        · refine Tt.gO (fun hc => ?_) (fun hc hd => ?_)
          · simp only [Bool.and_eq_true, bne_iff_ne, ne_eq, Bool.not_eq_true', beq_eq_false_iff_ne] at hc
            obtain ⟨⟨ha, hb⟩, hc0⟩ := hc
            have hlast := g4 ha hb
            have hpos : 0 < g.Past.length := by omega
            refine ⟨s.2.Focused, ?_, fun _ => ?_⟩
            · rw [wrap_id (by omega) (by omega), show ((g.Past.length : Int) - 1) = ((g.Past.length - 1 : Nat) : Int) by omega, idxO_nat]; exact hlast
            · simp; intro h0; rw [h0] at hpos; simp at hpos
          · exfalso
            have hd' := hd
            simp only [Bool.and_eq_true, bne_iff_ne, ne_eq] at hd'
            have hlast := g4 hd'.1 hd'.2
            have hne : ((g.Past.length : Int) == 0) = false := by
              cases hP : g.Past with
              | nil => rw [hP] at hlast; simp at hlast
              | cons a r => simp; omega
            change (((s.2.Focused != x11.1) && (s.2.Focused != 0)) && !((g.Past.length : Int) == 0)) = false at hc
            rw [hd, hne] at hc
            cases hc
        · refine Tt.sel (fun hc => ?_) (fun _ => hfin)
          exfalso
          obtain ⟨hc1, hc2⟩ := Bool.and_eq_true_iff.1 hc
          rw [h14 hc1] at hc2; cases hc2
    · unfold l31_FocusPast_L2
      have hk : Tt (fun r => r = true) ((l31_awake).bind fun x4 => some x4) := by rw [awake31_true]; exact ⟨true, rfl, rfl⟩
      refine Tt.bind (P := fun _ => True) (Tt.sel (fun _ => ⟨_, rfl, trivial⟩) (fun _ => ⟨_, rfl, trivial⟩)) (fun x7 _ => Tt.sel (fun hc => ?_) (fun _ => hk))
      have : decide (((60 : Nat) : Int) < 60) = false := by decide
      change (decide (((60 : Nat) : Int) < 60) && _) = true at hc
      rw [this] at hc; cases hc
  obtain ⟨r, e, hr⟩ := key
  rw [e, hr]
end Go.Proofs.YtfoigppmcelgfaaDoor
end

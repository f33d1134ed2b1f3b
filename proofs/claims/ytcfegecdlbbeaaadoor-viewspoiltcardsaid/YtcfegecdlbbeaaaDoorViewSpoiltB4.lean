/-
  Part 4 of the texts under the law ViewSpoilt: the calculus, the plain functions, their walks, plain facts.
-/
import Derived.Test.YtcfegecdlbbeaaaDoorViewSpoiltB3
import Derived.Test.YtcfegecdlbbeaaaDoorProg
import Derived.KernelRfl
section
set_option maxRecDepth 100000
namespace Go.Proofs.YtcfegecdlbbeaaaDoor
open Go Go.E2
theorem b_New_c (l : (List Int)) {r : widgetrybase_Src} (hr : b_New l = some r) : Con Tryd.prog 15 [.c (.d (.sl (List.map (eInt .i64) l)))] [] (.s (.c (.loc 0 0))) [(0, .blk [.d (.sl (List.map (eInt .i64) r.L)), cI r.At] 82)] := by
  unfold b_New at hr
  refine Con.of_ok 11 0 [.tmp 2] [(0, .s (.c (.d (.sl (List.map (eInt .i64) l)))))] Tryd.func15 rfl rfl rfl rfl rfl rfl rfl rfl fun w g M ρ _ => (Ok.seq (Ok.region (OkOps.y (.c (.d (.v (.pointer none)))) (OkOps.nil ?_))))
  obtain ⟨k2, hk2, hr⟩ := jn_some hr
  refine Ok.join (fun (s1 : (List Int)) => ⟨[(0, .s (.c (.d (.sl (List.map (eInt .i64) s1)))))], [], 0⟩) k2 r (fun s1 hr => ?_) ?_
  rw [hk2] at hr
  refine Ok.seq (Ok.region (OkOps.y (.c (.d (.sl (List.map (eInt .i64) s1)))) (OkOps.y (.agg [.d (.sl (List.map (eInt .i64) s1)), cI 0]) (OkOps.m 0 (triBox (j := 0) (cs := [.d (.sl (List.map (eInt .i64) s1)), cI 0]) rfl rfl rfl rfl rfl) (OkOps.y (.c (.loc 0 0)) (OkOps.nil (Ok.ret ?_)))))))
  obtain rfl := Option.some.inj hr
  exact ⟨_, rfl, .inl rfl, ⟨rfl, trivial⟩⟩
  clear hk2
  refine Ok.seq (Ok.region (OkOps.y (.c (.d (.sl (List.map (eInt .i64) l)))) (OkOps.q (triLen (enc := (eInt .i64)) l rfl rfl trivial rfl) (OkOps.y (aB (decide ((l.length : Int) > 4000))) (OkOps.nil ?_)))))
  refine Ok.cond (b := decide ((l.length : Int) > 4000)) rfl (fun h3 => ?_) (fun h3 => ?_)
  have hr := selT h3 hr
  refine Ok.region (OkOps.y (.c (.d (.sl (List.map (eInt .i64) l)))) ?_)
  obtain ⟨x4, hx4, hr⟩ := bind_some hr
  refine OkOps.q (triSlc (enc := (eInt .i64)) (L := l) hx4 rfl rfl rfl (.inl ⟨rfl, rfl⟩) (.inr ⟨_, rfl⟩) rfl (fun _ => rfl) trivial rfl) (OkOps.y (.c (.d (.sl (List.map (eInt .i64) x4)))) (OkOps.nil ?_))
  exact ⟨x4, hr, (Conv.mk (tau []) ⟨⟨_, rfl, .inl rfl⟩, trivial⟩ trivial rfl rfl rfl rfl)⟩
  have hr := selF h3 hr
  refine Ok.skip ?_
  exact ⟨l, hr, (Conv.mk (tau []) ⟨⟨_, rfl, .inl rfl⟩, trivial⟩ trivial rfl rfl rfl rfl)⟩
theorem entry15 : Entry Tryd.prog 15 := ⟨_, Tryd.func15, by kernel_rfl, by kernel_rfl⟩
theorem b_Src_N_c (p_s : widgetrybase_Src) (p_n : Int) {r : Int × widgetrybase_Src} (hr : b_Src_N p_s p_n = some r) : Con Tryd.prog 18 [.c (.loc 0 0), aI p_n] [(0, .blk [.d (.sl (List.map (eInt .i64) p_s.L)), cI p_s.At] 82)] (.s (aI r.1)) [(0, .blk [.d (.sl (List.map (eInt .i64) r.2.L)), cI r.2.At] 82)] := by
  unfold b_Src_N at hr
  refine Con.of_ok 45 0 [.tmp 4] [(0, .s (.c (.loc 0 0))), (1, .s (aI p_n))] Tryd.func18 rfl rfl rfl rfl rfl rfl rfl rfl fun w g M ρ _ => (Ok.seq (Ok.region (OkOps.y (aI 0) (OkOps.nil (Ok.seq (Ok.seq (Ok.regionD (by kernel_rfl) (OkD.x (.c (.loc 0 0)) rfl trivial rfl (OkD.x (.c (.loc 0 0)) rfl trivial rfl (OkD.x (.c (.loc 0 1)) rfl trivial rfl (OkD.x (aI p_s.At) rfl trivial rfl (OkD.x (.c (.loc 0 0)) rfl trivial rfl (OkD.x (.c (.loc 0 0)) rfl trivial rfl (OkD.x (.c (.loc 0 0)) rfl trivial rfl (OkD.x (.c (.d (.sl (List.map (eInt .i64) p_s.L)))) rfl trivial rfl ?_)))))))))))))))
  refine OkD.q (triLen (enc := (eInt .i64)) p_s.L rfl rfl trivial rfl) (OkD.x (aB (decide (p_s.At ≥ (p_s.L.length : Int)))) rfl trivial rfl (OkD.x (aB (decide (p_s.At ≥ (p_s.L.length : Int)))) rfl trivial rfl (OkD.q (triQG (x := aI p_n) rfl rfl trivial rfl) (OkD.q (triQG (x := aB (decide (p_n < 1))) rfl rfl ⟨fun h => h, trivial⟩ rfl) ?_))))
  refine OkD.q (triOr rfl rfl (fun h => by rw [h]; rfl) rfl) ?_
  refine OkD.nil (by kernel_rfl) ?_
  refine Ok.cond (b := (decide (p_s.At ≥ (p_s.L.length : Int))) || (decide (p_n < 1))) rfl (fun h1 => ?_) (fun h1 => ?_)
  have hr := selT h1 hr
  refine Ok.seq (Ok.region (OkOps.y (aI 0) (OkOps.nil (Ok.ret ?_))))
  obtain rfl := Option.some.inj hr
  exact ⟨_, rfl, .inl rfl, ⟨rfl, trivial⟩⟩
  have hr := selF h1 hr
  refine Ok.skip (Ok.seq (Ok.regionD (by kernel_rfl) (OkD.x (.c (.loc 0 0)) rfl trivial rfl (OkD.x (.c (.loc 0 0)) rfl trivial rfl (OkD.x (.c (.loc 0 0)) rfl trivial rfl (OkD.x (.c (.d (.sl (List.map (eInt .i64) p_s.L)))) rfl trivial rfl (OkD.x (.c (.loc 0 0)) rfl trivial rfl (OkD.x (.c (.loc 0 0)) rfl trivial rfl (OkD.x (.c (.loc 0 1)) rfl trivial rfl (OkD.x (aI p_s.At) rfl trivial rfl ?_))))))))))
  obtain ⟨x2, hx2, hr⟩ := bind_some hr
  refine OkD.q (triIdx (enc := (eInt .i64)) (L := p_s.L) (row := [dI x2]) hx2 rfl rfl rfl rfl (fun _ => rfl) trivial rfl) (OkD.x (aI x2) rfl trivial rfl (OkD.x (aI p_n) rfl trivial rfl ?_))
  obtain ⟨x3, hx3, hr⟩ := bind_some hr
  refine OkD.q (triRem hx3 rfl rfl trivial rfl) (OkD.x (aI x3) rfl trivial rfl (OkD.nil (by kernel_rfl) (Ok.seq (Ok.region (OkOps.y (.c (.loc 0 0)) (OkOps.y (.c (.loc 0 0)) (OkOps.y (.c (.loc 0 1)) (OkOps.y (aI p_s.At) (OkOps.y (aI (IntKind.i64.wrap (p_s.At + 1))) (OkOps.y (.c (.loc 0 0)) (OkOps.y (.c (.loc 0 1)) (OkOps.w (triStore (cs' := [.d (.sl (List.map (eInt .i64) p_s.L)), cI (IntKind.i64.wrap (p_s.At + 1))]) rfl rfl rfl rfl rfl rfl rfl rfl rfl) (OkOps.nil ?_)))))))))))))
  obtain ⟨k5, hk5, hr⟩ := jn_some hr
  refine Ok.join (fun (s4 : Int) => ⟨[(5, .s (aI s4))], [(0, .blk [.d (.sl (List.map (eInt .i64) p_s.L)), cI (IntKind.i64.wrap (p_s.At + 1))] 82)], 0⟩) k5 r (fun s4 hr => ?_) ?_
  rw [hk5] at hr
  refine Ok.seq (Ok.region (OkOps.y (aI s4) (OkOps.y (aI s4) (OkOps.nil (Ok.ret ?_)))))
  obtain rfl := Option.some.inj hr
  exact ⟨_, rfl, .inl rfl, ⟨rfl, trivial⟩⟩
  clear hk5
  refine Ok.seq (Ok.region (OkOps.y (aI x3) (OkOps.y (aB (decide (x3 < 0))) (OkOps.nil ?_))))
  refine Ok.cond (b := decide (x3 < 0)) rfl (fun h6 => ?_) (fun h6 => ?_)
  have hr := selT h6 hr
  refine Ok.region (OkOps.y (aI x3) (OkOps.y (aI p_n) (OkOps.y (aI (IntKind.i64.wrap (x3 + p_n))) (OkOps.y (aI (IntKind.i64.wrap (x3 + p_n))) (OkOps.nil ?_)))))
  exact ⟨IntKind.i64.wrap (x3 + p_n), hr, (Conv.mk (tau []) ⟨⟨_, rfl, .inl rfl⟩, trivial⟩ ⟨rfl, trivial⟩ rfl rfl rfl rfl)⟩
  have hr := selF h6 hr
  refine Ok.skip ?_
  exact ⟨x3, hr, (Conv.mk (tau []) ⟨⟨_, rfl, .inl rfl⟩, trivial⟩ ⟨rfl, trivial⟩ rfl rfl rfl rfl)⟩
theorem entry18 : Entry Tryd.prog 18 := ⟨_, Tryd.func18, by kernel_rfl, by kernel_rfl⟩
theorem b_Src_Raw_c (p_s : widgetrybase_Src) {r : Int × widgetrybase_Src} (hr : b_Src_Raw p_s = some r) : Con Tryd.prog 21 [.c (.loc 0 0)] [(0, .blk [.d (.sl (List.map (eInt .i64) p_s.L)), cI p_s.At] 82)] (.s (aI r.1)) [(0, .blk [.d (.sl (List.map (eInt .i64) r.2.L)), cI r.2.At] 82)] := by
  unfold b_Src_Raw at hr
  refine Con.of_ok 31 0 [.tmp 2] [(0, .s (.c (.loc 0 0)))] Tryd.func21 rfl rfl rfl rfl rfl rfl rfl rfl fun w g M ρ _ => (Ok.seq (Ok.region (OkOps.y (aI 0) (OkOps.nil (Ok.seq (Ok.seq (Ok.regionD (by kernel_rfl) (OkD.x (.c (.loc 0 0)) rfl trivial rfl (OkD.x (.c (.loc 0 0)) rfl trivial rfl (OkD.x (.c (.loc 0 1)) rfl trivial rfl (OkD.x (aI p_s.At) rfl trivial rfl (OkD.x (.c (.loc 0 0)) rfl trivial rfl (OkD.x (.c (.loc 0 0)) rfl trivial rfl (OkD.x (.c (.loc 0 0)) rfl trivial rfl (OkD.x (.c (.d (.sl (List.map (eInt .i64) p_s.L)))) rfl trivial rfl ?_)))))))))))))))
  refine OkD.q (triLen (enc := (eInt .i64)) p_s.L rfl rfl trivial rfl) (OkD.x (aB (decide (p_s.At ≥ (p_s.L.length : Int)))) rfl trivial rfl (OkD.nil (by kernel_rfl) ?_))
  refine Ok.cond (b := decide (p_s.At ≥ (p_s.L.length : Int))) rfl (fun h1 => ?_) (fun h1 => ?_)
  have hr := selT h1 hr
  refine Ok.seq (Ok.region (OkOps.y (aI 0) (OkOps.nil (Ok.ret ?_))))
  obtain rfl := Option.some.inj hr
  exact ⟨_, rfl, .inl rfl, ⟨rfl, trivial⟩⟩
  have hr := selF h1 hr
  refine Ok.skip (Ok.seq (Ok.region (OkOps.y (.c (.loc 0 0)) (OkOps.y (.c (.loc 0 0)) (OkOps.y (.c (.loc 0 1)) (OkOps.y (aI p_s.At) (OkOps.y (aI (IntKind.i64.wrap (p_s.At + 1))) (OkOps.y (.c (.loc 0 0)) (OkOps.y (.c (.loc 0 1)) (OkOps.w (triStore (cs' := [.d (.sl (List.map (eInt .i64) p_s.L)), cI (IntKind.i64.wrap (p_s.At + 1))]) rfl rfl rfl rfl rfl rfl rfl rfl rfl) (OkOps.nil (Ok.seq (Ok.regionD (by kernel_rfl) (OkD.x (.c (.loc 0 0)) rfl trivial rfl (OkD.x (.c (.loc 0 0)) rfl trivial rfl ?_)))))))))))))))
  refine OkD.x (.c (.loc 0 0)) rfl trivial rfl (OkD.x (.c (.d (.sl (List.map (eInt .i64) p_s.L)))) rfl trivial rfl (OkD.x (.c (.loc 0 0)) rfl trivial rfl (OkD.x (.c (.loc 0 0)) rfl trivial rfl (OkD.x (.c (.loc 0 1)) rfl trivial rfl (OkD.x (aI (IntKind.i64.wrap (p_s.At + 1))) rfl trivial rfl (OkD.x (aI (IntKind.i64.wrap ((IntKind.i64.wrap (p_s.At + 1)) - 1))) rfl trivial rfl ?_))))))
  obtain ⟨x2, hx2, hr⟩ := bind_some hr
  refine OkD.q (triIdx (enc := (eInt .i64)) (L := p_s.L) (row := [dI x2]) hx2 rfl rfl rfl rfl (fun _ => rfl) trivial rfl) (OkD.x (aI x2) rfl trivial rfl (OkD.x (aI x2) rfl trivial rfl (OkD.nil (by kernel_rfl) (Ok.ret ?_))))
  obtain rfl := Option.some.inj hr
  exact ⟨_, rfl, .inl rfl, ⟨rfl, trivial⟩⟩
theorem entry21 : Entry Tryd.prog 21 := ⟨_, Tryd.func21, by kernel_rfl, by kernel_rfl⟩
theorem b_Src_Chance_c (p_s : widgetrybase_Src) (p_n : Int) {r : Bool × widgetrybase_Src} (hr : b_Src_Chance p_s p_n = some r) : Con Tryd.prog 120 [.c (.loc 0 0), aI p_n] [(0, .blk [.d (.sl (List.map (eInt .i64) p_s.L)), cI p_s.At] 82)] (.s (aB r.1)) [(0, .blk [.d (.sl (List.map (eInt .i64) r.2.L)), cI r.2.At] 82)] := by
  unfold b_Src_Chance at hr
  refine Con.of_ok 11 0 [.tmp 4] [(0, .s (.c (.loc 0 0))), (1, .s (aI p_n))] Tryd.func120 rfl rfl rfl rfl rfl rfl rfl rfl fun w g M ρ _ => (Ok.seq (Ok.region (OkOps.y (aB false) (OkOps.nil (Ok.seq (Ok.region (OkOps.y (.c (.loc 0 0)) (OkOps.y (aI p_n) ?_))))))))
  obtain ⟨x1, hx1, hr⟩ := bind_some hr
  refine OkOps.m 0 (triCl (tau [(0, 0)]) (.s (aI x1.1)) [(0, .blk [.d (.sl (List.map (eInt .i64) x1.2.L)), cI x1.2.At] 82)] (b_Src_N_c _ _ hx1) rfl ⟨.inl rfl, .inl rfl, trivial⟩ trivial entry18 ⟨rfl, trivial⟩) (OkOps.y (aI p_n) (OkOps.y (aI (IntKind.i64.wrap (p_n - 1))) (OkOps.y (aB (x1.1 == (IntKind.i64.wrap (p_n - 1)))) (OkOps.y (aB (x1.1 == (IntKind.i64.wrap (p_n - 1)))) (OkOps.nil (Ok.ret ?_))))))
  obtain rfl := Option.some.inj hr
  exact ⟨_, rfl, .inl rfl, ⟨rfl, trivial⟩⟩
theorem entry120 : Entry Tryd.prog 120 := ⟨_, Tryd.func120, by kernel_rfl, by kernel_rfl⟩
theorem b_Src_Range_c (p_s : widgetrybase_Src) (low : Int) (high : Int) {r : Int × widgetrybase_Src} (hr : b_Src_Range p_s low high = some r) : Con Tryd.prog 19 [.c (.loc 0 0), aI low, aI high] [(0, .blk [.d (.sl (List.map (eInt .i64) p_s.L)), cI p_s.At] 82)] (.s (aI r.1)) [(0, .blk [.d (.sl (List.map (eInt .i64) r.2.L)), cI r.2.At] 82)] := by
  unfold b_Src_Range at hr
  refine Con.of_ok 15 0 [.tmp 6] [(0, .s (.c (.loc 0 0))), (1, .s (aI low)), (2, .s (aI high))] Tryd.func19 rfl rfl rfl rfl rfl rfl rfl rfl fun w g M ρ _ => (Ok.seq (Ok.region (OkOps.y (aI 0) (OkOps.nil (Ok.seq (Ok.region (OkOps.y (aI low) (OkOps.y (.c (.loc 0 0)) (OkOps.y (aI high) (OkOps.y (aI low) (OkOps.y (aI (IntKind.i64.wrap (high - low))) (OkOps.y (aI (IntKind.i64.wrap ((IntKind.i64.wrap (high - low)) + 1))) ?_))))))))))))
  obtain ⟨x1, hx1, hr⟩ := bind_some hr
  refine OkOps.m 0 (triCl (tau [(0, 0)]) (.s (aI x1.1)) [(0, .blk [.d (.sl (List.map (eInt .i64) x1.2.L)), cI x1.2.At] 82)] (b_Src_N_c _ _ hx1) rfl ⟨.inl rfl, .inl rfl, trivial⟩ trivial entry18 ⟨rfl, trivial⟩) (OkOps.y (aI (IntKind.i64.wrap (low + x1.1))) (OkOps.y (aI (IntKind.i64.wrap (low + x1.1))) (OkOps.nil (Ok.ret ?_))))
  obtain rfl := Option.some.inj hr
  exact ⟨_, rfl, .inl rfl, ⟨rfl, trivial⟩⟩
theorem entry19 : Entry Tryd.prog 19 := ⟨_, Tryd.func19, by kernel_rfl, by kernel_rfl⟩
theorem b_alphabet_c  {r : (List Int)} (hr : b_alphabet  = some r) : Con Tryd.prog 119 [] [] (.s (.c (.d (.sl (List.map (eInt .i32) r))))) [] := by
  unfold b_alphabet at hr
  refine Con.of_ok 2 0 [.tmp 0] [] Tryd.func119 rfl rfl rfl rfl rfl rfl rfl rfl fun w g M ρ _ => (Ok.seq (Ok.region (OkOps.y (.c (.d (.v (.slice none 0 0)))) (OkOps.nil (Ok.seq (Ok.region (OkOps.m 0 (triBST (sz := 1) (enc := (eInt .i32)) (j := 0) ([97, 98, 102, 105, 88, 49, 50, 32, 32, 46, 44, 45, 39, 34, 40, 41, 91, 93, 60, 33, 58, 95, 37, 43, 47, 9, 10, 13, 11, 133, 160, 173, 183, 769, 1488, 1489, 1470, 1456, 1536, 1575, 1576, 1587, 1600, 1611, 1633, 1642, 1548, 1564, 1777, 2307, 2309, 2364, 4352, 4449, 4520, 44032, 44033, 8201, 8203, 8204, 8205, 8206, 8207, 8217, 8232, 8233, 8234, 8235, 8236, 8237, 8238, 8288, 8294, 8295, 8296, 8297, 9728, 12288, 12289, 12300, 12301, 12450, 19968, 65039, 127462, 127463, 127995, 128104, 1114111]) rfl rfl rfl rfl rfl rfl rfl rfl (fun _ => rfl) trivial rfl rfl) (OkOps.y (.c (.tl 0 (List.map (eInt .i32) ([97, 98, 102, 105, 88, 49, 50, 32, 32, 46, 44, 45, 39, 34, 40, 41, 91, 93, 60, 33, 58, 95, 37, 43, 47, 9, 10, 13, 11, 133, 160, 173, 183, 769, 1488, 1489, 1470, 1456, 1536, 1575, 1576, 1587, 1600, 1611, 1633, 1642, 1548, 1564, 1777, 2307, 2309, 2364, 4352, 4449, 4520, 44032, 44033, 8201, 8203, 8204, 8205, 8206, 8207, 8217, 8232, 8233, 8234, 8235, 8236, 8237, 8238, 8288, 8294, 8295, 8296, 8297, 9728, 12288, 12289, 12300, 12301, 12450, 19968, 65039, 127462, 127463, 127995, 128104, 1114111])))) (OkOps.nil (Ok.ret ?_))))))))))
  obtain rfl := Option.some.inj hr
  exact ⟨_, rfl, .inr rfl, trivial⟩
theorem entry119 : Entry Tryd.prog 119 := ⟨_, Tryd.func119, by kernel_rfl, by kernel_rfl⟩
theorem b_Src_Rune_c (p_s : widgetrybase_Src) {r : Int × widgetrybase_Src} (hr : b_Src_Rune p_s = some r) : Con Tryd.prog 111 [.c (.loc 0 0)] [(0, .blk [.d (.sl (List.map (eInt .i64) p_s.L)), cI p_s.At] 82)] (.s (.c (.d (.v (.int .i32 r.1))))) [(0, .blk [.d (.sl (List.map (eInt .i64) r.2.L)), cI r.2.At] 82)] := by
  unfold b_Src_Rune at hr
  refine Con.of_ok 17 0 [.tmp 2] [(0, .s (.c (.loc 0 0)))] Tryd.func111 rfl rfl rfl rfl rfl rfl rfl rfl fun w g M ρ _ => (Ok.seq (Ok.region (OkOps.y (.c (.d (.v (.int .i32 0)))) (OkOps.nil (Ok.seq (Ok.region ?_))))))
  obtain ⟨x1, hx1, hr⟩ := bind_some hr
  refine OkOps.q (triCl (tau []) (.s (.c (.d (.sl (List.map (eInt .i32) x1))))) [] (b_alphabet_c  hx1) rfl trivial trivial entry119 trivial) (OkOps.y (.c (.d (.sl (List.map (eInt .i32) x1)))) (OkOps.nil (Ok.seq (Ok.seq (Ok.region (OkOps.y (.c (.loc 0 0)) ?_))))))
  obtain ⟨x2, hx2, hr⟩ := bind_some hr
  refine OkOps.m 0 (triCl (tau [(0, 0)]) (.s (aB x2.1)) [(0, .blk [.d (.sl (List.map (eInt .i64) x2.2.L)), cI x2.2.At] 82)] (b_Src_Chance_c _ _ hx2) rfl ⟨.inl rfl, .inl rfl, trivial⟩ trivial entry120 ⟨rfl, trivial⟩) (OkOps.nil ?_)
  refine Ok.cond (b := x2.1) rfl (fun h3 => ?_) (fun h3 => ?_)
  have hr := selT h3 hr
  refine Ok.seq (Ok.region (OkOps.y (.c (.loc 0 0)) ?_))
  obtain ⟨x4, hx4, hr⟩ := bind_some hr
  refine OkOps.m 0 (triCl (tau [(0, 0)]) (.s (aI x4.1)) [(0, .blk [.d (.sl (List.map (eInt .i64) x4.2.L)), cI x4.2.At] 82)] (b_Src_Raw_c _ hx4) rfl ⟨.inl rfl, trivial⟩ trivial entry21 ⟨rfl, trivial⟩) (OkOps.y (.c (.d (.v (.int .i32 (IntKind.i32.wrap x4.1))))) (OkOps.y (.c (.d (.v (.int .i32 (IntKind.i32.wrap x4.1))))) (OkOps.nil (Ok.ret ?_))))
  obtain rfl := Option.some.inj hr
  exact ⟨_, rfl, .inl rfl, ⟨rfl, trivial⟩⟩
  have hr := selF h3 hr
  refine Ok.skip (Ok.seq (Ok.region (OkOps.y (.c (.d (.sl (List.map (eInt .i32) x1)))) (OkOps.y (.c (.loc 0 0)) (OkOps.y (.c (.d (.sl (List.map (eInt .i32) x1)))) (OkOps.q (triLen (enc := (eInt .i32)) x1 rfl rfl trivial rfl) ?_))))))
  obtain ⟨x5, hx5, hr⟩ := bind_some hr
  refine OkOps.m 0 (triCl (tau [(0, 0)]) (.s (aI x5.1)) [(0, .blk [.d (.sl (List.map (eInt .i64) x5.2.L)), cI x5.2.At] 82)] (b_Src_N_c _ _ hx5) rfl ⟨.inl rfl, .inl rfl, trivial⟩ trivial entry18 ⟨rfl, trivial⟩) ?_
  obtain ⟨x6, hx6, hr⟩ := bind_some hr
  refine OkOps.q (triIdx (enc := (eInt .i32)) (L := x1) (row := [.v (.int .i32 x6)]) hx6 rfl rfl rfl rfl (fun _ => rfl) trivial rfl) (OkOps.y (.c (.d (.v (.int .i32 x6)))) (OkOps.y (.c (.d (.v (.int .i32 x6)))) (OkOps.nil (Ok.ret ?_))))
  obtain rfl := Option.some.inj hr
  exact ⟨_, rfl, .inl rfl, ⟨rfl, trivial⟩⟩
theorem entry111 : Entry Tryd.prog 111 := ⟨_, Tryd.func111, by kernel_rfl, by kernel_rfl⟩
theorem b_Src_Text_c (p_s : widgetrybase_Src) (p_n : Int) {r : (List Int) × widgetrybase_Src} (hr : b_Src_Text p_s p_n = some r) : Con Tryd.prog 103 [.c (.loc 0 0), aI p_n] [(0, .blk [.d (.sl (List.map (eInt .i64) p_s.L)), cI p_s.At] 82)] (.s (.c (.d (.sl (List.map (eInt .i32) r.1))))) [(0, .blk [.d (.sl (List.map (eInt .i64) r.2.L)), cI r.2.At] 82)] := by
  unfold b_Src_Text at hr
  refine Con.of_ok 47 0 [.tmp 4] [(0, .s (.c (.loc 0 0))), (1, .s (aI p_n))] Tryd.func103 rfl rfl rfl rfl rfl rfl rfl rfl fun w g M ρ _ => (Ok.seq (Ok.region (OkOps.y (.c (.d (.v (.slice none 0 0)))) (OkOps.nil (Ok.seq (Ok.region (OkOps.y (.c (.loc 0 0)) (OkOps.y (aI p_n) (OkOps.y (aI (IntKind.i64.wrap (p_n + 1))) ?_)))))))))
  obtain ⟨x1, hx1, hr⟩ := bind_some hr
  refine OkOps.m 0 (triCl (tau [(0, 0)]) (.s (aI x1.1)) [(0, .blk [.d (.sl (List.map (eInt .i64) x1.2.L)), cI x1.2.At] 82)] (b_Src_N_c _ _ hx1) rfl ⟨.inl rfl, .inl rfl, trivial⟩ trivial entry18 ⟨rfl, trivial⟩) (OkOps.y (aI x1.1) (OkOps.nil (Ok.seq (Ok.region (OkOps.y (.c (.d (.v (.slice none 0 0)))) (OkOps.nil (Ok.seq (Ok.region (OkOps.y (.c (.loc 0 0)) ?_)))))))))
  obtain ⟨x2, hx2, hr⟩ := bind_some hr
  refine OkOps.m 0 (triCl (tau [(0, 0)]) (.s (aI x2.1)) [(0, .blk [.d (.sl (List.map (eInt .i64) x2.2.L)), cI x2.2.At] 82)] (b_Src_N_c _ _ hx2) rfl ⟨.inl rfl, .inl rfl, trivial⟩ trivial entry18 ⟨rfl, trivial⟩) (OkOps.y (aI x2.1) (OkOps.nil (Ok.seq (Ok.region (OkOps.y (.c (.d (.v (.slice none 0 0)))) (OkOps.nil ?_))))))
  obtain ⟨k4, hk4, hr⟩ := jn_some hr
  refine Ok.join (fun (s3 : (List Int) × (List Int) × Int) => ⟨[(0, .s (.c (.loc 0 0))), (5, .s (aI x1.1)), (6, .s (.c (.d (.v (.slice none 0 0))))), (7, .s (aI x2.1)), (8, .s (.c (.tl 1004 (List.map (eInt .i32) s3.1))))], [(0, .blk [.d (.sl (List.map (eInt .i64) s3.2.1)), cI s3.2.2] 82), (1004, .tail 1)], 0⟩) k4 r (fun s3 hr => ?_) ?_
  rw [hk4] at hr
  obtain ⟨k6, hk6, hr⟩ := jn_some hr
  refine Ok.join (fun (s5 : (List Int) × (List Int) × Int) => ⟨[(6, .s (.c (.tl 1012 (List.map (eInt .i32) s5.1))))], [(0, .blk [.d (.sl (List.map (eInt .i64) s5.2.1)), cI s5.2.2] 82), (1012, .tail 1)], 0⟩) k6 r (fun s5 hr => ?_) ?_
  rw [hk6] at hr
  refine Ok.seq (Ok.region (OkOps.y (.c (.tl 1012 (List.map (eInt .i32) s5.1))) (OkOps.y (.c (.tl 1012 (List.map (eInt .i32) s5.1))) (OkOps.nil (Ok.ret ?_)))))
  obtain rfl := Option.some.inj hr
  exact ⟨_, rfl, .inr rfl, ⟨rfl, trivial⟩⟩
  clear hk6
  refine Ok.seq (Ok.region (OkOps.y (aI 0) (OkOps.nil (Ok.block (Ok.loopK (fun (s7 : (List Int) × Int × (List Int) × Int) => ⟨[(0, .s (.c (.loc 0 0))), (5, .s (aI x1.1)), (6, .s (.c (.tl 1016 (List.map (eInt .i32) s7.1)))), (7, .s (aI x2.1)), (8, .s (.c (.tl 1004 (List.map (eInt .i32) s3.1)))), (10, .s (aI s7.2.1))], [(0, .blk [.d (.sl (List.map (eInt .i64) s7.2.2.1)), cI s7.2.2.2] 82), (1004, .tail 1), (1016, .tail 1)], 0⟩) hr (Conv.trans (Conv.nil 6 1019 1 0 rfl rfl) (Conv.mk (tau [(1016, 1019)]) ⟨⟨_, rfl, .inl rfl⟩, ⟨_, rfl, .inl rfl⟩, ⟨_, rfl, .inl rfl⟩, ⟨_, rfl, .inl rfl⟩, ⟨_, rfl, .inl rfl⟩, ⟨_, rfl, .inl rfl⟩, trivial⟩ ⟨rfl, rfl, rfl, trivial⟩ rfl rfl rfl rfl)) ?_)))))
  clear hr
  intro again8 s7 hr
  unfold b_Src_Text_L1 at hr
  refine Ok.seq (Ok.seq (Ok.region (OkOps.y (aI s7.2.1) (OkOps.y (aI x1.1) (OkOps.y (aB (decide (s7.2.1 < x1.1))) (OkOps.nil ?_))))))
  refine Ok.cond (b := decide (s7.2.1 < x1.1)) rfl (fun h9 => ?_) (fun h9 => ?_)
  have hr := selT h9 hr
  refine Ok.skip ?_
  obtain ⟨k11, hk11, hr⟩ := jn_some hr
  refine Ok.join (fun (s10 : (List Int) × (List Int) × Int) => ⟨[(0, .s (.c (.loc 0 0))), (5, .s (aI x1.1)), (6, .s (.c (.tl 1020 (List.map (eInt .i32) s10.1)))), (7, .s (aI x2.1)), (8, .s (.c (.tl 1004 (List.map (eInt .i32) s3.1)))), (10, .s (aI s7.2.1))], [(0, .blk [.d (.sl (List.map (eInt .i64) s10.2.1)), cI s10.2.2] 82), (1004, .tail 1), (1020, .tail 1)], 0⟩) k11 r (fun s10 hr => ?_) ?_
  rw [hk11] at hr
  refine Ok.region (OkOps.y (aI s7.2.1) (OkOps.y (aI (IntKind.i64.wrap (s7.2.1 + 1))) (OkOps.y (aI (IntKind.i64.wrap (s7.2.1 + 1))) (OkOps.nil ?_))))
  exact ⟨(s10.1, IntKind.i64.wrap (s7.2.1 + 1), s10.2.1, s10.2.2), hr, (Conv.mk (tau [(1016, 1020)]) ⟨⟨_, rfl, .inl rfl⟩, ⟨_, rfl, .inl rfl⟩, ⟨_, rfl, .inl rfl⟩, ⟨_, rfl, .inl rfl⟩, ⟨_, rfl, .inl rfl⟩, ⟨_, rfl, .inl rfl⟩, trivial⟩ ⟨rfl, rfl, rfl, trivial⟩ rfl rfl rfl rfl)⟩
  clear hk11
  refine Ok.block (Ok.seq (Ok.region (OkOps.y (aI x2.1) (OkOps.y (aB (decide (x2.1 > 0))) (OkOps.nil ?_)))))
  refine Ok.cond (b := decide (x2.1 > 0)) rfl (fun h12 => ?_) (fun h12 => ?_)
  have hr := selT h12 hr
  refine Ok.region (OkOps.y (.c (.tl 1016 (List.map (eInt .i32) s7.1))) (OkOps.y (.c (.tl 1004 (List.map (eInt .i32) s3.1))) (OkOps.y (.c (.loc 0 0)) ?_)))
  obtain ⟨x13, hx13, hr⟩ := bind_some hr
  refine OkOps.m 0 (triCl (tau [(0, 0)]) (.s (aI x13.1)) [(0, .blk [.d (.sl (List.map (eInt .i64) x13.2.L)), cI x13.2.At] 82)] (b_Src_N_c _ _ hx13) rfl ⟨.inl rfl, .inl rfl, trivial⟩ trivial entry18 ⟨rfl, trivial⟩) ?_
  obtain ⟨x14, hx14, hr⟩ := bind_some hr
  refine OkOps.q (triIdx (enc := (eInt .i32)) (L := s3.1) (row := [.v (.int .i32 x14)]) hx14 rfl rfl rfl rfl (fun _ => rfl) trivial rfl) (OkOps.y (.c (.d (.v (.int .i32 x14)))) (OkOps.m 0 (triBST (sz := 1) (enc := (eInt .i32)) (j := 1) ([x14]) rfl rfl rfl rfl rfl rfl rfl rfl (fun _ => rfl) trivial rfl rfl) ?_))
  obtain ⟨x15, hx15, hr⟩ := bind_some hr
  refine OkOps.m2 0 (triApp (enc := (eInt .i32)) (L := s7.1) (X := [x14]) (j := 1016) (j' := 2) hx15 rfl rfl rfl rfl rfl rfl (fun _ => rfl) (fun _ => rfl) (by decide) trivial rfl rfl) (OkOps.y (.c (.tl 2 (List.map (eInt .i32) x15))) (OkOps.nil ?_))
  exact ⟨(x15, x13.2.L, x13.2.At), hr, (Conv.mk (tau [(1020, 2)]) ⟨⟨_, rfl, .inl rfl⟩, ⟨_, rfl, .inl rfl⟩, ⟨_, rfl, .inl rfl⟩, ⟨_, rfl, .inl rfl⟩, ⟨_, rfl, .inl rfl⟩, ⟨_, rfl, .inl rfl⟩, trivial⟩ ⟨rfl, rfl, rfl, trivial⟩ rfl rfl rfl rfl)⟩
  have hr := selF h12 hr
  refine Ok.region (OkOps.y (.c (.tl 1016 (List.map (eInt .i32) s7.1))) (OkOps.y (.c (.loc 0 0)) ?_))
  obtain ⟨x16, hx16, hr⟩ := bind_some hr
  refine OkOps.m 0 (triCl (tau [(0, 0)]) (.s (.c (.d (.v (.int .i32 x16.1))))) [(0, .blk [.d (.sl (List.map (eInt .i64) x16.2.L)), cI x16.2.At] 82)] (b_Src_Rune_c _ hx16) rfl ⟨.inl rfl, trivial⟩ trivial entry111 ⟨rfl, trivial⟩) (OkOps.m 0 (triBST (sz := 1) (enc := (eInt .i32)) (j := 3) ([x16.1]) rfl rfl rfl rfl rfl rfl rfl rfl (fun _ => rfl) trivial rfl rfl) ?_)
  obtain ⟨x17, hx17, hr⟩ := bind_some hr
  refine OkOps.m2 0 (triApp (enc := (eInt .i32)) (L := s7.1) (X := [x16.1]) (j := 1016) (j' := 4) hx17 rfl rfl rfl rfl rfl rfl (fun _ => rfl) (fun _ => rfl) (by decide) trivial rfl rfl) (OkOps.y (.c (.tl 4 (List.map (eInt .i32) x17))) (OkOps.nil ?_))
  exact ⟨(x17, x16.2.L, x16.2.At), hr, (Conv.mk (tau [(1020, 4)]) ⟨⟨_, rfl, .inl rfl⟩, ⟨_, rfl, .inl rfl⟩, ⟨_, rfl, .inl rfl⟩, ⟨_, rfl, .inl rfl⟩, ⟨_, rfl, .inl rfl⟩, ⟨_, rfl, .inl rfl⟩, trivial⟩ ⟨rfl, rfl, rfl, trivial⟩ rfl rfl rfl rfl)⟩
  have hr := selF h9 hr
  refine Ok.exit ?_
  exact ⟨(s7.1, s7.2.2.1, s7.2.2.2), hr, (Conv.mk (tau [(1012, 1016)]) ⟨⟨_, rfl, .inl rfl⟩, trivial⟩ ⟨rfl, rfl, trivial⟩ rfl rfl rfl rfl)⟩
  clear hk4
  refine Ok.seq (Ok.region (OkOps.y (aI 0) (OkOps.nil (Ok.block (Ok.loopK (fun (s18 : (List Int) × Int × (List Int) × Int) => ⟨[(0, .s (.c (.loc 0 0))), (5, .s (aI x1.1)), (6, .s (.c (.d (.v (.slice none 0 0))))), (7, .s (aI x2.1)), (8, .s (.c (.tl 1023 (List.map (eInt .i32) s18.1)))), (9, .s (aI s18.2.1))], [(0, .blk [.d (.sl (List.map (eInt .i64) s18.2.2.1)), cI s18.2.2.2] 82), (1023, .tail 1)], 0⟩) hr (Conv.trans (Conv.nil 8 1025 1 0 rfl rfl) (Conv.mk (tau [(1023, 1025)]) ⟨⟨_, rfl, .inl rfl⟩, ⟨_, rfl, .inl rfl⟩, ⟨_, rfl, .inl rfl⟩, ⟨_, rfl, .inl rfl⟩, ⟨_, rfl, .inl rfl⟩, ⟨_, rfl, .inl rfl⟩, trivial⟩ ⟨rfl, rfl, trivial⟩ rfl rfl rfl rfl)) ?_)))))
  clear hr
  intro again19 s18 hr
  unfold b_Src_Text_L2 at hr
  refine Ok.seq (Ok.seq (Ok.region (OkOps.y (aI s18.2.1) (OkOps.y (aB (decide (s18.2.1 < 5))) (OkOps.nil ?_)))))
  refine Ok.cond (b := decide (s18.2.1 < 5)) rfl (fun h20 => ?_) (fun h20 => ?_)
  have hr := selT h20 hr
  refine Ok.skip (Ok.seq (Ok.block (Ok.region (OkOps.y (.c (.tl 1023 (List.map (eInt .i32) s18.1))) (OkOps.y (.c (.loc 0 0)) ?_)))))
  obtain ⟨x21, hx21, hr⟩ := bind_some hr
  refine OkOps.m 0 (triCl (tau [(0, 0)]) (.s (.c (.d (.v (.int .i32 x21.1))))) [(0, .blk [.d (.sl (List.map (eInt .i64) x21.2.L)), cI x21.2.At] 82)] (b_Src_Rune_c _ hx21) rfl ⟨.inl rfl, trivial⟩ trivial entry111 ⟨rfl, trivial⟩) (OkOps.m 0 (triBST (sz := 1) (enc := (eInt .i32)) (j := 5) ([x21.1]) rfl rfl rfl rfl rfl rfl rfl rfl (fun _ => rfl) trivial rfl rfl) ?_)
  obtain ⟨x22, hx22, hr⟩ := bind_some hr
  refine OkOps.m2 0 (triApp (enc := (eInt .i32)) (L := s18.1) (X := [x21.1]) (j := 1023) (j' := 6) hx22 rfl rfl rfl rfl rfl rfl (fun _ => rfl) (fun _ => rfl) (by decide) trivial rfl rfl) (OkOps.y (.c (.tl 6 (List.map (eInt .i32) x22))) (OkOps.nil (Ok.region (OkOps.y (aI s18.2.1) (OkOps.y (aI (IntKind.i64.wrap (s18.2.1 + 1))) (OkOps.y (aI (IntKind.i64.wrap (s18.2.1 + 1))) (OkOps.nil ?_)))))))
  exact ⟨(x22, IntKind.i64.wrap (s18.2.1 + 1), x21.2.L, x21.2.At), hr, (Conv.mk (tau [(1023, 6)]) ⟨⟨_, rfl, .inl rfl⟩, ⟨_, rfl, .inl rfl⟩, ⟨_, rfl, .inl rfl⟩, ⟨_, rfl, .inl rfl⟩, ⟨_, rfl, .inl rfl⟩, ⟨_, rfl, .inl rfl⟩, trivial⟩ ⟨rfl, rfl, trivial⟩ rfl rfl rfl rfl)⟩
  have hr := selF h20 hr
  refine Ok.exit ?_
  exact ⟨(s18.1, s18.2.2.1, s18.2.2.2), hr, (Conv.mk (tau [(1004, 1023)]) ⟨⟨_, rfl, .inl rfl⟩, ⟨_, rfl, .inl rfl⟩, ⟨_, rfl, .inl rfl⟩, ⟨_, rfl, .inl rfl⟩, ⟨_, rfl, .inl rfl⟩, trivial⟩ ⟨rfl, rfl, trivial⟩ rfl rfl rfl rfl)⟩
theorem entry103 : Entry Tryd.prog 103 := ⟨_, Tryd.func103, by kernel_rfl, by kernel_rfl⟩
theorem b_Src_valid_c (p_s : widgetrybase_Src) (l : (List Int)) {r : (List Int) × widgetrybase_Src} (hr : b_Src_valid p_s l = some r) : Con Tryd.prog 102 [.c (.loc 0 0), .c (.d (.sl (List.map (eInt .i32) l)))] [(0, .blk [.d (.sl (List.map (eInt .i64) p_s.L)), cI p_s.At] 82)] (.s (.c (.d (.sl (List.map (eInt .i32) r.1))))) [(0, .blk [.d (.sl (List.map (eInt .i64) r.2.L)), cI r.2.At] 82)] := by
  unfold b_Src_valid at hr
  refine Con.of_ok 8 0 [.tmp 4] [(0, .s (.c (.loc 0 0))), (1, .s (.c (.d (.sl (List.map (eInt .i32) l)))))] Tryd.func102 rfl rfl rfl rfl rfl rfl rfl rfl fun w g M ρ _ => (Ok.seq (Ok.region (OkOps.y (.c (.d (.v (.slice none 0 0)))) (OkOps.nil (Ok.seq (Ok.region (OkOps.y (.c (.d (.sl (List.map (eInt .i32) l)))) (OkOps.q (triOfRunes (L := l) rfl rfl trivial rfl) (OkOps.q (triRunes rfl rfl trivial rfl) (OkOps.y (.c (.d (.sl (List.map (eInt .i32) (runes (ofRunes l)))))) (OkOps.nil (Ok.ret ?_))))))))))))
  obtain rfl := Option.some.inj hr
  exact ⟨_, rfl, .inl rfl, ⟨rfl, trivial⟩⟩
theorem entry102 : Entry Tryd.prog 102 := ⟨_, Tryd.func102, by kernel_rfl, by kernel_rfl⟩
theorem b_Src_Word_c (p_s : widgetrybase_Src) (p_n : Int) {r : Str × widgetrybase_Src} (hr : b_Src_Word p_s p_n = some r) : Con Tryd.prog 22 [.c (.loc 0 0), aI p_n] [(0, .blk [.d (.sl (List.map (eInt .i64) p_s.L)), cI p_s.At] 82)] (.s (aS r.1)) [(0, .blk [.d (.sl (List.map (eInt .i64) r.2.L)), cI r.2.At] 82)] := by
  unfold b_Src_Word at hr
  refine Con.of_ok 28 0 [.tmp 4] [(0, .s (.c (.loc 0 0))), (1, .s (aI p_n))] Tryd.func22 rfl rfl rfl rfl rfl rfl rfl rfl fun w g M ρ _ => (Ok.seq (Ok.region (OkOps.y (aS (ByteArray.mk #[])) (OkOps.nil (Ok.seq (Ok.region (OkOps.y (.c (.loc 0 0)) (OkOps.y (aI p_n) (OkOps.y (aI (IntKind.i64.wrap (p_n + 1))) ?_)))))))))
  obtain ⟨x1, hx1, hr⟩ := bind_some hr
  refine OkOps.m 0 (triCl (tau [(0, 0)]) (.s (aI x1.1)) [(0, .blk [.d (.sl (List.map (eInt .i64) x1.2.L)), cI x1.2.At] 82)] (b_Src_N_c _ _ hx1) rfl ⟨.inl rfl, .inl rfl, trivial⟩ trivial entry18 ⟨rfl, trivial⟩) (OkOps.y (aI x1.1) (OkOps.nil (Ok.seq (Ok.region (OkOps.y (aI x1.1) ?_)))))
  obtain ⟨x2, hx2, hr⟩ := bind_some hr
  refine OkOps.m 0 (triMkV (sz := 1) (enc := (eInt .u8)) (zr := 0) (j := 1) hx2 rfl rfl rfl rfl rfl (fun _ => rfl) (by decide) trivial rfl rfl) (OkOps.y (.c (.own 1)) (OkOps.nil ?_))
  obtain ⟨k4, hk4, hr⟩ := jn_some hr
  refine Ok.join (fun (s3 : (List Int) × Int × (List Int)) => ⟨[(6, .s (.c (.own 1)))], [(0, .blk [.d (.sl (List.map (eInt .i64) s3.1)), cI s3.2.1] 82), (1, .vec 1 (List.map (eInt .u8) s3.2.2))], 0⟩) k4 r (fun s3 hr => ?_) ?_
  rw [hk4] at hr
  refine Ok.seq (Ok.region (OkOps.y (.c (.own 1)) (OkOps.conv (Conv.freeze (enc := (eInt .u8)) (L := s3.2.2) [6, 26] 1 2 1 0 ⟨rfl, rfl, trivial⟩ rfl (fun _ => rfl) rfl) (OkOps.q (triOfBytes (L := s3.2.2) rfl rfl trivial rfl) (OkOps.y (aS (ofBytes s3.2.2)) (OkOps.nil (Ok.ret ?_)))))))
  obtain rfl := Option.some.inj hr
  exact ⟨_, rfl, .inl rfl, ⟨rfl, trivial⟩⟩
  clear hk4
  refine Ok.seq (Ok.region (OkOps.y (aI 0) (OkOps.nil (Ok.block (Ok.loopK (fun (s5 : Int × (List Int) × Int × (List Int)) => ⟨[(0, .s (.c (.loc 0 0))), (5, .s (aI x1.1)), (6, .s (.c (.own 1))), (7, .s (aI s5.1))], [(0, .blk [.d (.sl (List.map (eInt .i64) s5.2.1)), cI s5.2.2.1] 82), (1, .vec 1 (List.map (eInt .u8) s5.2.2.2))], 0⟩) hr (Conv.mk (tau []) ⟨⟨_, rfl, .inl rfl⟩, ⟨_, rfl, .inl rfl⟩, ⟨_, rfl, .inl rfl⟩, ⟨_, rfl, .inl rfl⟩, trivial⟩ ⟨rfl, rfl, trivial⟩ rfl rfl rfl rfl) ?_)))))
  clear hr
  intro again6 s5 hr
  unfold b_Src_Word_L1 at hr
  refine Ok.seq (Ok.seq (Ok.region (OkOps.y (aI s5.1) (OkOps.y (aI x1.1) (OkOps.y (aB (decide (s5.1 < x1.1))) (OkOps.nil ?_))))))
  refine Ok.cond (b := decide (s5.1 < x1.1)) rfl (fun h7 => ?_) (fun h7 => ?_)
  have hr := selT h7 hr
  refine Ok.skip (Ok.seq (Ok.block (Ok.region (OkOps.y (.c (.own 1)) (OkOps.y (aI s5.1) (OkOps.y (.c (.loc 0 0)) ?_))))))
  obtain ⟨x8, hx8, hr⟩ := bind_some hr
  refine OkOps.m 0 (triCl (tau [(0, 0)]) (.s (aI x8.1)) [(0, .blk [.d (.sl (List.map (eInt .i64) x8.2.L)), cI x8.2.At] 82)] (b_Src_N_c _ _ hx8) rfl ⟨.inl rfl, .inl rfl, trivial⟩ trivial entry18 ⟨rfl, trivial⟩) (OkOps.y (aI (IntKind.i64.wrap (97 + x8.1))) (OkOps.y (.c (.d (.v (.int .u8 (IntKind.u8.wrap (IntKind.i64.wrap (97 + x8.1))))))) ?_))
  obtain ⟨x9, hx9, hr⟩ := bind_some hr
  refine OkOps.q (triIdxV (enc := (eInt .u8)) (L := s5.2.2.2) hx9 rfl rfl rfl rfl trivial rfl) (OkOps.w (triStoreV (enc := (eInt .u8)) (L := s5.2.2.2) (IntKind.u8.wrap (IntKind.i64.wrap (97 + x8.1))) (.inr (ixO_spec hx9).2) rfl rfl rfl rfl rfl rfl (fun _ => rfl) rfl) (OkOps.nil (Ok.region (OkOps.y (aI s5.1) (OkOps.y (aI (IntKind.i64.wrap (s5.1 + 1))) (OkOps.y (aI (IntKind.i64.wrap (s5.1 + 1))) (OkOps.nil ?_)))))))
  exact ⟨(IntKind.i64.wrap (s5.1 + 1), x8.2.L, x8.2.At, List.set s5.2.2.2 x9 (IntKind.u8.wrap (IntKind.i64.wrap (97 + x8.1)))), hr, (Conv.mk (tau []) ⟨⟨_, rfl, .inl rfl⟩, ⟨_, rfl, .inl rfl⟩, ⟨_, rfl, .inl rfl⟩, ⟨_, rfl, .inl rfl⟩, trivial⟩ ⟨rfl, rfl, trivial⟩ rfl rfl rfl rfl)⟩
  have hr := selF h7 hr
  refine Ok.exit ?_
  exact ⟨(s5.2.1, s5.2.2.1, s5.2.2.2), hr, (Conv.mk (tau []) ⟨⟨_, rfl, .inl rfl⟩, trivial⟩ ⟨rfl, rfl, trivial⟩ rfl rfl rfl rfl)⟩
theorem entry22 : Entry Tryd.prog 22 := ⟨_, Tryd.func22, by kernel_rfl, by kernel_rfl⟩
theorem b_Src_Name_c (p_s : widgetrybase_Src) {r : Str × widgetrybase_Src} (hr : b_Src_Name p_s = some r) : Con Tryd.prog 100 [.c (.loc 0 0)] [(0, .blk [.d (.sl (List.map (eInt .i64) p_s.L)), cI p_s.At] 82)] (.s (aS r.1)) [(0, .blk [.d (.sl (List.map (eInt .i64) r.2.L)), cI r.2.At] 82)] := by
  unfold b_Src_Name at hr
  refine Con.of_ok 12 0 [.tmp 2] [(0, .s (.c (.loc 0 0)))] Tryd.func100 rfl rfl rfl rfl rfl rfl rfl rfl fun w g M ρ _ => (Ok.seq (Ok.region (OkOps.y (aS (ByteArray.mk #[])) (OkOps.nil (Ok.seq (Ok.region (OkOps.m 0 (triBST (sz := 1) (enc := eStr) (j := 1) ([(ByteArray.mk #[97]), (ByteArray.mk #[98]), (ByteArray.mk #[99]), (ByteArray.mk #[100]), (ByteArray.mk #[120]), (ByteArray.mk #[121]), (ByteArray.mk #[105, 116, 101, 109]), (ByteArray.mk #[110, 45, 49])]) rfl rfl rfl rfl rfl rfl rfl rfl (fun _ => rfl) trivial rfl rfl) (OkOps.y (.c (.tl 1 (List.map eStr ([(ByteArray.mk #[97]), (ByteArray.mk #[98]), (ByteArray.mk #[99]), (ByteArray.mk #[100]), (ByteArray.mk #[120]), (ByteArray.mk #[121]), (ByteArray.mk #[105, 116, 101, 109]), (ByteArray.mk #[110, 45, 49])])))) (OkOps.nil (Ok.seq (Ok.region (OkOps.y (.c (.tl 1 (List.map eStr ([(ByteArray.mk #[97]), (ByteArray.mk #[98]), (ByteArray.mk #[99]), (ByteArray.mk #[100]), (ByteArray.mk #[120]), (ByteArray.mk #[121]), (ByteArray.mk #[105, 116, 101, 109]), (ByteArray.mk #[110, 45, 49])])))) (OkOps.y (.c (.loc 0 0)) (OkOps.y (.c (.tl 1 (List.map eStr ([(ByteArray.mk #[97]), (ByteArray.mk #[98]), (ByteArray.mk #[99]), (ByteArray.mk #[100]), (ByteArray.mk #[120]), (ByteArray.mk #[121]), (ByteArray.mk #[105, 116, 101, 109]), (ByteArray.mk #[110, 45, 49])])))) (OkOps.q (triLen (enc := eStr) ([(ByteArray.mk #[97]), (ByteArray.mk #[98]), (ByteArray.mk #[99]), (ByteArray.mk #[100]), (ByteArray.mk #[120]), (ByteArray.mk #[121]), (ByteArray.mk #[105, 116, 101, 109]), (ByteArray.mk #[110, 45, 49])]) rfl rfl trivial rfl) ?_)))))))))))))))
  obtain ⟨x1, hx1, hr⟩ := bind_some hr
  refine OkOps.m 0 (triCl (tau [(0, 0)]) (.s (aI x1.1)) [(0, .blk [.d (.sl (List.map (eInt .i64) x1.2.L)), cI x1.2.At] 82)] (b_Src_N_c _ _ hx1) rfl ⟨.inl rfl, .inl rfl, trivial⟩ trivial entry18 ⟨rfl, trivial⟩) ?_
  obtain ⟨x2, hx2, hr⟩ := bind_some hr
  refine OkOps.q (triIdx (enc := eStr) (L := [(ByteArray.mk #[97]), (ByteArray.mk #[98]), (ByteArray.mk #[99]), (ByteArray.mk #[100]), (ByteArray.mk #[120]), (ByteArray.mk #[121]), (ByteArray.mk #[105, 116, 101, 109]), (ByteArray.mk #[110, 45, 49])]) (row := [dS x2]) hx2 rfl rfl rfl rfl (fun _ => rfl) trivial rfl) (OkOps.y (aS x2) (OkOps.y (aS x2) (OkOps.nil (Ok.ret ?_))))
  obtain rfl := Option.some.inj hr
  exact ⟨_, rfl, .inl rfl, ⟨rfl, trivial⟩⟩
theorem entry100 : Entry Tryd.prog 100 := ⟨_, Tryd.func100, by kernel_rfl, by kernel_rfl⟩
theorem b_number_c (p_n : Int) {r : AValue} (hr : b_number p_n = some r) : Con Tryd.prog 101 [aI p_n] [] (.s (.agg [cI r.Kind, cI r.N, cS r.S, .d (.sl (List.map AValue.cs r.L))])) [] := by
  unfold b_number at hr
  refine Con.of_ok 5 0 [.cell 2 40] [(0, .s (aI p_n))] Tryd.func101 rfl rfl rfl rfl rfl rfl rfl rfl fun w g M ρ _ => (Ok.seq (Ok.region (OkOps.m 0 (triAlloc (j := 0) (cs := [cI 0, cI 0, cS ByteArray.empty, .d (.v (.slice none 0 0))]) rfl rfl rfl rfl) (OkOps.nil (Ok.seq (Ok.region (OkOps.y (aI p_n) (OkOps.y (.agg [cI 1, cI p_n, cS ByteArray.empty, .d (.v (.slice none 0 0))]) (OkOps.w (triStore (cs' := [cI 1, cI p_n, cS ByteArray.empty, .d (.v (.slice none 0 0))]) rfl rfl rfl rfl rfl rfl rfl rfl rfl) (OkOps.nil (Ok.ret ?_)))))))))))
  obtain rfl := Option.some.inj hr
  exact ⟨_, rfl, .inr rfl, trivial⟩
theorem entry101 : Entry Tryd.prog 101 := ⟨_, Tryd.func101, by kernel_rfl, by kernel_rfl⟩
theorem b_text_c (p_s : Str) {r : AValue} (hr : b_text p_s = some r) : Con Tryd.prog 98 [aS p_s] [] (.s (.agg [cI r.Kind, cI r.N, cS r.S, .d (.sl (List.map AValue.cs r.L))])) [] := by
  unfold b_text at hr
  refine Con.of_ok 5 0 [.cell 2 40] [(0, .s (aS p_s))] Tryd.func98 rfl rfl rfl rfl rfl rfl rfl rfl fun w g M ρ _ => (Ok.seq (Ok.region (OkOps.m 0 (triAlloc (j := 0) (cs := [cI 0, cI 0, cS ByteArray.empty, .d (.v (.slice none 0 0))]) rfl rfl rfl rfl) (OkOps.nil (Ok.seq (Ok.region (OkOps.y (aS p_s) (OkOps.y (.agg [cI 3, cI 0, cS p_s, .d (.v (.slice none 0 0))]) (OkOps.w (triStore (cs' := [cI 3, cI 0, cS p_s, .d (.v (.slice none 0 0))]) rfl rfl rfl rfl rfl rfl rfl rfl rfl) (OkOps.nil (Ok.ret ?_)))))))))))
  obtain rfl := Option.some.inj hr
  exact ⟨_, rfl, .inr rfl, trivial⟩
theorem entry98 : Entry Tryd.prog 98 := ⟨_, Tryd.func98, by kernel_rfl, by kernel_rfl⟩
theorem b_flag_c (b : Int) {r : AValue} (hr : b_flag b = some r) : Con Tryd.prog 99 [aI b] [] (.s (.agg [cI r.Kind, cI r.N, cS r.S, .d (.sl (List.map AValue.cs r.L))])) [] := by
  unfold b_flag at hr
  refine Con.of_ok 5 0 [.cell 2 40] [(0, .s (aI b))] Tryd.func99 rfl rfl rfl rfl rfl rfl rfl rfl fun w g M ρ _ => (Ok.seq (Ok.region (OkOps.m 0 (triAlloc (j := 0) (cs := [cI 0, cI 0, cS ByteArray.empty, .d (.v (.slice none 0 0))]) rfl rfl rfl rfl) (OkOps.nil (Ok.seq (Ok.region (OkOps.y (aI b) (OkOps.y (.agg [cI 2, cI b, cS ByteArray.empty, .d (.v (.slice none 0 0))]) (OkOps.w (triStore (cs' := [cI 2, cI b, cS ByteArray.empty, .d (.v (.slice none 0 0))]) rfl rfl rfl rfl rfl rfl rfl rfl rfl) (OkOps.nil (Ok.ret ?_)))))))))))
  obtain rfl := Option.some.inj hr
  exact ⟨_, rfl, .inr rfl, trivial⟩
theorem entry99 : Entry Tryd.prog 99 := ⟨_, Tryd.func99, by kernel_rfl, by kernel_rfl⟩
theorem entry53 : Entry Tryd.prog 53 := ⟨_, Tryd.func53, by kernel_rfl, by kernel_rfl⟩
theorem b_Src_Like_B_c (self0 : widgetrybase_Src → AValue → Option (AValue × widgetrybase_Src)) (hself0 : ∀ (p_s : widgetrybase_Src) (v : AValue) {r : AValue × widgetrybase_Src}, self0 p_s v = some r → Con Tryd.prog 53 [.c (.loc 0 0), .agg [cI v.Kind, cI v.N, cS v.S, .d (.sl (List.map AValue.cs v.L))]] [(0, .blk [.d (.sl (List.map (eInt .i64) p_s.L)), cI p_s.At] 82)] (.s (.agg [cI r.1.Kind, cI r.1.N, cS r.1.S, .d (.sl (List.map AValue.cs r.1.L))])) [(0, .blk [.d (.sl (List.map (eInt .i64) r.2.L)), cI r.2.At] 82)]) (p_s : widgetrybase_Src) (v : AValue) {r : AValue × widgetrybase_Src} (hr : b_Src_Like_B self0 p_s v = some r) : Con Tryd.prog 53 [.c (.loc 0 0), .agg [cI v.Kind, cI v.N, cS v.S, .d (.sl (List.map AValue.cs v.L))]] [(0, .blk [.d (.sl (List.map (eInt .i64) p_s.L)), cI p_s.At] 82)] (.s (.agg [cI r.1.Kind, cI r.1.N, cS r.1.S, .d (.sl (List.map AValue.cs r.1.L))])) [(0, .blk [.d (.sl (List.map (eInt .i64) r.2.L)), cI r.2.At] 82)] := by
  unfold b_Src_Like_B at hr
  refine Con.of_ok 48 0 [.cell 4 40] [(0, .s (.c (.loc 0 0))), (1, .s (.agg [cI v.Kind, cI v.N, cS v.S, .d (.sl (List.map AValue.cs v.L))]))] Tryd.func53 rfl rfl rfl rfl rfl rfl rfl rfl fun w g M ρ _ => (Ok.seq (Ok.region (OkOps.m 0 (triBox (j := 1) (cs := [cI v.Kind, cI v.N, cS v.S, .d (.sl (List.map AValue.cs v.L))]) rfl rfl rfl rfl rfl) (OkOps.m 0 (triAlloc (j := 2) (cs := [cI 0, cI 0, cS ByteArray.empty, .d (.v (.slice none 0 0))]) rfl rfl rfl rfl) (OkOps.nil (Ok.seq (Ok.seq (Ok.region (OkOps.y (.c (.loc 1 0)) (OkOps.y (aI v.Kind) (OkOps.nil (Ok.block (Ok.seq (Ok.region (OkOps.y (aB (v.Kind == 1)) ?_)))))))))))))))
  refine OkOps.y (aB (v.Kind == 1)) (OkOps.nil ?_)
  refine Ok.cond (b := v.Kind == 1) rfl (fun h1 => ?_) (fun h1 => ?_)
  have hr := selT h1 hr
  refine Ok.seq (Ok.region (OkOps.y (.c (.loc 0 0)) ?_))
  obtain ⟨x2, hx2, hr⟩ := bind_some hr
  refine OkOps.m 0 (triCl (tau [(0, 0)]) (.s (aI x2.1)) [(0, .blk [.d (.sl (List.map (eInt .i64) x2.2.L)), cI x2.2.At] 82)] (b_Src_Range_c _ _ _ hx2) rfl ⟨.inl rfl, .inl rfl, .inl rfl, trivial⟩ trivial entry19 ⟨rfl, trivial⟩) (OkOps.y (.agg [cI 1, cI x2.1, cS ByteArray.empty, .d (.v (.slice none 0 0))]) (OkOps.w (triStore (cs' := [cI 1, cI x2.1, cS ByteArray.empty, .d (.v (.slice none 0 0))]) rfl rfl rfl rfl rfl rfl rfl rfl rfl) (OkOps.nil (Ok.ret ?_))))
  obtain rfl := Option.some.inj hr
  exact ⟨_, rfl, .inr rfl, ⟨rfl, trivial⟩⟩
  have hr := selF h1 hr
  refine Ok.seq (Ok.region (OkOps.y (aB (v.Kind == 2)) (OkOps.y (aB (v.Kind == 2)) (OkOps.nil ?_))))
  refine Ok.cond (b := v.Kind == 2) rfl (fun h3 => ?_) (fun h3 => ?_)
  have hr := selT h3 hr
  refine Ok.seq (Ok.region (OkOps.y (.c (.loc 0 0)) ?_))
  obtain ⟨x4, hx4, hr⟩ := bind_some hr
  refine OkOps.m 0 (triCl (tau [(0, 0)]) (.s (aI x4.1)) [(0, .blk [.d (.sl (List.map (eInt .i64) x4.2.L)), cI x4.2.At] 82)] (b_Src_N_c _ _ hx4) rfl ⟨.inl rfl, .inl rfl, trivial⟩ trivial entry18 ⟨rfl, trivial⟩) (OkOps.y (.agg [cI 2, cI x4.1, cS ByteArray.empty, .d (.v (.slice none 0 0))]) (OkOps.w (triStore (cs' := [cI 2, cI x4.1, cS ByteArray.empty, .d (.v (.slice none 0 0))]) rfl rfl rfl rfl rfl rfl rfl rfl rfl) (OkOps.nil (Ok.ret ?_))))
  obtain rfl := Option.some.inj hr
  exact ⟨_, rfl, .inr rfl, ⟨rfl, trivial⟩⟩
  have hr := selF h3 hr
  refine Ok.seq (Ok.region (OkOps.y (aB (v.Kind == 3)) (OkOps.y (aB (v.Kind == 3)) (OkOps.nil ?_))))
  refine Ok.cond (b := v.Kind == 3) rfl (fun h5 => ?_) (fun h5 => ?_)
  have hr := selT h5 hr
  refine Ok.seq (Ok.region (OkOps.y (.c (.loc 0 0)) ?_))
  obtain ⟨x6, hx6, hr⟩ := bind_some hr
  refine OkOps.m 0 (triCl (tau [(0, 0)]) (.s (aS x6.1)) [(0, .blk [.d (.sl (List.map (eInt .i64) x6.2.L)), cI x6.2.At] 82)] (b_Src_Word_c _ _ hx6) rfl ⟨.inl rfl, .inl rfl, trivial⟩ trivial entry22 ⟨rfl, trivial⟩) (OkOps.y (.agg [cI 3, cI 0, cS x6.1, .d (.v (.slice none 0 0))]) (OkOps.w (triStore (cs' := [cI 3, cI 0, cS x6.1, .d (.v (.slice none 0 0))]) rfl rfl rfl rfl rfl rfl rfl rfl rfl) (OkOps.nil (Ok.ret ?_))))
  obtain rfl := Option.some.inj hr
  exact ⟨_, rfl, .inr rfl, ⟨rfl, trivial⟩⟩
  have hr := selF h5 hr
  refine Ok.skip (Ok.seq (Ok.region (OkOps.y (.agg [cI 4, cI 0, cS ByteArray.empty, .d (.v (.slice none 0 0))]) (OkOps.m 0 (triAlloc (j := 3) (cs := [cI 0, cI 0, cS ByteArray.empty, .d (.v (.slice none 0 0))]) rfl rfl rfl rfl) (OkOps.w (triStore (cs' := [cI 4, cI 0, cS ByteArray.empty, .d (.v (.slice none 0 0))]) rfl rfl rfl rfl rfl rfl rfl rfl rfl) (OkOps.nil ?_))))))
  obtain ⟨k8, hk8, hr⟩ := jn_some hr
  refine Ok.join (fun (s7 : (List Int) × Int × (List AValue)) => ⟨[(4, .s (.c (.loc 2 0))), (5, .s (.c (.loc 3 0)))], [(0, .blk [.d (.sl (List.map (eInt .i64) s7.1)), cI s7.2.1] 82), (2, .blk [cI 0, cI 0, cS ByteArray.empty, .d (.v (.slice none 0 0))] 40), (3, .blk [cI 4, cI 0, cS ByteArray.empty, .tl 1008 (List.map AValue.cs s7.2.2)] 40), (1008, .tail 4)], 0⟩) k8 r (fun s7 hr => ?_) ?_
  rw [hk8] at hr
  refine Ok.seq (Ok.region (OkOps.y (.agg [cI 4, cI 0, cS ByteArray.empty, .tl 1008 (List.map AValue.cs s7.2.2)]) (OkOps.w (triStore (cs' := [cI 4, cI 0, cS ByteArray.empty, .tl 1008 (List.map AValue.cs s7.2.2)]) rfl rfl rfl rfl rfl rfl rfl rfl rfl) (OkOps.nil (Ok.ret ?_)))))
  obtain rfl := Option.some.inj hr
  exact ⟨_, rfl, .inr rfl, ⟨rfl, trivial⟩⟩
  clear hk8
  refine Ok.seq (Ok.region (OkOps.y (aI 0) (OkOps.nil (Ok.block (Ok.loopK (fun (s9 : Int × (List Int) × Int × (List AValue)) => ⟨[(0, .s (.c (.loc 0 0))), (3, .s (.c (.loc 1 0))), (4, .s (.c (.loc 2 0))), (5, .s (.c (.loc 3 0))), (6, .s (aI s9.1))], [(0, .blk [.d (.sl (List.map (eInt .i64) s9.2.1)), cI s9.2.2.1] 82), (1, .blk [cI v.Kind, cI v.N, cS v.S, .d (.sl (List.map AValue.cs v.L))] 40), (2, .blk [cI 0, cI 0, cS ByteArray.empty, .d (.v (.slice none 0 0))] 40), (3, .blk [cI 4, cI 0, cS ByteArray.empty, .tl 1013 (List.map AValue.cs s9.2.2.2)] 40), (1013, .tail 4)], 0⟩) hr (Conv.trans (Conv.nilO 3 3 1016 4 [cI 4, cI 0, cS ByteArray.empty, .d (.v (.slice none 0 0))] [cI 4, cI 0, cS ByteArray.empty, .tl 1016 (List.map AValue.cs ([] : (List AValue)))] 40 0 rfl rfl rfl rfl) (Conv.mk (tau [(1013, 1016)]) ⟨⟨_, rfl, .inl rfl⟩, ⟨_, rfl, .inl rfl⟩, ⟨_, rfl, .inl rfl⟩, ⟨_, rfl, .inl rfl⟩, ⟨_, rfl, .inl rfl⟩, trivial⟩ ⟨rfl, rfl, rfl, rfl, rfl, trivial⟩ rfl rfl rfl rfl)) ?_)))))
  clear hr
  intro again10 s9 hr
  unfold b_Src_Like_L1 at hr
  refine Ok.seq (Ok.seq (Ok.region (OkOps.y (aI s9.1) (OkOps.y (.c (.loc 1 3)) (OkOps.y (.c (.d (.sl (List.map AValue.cs v.L)))) (OkOps.q (triLen (enc := AValue.cs) v.L rfl rfl trivial rfl) (OkOps.y (aB (decide (s9.1 < (v.L.length : Int)))) (OkOps.nil ?_))))))))
  refine Ok.cond (b := decide (s9.1 < (v.L.length : Int))) rfl (fun h11 => ?_) (fun h11 => ?_)
  have hr := selT h11 hr
  refine Ok.skip ?_
  obtain ⟨k13, hk13, hr⟩ := jn_some hr
  refine Ok.join (fun (s12 : (List Int) × Int × (List AValue)) => ⟨[(0, .s (.c (.loc 0 0))), (3, .s (.c (.loc 1 0))), (4, .s (.c (.loc 2 0))), (5, .s (.c (.loc 3 0))), (6, .s (aI s9.1))], [(0, .blk [.d (.sl (List.map (eInt .i64) s12.1)), cI s12.2.1] 82), (1, .blk [cI v.Kind, cI v.N, cS v.S, .d (.sl (List.map AValue.cs v.L))] 40), (2, .blk [cI 0, cI 0, cS ByteArray.empty, .d (.v (.slice none 0 0))] 40), (3, .blk [cI 4, cI 0, cS ByteArray.empty, .tl 1017 (List.map AValue.cs s12.2.2)] 40), (1017, .tail 4)], 0⟩) k13 r (fun s12 hr => ?_) ?_
  rw [hk13] at hr
  refine Ok.region (OkOps.y (aI s9.1) (OkOps.y (aI (IntKind.i64.wrap (s9.1 + 1))) (OkOps.y (aI (IntKind.i64.wrap (s9.1 + 1))) (OkOps.nil ?_))))
  exact ⟨(IntKind.i64.wrap (s9.1 + 1), s12.1, s12.2.1, s12.2.2), hr, (Conv.mk (tau [(1013, 1017)]) ⟨⟨_, rfl, .inl rfl⟩, ⟨_, rfl, .inl rfl⟩, ⟨_, rfl, .inl rfl⟩, ⟨_, rfl, .inl rfl⟩, ⟨_, rfl, .inl rfl⟩, trivial⟩ ⟨rfl, rfl, rfl, rfl, rfl, trivial⟩ rfl rfl rfl rfl)⟩
  clear hk13
  refine Ok.block (Ok.seq (Ok.region (OkOps.y (.c (.loc 0 0)) ?_)))
  obtain ⟨x14, hx14, hr⟩ := bind_some hr
  refine OkOps.m 0 (triCl (tau [(0, 0)]) (.s (aI x14.1)) [(0, .blk [.d (.sl (List.map (eInt .i64) x14.2.L)), cI x14.2.At] 82)] (b_Src_N_c _ _ hx14) rfl ⟨.inl rfl, .inl rfl, trivial⟩ trivial entry18 ⟨rfl, trivial⟩) (OkOps.y (aB (decide (x14.1 > 0))) (OkOps.nil ?_))
  refine Ok.cond (b := decide (x14.1 > 0)) rfl (fun h15 => ?_) (fun h15 => ?_)
  have hr := selT h15 hr
  refine Ok.regionD (by kernel_rfl) (OkD.x (.c (.loc 3 3)) rfl trivial rfl (OkD.x (.c (.tl 1013 (List.map AValue.cs s9.2.2.2))) rfl trivial rfl (OkD.x (.c (.loc 0 0)) rfl trivial rfl (OkD.x (.c (.loc 1 3)) rfl trivial rfl (OkD.x (.c (.d (.sl (List.map AValue.cs v.L)))) rfl trivial rfl (OkD.x (aI s9.1) rfl trivial rfl ?_))))))
  obtain ⟨x16, hx16, hr⟩ := bind_some hr
  refine OkD.q (triIdx (enc := AValue.cs) (L := v.L) (row := [dI x16.Kind, dI x16.N, dS x16.S, .sl (List.map AValue.cs x16.L)]) hx16 (AValue.cs_eq _) rfl rfl rfl (fun x => by rw [AValue.cs_eq]; rfl) trivial rfl) ?_
  refine OkD.x (.agg [cI x16.Kind, cI x16.N, cS x16.S, .d (.sl (List.map AValue.cs x16.L))]) rfl trivial rfl ?_
  obtain ⟨x17, hx17, hr⟩ := bind_some hr
  refine OkD.m 0 (triCl (tau [(0, 0)]) (.s (.agg [cI x17.1.Kind, cI x17.1.N, cS x17.1.S, .d (.sl (List.map AValue.cs x17.1.L))])) [(0, .blk [.d (.sl (List.map (eInt .i64) x17.2.L)), cI x17.2.At] 82)] (hself0 _ _ hx17) rfl ⟨.inl rfl, .inl rfl, trivial⟩ trivial entry53 ⟨rfl, trivial⟩) ?_
  refine OkD.m 0 (triBST (sz := 4) (enc := AValue.cs) (j := 4) ([x17.1]) rfl rfl rfl rfl rfl (rows := [[dI x17.1.Kind, dI x17.1.N, dS x17.1.S, .sl (List.map AValue.cs x17.1.L)]]) (by simp only [List.map, AValue.cs_eq]) rfl rfl (fun x => by rw [AValue.cs_eq]; rfl) trivial rfl rfl) ?_
  obtain ⟨x18, hx18, hr⟩ := bind_some hr
  refine OkD.m2 0 (triApp (enc := AValue.cs) (L := s9.2.2.2) (X := [x17.1]) (j := 1013) (j' := 5) hx18 rfl rfl rfl rfl rfl rfl (fun x => by rw [AValue.cs_eq]; rfl) (fun x => by rw [AValue.cs_eq]; rfl) (by decide) trivial rfl rfl) ?_
  refine OkD.x (.c (.loc 3 3)) rfl trivial rfl (OkD.w (triStore (cs' := [cI 4, cI 0, cS ByteArray.empty, .tl 5 (List.map AValue.cs x18)]) rfl rfl rfl rfl rfl rfl rfl rfl rfl) (OkD.nil (by kernel_rfl) ?_))
  exact ⟨(x17.2.L, x17.2.At, x18), hr, (Conv.mk (tau [(1017, 5)]) ⟨⟨_, rfl, .inl rfl⟩, ⟨_, rfl, .inl rfl⟩, ⟨_, rfl, .inl rfl⟩, ⟨_, rfl, .inl rfl⟩, ⟨_, rfl, .inl rfl⟩, trivial⟩ ⟨rfl, rfl, rfl, rfl, rfl, trivial⟩ rfl rfl rfl rfl)⟩
  have hr := selF h15 hr
  refine Ok.skip ?_
  exact ⟨(x14.2.L, x14.2.At, s9.2.2.2), hr, (Conv.mk (tau [(1017, 1013)]) ⟨⟨_, rfl, .inl rfl⟩, ⟨_, rfl, .inl rfl⟩, ⟨_, rfl, .inl rfl⟩, ⟨_, rfl, .inl rfl⟩, ⟨_, rfl, .inl rfl⟩, trivial⟩ ⟨rfl, rfl, rfl, rfl, rfl, trivial⟩ rfl rfl rfl rfl)⟩
  have hr := selF h11 hr
  refine Ok.exit ?_
  exact ⟨(s9.2.1, s9.2.2.1, s9.2.2.2), hr, (Conv.mk (tau [(1008, 1013)]) ⟨⟨_, rfl, .inl rfl⟩, ⟨_, rfl, .inl rfl⟩, trivial⟩ ⟨rfl, rfl, rfl, rfl, trivial⟩ rfl rfl rfl rfl)⟩
theorem b_Src_Like_all : ∀ n : Nat, (∀ (p_s : widgetrybase_Src) (v : AValue) {r : AValue × widgetrybase_Src}, b_Src_Like n p_s v = some r → Con Tryd.prog 53 [.c (.loc 0 0), .agg [cI v.Kind, cI v.N, cS v.S, .d (.sl (List.map AValue.cs v.L))]] [(0, .blk [.d (.sl (List.map (eInt .i64) p_s.L)), cI p_s.At] 82)] (.s (.agg [cI r.1.Kind, cI r.1.N, cS r.1.S, .d (.sl (List.map AValue.cs r.1.L))])) [(0, .blk [.d (.sl (List.map (eInt .i64) r.2.L)), cI r.2.At] 82)]) ∧ True := by
  intro n
  induction n with
  | zero => exact ⟨(by intros; rename_i hr; cases hr), trivial⟩
  | succ n ih => exact ⟨(by intros; rename_i hr; exact b_Src_Like_B_c _ ih.1 _ _ hr), trivial⟩
theorem b_Src_Like_c (n : Nat) (p_s : widgetrybase_Src) (v : AValue) {r : AValue × widgetrybase_Src} (hr : b_Src_Like n p_s v = some r) : Con Tryd.prog 53 [.c (.loc 0 0), .agg [cI v.Kind, cI v.N, cS v.S, .d (.sl (List.map AValue.cs v.L))]] [(0, .blk [.d (.sl (List.map (eInt .i64) p_s.L)), cI p_s.At] 82)] (.s (.agg [cI r.1.Kind, cI r.1.N, cS r.1.S, .d (.sl (List.map AValue.cs r.1.L))])) [(0, .blk [.d (.sl (List.map (eInt .i64) r.2.L)), cI r.2.At] 82)] := (b_Src_Like_all n).1 p_s v hr
theorem entry20 : Entry Tryd.prog 20 := ⟨_, Tryd.func20, by kernel_rfl, by kernel_rfl⟩
theorem b_Src_Value_B_c (self0 : widgetrybase_Src → Int → Option (AValue × widgetrybase_Src)) (hself0 : ∀ (p_s : widgetrybase_Src) (depth : Int) {r : AValue × widgetrybase_Src}, self0 p_s depth = some r → Con Tryd.prog 20 [.c (.loc 0 0), aI depth] [(0, .blk [.d (.sl (List.map (eInt .i64) p_s.L)), cI p_s.At] 82)] (.s (.agg [cI r.1.Kind, cI r.1.N, cS r.1.S, .d (.sl (List.map AValue.cs r.1.L))])) [(0, .blk [.d (.sl (List.map (eInt .i64) r.2.L)), cI r.2.At] 82)]) (p_s : widgetrybase_Src) (depth : Int) {r : AValue × widgetrybase_Src} (hr : b_Src_Value_B self0 p_s depth = some r) : Con Tryd.prog 20 [.c (.loc 0 0), aI depth] [(0, .blk [.d (.sl (List.map (eInt .i64) p_s.L)), cI p_s.At] 82)] (.s (.agg [cI r.1.Kind, cI r.1.N, cS r.1.S, .d (.sl (List.map AValue.cs r.1.L))])) [(0, .blk [.d (.sl (List.map (eInt .i64) r.2.L)), cI r.2.At] 82)] := by
  unfold b_Src_Value_B at hr
  refine Con.of_ok 65 0 [.cell 4 40] [(0, .s (.c (.loc 0 0))), (1, .s (aI depth))] Tryd.func20 rfl rfl rfl rfl rfl rfl rfl rfl fun w g M ρ _ => (Ok.seq (Ok.region (OkOps.m 0 (triAlloc (j := 1) (cs := [cI 0, cI 0, cS ByteArray.empty, .d (.v (.slice none 0 0))]) rfl rfl rfl rfl) (OkOps.nil ?_))))
  obtain ⟨k2, hk2, hr⟩ := jn_some hr
  refine Ok.join (fun (s1 : (List Int) × Int) => ⟨[(0, .s (.c (.loc 0 0))), (4, .s (.c (.loc 1 0)))], [(0, .blk [.d (.sl (List.map (eInt .i64) s1.1)), cI s1.2] 82), (1, .blk [cI 0, cI 0, cS ByteArray.empty, .d (.v (.slice none 0 0))] 40)], 0⟩) k2 r (fun s1 hr => ?_) ?_
  rw [hk2] at hr
  refine Ok.seq (Ok.region (OkOps.m 0 (triBST (sz := 1) (enc := (eInt .i64)) (j := 2) ([0, 1, 2, 3, (-1), 7, 10, 1099511627776, (-1099511627776), 1099511627775]) rfl rfl rfl rfl rfl rfl rfl rfl (fun _ => rfl) trivial rfl rfl) (OkOps.y (.c (.tl 2 (List.map (eInt .i64) ([0, 1, 2, 3, (-1), 7, 10, 1099511627776, (-1099511627776), 1099511627775])))) (OkOps.nil (Ok.seq (Ok.region (OkOps.y (.c (.tl 2 (List.map (eInt .i64) ([0, 1, 2, 3, (-1), 7, 10, 1099511627776, (-1099511627776), 1099511627775])))) (OkOps.y (.c (.loc 0 0)) (OkOps.y (.c (.tl 2 (List.map (eInt .i64) ([0, 1, 2, 3, (-1), 7, 10, 1099511627776, (-1099511627776), 1099511627775])))) (OkOps.q (triLen (enc := (eInt .i64)) ([0, 1, 2, 3, (-1), 7, 10, 1099511627776, (-1099511627776), 1099511627775]) rfl rfl trivial rfl) ?_))))))))))
  obtain ⟨x3, hx3, hr⟩ := bind_some hr
  refine OkOps.m 0 (triCl (tau [(0, 0)]) (.s (aI x3.1)) [(0, .blk [.d (.sl (List.map (eInt .i64) x3.2.L)), cI x3.2.At] 82)] (b_Src_N_c _ _ hx3) rfl ⟨.inl rfl, .inl rfl, trivial⟩ trivial entry18 ⟨rfl, trivial⟩) ?_
  obtain ⟨x4, hx4, hr⟩ := bind_some hr
  refine OkOps.q (triIdx (enc := (eInt .i64)) (L := [0, 1, 2, 3, (-1), 7, 10, 1099511627776, (-1099511627776), 1099511627775]) (row := [dI x4]) hx4 rfl rfl rfl rfl (fun _ => rfl) trivial rfl) (OkOps.y (aI x4) (OkOps.y (.agg [cI 1, cI x4, cS ByteArray.empty, .d (.v (.slice none 0 0))]) (OkOps.w (triStore (cs' := [cI 1, cI x4, cS ByteArray.empty, .d (.v (.slice none 0 0))]) rfl rfl rfl rfl rfl rfl rfl rfl rfl) (OkOps.nil (Ok.ret ?_)))))
  obtain rfl := Option.some.inj hr
  exact ⟨_, rfl, .inr rfl, ⟨rfl, trivial⟩⟩
  clear hk2
  refine Ok.seq (Ok.region (OkOps.y (.c (.loc 0 0)) ?_))
  obtain ⟨x5, hx5, hr⟩ := bind_some hr
  refine OkOps.m 0 (triCl (tau [(0, 0)]) (.s (aI x5.1)) [(0, .blk [.d (.sl (List.map (eInt .i64) x5.2.L)), cI x5.2.At] 82)] (b_Src_N_c _ _ hx5) rfl ⟨.inl rfl, .inl rfl, trivial⟩ trivial entry18 ⟨rfl, trivial⟩) (OkOps.nil (Ok.block (Ok.seq (Ok.region (OkOps.y (aB (x5.1 == 0)) (OkOps.y (aB (x5.1 == 0)) (OkOps.nil ?_)))))))
  refine Ok.cond (b := x5.1 == 0) rfl (fun h6 => ?_) (fun h6 => ?_)
  have hr := selT h6 hr
  refine Ok.seq (Ok.region (OkOps.y (.c (.loc 0 0)) ?_))
  obtain ⟨x7, hx7, hr⟩ := bind_some hr
  refine OkOps.m 0 (triCl (tau [(0, 0)]) (.s (aI x7.1)) [(0, .blk [.d (.sl (List.map (eInt .i64) x7.2.L)), cI x7.2.At] 82)] (b_Src_N_c _ _ hx7) rfl ⟨.inl rfl, .inl rfl, trivial⟩ trivial entry18 ⟨rfl, trivial⟩) (OkOps.y (.agg [cI 2, cI x7.1, cS ByteArray.empty, .d (.v (.slice none 0 0))]) (OkOps.w (triStore (cs' := [cI 2, cI x7.1, cS ByteArray.empty, .d (.v (.slice none 0 0))]) rfl rfl rfl rfl rfl rfl rfl rfl rfl) (OkOps.nil (Ok.ret ?_))))
  obtain rfl := Option.some.inj hr
  exact ⟨_, rfl, .inr rfl, ⟨rfl, trivial⟩⟩
  have hr := selF h6 hr
  obtain ⟨k9, hk9, hr⟩ := jn_some hr
  refine Ok.join (fun (s8 : Bool) => ⟨[(0, .s (.c (.loc 0 0))), (1, .s (aI depth)), (4, .s (.c (.loc 1 0))), (11, .s (aI x5.1)), (17, .s (aB s8))], [(0, .blk [.d (.sl (List.map (eInt .i64) x5.2.L)), cI x5.2.At] 82), (1, .blk [cI 0, cI 0, cS ByteArray.empty, .d (.v (.slice none 0 0))] 40)], 0⟩) k9 r (fun s8 hr => ?_) ?_
  rw [hk9] at hr
  refine Ok.cond (b := s8) rfl (fun h10 => ?_) (fun h10 => ?_)
  have hr := selT h10 hr
  refine Ok.seq (Ok.region (OkOps.y (.c (.loc 0 0)) ?_))
  obtain ⟨x11, hx11, hr⟩ := bind_some hr
  refine OkOps.m 0 (triCl (tau [(0, 0)]) (.s (aS x11.1)) [(0, .blk [.d (.sl (List.map (eInt .i64) x11.2.L)), cI x11.2.At] 82)] (b_Src_Word_c _ _ hx11) rfl ⟨.inl rfl, .inl rfl, trivial⟩ trivial entry22 ⟨rfl, trivial⟩) (OkOps.y (.agg [cI 3, cI 0, cS x11.1, .d (.v (.slice none 0 0))]) (OkOps.w (triStore (cs' := [cI 3, cI 0, cS x11.1, .d (.v (.slice none 0 0))]) rfl rfl rfl rfl rfl rfl rfl rfl rfl) (OkOps.nil (Ok.ret ?_))))
  obtain rfl := Option.some.inj hr
  exact ⟨_, rfl, .inr rfl, ⟨rfl, trivial⟩⟩
  have hr := selF h10 hr
  refine Ok.seq (Ok.region (OkOps.y (aB (x5.1 == 3)) (OkOps.y (aB (x5.1 == 3)) (OkOps.nil ?_))))
  refine Ok.cond (b := x5.1 == 3) rfl (fun h12 => ?_) (fun h12 => ?_)
  have hr := selT h12 hr
  refine Ok.seq (Ok.region (OkOps.y (aI depth) (OkOps.y (aB (decide (depth > 0))) (OkOps.nil ?_))))
  refine Ok.cond (b := decide (depth > 0)) rfl (fun h13 => ?_) (fun h13 => ?_)
  have hr := selT h13 hr
  refine Ok.seq (Ok.region (OkOps.y (.agg [cI 4, cI 0, cS ByteArray.empty, .d (.v (.slice none 0 0))]) (OkOps.m 0 (triAlloc (j := 3) (cs := [cI 0, cI 0, cS ByteArray.empty, .d (.v (.slice none 0 0))]) rfl rfl rfl rfl) (OkOps.w (triStore (cs' := [cI 4, cI 0, cS ByteArray.empty, .d (.v (.slice none 0 0))]) rfl rfl rfl rfl rfl rfl rfl rfl rfl) (OkOps.nil ?_)))))
  obtain ⟨k15, hk15, hr⟩ := jn_some hr
  refine Ok.join (fun (s14 : (List Int) × Int × (List AValue)) => ⟨[(4, .s (.c (.loc 1 0))), (5, .s (.c (.loc 3 0)))], [(0, .blk [.d (.sl (List.map (eInt .i64) s14.1)), cI s14.2.1] 82), (1, .blk [cI 0, cI 0, cS ByteArray.empty, .d (.v (.slice none 0 0))] 40), (3, .blk [cI 4, cI 0, cS ByteArray.empty, .tl 1011 (List.map AValue.cs s14.2.2)] 40), (1011, .tail 4)], 0⟩) k15 r (fun s14 hr => ?_) ?_
  rw [hk15] at hr
  refine Ok.seq (Ok.region (OkOps.y (.agg [cI 4, cI 0, cS ByteArray.empty, .tl 1011 (List.map AValue.cs s14.2.2)]) (OkOps.w (triStore (cs' := [cI 4, cI 0, cS ByteArray.empty, .tl 1011 (List.map AValue.cs s14.2.2)]) rfl rfl rfl rfl rfl rfl rfl rfl rfl) (OkOps.nil (Ok.ret ?_)))))
  obtain rfl := Option.some.inj hr
  exact ⟨_, rfl, .inr rfl, ⟨rfl, trivial⟩⟩
  clear hk15
  refine Ok.seq (Ok.region (OkOps.y (.c (.loc 0 0)) ?_))
  obtain ⟨x16, hx16, hr⟩ := bind_some hr
  refine OkOps.m 0 (triCl (tau [(0, 0)]) (.s (aI x16.1)) [(0, .blk [.d (.sl (List.map (eInt .i64) x16.2.L)), cI x16.2.At] 82)] (b_Src_N_c _ _ hx16) rfl ⟨.inl rfl, .inl rfl, trivial⟩ trivial entry18 ⟨rfl, trivial⟩) (OkOps.y (aI x16.1) (OkOps.nil (Ok.seq (Ok.region (OkOps.y (aI x16.1) (OkOps.y (aB (decide (x16.1 > 0))) (OkOps.nil ?_)))))))
  refine Ok.cond (b := decide (x16.1 > 0)) rfl (fun h17 => ?_) (fun h17 => ?_)
  have hr := selT h17 hr
  refine Ok.seq (Ok.region (OkOps.y (.c (.loc 0 0)) (OkOps.y (aI depth) (OkOps.y (aI (IntKind.i64.wrap (depth - 1))) ?_))))
  obtain ⟨x18, hx18, hr⟩ := bind_some hr
  refine OkOps.m 0 (triCl (tau [(0, 0)]) (.s (.agg [cI x18.1.Kind, cI x18.1.N, cS x18.1.S, .d (.sl (List.map AValue.cs x18.1.L))])) [(0, .blk [.d (.sl (List.map (eInt .i64) x18.2.L)), cI x18.2.At] 82)] (hself0 _ _ hx18) rfl ⟨.inl rfl, .inl rfl, trivial⟩ trivial entry20 ⟨rfl, trivial⟩) (OkOps.m 0 (triAlloc (j := 4) (cs := [cI 0, cI 0, cS ByteArray.empty, .d (.v (.slice none 0 0))]) rfl rfl rfl rfl) (OkOps.w (triStore (cs' := [cI x18.1.Kind, cI x18.1.N, cS x18.1.S, .d (.sl (List.map AValue.cs x18.1.L))]) rfl rfl rfl rfl rfl rfl rfl rfl rfl) (OkOps.nil (Ok.seq (Ok.region (OkOps.y (.c (.loc 3 3)) (OkOps.y (.c (.d (.v (.slice none 0 0)))) (OkOps.y (.agg [cI x18.1.Kind, cI x18.1.N, cS x18.1.S, .d (.sl (List.map AValue.cs x18.1.L))]) ?_))))))))
  refine OkOps.m 0 (triBST (sz := 4) (enc := AValue.cs) (j := 5) ([x18.1]) rfl rfl rfl rfl rfl (rows := [[dI x18.1.Kind, dI x18.1.N, dS x18.1.S, .sl (List.map AValue.cs x18.1.L)]]) (by simp only [List.map, AValue.cs_eq]) rfl rfl (fun x => by rw [AValue.cs_eq]; rfl) trivial rfl rfl) ?_
  obtain ⟨x19, hx19, hr⟩ := bind_some hr
  refine OkOps.m 0 (triApp0 (sz := 4) (enc := AValue.cs) (X := [x18.1]) (j' := 6) hx19 rfl rfl rfl rfl rfl (fun x => by rw [AValue.cs_eq]; rfl) (fun x => by rw [AValue.cs_eq]; rfl) (by decide) trivial rfl rfl) ?_
  refine OkOps.y (.c (.loc 3 3)) (OkOps.w (triStore (cs' := [cI 4, cI 0, cS ByteArray.empty, .tl 6 (List.map AValue.cs x19)]) rfl rfl rfl rfl rfl rfl rfl rfl rfl) (OkOps.nil (Ok.seq (Ok.region (OkOps.y (aI 1) (OkOps.nil (Ok.block (Ok.loopK (fun (s20 : Int × (List Int) × Int × (List AValue)) => ⟨[(0, .s (.c (.loc 0 0))), (4, .s (.c (.loc 1 0))), (5, .s (.c (.loc 3 0))), (6, .s (aI x16.1)), (7, .s (.c (.loc 4 0))), (8, .s (aI s20.1))], [(0, .blk [.d (.sl (List.map (eInt .i64) s20.2.1)), cI s20.2.2.1] 82), (1, .blk [cI 0, cI 0, cS ByteArray.empty, .d (.v (.slice none 0 0))] 40), (3, .blk [cI 4, cI 0, cS ByteArray.empty, .tl 1013 (List.map AValue.cs s20.2.2.2)] 40), (4, .blk [cI x18.1.Kind, cI x18.1.N, cS x18.1.S, .d (.sl (List.map AValue.cs x18.1.L))] 40), (1013, .tail 4)], 0⟩) hr (Conv.mk (tau [(1013, 6)]) ⟨⟨_, rfl, .inl rfl⟩, ⟨_, rfl, .inl rfl⟩, ⟨_, rfl, .inl rfl⟩, ⟨_, rfl, .inl rfl⟩, ⟨_, rfl, .inl rfl⟩, ⟨_, rfl, .inl rfl⟩, trivial⟩ ⟨rfl, rfl, rfl, rfl, rfl, trivial⟩ rfl rfl rfl rfl) ?_))))))))
  clear hr
  intro again21 s20 hr
  unfold b_Src_Value_L1 at hr
  refine Ok.seq (Ok.seq (Ok.region (OkOps.y (aI s20.1) (OkOps.y (aI x16.1) (OkOps.y (aB (decide (s20.1 < x16.1))) (OkOps.nil ?_))))))
  refine Ok.cond (b := decide (s20.1 < x16.1)) rfl (fun h22 => ?_) (fun h22 => ?_)
  have hr := selT h22 hr
  refine Ok.skip (Ok.seq (Ok.block (Ok.regionD (by kernel_rfl) (OkD.x (.c (.loc 3 3)) rfl trivial rfl (OkD.x (.c (.tl 1013 (List.map AValue.cs s20.2.2.2))) rfl trivial rfl (OkD.x (.c (.loc 0 0)) rfl trivial rfl (OkD.x (.agg [cI x18.1.Kind, cI x18.1.N, cS x18.1.S, .d (.sl (List.map AValue.cs x18.1.L))]) rfl trivial rfl ?_)))))))
  obtain ⟨x23, hx23, hr⟩ := bind_some hr
  refine OkD.m 0 (triCl (tau [(0, 0)]) (.s (.agg [cI x23.1.Kind, cI x23.1.N, cS x23.1.S, .d (.sl (List.map AValue.cs x23.1.L))])) [(0, .blk [.d (.sl (List.map (eInt .i64) x23.2.L)), cI x23.2.At] 82)] (b_Src_Like_c _ _ _ hx23) rfl ⟨.inl rfl, .inl rfl, trivial⟩ trivial entry53 ⟨rfl, trivial⟩) ?_
  refine OkD.m 0 (triBST (sz := 4) (enc := AValue.cs) (j := 7) ([x23.1]) rfl rfl rfl rfl rfl (rows := [[dI x23.1.Kind, dI x23.1.N, dS x23.1.S, .sl (List.map AValue.cs x23.1.L)]]) (by simp only [List.map, AValue.cs_eq]) rfl rfl (fun x => by rw [AValue.cs_eq]; rfl) trivial rfl rfl) ?_
  obtain ⟨x24, hx24, hr⟩ := bind_some hr
  refine OkD.m2 0 (triApp (enc := AValue.cs) (L := s20.2.2.2) (X := [x23.1]) (j := 1013) (j' := 8) hx24 rfl rfl rfl rfl rfl rfl (fun x => by rw [AValue.cs_eq]; rfl) (fun x => by rw [AValue.cs_eq]; rfl) (by decide) trivial rfl rfl) ?_
  refine OkD.x (.c (.loc 3 3)) rfl trivial rfl (OkD.w (triStore (cs' := [cI 4, cI 0, cS ByteArray.empty, .tl 8 (List.map AValue.cs x24)]) rfl rfl rfl rfl rfl rfl rfl rfl rfl) (OkD.nil (by kernel_rfl) (Ok.region (OkOps.y (aI s20.1) (OkOps.y (aI (IntKind.i64.wrap (s20.1 + 1))) (OkOps.y (aI (IntKind.i64.wrap (s20.1 + 1))) (OkOps.nil ?_)))))))
  exact ⟨(IntKind.i64.wrap (s20.1 + 1), x23.2.L, x23.2.At, x24), hr, (Conv.mk (tau [(1013, 8)]) ⟨⟨_, rfl, .inl rfl⟩, ⟨_, rfl, .inl rfl⟩, ⟨_, rfl, .inl rfl⟩, ⟨_, rfl, .inl rfl⟩, ⟨_, rfl, .inl rfl⟩, ⟨_, rfl, .inl rfl⟩, trivial⟩ ⟨rfl, rfl, rfl, rfl, rfl, trivial⟩ rfl rfl rfl rfl)⟩
  have hr := selF h22 hr
  refine Ok.exit ?_
  exact ⟨(s20.2.1, s20.2.2.1, s20.2.2.2), hr, (Conv.mk (tau [(1011, 1013)]) ⟨⟨_, rfl, .inl rfl⟩, ⟨_, rfl, .inl rfl⟩, trivial⟩ ⟨rfl, rfl, rfl, rfl, trivial⟩ rfl rfl rfl rfl)⟩
  have hr := selF h17 hr
  refine Ok.skip ?_
  exact ⟨(x16.2.L, x16.2.At, ([] : (List AValue))), hr, (Conv.trans (Conv.nilO 3 3 1015 4 [cI 4, cI 0, cS ByteArray.empty, .d (.v (.slice none 0 0))] [cI 4, cI 0, cS ByteArray.empty, .tl 1015 (List.map AValue.cs ([] : (List AValue)))] 40 0 rfl rfl rfl rfl) (Conv.mk (tau [(1011, 1015)]) ⟨⟨_, rfl, .inl rfl⟩, ⟨_, rfl, .inl rfl⟩, trivial⟩ ⟨rfl, rfl, rfl, rfl, trivial⟩ rfl rfl rfl rfl))⟩
  have hr := selF h13 hr
  refine Ok.skip ?_
  exact ⟨(x5.2.L, x5.2.At), hr, (Conv.mk (tau []) ⟨⟨_, rfl, .inl rfl⟩, ⟨_, rfl, .inl rfl⟩, trivial⟩ ⟨rfl, rfl, trivial⟩ rfl rfl rfl rfl)⟩
  have hr := selF h12 hr
  refine Ok.skip ?_
  exact ⟨(x5.2.L, x5.2.At), hr, (Conv.mk (tau []) ⟨⟨_, rfl, .inl rfl⟩, ⟨_, rfl, .inl rfl⟩, trivial⟩ ⟨rfl, rfl, trivial⟩ rfl rfl rfl rfl)⟩
  clear hk9
  refine Ok.seq (Ok.region (OkOps.y (aB (x5.1 == 1)) (OkOps.y (aB (x5.1 == 1)) (OkOps.nil ?_))))
  refine Ok.cond (b := x5.1 == 1) rfl (fun h25 => ?_) (fun h25 => ?_)
  have hr := selT h25 hr
  refine Ok.skip ?_
  exact ⟨x5.1 == 1, hr, (Conv.mk (tau []) ⟨⟨_, rfl, .inl rfl⟩, ⟨_, rfl, .inl rfl⟩, ⟨_, rfl, .inl rfl⟩, ⟨_, rfl, .inl rfl⟩, ⟨_, rfl, .inl rfl⟩, trivial⟩ ⟨rfl, rfl, trivial⟩ rfl rfl rfl rfl)⟩
  have hr := selF h25 hr
  refine Ok.region (OkOps.y (aB (x5.1 == 2)) (OkOps.y (aB (x5.1 == 2)) (OkOps.nil ?_)))
  exact ⟨x5.1 == 2, hr, (Conv.mk (tau []) ⟨⟨_, rfl, .inl rfl⟩, ⟨_, rfl, .inl rfl⟩, ⟨_, rfl, .inl rfl⟩, ⟨_, rfl, .inl rfl⟩, ⟨_, rfl, .inl rfl⟩, trivial⟩ ⟨rfl, rfl, trivial⟩ rfl rfl rfl rfl)⟩
theorem b_Src_Value_all : ∀ n : Nat, (∀ (p_s : widgetrybase_Src) (depth : Int) {r : AValue × widgetrybase_Src}, b_Src_Value n p_s depth = some r → Con Tryd.prog 20 [.c (.loc 0 0), aI depth] [(0, .blk [.d (.sl (List.map (eInt .i64) p_s.L)), cI p_s.At] 82)] (.s (.agg [cI r.1.Kind, cI r.1.N, cS r.1.S, .d (.sl (List.map AValue.cs r.1.L))])) [(0, .blk [.d (.sl (List.map (eInt .i64) r.2.L)), cI r.2.At] 82)]) ∧ True := by
  intro n
  induction n with
  | zero => exact ⟨(by intros; rename_i hr; cases hr), trivial⟩
  | succ n ih => exact ⟨(by intros; rename_i hr; exact b_Src_Value_B_c _ ih.1 _ _ hr), trivial⟩
theorem b_Src_Value_c (n : Nat) (p_s : widgetrybase_Src) (depth : Int) {r : AValue × widgetrybase_Src} (hr : b_Src_Value n p_s depth = some r) : Con Tryd.prog 20 [.c (.loc 0 0), aI depth] [(0, .blk [.d (.sl (List.map (eInt .i64) p_s.L)), cI p_s.At] 82)] (.s (.agg [cI r.1.Kind, cI r.1.N, cS r.1.S, .d (.sl (List.map AValue.cs r.1.L))])) [(0, .blk [.d (.sl (List.map (eInt .i64) r.2.L)), cI r.2.At] 82)] := (b_Src_Value_all n).1 p_s depth hr
theorem b_Src_attrs_c (p_s : widgetrybase_Src) (kind : Int) {r : (List Attr) × widgetrybase_Src} (hr : b_Src_attrs p_s kind = some r) : Con Tryd.prog 76 [.c (.loc 0 0), aI kind] [(0, .blk [.d (.sl (List.map (eInt .i64) p_s.L)), cI p_s.At] 82)] (.s (.c (.d (.sl (List.map Attr.cs r.1))))) [(0, .blk [.d (.sl (List.map (eInt .i64) r.2.L)), cI r.2.At] 82)] := by
  unfold b_Src_attrs at hr
  refine Con.of_ok 207 0 [.tmp 4] [(0, .s (.c (.loc 0 0))), (1, .s (aI kind))] Tryd.func76 rfl rfl rfl rfl rfl rfl rfl rfl fun w g M ρ _ => (Ok.seq (Ok.region (OkOps.y (.c (.d (.v (.slice none 0 0)))) (OkOps.nil (Ok.seq (Ok.region (OkOps.y (.c (.d (.v (.slice none 0 0)))) (OkOps.nil ?_))))))))
  obtain ⟨k2, hk2, hr⟩ := jn_some hr
  refine Ok.join (fun (s1 : (List Attr) × (List Int) × Int) => ⟨[(0, .s (.c (.loc 0 0))), (1, .s (aI kind)), (5, .s (.c (.tl 1000 (List.map Attr.cs s1.1))))], [(0, .blk [.d (.sl (List.map (eInt .i64) s1.2.1)), cI s1.2.2] 82), (1000, .tail 5)], 0⟩) k2 r (fun s1 hr => ?_) ?_
  rw [hk2] at hr
  obtain ⟨k4, hk4, hr⟩ := jn_some hr
  refine Ok.join (fun (s3 : (List Attr) × (List Int) × Int) => ⟨[(0, .s (.c (.loc 0 0))), (1, .s (aI kind)), (5, .s (.c (.tl 1001 (List.map Attr.cs s3.1))))], [(0, .blk [.d (.sl (List.map (eInt .i64) s3.2.1)), cI s3.2.2] 82), (1001, .tail 5)], 0⟩) k4 r (fun s3 hr => ?_) ?_
  rw [hk4] at hr
  obtain ⟨k6, hk6, hr⟩ := jn_some hr
  refine Ok.join (fun (s5 : (List Attr) × (List Int) × Int) => ⟨[(0, .s (.c (.loc 0 0))), (1, .s (aI kind)), (5, .s (.c (.tl 1002 (List.map Attr.cs s5.1))))], [(0, .blk [.d (.sl (List.map (eInt .i64) s5.2.1)), cI s5.2.2] 82), (1002, .tail 5)], 0⟩) k6 r (fun s5 hr => ?_) ?_
  rw [hk6] at hr
  obtain ⟨k8, hk8, hr⟩ := jn_some hr
  refine Ok.join (fun (s7 : (List Attr) × (List Int) × Int) => ⟨[(0, .s (.c (.loc 0 0))), (1, .s (aI kind)), (5, .s (.c (.tl 1003 (List.map Attr.cs s7.1))))], [(0, .blk [.d (.sl (List.map (eInt .i64) s7.2.1)), cI s7.2.2] 82), (1003, .tail 5)], 0⟩) k8 r (fun s7 hr => ?_) ?_
  rw [hk8] at hr
  obtain ⟨k10, hk10, hr⟩ := jn_some hr
  refine Ok.join (fun (s9 : (List Attr) × (List Int) × Int) => ⟨[(0, .s (.c (.loc 0 0))), (1, .s (aI kind)), (5, .s (.c (.tl 1014 (List.map Attr.cs s9.1))))], [(0, .blk [.d (.sl (List.map (eInt .i64) s9.2.1)), cI s9.2.2] 82), (1014, .tail 5)], 0⟩) k10 r (fun s9 hr => ?_) ?_
  rw [hk10] at hr
  obtain ⟨k12, hk12, hr⟩ := jn_some hr
  refine Ok.join (fun (s11 : (List Attr) × (List Int) × Int) => ⟨[(0, .s (.c (.loc 0 0))), (1, .s (aI kind)), (5, .s (.c (.tl 1015 (List.map Attr.cs s11.1))))], [(0, .blk [.d (.sl (List.map (eInt .i64) s11.2.1)), cI s11.2.2] 82), (1015, .tail 5)], 0⟩) k12 r (fun s11 hr => ?_) ?_
  rw [hk12] at hr
  obtain ⟨k14, hk14, hr⟩ := jn_some hr
  refine Ok.join (fun (s13 : (List Attr) × (List Int) × Int) => ⟨[(0, .s (.c (.loc 0 0))), (1, .s (aI kind)), (5, .s (.c (.tl 1016 (List.map Attr.cs s13.1))))], [(0, .blk [.d (.sl (List.map (eInt .i64) s13.2.1)), cI s13.2.2] 82), (1016, .tail 5)], 0⟩) k14 r (fun s13 hr => ?_) ?_
  rw [hk14] at hr
  obtain ⟨k16, hk16, hr⟩ := jn_some hr
  refine Ok.join (fun (s15 : (List Attr) × (List Int) × Int) => ⟨[(0, .s (.c (.loc 0 0))), (1, .s (aI kind)), (5, .s (.c (.tl 1017 (List.map Attr.cs s15.1))))], [(0, .blk [.d (.sl (List.map (eInt .i64) s15.2.1)), cI s15.2.2] 82), (1017, .tail 5)], 0⟩) k16 r (fun s15 hr => ?_) ?_
  rw [hk16] at hr
  obtain ⟨k18, hk18, hr⟩ := jn_some hr
  refine Ok.join (fun (s17 : (List Attr) × (List Int) × Int) => ⟨[(0, .s (.c (.loc 0 0))), (1, .s (aI kind)), (5, .s (.c (.tl 1018 (List.map Attr.cs s17.1))))], [(0, .blk [.d (.sl (List.map (eInt .i64) s17.2.1)), cI s17.2.2] 82), (1018, .tail 5)], 0⟩) k18 r (fun s17 hr => ?_) ?_
  rw [hk18] at hr
  obtain ⟨k20, hk20, hr⟩ := jn_some hr
  refine Ok.join (fun (s19 : (List Attr) × (List Int) × Int) => ⟨[(0, .s (.c (.loc 0 0))), (1, .s (aI kind)), (5, .s (.c (.tl 1019 (List.map Attr.cs s19.1))))], [(0, .blk [.d (.sl (List.map (eInt .i64) s19.2.1)), cI s19.2.2] 82), (1019, .tail 5)], 0⟩) k20 r (fun s19 hr => ?_) ?_
  rw [hk20] at hr
  obtain ⟨k22, hk22, hr⟩ := jn_some hr
  refine Ok.join (fun (s21 : (List Attr) × (List Int) × Int) => ⟨[(0, .s (.c (.loc 0 0))), (1, .s (aI kind)), (5, .s (.c (.tl 1020 (List.map Attr.cs s21.1))))], [(0, .blk [.d (.sl (List.map (eInt .i64) s21.2.1)), cI s21.2.2] 82), (1020, .tail 5)], 0⟩) k22 r (fun s21 hr => ?_) ?_
  rw [hk22] at hr
  obtain ⟨k24, hk24, hr⟩ := jn_some hr
  refine Ok.join (fun (s23 : (List Attr) × (List Int) × Int) => ⟨[(0, .s (.c (.loc 0 0))), (1, .s (aI kind)), (5, .s (.c (.tl 1021 (List.map Attr.cs s23.1))))], [(0, .blk [.d (.sl (List.map (eInt .i64) s23.2.1)), cI s23.2.2] 82), (1021, .tail 5)], 0⟩) k24 r (fun s23 hr => ?_) ?_
  rw [hk24] at hr
  obtain ⟨k26, hk26, hr⟩ := jn_some hr
  refine Ok.join (fun (s25 : (List Attr) × (List Int) × Int) => ⟨[(0, .s (.c (.loc 0 0))), (1, .s (aI kind)), (5, .s (.c (.tl 1022 (List.map Attr.cs s25.1))))], [(0, .blk [.d (.sl (List.map (eInt .i64) s25.2.1)), cI s25.2.2] 82), (1022, .tail 5)], 0⟩) k26 r (fun s25 hr => ?_) ?_
  rw [hk26] at hr
  obtain ⟨k28, hk28, hr⟩ := jn_some hr
  refine Ok.join (fun (s27 : (List Attr) × (List Int) × Int) => ⟨[(0, .s (.c (.loc 0 0))), (1, .s (aI kind)), (5, .s (.c (.tl 1023 (List.map Attr.cs s27.1))))], [(0, .blk [.d (.sl (List.map (eInt .i64) s27.2.1)), cI s27.2.2] 82), (1023, .tail 5)], 0⟩) k28 r (fun s27 hr => ?_) ?_
  rw [hk28] at hr
  obtain ⟨k30, hk30, hr⟩ := jn_some hr
  refine Ok.join (fun (s29 : (List Attr) × (List Int) × Int) => ⟨[(5, .s (.c (.tl 1024 (List.map Attr.cs s29.1))))], [(0, .blk [.d (.sl (List.map (eInt .i64) s29.2.1)), cI s29.2.2] 82), (1024, .tail 5)], 0⟩) k30 r (fun s29 hr => ?_) ?_
  rw [hk30] at hr
  refine Ok.seq (Ok.region (OkOps.y (.c (.tl 1024 (List.map Attr.cs s29.1))) (OkOps.y (.c (.tl 1024 (List.map Attr.cs s29.1))) (OkOps.nil (Ok.ret ?_)))))
  obtain rfl := Option.some.inj hr
  exact ⟨_, rfl, .inr rfl, ⟨rfl, trivial⟩⟩
  clear hk30
  refine Ok.seq (Ok.region (OkOps.y (aI kind) (OkOps.y (aB (kind == 5)) (OkOps.y (aB (kind == 5)) (OkOps.q (triQG (x := aI kind) rfl rfl trivial rfl) (OkOps.q (triQG (x := aB (kind == 13)) rfl rfl ⟨fun h => h, trivial⟩ rfl) ?_))))))
  refine OkOps.q (triOr rfl rfl (fun h => by rw [h]; rfl) rfl) ?_
  refine OkOps.y (aB ((kind == 5) || (kind == 13))) (OkOps.q (triQG (x := .c (.loc 0 0)) rfl rfl trivial rfl) ?_)
  obtain ⟨x31, hx31, hr⟩ := bind_some hr
  refine OkOps.m 0 (triCallGW (tau [(0, 0)]) (aI x31.1) [(0, .blk [.d (.sl (List.map (eInt .i64) x31.2.L)), cI x31.2.At] 82)] (fun hg => b_Src_N_c _ _ (selT hg hx31)) (fun hg => by cases selF hg hx31; rfl) rfl rfl ⟨.inl rfl, .inl rfl, trivial⟩ ⟨fun h => h, trivial⟩ entry18 ⟨rfl, trivial⟩ rfl rfl rfl rfl rfl rfl rfl rfl) ?_
  refine OkOps.q (triQG (x := aB (x31.1 == 0)) rfl rfl ⟨fun h => h, trivial⟩ rfl) ?_
  refine OkOps.q (triOr rfl rfl (fun h => by rw [h]; rfl) rfl) ?_
  refine OkOps.nil ?_
  refine Ok.cond (b := ((kind == 5) || (kind == 13)) || (x31.1 == 0)) rfl (fun h32 => ?_) (fun h32 => ?_)
  have hr := selT h32 hr
  refine Ok.region (OkOps.y (.c (.tl 1023 (List.map Attr.cs s27.1))) (OkOps.y (.c (.loc 0 0)) ?_))
  obtain ⟨x33, hx33, hr⟩ := bind_some hr
  refine OkOps.m 0 (triCl (tau [(0, 0)]) (.s (aI x33.1)) [(0, .blk [.d (.sl (List.map (eInt .i64) x33.2.L)), cI x33.2.At] 82)] (b_Src_N_c _ _ hx33) rfl ⟨.inl rfl, .inl rfl, trivial⟩ trivial entry18 ⟨rfl, trivial⟩) ?_
  obtain ⟨x34, hx34, hr⟩ := bind_some hr
  refine OkOps.q (triCl (tau []) (.s (.agg [cI x34.Kind, cI x34.N, cS x34.S, .d (.sl (List.map AValue.cs x34.L))])) [] (b_number_c _ hx34) rfl ⟨.inl rfl, trivial⟩ trivial entry101 trivial) (OkOps.y (.agg [cS (ByteArray.mk #[119, 105, 100, 116, 104]), cI x34.Kind, cI x34.N, cS x34.S, .d (.sl (List.map AValue.cs x34.L))]) (OkOps.m 0 (triBST (sz := 5) (enc := Attr.cs) (j := 1) ([(Attr.mk (ByteArray.mk #[119, 105, 100, 116, 104]) x34)]) rfl rfl rfl rfl rfl rfl rfl rfl (fun _ => rfl) trivial rfl rfl) ?_))
  obtain ⟨x35, hx35, hr⟩ := bind_some hr
  refine OkOps.m2 0 (triApp (enc := Attr.cs) (L := s27.1) (X := [(Attr.mk (ByteArray.mk #[119, 105, 100, 116, 104]) x34)]) (j := 1023) (j' := 2) hx35 rfl rfl rfl rfl rfl rfl (fun _ => rfl) (fun _ => rfl) (by decide) trivial rfl rfl) (OkOps.y (.c (.tl 2 (List.map Attr.cs x35))) (OkOps.nil ?_))
  exact ⟨(x35, x33.2.L, x33.2.At), hr, (Conv.mk (tau [(1024, 2)]) ⟨⟨_, rfl, .inl rfl⟩, trivial⟩ ⟨rfl, rfl, trivial⟩ rfl rfl rfl rfl)⟩
  have hr := selF h32 hr
  refine Ok.skip ?_
  exact ⟨(s27.1, x31.2.L, x31.2.At), hr, (Conv.mk (tau [(1024, 1023)]) ⟨⟨_, rfl, .inl rfl⟩, trivial⟩ ⟨rfl, rfl, trivial⟩ rfl rfl rfl rfl)⟩
  clear hk28
  refine Ok.seq (Ok.region (OkOps.y (.c (.loc 0 0)) ?_))
  obtain ⟨x36, hx36, hr⟩ := bind_some hr
  refine OkOps.m 0 (triCl (tau [(0, 0)]) (.s (aI x36.1)) [(0, .blk [.d (.sl (List.map (eInt .i64) x36.2.L)), cI x36.2.At] 82)] (b_Src_N_c _ _ hx36) rfl ⟨.inl rfl, .inl rfl, trivial⟩ trivial entry18 ⟨rfl, trivial⟩) (OkOps.y (aB (x36.1 == 0)) (OkOps.nil ?_))
  refine Ok.cond (b := x36.1 == 0) rfl (fun h37 => ?_) (fun h37 => ?_)
  have hr := selT h37 hr
  refine Ok.region (OkOps.y (.c (.tl 1022 (List.map Attr.cs s25.1))) (OkOps.y (.c (.loc 0 0)) ?_))
  obtain ⟨x38, hx38, hr⟩ := bind_some hr
  refine OkOps.m 0 (triCl (tau [(0, 0)]) (.s (aI x38.1)) [(0, .blk [.d (.sl (List.map (eInt .i64) x38.2.L)), cI x38.2.At] 82)] (b_Src_N_c _ _ hx38) rfl ⟨.inl rfl, .inl rfl, trivial⟩ trivial entry18 ⟨rfl, trivial⟩) ?_
  obtain ⟨x39, hx39, hr⟩ := bind_some hr
  refine OkOps.q (triCl (tau []) (.s (.agg [cI x39.Kind, cI x39.N, cS x39.S, .d (.sl (List.map AValue.cs x39.L))])) [] (b_number_c _ hx39) rfl ⟨.inl rfl, trivial⟩ trivial entry101 trivial) (OkOps.y (.agg [cS (ByteArray.mk #[116, 117, 114, 110]), cI x39.Kind, cI x39.N, cS x39.S, .d (.sl (List.map AValue.cs x39.L))]) (OkOps.m 0 (triBST (sz := 5) (enc := Attr.cs) (j := 3) ([(Attr.mk (ByteArray.mk #[116, 117, 114, 110]) x39)]) rfl rfl rfl rfl rfl rfl rfl rfl (fun _ => rfl) trivial rfl rfl) ?_))
  obtain ⟨x40, hx40, hr⟩ := bind_some hr
  refine OkOps.m2 0 (triApp (enc := Attr.cs) (L := s25.1) (X := [(Attr.mk (ByteArray.mk #[116, 117, 114, 110]) x39)]) (j := 1022) (j' := 4) hx40 rfl rfl rfl rfl rfl rfl (fun _ => rfl) (fun _ => rfl) (by decide) trivial rfl rfl) (OkOps.y (.c (.tl 4 (List.map Attr.cs x40))) (OkOps.nil ?_))
  exact ⟨(x40, x38.2.L, x38.2.At), hr, (Conv.mk (tau [(1023, 4)]) ⟨⟨_, rfl, .inl rfl⟩, ⟨_, rfl, .inl rfl⟩, ⟨_, rfl, .inl rfl⟩, trivial⟩ ⟨rfl, rfl, trivial⟩ rfl rfl rfl rfl)⟩
  have hr := selF h37 hr
  refine Ok.skip ?_
  exact ⟨(s25.1, x36.2.L, x36.2.At), hr, (Conv.mk (tau [(1023, 1022)]) ⟨⟨_, rfl, .inl rfl⟩, ⟨_, rfl, .inl rfl⟩, ⟨_, rfl, .inl rfl⟩, trivial⟩ ⟨rfl, rfl, trivial⟩ rfl rfl rfl rfl)⟩
  clear hk26
  refine Ok.seq (Ok.region (OkOps.y (.c (.loc 0 0)) ?_))
  obtain ⟨x41, hx41, hr⟩ := bind_some hr
  refine OkOps.m 0 (triCl (tau [(0, 0)]) (.s (aI x41.1)) [(0, .blk [.d (.sl (List.map (eInt .i64) x41.2.L)), cI x41.2.At] 82)] (b_Src_N_c _ _ hx41) rfl ⟨.inl rfl, .inl rfl, trivial⟩ trivial entry18 ⟨rfl, trivial⟩) (OkOps.y (aB (x41.1 == 0)) (OkOps.nil ?_))
  refine Ok.cond (b := x41.1 == 0) rfl (fun h42 => ?_) (fun h42 => ?_)
  have hr := selT h42 hr
  refine Ok.region (OkOps.y (.c (.tl 1021 (List.map Attr.cs s23.1))) (OkOps.y (.c (.loc 0 0)) (OkOps.y (.c (.loc 0 0)) ?_)))
  obtain ⟨x43, hx43, hr⟩ := bind_some hr
  refine OkOps.m 0 (triCl (tau [(0, 0)]) (.s (.c (.d (.sl (List.map (eInt .i32) x43.1))))) [(0, .blk [.d (.sl (List.map (eInt .i64) x43.2.L)), cI x43.2.At] 82)] (b_Src_Text_c _ _ hx43) rfl ⟨.inl rfl, .inl rfl, trivial⟩ trivial entry103 ⟨rfl, trivial⟩) ?_
  obtain ⟨x44, hx44, hr⟩ := bind_some hr
  refine OkOps.m 0 (triCl (tau [(0, 0)]) (.s (.c (.d (.sl (List.map (eInt .i32) x44.1))))) [(0, .blk [.d (.sl (List.map (eInt .i64) x44.2.L)), cI x44.2.At] 82)] (b_Src_valid_c _ _ hx44) rfl ⟨.inl rfl, .inl rfl, trivial⟩ trivial entry102 ⟨rfl, trivial⟩) (OkOps.q (triOfRunes (L := x44.1) rfl rfl trivial rfl) ?_)
  obtain ⟨x45, hx45, hr⟩ := bind_some hr
  refine OkOps.q (triCl (tau []) (.s (.agg [cI x45.Kind, cI x45.N, cS x45.S, .d (.sl (List.map AValue.cs x45.L))])) [] (b_text_c _ hx45) rfl ⟨.inl rfl, trivial⟩ trivial entry98 trivial) (OkOps.y (.agg [cS (ByteArray.mk #[116, 101, 120, 116]), cI x45.Kind, cI x45.N, cS x45.S, .d (.sl (List.map AValue.cs x45.L))]) (OkOps.m 0 (triBST (sz := 5) (enc := Attr.cs) (j := 5) ([(Attr.mk (ByteArray.mk #[116, 101, 120, 116]) x45)]) rfl rfl rfl rfl rfl rfl rfl rfl (fun _ => rfl) trivial rfl rfl) ?_))
  obtain ⟨x46, hx46, hr⟩ := bind_some hr
  refine OkOps.m2 0 (triApp (enc := Attr.cs) (L := s23.1) (X := [(Attr.mk (ByteArray.mk #[116, 101, 120, 116]) x45)]) (j := 1021) (j' := 6) hx46 rfl rfl rfl rfl rfl rfl (fun _ => rfl) (fun _ => rfl) (by decide) trivial rfl rfl) (OkOps.y (.c (.tl 6 (List.map Attr.cs x46))) (OkOps.nil ?_))
  exact ⟨(x46, x44.2.L, x44.2.At), hr, (Conv.mk (tau [(1022, 6)]) ⟨⟨_, rfl, .inl rfl⟩, ⟨_, rfl, .inl rfl⟩, ⟨_, rfl, .inl rfl⟩, trivial⟩ ⟨rfl, rfl, trivial⟩ rfl rfl rfl rfl)⟩
  have hr := selF h42 hr
  refine Ok.skip ?_
  exact ⟨(s23.1, x41.2.L, x41.2.At), hr, (Conv.mk (tau [(1022, 1021)]) ⟨⟨_, rfl, .inl rfl⟩, ⟨_, rfl, .inl rfl⟩, ⟨_, rfl, .inl rfl⟩, trivial⟩ ⟨rfl, rfl, trivial⟩ rfl rfl rfl rfl)⟩
  clear hk24
  refine Ok.seq (Ok.region (OkOps.y (.c (.loc 0 0)) ?_))
  obtain ⟨x47, hx47, hr⟩ := bind_some hr
  refine OkOps.m 0 (triCl (tau [(0, 0)]) (.s (aI x47.1)) [(0, .blk [.d (.sl (List.map (eInt .i64) x47.2.L)), cI x47.2.At] 82)] (b_Src_N_c _ _ hx47) rfl ⟨.inl rfl, .inl rfl, trivial⟩ trivial entry18 ⟨rfl, trivial⟩) (OkOps.y (aB (x47.1 == 0)) (OkOps.nil ?_))
  refine Ok.cond (b := x47.1 == 0) rfl (fun h48 => ?_) (fun h48 => ?_)
  have hr := selT h48 hr
  refine Ok.region (OkOps.y (.c (.tl 1020 (List.map Attr.cs s21.1))) (OkOps.y (.c (.loc 0 0)) ?_))
  obtain ⟨x49, hx49, hr⟩ := bind_some hr
  refine OkOps.m 0 (triCl (tau [(0, 0)]) (.s (aI x49.1)) [(0, .blk [.d (.sl (List.map (eInt .i64) x49.2.L)), cI x49.2.At] 82)] (b_Src_N_c _ _ hx49) rfl ⟨.inl rfl, .inl rfl, trivial⟩ trivial entry18 ⟨rfl, trivial⟩) ?_
  obtain ⟨x50, hx50, hr⟩ := bind_some hr
  refine OkOps.q (triCl (tau []) (.s (.agg [cI x50.Kind, cI x50.N, cS x50.S, .d (.sl (List.map AValue.cs x50.L))])) [] (b_number_c _ hx50) rfl ⟨.inl rfl, trivial⟩ trivial entry101 trivial) (OkOps.y (.agg [cS (ByteArray.mk #[115, 112, 97, 110]), cI x50.Kind, cI x50.N, cS x50.S, .d (.sl (List.map AValue.cs x50.L))]) (OkOps.m 0 (triBST (sz := 5) (enc := Attr.cs) (j := 7) ([(Attr.mk (ByteArray.mk #[115, 112, 97, 110]) x50)]) rfl rfl rfl rfl rfl rfl rfl rfl (fun _ => rfl) trivial rfl rfl) ?_))
  obtain ⟨x51, hx51, hr⟩ := bind_some hr
  refine OkOps.m2 0 (triApp (enc := Attr.cs) (L := s21.1) (X := [(Attr.mk (ByteArray.mk #[115, 112, 97, 110]) x50)]) (j := 1020) (j' := 8) hx51 rfl rfl rfl rfl rfl rfl (fun _ => rfl) (fun _ => rfl) (by decide) trivial rfl rfl) (OkOps.y (.c (.tl 8 (List.map Attr.cs x51))) (OkOps.nil ?_))
  exact ⟨(x51, x49.2.L, x49.2.At), hr, (Conv.mk (tau [(1021, 8)]) ⟨⟨_, rfl, .inl rfl⟩, ⟨_, rfl, .inl rfl⟩, ⟨_, rfl, .inl rfl⟩, trivial⟩ ⟨rfl, rfl, trivial⟩ rfl rfl rfl rfl)⟩
  have hr := selF h48 hr
  refine Ok.skip ?_
  exact ⟨(s21.1, x47.2.L, x47.2.At), hr, (Conv.mk (tau [(1021, 1020)]) ⟨⟨_, rfl, .inl rfl⟩, ⟨_, rfl, .inl rfl⟩, ⟨_, rfl, .inl rfl⟩, trivial⟩ ⟨rfl, rfl, trivial⟩ rfl rfl rfl rfl)⟩
  clear hk22
  refine Ok.seq (Ok.region (OkOps.y (.c (.loc 0 0)) ?_))
  obtain ⟨x52, hx52, hr⟩ := bind_some hr
  refine OkOps.m 0 (triCl (tau [(0, 0)]) (.s (aI x52.1)) [(0, .blk [.d (.sl (List.map (eInt .i64) x52.2.L)), cI x52.2.At] 82)] (b_Src_N_c _ _ hx52) rfl ⟨.inl rfl, .inl rfl, trivial⟩ trivial entry18 ⟨rfl, trivial⟩) (OkOps.y (aB (x52.1 == 0)) (OkOps.nil ?_))
  refine Ok.cond (b := x52.1 == 0) rfl (fun h53 => ?_) (fun h53 => ?_)
  have hr := selT h53 hr
  refine Ok.region (OkOps.y (.c (.tl 1019 (List.map Attr.cs s19.1))) (OkOps.y (.c (.loc 0 0)) ?_))
  obtain ⟨x54, hx54, hr⟩ := bind_some hr
  refine OkOps.m 0 (triCl (tau [(0, 0)]) (.s (aI x54.1)) [(0, .blk [.d (.sl (List.map (eInt .i64) x54.2.L)), cI x54.2.At] 82)] (b_Src_N_c _ _ hx54) rfl ⟨.inl rfl, .inl rfl, trivial⟩ trivial entry18 ⟨rfl, trivial⟩) ?_
  obtain ⟨x55, hx55, hr⟩ := bind_some hr
  refine OkOps.q (triCl (tau []) (.s (.agg [cI x55.Kind, cI x55.N, cS x55.S, .d (.sl (List.map AValue.cs x55.L))])) [] (b_number_c _ hx55) rfl ⟨.inl rfl, trivial⟩ trivial entry101 trivial) (OkOps.y (.agg [cS (ByteArray.mk #[115, 99, 97, 108, 101]), cI x55.Kind, cI x55.N, cS x55.S, .d (.sl (List.map AValue.cs x55.L))]) (OkOps.m 0 (triBST (sz := 5) (enc := Attr.cs) (j := 9) ([(Attr.mk (ByteArray.mk #[115, 99, 97, 108, 101]) x55)]) rfl rfl rfl rfl rfl rfl rfl rfl (fun _ => rfl) trivial rfl rfl) ?_))
  obtain ⟨x56, hx56, hr⟩ := bind_some hr
  refine OkOps.m2 0 (triApp (enc := Attr.cs) (L := s19.1) (X := [(Attr.mk (ByteArray.mk #[115, 99, 97, 108, 101]) x55)]) (j := 1019) (j' := 10) hx56 rfl rfl rfl rfl rfl rfl (fun _ => rfl) (fun _ => rfl) (by decide) trivial rfl rfl) (OkOps.y (.c (.tl 10 (List.map Attr.cs x56))) (OkOps.nil ?_))
  exact ⟨(x56, x54.2.L, x54.2.At), hr, (Conv.mk (tau [(1020, 10)]) ⟨⟨_, rfl, .inl rfl⟩, ⟨_, rfl, .inl rfl⟩, ⟨_, rfl, .inl rfl⟩, trivial⟩ ⟨rfl, rfl, trivial⟩ rfl rfl rfl rfl)⟩
  have hr := selF h53 hr
  refine Ok.skip ?_
  exact ⟨(s19.1, x52.2.L, x52.2.At), hr, (Conv.mk (tau [(1020, 1019)]) ⟨⟨_, rfl, .inl rfl⟩, ⟨_, rfl, .inl rfl⟩, ⟨_, rfl, .inl rfl⟩, trivial⟩ ⟨rfl, rfl, trivial⟩ rfl rfl rfl rfl)⟩
  clear hk20
  refine Ok.seq (Ok.region (OkOps.y (.c (.loc 0 0)) ?_))
  obtain ⟨x57, hx57, hr⟩ := bind_some hr
  refine OkOps.m 0 (triCl (tau [(0, 0)]) (.s (aI x57.1)) [(0, .blk [.d (.sl (List.map (eInt .i64) x57.2.L)), cI x57.2.At] 82)] (b_Src_N_c _ _ hx57) rfl ⟨.inl rfl, .inl rfl, trivial⟩ trivial entry18 ⟨rfl, trivial⟩) (OkOps.y (aB (x57.1 == 0)) (OkOps.nil ?_))
  refine Ok.cond (b := x57.1 == 0) rfl (fun h58 => ?_) (fun h58 => ?_)
  have hr := selT h58 hr
  refine Ok.region (OkOps.y (.c (.tl 1018 (List.map Attr.cs s17.1))) ?_)
  obtain ⟨x59, hx59, hr⟩ := bind_some hr
  refine OkOps.q (triCl (tau []) (.s (.agg [cI x59.Kind, cI x59.N, cS x59.S, .d (.sl (List.map AValue.cs x59.L))])) [] (b_flag_c _ hx59) rfl ⟨.inl rfl, trivial⟩ trivial entry99 trivial) (OkOps.y (.agg [cS (ByteArray.mk #[112, 105, 110, 110, 101, 100]), cI x59.Kind, cI x59.N, cS x59.S, .d (.sl (List.map AValue.cs x59.L))]) (OkOps.m 0 (triBST (sz := 5) (enc := Attr.cs) (j := 11) ([(Attr.mk (ByteArray.mk #[112, 105, 110, 110, 101, 100]) x59)]) rfl rfl rfl rfl rfl rfl rfl rfl (fun _ => rfl) trivial rfl rfl) ?_))
  obtain ⟨x60, hx60, hr⟩ := bind_some hr
  refine OkOps.m2 0 (triApp (enc := Attr.cs) (L := s17.1) (X := [(Attr.mk (ByteArray.mk #[112, 105, 110, 110, 101, 100]) x59)]) (j := 1018) (j' := 12) hx60 rfl rfl rfl rfl rfl rfl (fun _ => rfl) (fun _ => rfl) (by decide) trivial rfl rfl) (OkOps.y (.c (.tl 12 (List.map Attr.cs x60))) (OkOps.nil ?_))
  exact ⟨(x60, x57.2.L, x57.2.At), hr, (Conv.mk (tau [(1019, 12)]) ⟨⟨_, rfl, .inl rfl⟩, ⟨_, rfl, .inl rfl⟩, ⟨_, rfl, .inl rfl⟩, trivial⟩ ⟨rfl, rfl, trivial⟩ rfl rfl rfl rfl)⟩
  have hr := selF h58 hr
  refine Ok.skip ?_
  exact ⟨(s17.1, x57.2.L, x57.2.At), hr, (Conv.mk (tau [(1019, 1018)]) ⟨⟨_, rfl, .inl rfl⟩, ⟨_, rfl, .inl rfl⟩, ⟨_, rfl, .inl rfl⟩, trivial⟩ ⟨rfl, rfl, trivial⟩ rfl rfl rfl rfl)⟩
  clear hk18
  refine Ok.seq (Ok.region (OkOps.y (.c (.loc 0 0)) ?_))
  obtain ⟨x61, hx61, hr⟩ := bind_some hr
  refine OkOps.m 0 (triCl (tau [(0, 0)]) (.s (aI x61.1)) [(0, .blk [.d (.sl (List.map (eInt .i64) x61.2.L)), cI x61.2.At] 82)] (b_Src_N_c _ _ hx61) rfl ⟨.inl rfl, .inl rfl, trivial⟩ trivial entry18 ⟨rfl, trivial⟩) (OkOps.y (aB (x61.1 == 0)) (OkOps.nil ?_))
  refine Ok.cond (b := x61.1 == 0) rfl (fun h62 => ?_) (fun h62 => ?_)
  have hr := selT h62 hr
  refine Ok.region (OkOps.y (.c (.tl 1017 (List.map Attr.cs s15.1))) (OkOps.y (.c (.loc 0 0)) ?_))
  obtain ⟨x63, hx63, hr⟩ := bind_some hr
  refine OkOps.m 0 (triCl (tau [(0, 0)]) (.s (aI x63.1)) [(0, .blk [.d (.sl (List.map (eInt .i64) x63.2.L)), cI x63.2.At] 82)] (b_Src_N_c _ _ hx63) rfl ⟨.inl rfl, .inl rfl, trivial⟩ trivial entry18 ⟨rfl, trivial⟩) (OkOps.y (aI (IntKind.i64.wrap (97 + x63.1))) (OkOps.y (.c (.d (.v (.int .u8 (IntKind.u8.wrap (IntKind.i64.wrap (97 + x63.1))))))) (OkOps.m 0 (triBST (sz := 1) (enc := (eInt .u8)) (j := 13) ([IntKind.u8.wrap (IntKind.i64.wrap (97 + x63.1))]) rfl rfl rfl rfl rfl rfl rfl rfl (fun _ => rfl) trivial rfl rfl) (OkOps.q (triOfBytes (L := [IntKind.u8.wrap (IntKind.i64.wrap (97 + x63.1))]) rfl rfl trivial rfl) ?_))))
  obtain ⟨x64, hx64, hr⟩ := bind_some hr
  refine OkOps.q (triCat hx64 rfl rfl trivial rfl) ?_
  obtain ⟨x65, hx65, hr⟩ := bind_some hr
  refine OkOps.q (triCl (tau []) (.s (.agg [cI x65.Kind, cI x65.N, cS x65.S, .d (.sl (List.map AValue.cs x65.L))])) [] (b_text_c _ hx65) rfl ⟨.inl rfl, trivial⟩ trivial entry98 trivial) (OkOps.y (.agg [cS (ByteArray.mk #[108, 101, 102, 116]), cI x65.Kind, cI x65.N, cS x65.S, .d (.sl (List.map AValue.cs x65.L))]) (OkOps.m 0 (triBST (sz := 5) (enc := Attr.cs) (j := 14) ([(Attr.mk (ByteArray.mk #[108, 101, 102, 116]) x65)]) rfl rfl rfl rfl rfl rfl rfl rfl (fun _ => rfl) trivial rfl rfl) ?_))
  obtain ⟨x66, hx66, hr⟩ := bind_some hr
  refine OkOps.m2 0 (triApp (enc := Attr.cs) (L := s15.1) (X := [(Attr.mk (ByteArray.mk #[108, 101, 102, 116]) x65)]) (j := 1017) (j' := 15) hx66 rfl rfl rfl rfl rfl rfl (fun _ => rfl) (fun _ => rfl) (by decide) trivial rfl rfl) (OkOps.y (.c (.tl 15 (List.map Attr.cs x66))) (OkOps.nil ?_))
  exact ⟨(x66, x63.2.L, x63.2.At), hr, (Conv.mk (tau [(1018, 15)]) ⟨⟨_, rfl, .inl rfl⟩, ⟨_, rfl, .inl rfl⟩, ⟨_, rfl, .inl rfl⟩, trivial⟩ ⟨rfl, rfl, trivial⟩ rfl rfl rfl rfl)⟩
  have hr := selF h62 hr
  refine Ok.skip ?_
  exact ⟨(s15.1, x61.2.L, x61.2.At), hr, (Conv.mk (tau [(1018, 1017)]) ⟨⟨_, rfl, .inl rfl⟩, ⟨_, rfl, .inl rfl⟩, ⟨_, rfl, .inl rfl⟩, trivial⟩ ⟨rfl, rfl, trivial⟩ rfl rfl rfl rfl)⟩
  clear hk16
  refine Ok.seq (Ok.region (OkOps.y (.c (.loc 0 0)) ?_))
  obtain ⟨x67, hx67, hr⟩ := bind_some hr
  refine OkOps.m 0 (triCl (tau [(0, 0)]) (.s (aI x67.1)) [(0, .blk [.d (.sl (List.map (eInt .i64) x67.2.L)), cI x67.2.At] 82)] (b_Src_N_c _ _ hx67) rfl ⟨.inl rfl, .inl rfl, trivial⟩ trivial entry18 ⟨rfl, trivial⟩) (OkOps.y (aB (x67.1 == 0)) (OkOps.nil ?_))
  refine Ok.cond (b := x67.1 == 0) rfl (fun h68 => ?_) (fun h68 => ?_)
  have hr := selT h68 hr
  refine Ok.region (OkOps.y (.c (.tl 1016 (List.map Attr.cs s13.1))) (OkOps.y (.c (.loc 0 0)) ?_))
  obtain ⟨x69, hx69, hr⟩ := bind_some hr
  refine OkOps.m 0 (triCl (tau [(0, 0)]) (.s (aI x69.1)) [(0, .blk [.d (.sl (List.map (eInt .i64) x69.2.L)), cI x69.2.At] 82)] (b_Src_N_c _ _ hx69) rfl ⟨.inl rfl, .inl rfl, trivial⟩ trivial entry18 ⟨rfl, trivial⟩) ?_
  obtain ⟨x70, hx70, hr⟩ := bind_some hr
  refine OkOps.q (triCl (tau []) (.s (.agg [cI x70.Kind, cI x70.N, cS x70.S, .d (.sl (List.map AValue.cs x70.L))])) [] (b_flag_c _ hx70) rfl ⟨.inl rfl, trivial⟩ trivial entry99 trivial) (OkOps.y (.agg [cS (ByteArray.mk #[104, 105, 100, 100, 101, 110]), cI x70.Kind, cI x70.N, cS x70.S, .d (.sl (List.map AValue.cs x70.L))]) (OkOps.m 0 (triBST (sz := 5) (enc := Attr.cs) (j := 16) ([(Attr.mk (ByteArray.mk #[104, 105, 100, 100, 101, 110]) x70)]) rfl rfl rfl rfl rfl rfl rfl rfl (fun _ => rfl) trivial rfl rfl) ?_))
  obtain ⟨x71, hx71, hr⟩ := bind_some hr
  refine OkOps.m2 0 (triApp (enc := Attr.cs) (L := s13.1) (X := [(Attr.mk (ByteArray.mk #[104, 105, 100, 100, 101, 110]) x70)]) (j := 1016) (j' := 17) hx71 rfl rfl rfl rfl rfl rfl (fun _ => rfl) (fun _ => rfl) (by decide) trivial rfl rfl) (OkOps.y (.c (.tl 17 (List.map Attr.cs x71))) (OkOps.nil ?_))
  exact ⟨(x71, x69.2.L, x69.2.At), hr, (Conv.mk (tau [(1017, 17)]) ⟨⟨_, rfl, .inl rfl⟩, ⟨_, rfl, .inl rfl⟩, ⟨_, rfl, .inl rfl⟩, trivial⟩ ⟨rfl, rfl, trivial⟩ rfl rfl rfl rfl)⟩
  have hr := selF h68 hr
  refine Ok.skip ?_
  exact ⟨(s13.1, x67.2.L, x67.2.At), hr, (Conv.mk (tau [(1017, 1016)]) ⟨⟨_, rfl, .inl rfl⟩, ⟨_, rfl, .inl rfl⟩, ⟨_, rfl, .inl rfl⟩, trivial⟩ ⟨rfl, rfl, trivial⟩ rfl rfl rfl rfl)⟩
  clear hk14
  refine Ok.seq (Ok.region (OkOps.y (aI kind) (OkOps.y (aB (kind == 5)) (OkOps.y (aB (kind == 5)) (OkOps.q (triQG (x := aI kind) rfl rfl trivial rfl) (OkOps.q (triQG (x := aB (kind == 13)) rfl rfl ⟨fun h => h, trivial⟩ rfl) ?_))))))
  refine OkOps.q (triOr rfl rfl (fun h => by rw [h]; rfl) rfl) ?_
  refine OkOps.y (aB ((kind == 5) || (kind == 13))) (OkOps.q (triQG (x := .c (.loc 0 0)) rfl rfl trivial rfl) ?_)
  obtain ⟨x72, hx72, hr⟩ := bind_some hr
  refine OkOps.m 0 (triCallGW (tau [(0, 0)]) (aI x72.1) [(0, .blk [.d (.sl (List.map (eInt .i64) x72.2.L)), cI x72.2.At] 82)] (fun hg => b_Src_N_c _ _ (selT hg hx72)) (fun hg => by cases selF hg hx72; rfl) rfl rfl ⟨.inl rfl, .inl rfl, trivial⟩ ⟨fun h => h, trivial⟩ entry18 ⟨rfl, trivial⟩ rfl rfl rfl rfl rfl rfl rfl rfl) ?_
  refine OkOps.q (triQG (x := aB (x72.1 == 0)) rfl rfl ⟨fun h => h, trivial⟩ rfl) ?_
  refine OkOps.q (triOr rfl rfl (fun h => by rw [h]; rfl) rfl) ?_
  refine OkOps.nil ?_
  refine Ok.cond (b := ((kind == 5) || (kind == 13)) || (x72.1 == 0)) rfl (fun h73 => ?_) (fun h73 => ?_)
  have hr := selT h73 hr
  refine Ok.region (OkOps.y (.c (.tl 1015 (List.map Attr.cs s11.1))) (OkOps.y (.c (.loc 0 0)) ?_))
  obtain ⟨x74, hx74, hr⟩ := bind_some hr
  refine OkOps.m 0 (triCl (tau [(0, 0)]) (.s (aI x74.1)) [(0, .blk [.d (.sl (List.map (eInt .i64) x74.2.L)), cI x74.2.At] 82)] (b_Src_N_c _ _ hx74) rfl ⟨.inl rfl, .inl rfl, trivial⟩ trivial entry18 ⟨rfl, trivial⟩) ?_
  obtain ⟨x75, hx75, hr⟩ := bind_some hr
  refine OkOps.q (triCl (tau []) (.s (.agg [cI x75.Kind, cI x75.N, cS x75.S, .d (.sl (List.map AValue.cs x75.L))])) [] (b_number_c _ hx75) rfl ⟨.inl rfl, trivial⟩ trivial entry101 trivial) (OkOps.y (.agg [cS (ByteArray.mk #[104, 101, 105, 103, 104, 116]), cI x75.Kind, cI x75.N, cS x75.S, .d (.sl (List.map AValue.cs x75.L))]) (OkOps.m 0 (triBST (sz := 5) (enc := Attr.cs) (j := 18) ([(Attr.mk (ByteArray.mk #[104, 101, 105, 103, 104, 116]) x75)]) rfl rfl rfl rfl rfl rfl rfl rfl (fun _ => rfl) trivial rfl rfl) ?_))
  obtain ⟨x76, hx76, hr⟩ := bind_some hr
  refine OkOps.m2 0 (triApp (enc := Attr.cs) (L := s11.1) (X := [(Attr.mk (ByteArray.mk #[104, 101, 105, 103, 104, 116]) x75)]) (j := 1015) (j' := 19) hx76 rfl rfl rfl rfl rfl rfl (fun _ => rfl) (fun _ => rfl) (by decide) trivial rfl rfl) (OkOps.y (.c (.tl 19 (List.map Attr.cs x76))) (OkOps.nil ?_))
  exact ⟨(x76, x74.2.L, x74.2.At), hr, (Conv.mk (tau [(1016, 19)]) ⟨⟨_, rfl, .inl rfl⟩, ⟨_, rfl, .inl rfl⟩, ⟨_, rfl, .inl rfl⟩, trivial⟩ ⟨rfl, rfl, trivial⟩ rfl rfl rfl rfl)⟩
  have hr := selF h73 hr
  refine Ok.skip ?_
  exact ⟨(s11.1, x72.2.L, x72.2.At), hr, (Conv.mk (tau [(1016, 1015)]) ⟨⟨_, rfl, .inl rfl⟩, ⟨_, rfl, .inl rfl⟩, ⟨_, rfl, .inl rfl⟩, trivial⟩ ⟨rfl, rfl, trivial⟩ rfl rfl rfl rfl)⟩
  clear hk12
  refine Ok.seq (Ok.region (OkOps.y (.c (.loc 0 0)) ?_))
  obtain ⟨x77, hx77, hr⟩ := bind_some hr
  refine OkOps.m 0 (triCl (tau [(0, 0)]) (.s (aI x77.1)) [(0, .blk [.d (.sl (List.map (eInt .i64) x77.2.L)), cI x77.2.At] 82)] (b_Src_N_c _ _ hx77) rfl ⟨.inl rfl, .inl rfl, trivial⟩ trivial entry18 ⟨rfl, trivial⟩) (OkOps.y (aB (x77.1 == 0)) (OkOps.nil ?_))
  refine Ok.cond (b := x77.1 == 0) rfl (fun h78 => ?_) (fun h78 => ?_)
  have hr := selT h78 hr
  refine Ok.region (OkOps.y (.c (.tl 1014 (List.map Attr.cs s9.1))) (OkOps.y (.c (.loc 0 0)) ?_))
  obtain ⟨x79, hx79, hr⟩ := bind_some hr
  refine OkOps.m 0 (triCl (tau [(0, 0)]) (.s (aI x79.1)) [(0, .blk [.d (.sl (List.map (eInt .i64) x79.2.L)), cI x79.2.At] 82)] (b_Src_N_c _ _ hx79) rfl ⟨.inl rfl, .inl rfl, trivial⟩ trivial entry18 ⟨rfl, trivial⟩) ?_
  obtain ⟨x80, hx80, hr⟩ := bind_some hr
  refine OkOps.q (triCl (tau []) (.s (.agg [cI x80.Kind, cI x80.N, cS x80.S, .d (.sl (List.map AValue.cs x80.L))])) [] (b_flag_c _ hx80) rfl ⟨.inl rfl, trivial⟩ trivial entry99 trivial) (OkOps.y (.agg [cS (ByteArray.mk #[100, 105, 115, 97, 98, 108, 101, 100]), cI x80.Kind, cI x80.N, cS x80.S, .d (.sl (List.map AValue.cs x80.L))]) (OkOps.m 0 (triBST (sz := 5) (enc := Attr.cs) (j := 20) ([(Attr.mk (ByteArray.mk #[100, 105, 115, 97, 98, 108, 101, 100]) x80)]) rfl rfl rfl rfl rfl rfl rfl rfl (fun _ => rfl) trivial rfl rfl) ?_))
  obtain ⟨x81, hx81, hr⟩ := bind_some hr
  refine OkOps.m2 0 (triApp (enc := Attr.cs) (L := s9.1) (X := [(Attr.mk (ByteArray.mk #[100, 105, 115, 97, 98, 108, 101, 100]) x80)]) (j := 1014) (j' := 21) hx81 rfl rfl rfl rfl rfl rfl (fun _ => rfl) (fun _ => rfl) (by decide) trivial rfl rfl) (OkOps.y (.c (.tl 21 (List.map Attr.cs x81))) (OkOps.nil ?_))
  exact ⟨(x81, x79.2.L, x79.2.At), hr, (Conv.mk (tau [(1015, 21)]) ⟨⟨_, rfl, .inl rfl⟩, ⟨_, rfl, .inl rfl⟩, ⟨_, rfl, .inl rfl⟩, trivial⟩ ⟨rfl, rfl, trivial⟩ rfl rfl rfl rfl)⟩
  have hr := selF h78 hr
  refine Ok.skip ?_
  exact ⟨(s9.1, x77.2.L, x77.2.At), hr, (Conv.mk (tau [(1015, 1014)]) ⟨⟨_, rfl, .inl rfl⟩, ⟨_, rfl, .inl rfl⟩, ⟨_, rfl, .inl rfl⟩, trivial⟩ ⟨rfl, rfl, trivial⟩ rfl rfl rfl rfl)⟩
  clear hk10
  refine Ok.seq (Ok.region (OkOps.y (.c (.loc 0 0)) ?_))
  obtain ⟨x82, hx82, hr⟩ := bind_some hr
  refine OkOps.m 0 (triCl (tau [(0, 0)]) (.s (aI x82.1)) [(0, .blk [.d (.sl (List.map (eInt .i64) x82.2.L)), cI x82.2.At] 82)] (b_Src_N_c _ _ hx82) rfl ⟨.inl rfl, .inl rfl, trivial⟩ trivial entry18 ⟨rfl, trivial⟩) (OkOps.y (aB (x82.1 == 0)) (OkOps.nil ?_))
  refine Ok.cond (b := x82.1 == 0) rfl (fun h83 => ?_) (fun h83 => ?_)
  have hr := selT h83 hr
  refine Ok.seq (Ok.region (OkOps.y (.agg [cI 4, cI 0, cS ByteArray.empty, .d (.v (.slice none 0 0))]) (OkOps.m 0 (triAlloc (j := 22) (cs := [cI 0, cI 0, cS ByteArray.empty, .d (.v (.slice none 0 0))]) rfl rfl rfl rfl) (OkOps.w (triStore (cs' := [cI 4, cI 0, cS ByteArray.empty, .d (.v (.slice none 0 0))]) rfl rfl rfl rfl rfl rfl rfl rfl rfl) (OkOps.nil ?_)))))
  obtain ⟨k85, hk85, hr⟩ := jn_some hr
  refine Ok.join (fun (s84 : (List Int) × Int × (List AValue)) => ⟨[(0, .s (.c (.loc 0 0))), (1, .s (aI kind)), (5, .s (.c (.tl 1003 (List.map Attr.cs s7.1)))), (6, .s (.c (.loc 22 0)))], [(0, .blk [.d (.sl (List.map (eInt .i64) s84.1)), cI s84.2.1] 82), (22, .blk [cI 4, cI 0, cS ByteArray.empty, .tl 1029 (List.map AValue.cs s84.2.2)] 40), (1003, .tail 5), (1029, .tail 4)], 0⟩) k85 r (fun s84 hr => ?_) ?_
  rw [hk85] at hr
  refine Ok.region (OkOps.y (.c (.tl 1003 (List.map Attr.cs s7.1))) (OkOps.y (.agg [cI 4, cI 0, cS ByteArray.empty, .tl 1029 (List.map AValue.cs s84.2.2)]) (OkOps.y (.agg [cS (ByteArray.mk #[99, 111, 108, 117, 109, 110, 115]), cI 4, cI 0, cS ByteArray.empty, .tl 1029 (List.map AValue.cs s84.2.2)]) (OkOps.m 0 (triBST (sz := 5) (enc := Attr.cs) (j := 23) ([(Attr.mk (ByteArray.mk #[99, 111, 108, 117, 109, 110, 115]) (AValue.mk 4 0 ByteArray.empty s84.2.2))]) rfl rfl rfl rfl rfl rfl rfl rfl (fun _ => rfl) trivial rfl rfl) ?_))))
  obtain ⟨x86, hx86, hr⟩ := bind_some hr
  refine OkOps.m2 0 (triApp (enc := Attr.cs) (L := s7.1) (X := [(Attr.mk (ByteArray.mk #[99, 111, 108, 117, 109, 110, 115]) (AValue.mk 4 0 ByteArray.empty s84.2.2))]) (j := 1003) (j' := 24) hx86 rfl rfl rfl rfl rfl rfl (fun _ => rfl) (fun _ => rfl) (by decide) trivial rfl rfl) (OkOps.y (.c (.tl 24 (List.map Attr.cs x86))) (OkOps.nil ?_))
  exact ⟨(x86, s84.1, s84.2.1), hr, (Conv.mk (tau [(1014, 24)]) ⟨⟨_, rfl, .inl rfl⟩, ⟨_, rfl, .inl rfl⟩, ⟨_, rfl, .inl rfl⟩, trivial⟩ ⟨rfl, rfl, trivial⟩ rfl rfl rfl rfl)⟩
  clear hk85
  refine Ok.seq (Ok.region (OkOps.y (.c (.loc 0 0)) ?_))
  obtain ⟨x87, hx87, hr⟩ := bind_some hr
  refine OkOps.m 0 (triCl (tau [(0, 0)]) (.s (aI x87.1)) [(0, .blk [.d (.sl (List.map (eInt .i64) x87.2.L)), cI x87.2.At] 82)] (b_Src_Range_c _ _ _ hx87) rfl ⟨.inl rfl, .inl rfl, .inl rfl, trivial⟩ trivial entry19 ⟨rfl, trivial⟩) (OkOps.y (aI x87.1) (OkOps.nil (Ok.block (Ok.loopK (fun (s88 : Int × (List Int) × Int × (List AValue)) => ⟨[(0, .s (.c (.loc 0 0))), (1, .s (aI kind)), (5, .s (.c (.tl 1003 (List.map Attr.cs s7.1)))), (6, .s (.c (.loc 22 0))), (7, .s (aI s88.1))], [(0, .blk [.d (.sl (List.map (eInt .i64) s88.2.1)), cI s88.2.2.1] 82), (22, .blk [cI 4, cI 0, cS ByteArray.empty, .tl 1032 (List.map AValue.cs s88.2.2.2)] 40), (1003, .tail 5), (1032, .tail 4)], 0⟩) hr (Conv.trans (Conv.nilO 22 3 1034 4 [cI 4, cI 0, cS ByteArray.empty, .d (.v (.slice none 0 0))] [cI 4, cI 0, cS ByteArray.empty, .tl 1034 (List.map AValue.cs ([] : (List AValue)))] 40 0 rfl rfl rfl rfl) (Conv.mk (tau [(1032, 1034)]) ⟨⟨_, rfl, .inl rfl⟩, ⟨_, rfl, .inl rfl⟩, ⟨_, rfl, .inl rfl⟩, ⟨_, rfl, .inl rfl⟩, ⟨_, rfl, .inl rfl⟩, trivial⟩ ⟨rfl, rfl, rfl, rfl, trivial⟩ rfl rfl rfl rfl)) ?_))))
  clear hr
  intro again89 s88 hr
  unfold b_Src_attrs_L1 at hr
  refine Ok.seq (Ok.seq (Ok.region (OkOps.y (aI s88.1) (OkOps.y (aB (decide (s88.1 > 0))) (OkOps.nil ?_)))))
  refine Ok.cond (b := decide (s88.1 > 0)) rfl (fun h90 => ?_) (fun h90 => ?_)
  have hr := selT h90 hr
  refine Ok.skip (Ok.seq (Ok.block (Ok.regionD (by kernel_rfl) (OkD.x (.c (.loc 22 3)) rfl trivial rfl (OkD.x (.c (.tl 1032 (List.map AValue.cs s88.2.2.2))) rfl trivial rfl (OkD.m 0 (triBST (sz := 1) (enc := (eInt .i64)) (j := 25) ([0, 0, 30, 50, (-1), (-2)]) rfl rfl rfl rfl rfl rfl rfl rfl (fun _ => rfl) trivial rfl rfl) (OkD.x (.c (.loc 0 0)) rfl trivial rfl ?_)))))))
  obtain ⟨x91, hx91, hr⟩ := bind_some hr
  refine OkD.m 0 (triCl (tau [(0, 0)]) (.s (aI x91.1)) [(0, .blk [.d (.sl (List.map (eInt .i64) x91.2.L)), cI x91.2.At] 82)] (b_Src_N_c _ _ hx91) rfl ⟨.inl rfl, .inl rfl, trivial⟩ trivial entry18 ⟨rfl, trivial⟩) ?_
  obtain ⟨x92, hx92, hr⟩ := bind_some hr
  refine OkD.q (triIdx (enc := (eInt .i64)) (L := [0, 0, 30, 50, (-1), (-2)]) (row := [dI x92]) hx92 rfl rfl rfl rfl (fun _ => rfl) trivial rfl) (OkD.x (aI x92) rfl trivial rfl ?_)
  obtain ⟨x93, hx93, hr⟩ := bind_some hr
  refine OkD.q (triCl (tau []) (.s (.agg [cI x93.Kind, cI x93.N, cS x93.S, .d (.sl (List.map AValue.cs x93.L))])) [] (b_number_c _ hx93) rfl ⟨.inl rfl, trivial⟩ trivial entry101 trivial) ?_
  refine OkD.m 0 (triBST (sz := 4) (enc := AValue.cs) (j := 26) ([x93]) rfl rfl rfl rfl rfl (rows := [[dI x93.Kind, dI x93.N, dS x93.S, .sl (List.map AValue.cs x93.L)]]) (by simp only [List.map, AValue.cs_eq]) rfl rfl (fun x => by rw [AValue.cs_eq]; rfl) trivial rfl rfl) ?_
  obtain ⟨x94, hx94, hr⟩ := bind_some hr
  refine OkD.m2 0 (triApp (enc := AValue.cs) (L := s88.2.2.2) (X := [x93]) (j := 1032) (j' := 27) hx94 rfl rfl rfl rfl rfl rfl (fun x => by rw [AValue.cs_eq]; rfl) (fun x => by rw [AValue.cs_eq]; rfl) (by decide) trivial rfl rfl) ?_
  refine OkD.x (.c (.loc 22 3)) rfl trivial rfl (OkD.w (triStore (cs' := [cI 4, cI 0, cS ByteArray.empty, .tl 27 (List.map AValue.cs x94)]) rfl rfl rfl rfl rfl rfl rfl rfl rfl) (OkD.nil (by kernel_rfl) (Ok.region (OkOps.y (aI s88.1) (OkOps.y (aI (IntKind.i64.wrap (s88.1 - 1))) (OkOps.y (aI (IntKind.i64.wrap (s88.1 - 1))) (OkOps.nil ?_)))))))
  exact ⟨(IntKind.i64.wrap (s88.1 - 1), x91.2.L, x91.2.At, x94), hr, (Conv.mk (tau [(1032, 27)]) ⟨⟨_, rfl, .inl rfl⟩, ⟨_, rfl, .inl rfl⟩, ⟨_, rfl, .inl rfl⟩, ⟨_, rfl, .inl rfl⟩, ⟨_, rfl, .inl rfl⟩, trivial⟩ ⟨rfl, rfl, rfl, rfl, trivial⟩ rfl rfl rfl rfl)⟩
  have hr := selF h90 hr
  refine Ok.exit ?_
  exact ⟨(s88.2.1, s88.2.2.1, s88.2.2.2), hr, (Conv.mk (tau [(1029, 1032)]) ⟨⟨_, rfl, .inl rfl⟩, ⟨_, rfl, .inl rfl⟩, ⟨_, rfl, .inl rfl⟩, ⟨_, rfl, .inl rfl⟩, trivial⟩ ⟨rfl, rfl, rfl, rfl, trivial⟩ rfl rfl rfl rfl)⟩
  have hr := selF h83 hr
  refine Ok.skip ?_
  exact ⟨(s7.1, x82.2.L, x82.2.At), hr, (Conv.mk (tau [(1014, 1003)]) ⟨⟨_, rfl, .inl rfl⟩, ⟨_, rfl, .inl rfl⟩, ⟨_, rfl, .inl rfl⟩, trivial⟩ ⟨rfl, rfl, trivial⟩ rfl rfl rfl rfl)⟩
  clear hk8
  refine Ok.seq (Ok.region (OkOps.y (.c (.loc 0 0)) ?_))
  obtain ⟨x95, hx95, hr⟩ := bind_some hr
  refine OkOps.m 0 (triCl (tau [(0, 0)]) (.s (aI x95.1)) [(0, .blk [.d (.sl (List.map (eInt .i64) x95.2.L)), cI x95.2.At] 82)] (b_Src_N_c _ _ hx95) rfl ⟨.inl rfl, .inl rfl, trivial⟩ trivial entry18 ⟨rfl, trivial⟩) (OkOps.y (aB (x95.1 == 0)) (OkOps.nil ?_))
  refine Ok.cond (b := x95.1 == 0) rfl (fun h96 => ?_) (fun h96 => ?_)
  have hr := selT h96 hr
  refine Ok.region (OkOps.y (.c (.tl 1002 (List.map Attr.cs s5.1))) (OkOps.y (.c (.loc 0 0)) ?_))
  obtain ⟨x97, hx97, hr⟩ := bind_some hr
  refine OkOps.m 0 (triCl (tau [(0, 0)]) (.s (aS x97.1)) [(0, .blk [.d (.sl (List.map (eInt .i64) x97.2.L)), cI x97.2.At] 82)] (b_Src_Name_c _ hx97) rfl ⟨.inl rfl, trivial⟩ trivial entry100 ⟨rfl, trivial⟩) ?_
  obtain ⟨x98, hx98, hr⟩ := bind_some hr
  refine OkOps.q (triCl (tau []) (.s (.agg [cI x98.Kind, cI x98.N, cS x98.S, .d (.sl (List.map AValue.cs x98.L))])) [] (b_text_c _ hx98) rfl ⟨.inl rfl, trivial⟩ trivial entry98 trivial) (OkOps.y (.agg [cS (ByteArray.mk #[99, 108, 97, 115, 115]), cI x98.Kind, cI x98.N, cS x98.S, .d (.sl (List.map AValue.cs x98.L))]) (OkOps.m 0 (triBST (sz := 5) (enc := Attr.cs) (j := 28) ([(Attr.mk (ByteArray.mk #[99, 108, 97, 115, 115]) x98)]) rfl rfl rfl rfl rfl rfl rfl rfl (fun _ => rfl) trivial rfl rfl) ?_))
  obtain ⟨x99, hx99, hr⟩ := bind_some hr
  refine OkOps.m2 0 (triApp (enc := Attr.cs) (L := s5.1) (X := [(Attr.mk (ByteArray.mk #[99, 108, 97, 115, 115]) x98)]) (j := 1002) (j' := 29) hx99 rfl rfl rfl rfl rfl rfl (fun _ => rfl) (fun _ => rfl) (by decide) trivial rfl rfl) (OkOps.y (.c (.tl 29 (List.map Attr.cs x99))) (OkOps.nil ?_))
  exact ⟨(x99, x97.2.L, x97.2.At), hr, (Conv.mk (tau [(1003, 29)]) ⟨⟨_, rfl, .inl rfl⟩, ⟨_, rfl, .inl rfl⟩, ⟨_, rfl, .inl rfl⟩, trivial⟩ ⟨rfl, rfl, trivial⟩ rfl rfl rfl rfl)⟩
  have hr := selF h96 hr
  refine Ok.skip ?_
  exact ⟨(s5.1, x95.2.L, x95.2.At), hr, (Conv.mk (tau [(1003, 1002)]) ⟨⟨_, rfl, .inl rfl⟩, ⟨_, rfl, .inl rfl⟩, ⟨_, rfl, .inl rfl⟩, trivial⟩ ⟨rfl, rfl, trivial⟩ rfl rfl rfl rfl)⟩
  clear hk6
  refine Ok.seq (Ok.region (OkOps.y (.c (.loc 0 0)) ?_))
  obtain ⟨x100, hx100, hr⟩ := bind_some hr
  refine OkOps.m 0 (triCl (tau [(0, 0)]) (.s (aI x100.1)) [(0, .blk [.d (.sl (List.map (eInt .i64) x100.2.L)), cI x100.2.At] 82)] (b_Src_N_c _ _ hx100) rfl ⟨.inl rfl, .inl rfl, trivial⟩ trivial entry18 ⟨rfl, trivial⟩) (OkOps.y (aB (x100.1 == 0)) (OkOps.nil ?_))
  refine Ok.cond (b := x100.1 == 0) rfl (fun h101 => ?_) (fun h101 => ?_)
  have hr := selT h101 hr
  refine Ok.region (OkOps.y (.c (.tl 1001 (List.map Attr.cs s3.1))) (OkOps.y (.c (.loc 0 0)) ?_))
  obtain ⟨x102, hx102, hr⟩ := bind_some hr
  refine OkOps.m 0 (triCl (tau [(0, 0)]) (.s (aI x102.1)) [(0, .blk [.d (.sl (List.map (eInt .i64) x102.2.L)), cI x102.2.At] 82)] (b_Src_N_c _ _ hx102) rfl ⟨.inl rfl, .inl rfl, trivial⟩ trivial entry18 ⟨rfl, trivial⟩) ?_
  obtain ⟨x103, hx103, hr⟩ := bind_some hr
  refine OkOps.q (triCl (tau []) (.s (.agg [cI x103.Kind, cI x103.N, cS x103.S, .d (.sl (List.map AValue.cs x103.L))])) [] (b_flag_c _ hx103) rfl ⟨.inl rfl, trivial⟩ trivial entry99 trivial) (OkOps.y (.agg [cS (ByteArray.mk #[99, 104, 101, 99, 107, 101, 100]), cI x103.Kind, cI x103.N, cS x103.S, .d (.sl (List.map AValue.cs x103.L))]) (OkOps.m 0 (triBST (sz := 5) (enc := Attr.cs) (j := 30) ([(Attr.mk (ByteArray.mk #[99, 104, 101, 99, 107, 101, 100]) x103)]) rfl rfl rfl rfl rfl rfl rfl rfl (fun _ => rfl) trivial rfl rfl) ?_))
  obtain ⟨x104, hx104, hr⟩ := bind_some hr
  refine OkOps.m2 0 (triApp (enc := Attr.cs) (L := s3.1) (X := [(Attr.mk (ByteArray.mk #[99, 104, 101, 99, 107, 101, 100]) x103)]) (j := 1001) (j' := 31) hx104 rfl rfl rfl rfl rfl rfl (fun _ => rfl) (fun _ => rfl) (by decide) trivial rfl rfl) (OkOps.y (.c (.tl 31 (List.map Attr.cs x104))) (OkOps.nil ?_))
  exact ⟨(x104, x102.2.L, x102.2.At), hr, (Conv.mk (tau [(1002, 31)]) ⟨⟨_, rfl, .inl rfl⟩, ⟨_, rfl, .inl rfl⟩, ⟨_, rfl, .inl rfl⟩, trivial⟩ ⟨rfl, rfl, trivial⟩ rfl rfl rfl rfl)⟩
  have hr := selF h101 hr
  refine Ok.skip ?_
  exact ⟨(s3.1, x100.2.L, x100.2.At), hr, (Conv.mk (tau [(1002, 1001)]) ⟨⟨_, rfl, .inl rfl⟩, ⟨_, rfl, .inl rfl⟩, ⟨_, rfl, .inl rfl⟩, trivial⟩ ⟨rfl, rfl, trivial⟩ rfl rfl rfl rfl)⟩
  clear hk4
  refine Ok.seq (Ok.region (OkOps.y (.c (.loc 0 0)) ?_))
  obtain ⟨x105, hx105, hr⟩ := bind_some hr
  refine OkOps.m 0 (triCl (tau [(0, 0)]) (.s (aI x105.1)) [(0, .blk [.d (.sl (List.map (eInt .i64) x105.2.L)), cI x105.2.At] 82)] (b_Src_N_c _ _ hx105) rfl ⟨.inl rfl, .inl rfl, trivial⟩ trivial entry18 ⟨rfl, trivial⟩) (OkOps.y (aB (x105.1 == 0)) (OkOps.nil ?_))
  refine Ok.cond (b := x105.1 == 0) rfl (fun h106 => ?_) (fun h106 => ?_)
  have hr := selT h106 hr
  refine Ok.region (OkOps.y (.c (.tl 1000 (List.map Attr.cs s1.1))) (OkOps.y (.c (.loc 0 0)) ?_))
  obtain ⟨x107, hx107, hr⟩ := bind_some hr
  refine OkOps.m 0 (triCl (tau [(0, 0)]) (.s (aI x107.1)) [(0, .blk [.d (.sl (List.map (eInt .i64) x107.2.L)), cI x107.2.At] 82)] (b_Src_N_c _ _ hx107) rfl ⟨.inl rfl, .inl rfl, trivial⟩ trivial entry18 ⟨rfl, trivial⟩) (OkOps.y (aI (IntKind.i64.wrap (97 + x107.1))) (OkOps.y (.c (.d (.v (.int .u8 (IntKind.u8.wrap (IntKind.i64.wrap (97 + x107.1))))))) (OkOps.m 0 (triBST (sz := 1) (enc := (eInt .u8)) (j := 32) ([IntKind.u8.wrap (IntKind.i64.wrap (97 + x107.1))]) rfl rfl rfl rfl rfl rfl rfl rfl (fun _ => rfl) trivial rfl rfl) (OkOps.q (triOfBytes (L := [IntKind.u8.wrap (IntKind.i64.wrap (97 + x107.1))]) rfl rfl trivial rfl) ?_))))
  obtain ⟨x108, hx108, hr⟩ := bind_some hr
  refine OkOps.q (triCat hx108 rfl rfl trivial rfl) ?_
  obtain ⟨x109, hx109, hr⟩ := bind_some hr
  refine OkOps.q (triCl (tau []) (.s (.agg [cI x109.Kind, cI x109.N, cS x109.S, .d (.sl (List.map AValue.cs x109.L))])) [] (b_text_c _ hx109) rfl ⟨.inl rfl, trivial⟩ trivial entry98 trivial) (OkOps.y (.agg [cS (ByteArray.mk #[97, 108, 105, 103, 110, 108, 101, 102, 116]), cI x109.Kind, cI x109.N, cS x109.S, .d (.sl (List.map AValue.cs x109.L))]) (OkOps.m 0 (triBST (sz := 5) (enc := Attr.cs) (j := 33) ([(Attr.mk (ByteArray.mk #[97, 108, 105, 103, 110, 108, 101, 102, 116]) x109)]) rfl rfl rfl rfl rfl rfl rfl rfl (fun _ => rfl) trivial rfl rfl) ?_))
  obtain ⟨x110, hx110, hr⟩ := bind_some hr
  refine OkOps.m2 0 (triApp (enc := Attr.cs) (L := s1.1) (X := [(Attr.mk (ByteArray.mk #[97, 108, 105, 103, 110, 108, 101, 102, 116]) x109)]) (j := 1000) (j' := 34) hx110 rfl rfl rfl rfl rfl rfl (fun _ => rfl) (fun _ => rfl) (by decide) trivial rfl rfl) (OkOps.y (.c (.tl 34 (List.map Attr.cs x110))) (OkOps.nil ?_))
  exact ⟨(x110, x107.2.L, x107.2.At), hr, (Conv.mk (tau [(1001, 34)]) ⟨⟨_, rfl, .inl rfl⟩, ⟨_, rfl, .inl rfl⟩, ⟨_, rfl, .inl rfl⟩, trivial⟩ ⟨rfl, rfl, trivial⟩ rfl rfl rfl rfl)⟩
  have hr := selF h106 hr
  refine Ok.skip ?_
  exact ⟨(s1.1, x105.2.L, x105.2.At), hr, (Conv.mk (tau [(1001, 1000)]) ⟨⟨_, rfl, .inl rfl⟩, ⟨_, rfl, .inl rfl⟩, ⟨_, rfl, .inl rfl⟩, trivial⟩ ⟨rfl, rfl, trivial⟩ rfl rfl rfl rfl)⟩
  clear hk2
  refine Ok.seq (Ok.region (OkOps.y (.c (.loc 0 0)) ?_))
  obtain ⟨x111, hx111, hr⟩ := bind_some hr
  refine OkOps.m 0 (triCl (tau [(0, 0)]) (.s (aI x111.1)) [(0, .blk [.d (.sl (List.map (eInt .i64) x111.2.L)), cI x111.2.At] 82)] (b_Src_N_c _ _ hx111) rfl ⟨.inl rfl, .inl rfl, trivial⟩ trivial entry18 ⟨rfl, trivial⟩) (OkOps.y (aB (x111.1 == 0)) (OkOps.nil ?_))
  refine Ok.cond (b := x111.1 == 0) rfl (fun h112 => ?_) (fun h112 => ?_)
  have hr := selT h112 hr
  refine Ok.region (OkOps.y (.c (.d (.v (.slice none 0 0)))) (OkOps.y (.c (.loc 0 0)) ?_))
  obtain ⟨x113, hx113, hr⟩ := bind_some hr
  refine OkOps.m 0 (triCl (tau [(0, 0)]) (.s (aI x113.1)) [(0, .blk [.d (.sl (List.map (eInt .i64) x113.2.L)), cI x113.2.At] 82)] (b_Src_N_c _ _ hx113) rfl ⟨.inl rfl, .inl rfl, trivial⟩ trivial entry18 ⟨rfl, trivial⟩) (OkOps.y (aI (IntKind.i64.wrap (97 + x113.1))) (OkOps.y (.c (.d (.v (.int .u8 (IntKind.u8.wrap (IntKind.i64.wrap (97 + x113.1))))))) (OkOps.m 0 (triBST (sz := 1) (enc := (eInt .u8)) (j := 35) ([IntKind.u8.wrap (IntKind.i64.wrap (97 + x113.1))]) rfl rfl rfl rfl rfl rfl rfl rfl (fun _ => rfl) trivial rfl rfl) (OkOps.q (triOfBytes (L := [IntKind.u8.wrap (IntKind.i64.wrap (97 + x113.1))]) rfl rfl trivial rfl) ?_))))
  obtain ⟨x114, hx114, hr⟩ := bind_some hr
  refine OkOps.q (triCat hx114 rfl rfl trivial rfl) ?_
  obtain ⟨x115, hx115, hr⟩ := bind_some hr
  refine OkOps.q (triCl (tau []) (.s (.agg [cI x115.Kind, cI x115.N, cS x115.S, .d (.sl (List.map AValue.cs x115.L))])) [] (b_text_c _ hx115) rfl ⟨.inl rfl, trivial⟩ trivial entry98 trivial) (OkOps.y (.agg [cS (ByteArray.mk #[97, 98, 111, 118, 101]), cI x115.Kind, cI x115.N, cS x115.S, .d (.sl (List.map AValue.cs x115.L))]) (OkOps.m 0 (triBST (sz := 5) (enc := Attr.cs) (j := 36) ([(Attr.mk (ByteArray.mk #[97, 98, 111, 118, 101]) x115)]) rfl rfl rfl rfl rfl rfl rfl rfl (fun _ => rfl) trivial rfl rfl) ?_))
  obtain ⟨x116, hx116, hr⟩ := bind_some hr
  refine OkOps.m 0 (triApp0 (sz := 5) (enc := Attr.cs) (X := [(Attr.mk (ByteArray.mk #[97, 98, 111, 118, 101]) x115)]) (j' := 37) hx116 rfl rfl rfl rfl rfl (fun _ => rfl) (fun _ => rfl) (by decide) trivial rfl rfl) (OkOps.y (.c (.tl 37 (List.map Attr.cs x116))) (OkOps.nil ?_))
  exact ⟨(x116, x113.2.L, x113.2.At), hr, (Conv.mk (tau [(1000, 37)]) ⟨⟨_, rfl, .inl rfl⟩, ⟨_, rfl, .inl rfl⟩, ⟨_, rfl, .inl rfl⟩, trivial⟩ ⟨rfl, rfl, trivial⟩ rfl rfl rfl rfl)⟩
  have hr := selF h112 hr
  refine Ok.skip ?_
  exact ⟨(([] : (List Attr)), x111.2.L, x111.2.At), hr, (Conv.trans (Conv.nil 5 1035 5 0 rfl rfl) (Conv.mk (tau [(1000, 1035)]) ⟨⟨_, rfl, .inl rfl⟩, ⟨_, rfl, .inl rfl⟩, ⟨_, rfl, .inl rfl⟩, trivial⟩ ⟨rfl, rfl, trivial⟩ rfl rfl rfl rfl))⟩
theorem entry76 : Entry Tryd.prog 76 := ⟨_, Tryd.func76, by kernel_rfl, by kernel_rfl⟩
theorem entry51 : Entry Tryd.prog 51 := ⟨_, Tryd.func51, by kernel_rfl, by kernel_rfl⟩
theorem b_Src_view_B_c (self0 : widgetrybase_Src → Int → Option (View × widgetrybase_Src)) (hself0 : ∀ (p_s : widgetrybase_Src) (depth : Int) {r : View × widgetrybase_Src}, self0 p_s depth = some r → Con Tryd.prog 51 [.c (.loc 0 0), aI depth] [(0, .blk [.d (.sl (List.map (eInt .i64) p_s.L)), cI p_s.At] 82)] (.s (.agg [cI r.1.Kind, cS r.1.Key, .d (.sl (List.map Attr.cs r.1.Attrs)), .d (.sl (List.map Action.cs r.1.Actions)), .d (.sl (List.map View.cs r.1.Kids))])) [(0, .blk [.d (.sl (List.map (eInt .i64) r.2.L)), cI r.2.At] 82)]) (p_s : widgetrybase_Src) (depth : Int) {r : View × widgetrybase_Src} (hr : b_Src_view_B self0 p_s depth = some r) : Con Tryd.prog 51 [.c (.loc 0 0), aI depth] [(0, .blk [.d (.sl (List.map (eInt .i64) p_s.L)), cI p_s.At] 82)] (.s (.agg [cI r.1.Kind, cS r.1.Key, .d (.sl (List.map Attr.cs r.1.Attrs)), .d (.sl (List.map Action.cs r.1.Actions)), .d (.sl (List.map View.cs r.1.Kids))])) [(0, .blk [.d (.sl (List.map (eInt .i64) r.2.L)), cI r.2.At] 82)] := by
  unfold b_Src_view_B at hr
  refine Con.of_ok 102 0 [.cell 4 31] [(0, .s (.c (.loc 0 0))), (1, .s (aI depth))] Tryd.func51 rfl rfl rfl rfl rfl rfl rfl rfl fun w g M ρ _ => (Ok.seq (Ok.region (OkOps.m 0 (triAlloc (j := 1) (cs := [cI 0, cS ByteArray.empty, .d (.v (.slice none 0 0)), .d (.v (.slice none 0 0)), .d (.v (.slice none 0 0))]) rfl rfl rfl rfl) (OkOps.nil (Ok.seq (Ok.region (OkOps.m 0 (triBST (sz := 1) (enc := (eInt .i64)) (j := 2) ([1, 1, 2, 3, 4, 5, 6, 7, 8, 9, 10, 11, 12, 13]) rfl rfl rfl rfl rfl rfl rfl rfl (fun _ => rfl) trivial rfl rfl) (OkOps.y (.c (.tl 2 (List.map (eInt .i64) ([1, 1, 2, 3, 4, 5, 6, 7, 8, 9, 10, 11, 12, 13])))) (OkOps.nil (Ok.seq (Ok.region (OkOps.y (.c (.tl 2 (List.map (eInt .i64) ([1, 1, 2, 3, 4, 5, 6, 7, 8, 9, 10, 11, 12, 13])))) (OkOps.y (.c (.loc 0 0)) (OkOps.y (.c (.tl 2 (List.map (eInt .i64) ([1, 1, 2, 3, 4, 5, 6, 7, 8, 9, 10, 11, 12, 13])))) (OkOps.q (triLen (enc := (eInt .i64)) ([1, 1, 2, 3, 4, 5, 6, 7, 8, 9, 10, 11, 12, 13]) rfl rfl trivial rfl) ?_)))))))))))))))
  obtain ⟨x1, hx1, hr⟩ := bind_some hr
  refine OkOps.m 0 (triCl (tau [(0, 0)]) (.s (aI x1.1)) [(0, .blk [.d (.sl (List.map (eInt .i64) x1.2.L)), cI x1.2.At] 82)] (b_Src_N_c _ _ hx1) rfl ⟨.inl rfl, .inl rfl, trivial⟩ trivial entry18 ⟨rfl, trivial⟩) ?_
  obtain ⟨x2, hx2, hr⟩ := bind_some hr
  refine OkOps.q (triIdx (enc := (eInt .i64)) (L := [1, 1, 2, 3, 4, 5, 6, 7, 8, 9, 10, 11, 12, 13]) (row := [dI x2]) hx2 rfl rfl rfl rfl (fun _ => rfl) trivial rfl) (OkOps.y (aI x2) (OkOps.y (.agg [cI x2, cS ByteArray.empty, .d (.v (.slice none 0 0)), .d (.v (.slice none 0 0)), .d (.v (.slice none 0 0))]) (OkOps.m 0 (triAlloc (j := 3) (cs := [cI 0, cS ByteArray.empty, .d (.v (.slice none 0 0)), .d (.v (.slice none 0 0)), .d (.v (.slice none 0 0))]) rfl rfl rfl rfl) (OkOps.w (triStore (cs' := [cI x2, cS ByteArray.empty, .d (.v (.slice none 0 0)), .d (.v (.slice none 0 0)), .d (.v (.slice none 0 0))]) rfl rfl rfl rfl rfl rfl rfl rfl rfl) (OkOps.nil ?_)))))
  obtain ⟨k4, hk4, hr⟩ := jn_some hr
  refine Ok.join (fun (s3 : Int) => ⟨[(0, .s (.c (.loc 0 0))), (1, .s (aI depth)), (4, .s (.c (.loc 1 0))), (6, .s (.c (.loc 3 0)))], [(0, .blk [.d (.sl (List.map (eInt .i64) x1.2.L)), cI x1.2.At] 82), (1, .blk [cI 0, cS ByteArray.empty, .d (.v (.slice none 0 0)), .d (.v (.slice none 0 0)), .d (.v (.slice none 0 0))] 31), (3, .blk [cI s3, cS ByteArray.empty, .d (.v (.slice none 0 0)), .d (.v (.slice none 0 0)), .d (.v (.slice none 0 0))] 31)], 0⟩) k4 r (fun s3 hr => ?_) ?_
  rw [hk4] at hr
  refine Ok.seq (Ok.region (OkOps.y (.c (.loc 0 0)) (OkOps.y (.c (.loc 3 0)) (OkOps.y (aI s3) ?_))))
  obtain ⟨x5, hx5, hr⟩ := bind_some hr
  refine OkOps.m 0 (triCl (tau [(0, 0)]) (.s (.c (.d (.sl (List.map Attr.cs x5.1))))) [(0, .blk [.d (.sl (List.map (eInt .i64) x5.2.L)), cI x5.2.At] 82)] (b_Src_attrs_c _ _ hx5) rfl ⟨.inl rfl, .inl rfl, trivial⟩ trivial entry76 ⟨rfl, trivial⟩) (OkOps.y (.c (.loc 3 2)) (OkOps.w (triStore (cs' := [cI s3, cS ByteArray.empty, .d (.sl (List.map Attr.cs x5.1)), .d (.v (.slice none 0 0)), .d (.v (.slice none 0 0))]) rfl rfl rfl rfl rfl rfl rfl rfl rfl) (OkOps.nil ?_)))
  obtain ⟨k7, hk7, hr⟩ := jn_some hr
  refine Ok.join (fun (s6 : (List Int) × Int × (List Action)) => ⟨[(0, .s (.c (.loc 0 0))), (1, .s (aI depth)), (4, .s (.c (.loc 1 0))), (6, .s (.c (.loc 3 0)))], [(0, .blk [.d (.sl (List.map (eInt .i64) s6.1)), cI s6.2.1] 82), (1, .blk [cI 0, cS ByteArray.empty, .d (.v (.slice none 0 0)), .d (.v (.slice none 0 0)), .d (.v (.slice none 0 0))] 31), (3, .blk [cI s3, cS ByteArray.empty, .d (.sl (List.map Attr.cs x5.1)), .tl 1000 (List.map Action.cs s6.2.2), .d (.v (.slice none 0 0))] 31), (1000, .tail 4)], 0⟩) k7 r (fun s6 hr => ?_) ?_
  rw [hk7] at hr
  refine Ok.seq (Ok.seq (Ok.region (OkOps.y (aI depth) (OkOps.y (aB (decide (depth ≤ 0))) (OkOps.nil ?_)))))
  refine Ok.cond (b := decide (depth ≤ 0)) rfl (fun h8 => ?_) (fun h8 => ?_)
  have hr := selT h8 hr
  refine Ok.seq (Ok.region (OkOps.y (.agg [cI s3, cS ByteArray.empty, .d (.sl (List.map Attr.cs x5.1)), .tl 1000 (List.map Action.cs s6.2.2), .d (.v (.slice none 0 0))]) (OkOps.w (triStore (cs' := [cI s3, cS ByteArray.empty, .d (.sl (List.map Attr.cs x5.1)), .tl 1000 (List.map Action.cs s6.2.2), .d (.v (.slice none 0 0))]) rfl rfl rfl rfl rfl rfl rfl rfl rfl) (OkOps.nil (Ok.ret ?_)))))
  obtain rfl := Option.some.inj hr
  exact ⟨_, rfl, .inr rfl, ⟨rfl, trivial⟩⟩
  have hr := selF h8 hr
  refine Ok.skip (Ok.seq (Ok.region (OkOps.y (.c (.loc 0 0)) ?_)))
  obtain ⟨x9, hx9, hr⟩ := bind_some hr
  refine OkOps.m 0 (triCl (tau [(0, 0)]) (.s (aI x9.1)) [(0, .blk [.d (.sl (List.map (eInt .i64) x9.2.L)), cI x9.2.At] 82)] (b_Src_N_c _ _ hx9) rfl ⟨.inl rfl, .inl rfl, trivial⟩ trivial entry18 ⟨rfl, trivial⟩) (OkOps.y (aI x9.1) (OkOps.nil (Ok.seq (Ok.region (OkOps.y (.c (.loc 0 0)) ?_)))))
  obtain ⟨x10, hx10, hr⟩ := bind_some hr
  refine OkOps.m 0 (triCl (tau [(0, 0)]) (.s (aI x10.1)) [(0, .blk [.d (.sl (List.map (eInt .i64) x10.2.L)), cI x10.2.At] 82)] (b_Src_N_c _ _ hx10) rfl ⟨.inl rfl, .inl rfl, trivial⟩ trivial entry18 ⟨rfl, trivial⟩) (OkOps.y (aB (x10.1 == 0)) (OkOps.y (aB (x10.1 == 0)) (OkOps.nil ?_)))
  obtain ⟨k12, hk12, hr⟩ := jn_some hr
  refine Ok.join (fun (s11 : (List Int) × Int × (List View)) => ⟨[(4, .s (.c (.loc 1 0))), (6, .s (.c (.loc 3 0)))], [(0, .blk [.d (.sl (List.map (eInt .i64) s11.1)), cI s11.2.1] 82), (1, .blk [cI 0, cS ByteArray.empty, .d (.v (.slice none 0 0)), .d (.v (.slice none 0 0)), .d (.v (.slice none 0 0))] 31), (3, .blk [cI s3, cS ByteArray.empty, .d (.sl (List.map Attr.cs x5.1)), .tl 1000 (List.map Action.cs s6.2.2), .tl 1011 (List.map View.cs s11.2.2)] 31), (1000, .tail 4), (1011, .tail 5)], 0⟩) k12 r (fun s11 hr => ?_) ?_
  rw [hk12] at hr
  refine Ok.seq (Ok.region (OkOps.y (.agg [cI s3, cS ByteArray.empty, .d (.sl (List.map Attr.cs x5.1)), .tl 1000 (List.map Action.cs s6.2.2), .tl 1011 (List.map View.cs s11.2.2)]) (OkOps.w (triStore (cs' := [cI s3, cS ByteArray.empty, .d (.sl (List.map Attr.cs x5.1)), .tl 1000 (List.map Action.cs s6.2.2), .tl 1011 (List.map View.cs s11.2.2)]) rfl rfl rfl rfl rfl rfl rfl rfl rfl) (OkOps.nil (Ok.ret ?_)))))
  obtain rfl := Option.some.inj hr
  exact ⟨_, rfl, .inr rfl, ⟨rfl, trivial⟩⟩
  clear hk12
  refine Ok.seq (Ok.region (OkOps.y (aI 0) (OkOps.nil (Ok.block (Ok.loopK (fun (s13 : Int × (List Int) × Int × (List View)) => ⟨[(0, .s (.c (.loc 0 0))), (1, .s (aI depth)), (4, .s (.c (.loc 1 0))), (6, .s (.c (.loc 3 0))), (7, .s (aI x9.1)), (8, .s (aB (x10.1 == 0))), (9, .s (aI s13.1))], [(0, .blk [.d (.sl (List.map (eInt .i64) s13.2.1)), cI s13.2.2.1] 82), (1, .blk [cI 0, cS ByteArray.empty, .d (.v (.slice none 0 0)), .d (.v (.slice none 0 0)), .d (.v (.slice none 0 0))] 31), (3, .blk [cI s3, cS ByteArray.empty, .d (.sl (List.map Attr.cs x5.1)), .tl 1000 (List.map Action.cs s6.2.2), .tl 1016 (List.map View.cs s13.2.2.2)] 31), (1000, .tail 4), (1016, .tail 5)], 0⟩) hr (Conv.trans (Conv.nilO 3 4 1021 5 [cI s3, cS ByteArray.empty, .d (.sl (List.map Attr.cs x5.1)), .tl 1000 (List.map Action.cs s6.2.2), .d (.v (.slice none 0 0))] [cI s3, cS ByteArray.empty, .d (.sl (List.map Attr.cs x5.1)), .tl 1000 (List.map Action.cs s6.2.2), .tl 1021 (List.map View.cs ([] : (List View)))] 31 0 rfl rfl rfl rfl) (Conv.mk (tau [(1016, 1021)]) ⟨⟨_, rfl, .inl rfl⟩, ⟨_, rfl, .inl rfl⟩, ⟨_, rfl, .inl rfl⟩, ⟨_, rfl, .inl rfl⟩, ⟨_, rfl, .inl rfl⟩, ⟨_, rfl, .inl rfl⟩, ⟨_, rfl, .inl rfl⟩, trivial⟩ ⟨rfl, rfl, rfl, rfl, rfl, trivial⟩ rfl rfl rfl rfl)) ?_)))))
  clear hr
  intro again14 s13 hr
  unfold b_Src_view_L2 at hr
  refine Ok.seq (Ok.seq (Ok.region (OkOps.y (aI s13.1) (OkOps.y (aI x9.1) (OkOps.y (aB (decide (s13.1 < x9.1))) (OkOps.nil ?_))))))
  refine Ok.cond (b := decide (s13.1 < x9.1)) rfl (fun h15 => ?_) (fun h15 => ?_)
  have hr := selT h15 hr
  refine Ok.skip ?_
  obtain ⟨k17, hk17, hr⟩ := jn_some hr
  refine Ok.join (fun (s16 : (List Int) × Int × (List View)) => ⟨[(0, .s (.c (.loc 0 0))), (1, .s (aI depth)), (4, .s (.c (.loc 1 0))), (6, .s (.c (.loc 3 0))), (7, .s (aI x9.1)), (8, .s (aB (x10.1 == 0))), (9, .s (aI s13.1))], [(0, .blk [.d (.sl (List.map (eInt .i64) s16.1)), cI s16.2.1] 82), (1, .blk [cI 0, cS ByteArray.empty, .d (.v (.slice none 0 0)), .d (.v (.slice none 0 0)), .d (.v (.slice none 0 0))] 31), (3, .blk [cI s3, cS ByteArray.empty, .d (.sl (List.map Attr.cs x5.1)), .tl 1000 (List.map Action.cs s6.2.2), .tl 1022 (List.map View.cs s16.2.2)] 31), (1000, .tail 4), (1022, .tail 5)], 0⟩) k17 r (fun s16 hr => ?_) ?_
  rw [hk17] at hr
  refine Ok.region (OkOps.y (aI s13.1) (OkOps.y (aI (IntKind.i64.wrap (s13.1 + 1))) (OkOps.y (aI (IntKind.i64.wrap (s13.1 + 1))) (OkOps.nil ?_))))
  exact ⟨(IntKind.i64.wrap (s13.1 + 1), s16.1, s16.2.1, s16.2.2), hr, (Conv.mk (tau [(1016, 1022)]) ⟨⟨_, rfl, .inl rfl⟩, ⟨_, rfl, .inl rfl⟩, ⟨_, rfl, .inl rfl⟩, ⟨_, rfl, .inl rfl⟩, ⟨_, rfl, .inl rfl⟩, ⟨_, rfl, .inl rfl⟩, ⟨_, rfl, .inl rfl⟩, trivial⟩ ⟨rfl, rfl, rfl, rfl, rfl, trivial⟩ rfl rfl rfl rfl)⟩
  clear hk17
  refine Ok.block (Ok.seq (Ok.region (OkOps.y (.c (.loc 0 0)) (OkOps.y (aI depth) (OkOps.y (aI (IntKind.i64.wrap (depth - 1))) ?_)))))
  obtain ⟨x18, hx18, hr⟩ := bind_some hr
  refine OkOps.m 0 (triCl (tau [(0, 0)]) (.s (.agg [cI x18.1.Kind, cS x18.1.Key, .d (.sl (List.map Attr.cs x18.1.Attrs)), .d (.sl (List.map Action.cs x18.1.Actions)), .d (.sl (List.map View.cs x18.1.Kids))])) [(0, .blk [.d (.sl (List.map (eInt .i64) x18.2.L)), cI x18.2.At] 82)] (hself0 _ _ hx18) rfl ⟨.inl rfl, .inl rfl, trivial⟩ trivial entry51 ⟨rfl, trivial⟩) (OkOps.m 0 (triAlloc (j := 4) (cs := [cI 0, cS ByteArray.empty, .d (.v (.slice none 0 0)), .d (.v (.slice none 0 0)), .d (.v (.slice none 0 0))]) rfl rfl rfl rfl) (OkOps.w (triStore (cs' := [cI x18.1.Kind, cS x18.1.Key, .d (.sl (List.map Attr.cs x18.1.Attrs)), .d (.sl (List.map Action.cs x18.1.Actions)), .d (.sl (List.map View.cs x18.1.Kids))]) rfl rfl rfl rfl rfl rfl rfl rfl rfl) (OkOps.nil ?_)))
  obtain ⟨k20, hk20, hr⟩ := jn_some hr
  refine Ok.join (fun (s19 : (List Int) × Int × Str) => ⟨[(0, .s (.c (.loc 0 0))), (1, .s (aI depth)), (4, .s (.c (.loc 1 0))), (6, .s (.c (.loc 3 0))), (7, .s (aI x9.1)), (8, .s (aB (x10.1 == 0))), (9, .s (aI s13.1)), (10, .s (.c (.loc 4 0)))], [(0, .blk [.d (.sl (List.map (eInt .i64) s19.1)), cI s19.2.1] 82), (1, .blk [cI 0, cS ByteArray.empty, .d (.v (.slice none 0 0)), .d (.v (.slice none 0 0)), .d (.v (.slice none 0 0))] 31), (3, .blk [cI s3, cS ByteArray.empty, .d (.sl (List.map Attr.cs x5.1)), .tl 1000 (List.map Action.cs s6.2.2), .tl 1016 (List.map View.cs s13.2.2.2)] 31), (4, .blk [cI x18.1.Kind, cS s19.2.2, .d (.sl (List.map Attr.cs x18.1.Attrs)), .d (.sl (List.map Action.cs x18.1.Actions)), .d (.sl (List.map View.cs x18.1.Kids))] 31), (1000, .tail 4), (1016, .tail 5)], 0⟩) k20 r (fun s19 hr => ?_) ?_
  rw [hk20] at hr
  refine Ok.seq (Ok.region (OkOps.y (aB false) (OkOps.nil ?_)))
  obtain ⟨k22, hk22, hr⟩ := jn_some hr
  refine Ok.join (fun (s21 : Bool) => ⟨[(0, .s (.c (.loc 0 0))), (1, .s (aI depth)), (4, .s (.c (.loc 1 0))), (6, .s (.c (.loc 3 0))), (7, .s (aI x9.1)), (8, .s (aB (x10.1 == 0))), (9, .s (aI s13.1)), (10, .s (.c (.loc 4 0))), (11, .s (aB s21))], [(0, .blk [.d (.sl (List.map (eInt .i64) s19.1)), cI s19.2.1] 82), (1, .blk [cI 0, cS ByteArray.empty, .d (.v (.slice none 0 0)), .d (.v (.slice none 0 0)), .d (.v (.slice none 0 0))] 31), (3, .blk [cI s3, cS ByteArray.empty, .d (.sl (List.map Attr.cs x5.1)), .tl 1000 (List.map Action.cs s6.2.2), .tl 1016 (List.map View.cs s13.2.2.2)] 31), (4, .blk [cI x18.1.Kind, cS s19.2.2, .d (.sl (List.map Attr.cs x18.1.Attrs)), .d (.sl (List.map Action.cs x18.1.Actions)), .d (.sl (List.map View.cs x18.1.Kids))] 31), (1000, .tail 4), (1016, .tail 5)], 0⟩) k22 r (fun s21 hr => ?_) ?_
  rw [hk22] at hr
  refine Ok.seq (Ok.region (OkOps.y (aB s21) (OkOps.y (aB (!s21)) (OkOps.nil ?_))))
  refine Ok.cond (b := !s21) rfl (fun h23 => ?_) (fun h23 => ?_)
  have hr := selT h23 hr
  refine Ok.region (OkOps.y (.c (.loc 3 4)) (OkOps.y (.c (.tl 1016 (List.map View.cs s13.2.2.2))) (OkOps.y (.agg [cI x18.1.Kind, cS s19.2.2, .d (.sl (List.map Attr.cs x18.1.Attrs)), .d (.sl (List.map Action.cs x18.1.Actions)), .d (.sl (List.map View.cs x18.1.Kids))]) ?_)))
  refine OkOps.m 0 (triBST (sz := 5) (enc := View.cs) (j := 5) ([(View.mk x18.1.Kind s19.2.2 x18.1.Attrs x18.1.Actions x18.1.Kids)]) rfl rfl rfl rfl rfl (rows := [[dI x18.1.Kind, dS s19.2.2, .sl (List.map Attr.cs x18.1.Attrs), .sl (List.map Action.cs x18.1.Actions), .sl (List.map View.cs x18.1.Kids)]]) (by simp only [List.map, View.cs_eq]) rfl rfl (fun x => by rw [View.cs_eq]; rfl) trivial rfl rfl) ?_
  obtain ⟨x24, hx24, hr⟩ := bind_some hr
  refine OkOps.m2 0 (triApp (enc := View.cs) (L := s13.2.2.2) (X := [(View.mk x18.1.Kind s19.2.2 x18.1.Attrs x18.1.Actions x18.1.Kids)]) (j := 1016) (j' := 6) hx24 rfl rfl rfl rfl rfl rfl (fun x => by rw [View.cs_eq]; rfl) (fun x => by rw [View.cs_eq]; rfl) (by decide) trivial rfl rfl) ?_
  refine OkOps.y (.c (.loc 3 4)) (OkOps.w (triStore (cs' := [cI s3, cS ByteArray.empty, .d (.sl (List.map Attr.cs x5.1)), .tl 1000 (List.map Action.cs s6.2.2), .tl 6 (List.map View.cs x24)]) rfl rfl rfl rfl rfl rfl rfl rfl rfl) (OkOps.nil ?_))
  exact ⟨(s19.1, s19.2.1, x24), hr, (Conv.mk (tau [(1022, 6)]) ⟨⟨_, rfl, .inl rfl⟩, ⟨_, rfl, .inl rfl⟩, ⟨_, rfl, .inl rfl⟩, ⟨_, rfl, .inl rfl⟩, ⟨_, rfl, .inl rfl⟩, ⟨_, rfl, .inl rfl⟩, ⟨_, rfl, .inl rfl⟩, trivial⟩ ⟨rfl, rfl, rfl, rfl, rfl, trivial⟩ rfl rfl rfl rfl)⟩
  have hr := selF h23 hr
  refine Ok.skip ?_
  exact ⟨(s19.1, s19.2.1, s13.2.2.2), hr, (Conv.mk (tau [(1022, 1016)]) ⟨⟨_, rfl, .inl rfl⟩, ⟨_, rfl, .inl rfl⟩, ⟨_, rfl, .inl rfl⟩, ⟨_, rfl, .inl rfl⟩, ⟨_, rfl, .inl rfl⟩, ⟨_, rfl, .inl rfl⟩, ⟨_, rfl, .inl rfl⟩, trivial⟩ ⟨rfl, rfl, rfl, rfl, rfl, trivial⟩ rfl rfl rfl rfl)⟩
  clear hk22
  refine Ok.seq (Ok.region (OkOps.y (aI 0) (OkOps.nil (Ok.block (Ok.loopK (fun (s25 : Bool × Int) => ⟨[(0, .s (.c (.loc 0 0))), (1, .s (aI depth)), (4, .s (.c (.loc 1 0))), (6, .s (.c (.loc 3 0))), (7, .s (aI x9.1)), (8, .s (aB (x10.1 == 0))), (9, .s (aI s13.1)), (10, .s (.c (.loc 4 0))), (11, .s (aB s25.1)), (12, .s (aI s25.2))], [(0, .blk [.d (.sl (List.map (eInt .i64) s19.1)), cI s19.2.1] 82), (1, .blk [cI 0, cS ByteArray.empty, .d (.v (.slice none 0 0)), .d (.v (.slice none 0 0)), .d (.v (.slice none 0 0))] 31), (3, .blk [cI s3, cS ByteArray.empty, .d (.sl (List.map Attr.cs x5.1)), .tl 1000 (List.map Action.cs s6.2.2), .tl 1016 (List.map View.cs s13.2.2.2)] 31), (4, .blk [cI x18.1.Kind, cS s19.2.2, .d (.sl (List.map Attr.cs x18.1.Attrs)), .d (.sl (List.map Action.cs x18.1.Actions)), .d (.sl (List.map View.cs x18.1.Kids))] 31), (1000, .tail 4), (1016, .tail 5)], 0⟩) hr (Conv.mk (tau []) ⟨⟨_, rfl, .inl rfl⟩, ⟨_, rfl, .inl rfl⟩, ⟨_, rfl, .inl rfl⟩, ⟨_, rfl, .inl rfl⟩, ⟨_, rfl, .inl rfl⟩, ⟨_, rfl, .inl rfl⟩, ⟨_, rfl, .inl rfl⟩, ⟨_, rfl, .inl rfl⟩, ⟨_, rfl, .inl rfl⟩, ⟨_, rfl, .inl rfl⟩, trivial⟩ ⟨rfl, rfl, rfl, rfl, rfl, rfl, trivial⟩ rfl rfl rfl rfl) ?_)))))
  clear hr
  intro again26 s25 hr
  unfold b_Src_view_L1 at hr
  refine Ok.seq (Ok.seq (Ok.region (OkOps.y (aI s25.2) (OkOps.y (.c (.loc 3 4)) (OkOps.y (.c (.tl 1016 (List.map View.cs s13.2.2.2))) (OkOps.q (triLen (enc := View.cs) s13.2.2.2 rfl rfl trivial rfl) (OkOps.y (aB (decide (s25.2 < (s13.2.2.2.length : Int)))) (OkOps.nil ?_))))))))
  refine Ok.cond (b := decide (s25.2 < (s13.2.2.2.length : Int))) rfl (fun h27 => ?_) (fun h27 => ?_)
  have hr := selT h27 hr
  refine Ok.skip (Ok.seq (Ok.block (Ok.regionD (by kernel_rfl) (OkD.x (aB s25.1) rfl trivial rfl (OkD.x (aB s25.1) rfl trivial rfl (OkD.q (triQG (x := .c (.loc 4 1)) rfl rfl trivial rfl) (OkD.q (triQG (x := aS s19.2.2) rfl rfl ⟨fun h => h, trivial⟩ rfl) (OkD.q (triQG (x := aB (!(s19.2.2.toList == (ByteArray.mk #[]).toList))) rfl rfl ⟨fun h => h, trivial⟩ rfl) (OkD.q (triQG (x := aB (!(s19.2.2.toList == (ByteArray.mk #[]).toList))) rfl rfl ⟨fun h => h, trivial⟩ rfl) (OkD.q (triQG (x := .c (.loc 3 4)) rfl rfl trivial rfl) (OkD.q (triQG (x := .c (.tl 1016 (List.map View.cs s13.2.2.2))) rfl rfl ⟨fun h => h, trivial⟩ rfl) (OkD.q (triQG (x := aI s25.2) rfl rfl trivial rfl) ?_))))))))))))
  obtain ⟨x28, hx28, hr⟩ := bind_some hr
  refine OkD.q (triIdxG (enc := View.cs) (L := s13.2.2.2) (row := [dI x28.Kind, dS x28.Key, .sl (List.map Attr.cs x28.Attrs), .sl (List.map Action.cs x28.Actions), .sl (List.map View.cs x28.Kids)]) (gO_t hx28) (View.cs_eq _) rfl rfl rfl rfl (fun x => by rw [View.cs_eq]; rfl) ⟨fun h => h, ⟨fun h => h, trivial⟩⟩ rfl) ?_
  refine OkD.q (triQG (x := .c (.pt [dS x28.Key, .sl (List.map Attr.cs x28.Attrs), .sl (List.map Action.cs x28.Actions), .sl (List.map View.cs x28.Kids)])) rfl rfl ⟨fun h => h, trivial⟩ rfl) (OkD.q (triQG (x := aS x28.Key) rfl rfl ⟨fun h => h, trivial⟩ rfl) (OkD.q (triQG (x := .c (.loc 4 1)) rfl rfl trivial rfl) (OkD.q (triQG (x := aS s19.2.2) rfl rfl ⟨fun h => h, trivial⟩ rfl) (OkD.q (triQG (x := aB (x28.Key.toList == s19.2.2.toList)) rfl rfl ⟨fun h => h, ⟨fun h => h, trivial⟩⟩ rfl) ?_))))
  refine OkD.q (triAndG rfl rfl rfl (fun h => h) (fun h h2 => by rw [h, h2]; rfl) rfl) ?_
  refine OkD.q (triOr rfl rfl (fun h => by rw [h]; rfl) rfl) ?_
  refine OkD.x (aB (s25.1 || ((!(s19.2.2.toList == (ByteArray.mk #[]).toList)) && (x28.Key.toList == s19.2.2.toList)))) rfl trivial rfl (OkD.nil (by kernel_rfl) (Ok.region (OkOps.y (aI s25.2) (OkOps.y (aI (IntKind.i64.wrap (s25.2 + 1))) (OkOps.y (aI (IntKind.i64.wrap (s25.2 + 1))) (OkOps.nil ?_))))))
  exact ⟨(s25.1 || ((!(s19.2.2.toList == (ByteArray.mk #[]).toList)) && (x28.Key.toList == s19.2.2.toList)), IntKind.i64.wrap (s25.2 + 1)), hr, (Conv.mk (tau []) ⟨⟨_, rfl, .inl rfl⟩, ⟨_, rfl, .inl rfl⟩, ⟨_, rfl, .inl rfl⟩, ⟨_, rfl, .inl rfl⟩, ⟨_, rfl, .inl rfl⟩, ⟨_, rfl, .inl rfl⟩, ⟨_, rfl, .inl rfl⟩, ⟨_, rfl, .inl rfl⟩, ⟨_, rfl, .inl rfl⟩, ⟨_, rfl, .inl rfl⟩, trivial⟩ ⟨rfl, rfl, rfl, rfl, rfl, rfl, trivial⟩ rfl rfl rfl rfl)⟩
  have hr := selF h27 hr
  refine Ok.exit ?_
  exact ⟨s25.1, hr, (Conv.mk (tau []) ⟨⟨_, rfl, .inl rfl⟩, ⟨_, rfl, .inl rfl⟩, ⟨_, rfl, .inl rfl⟩, ⟨_, rfl, .inl rfl⟩, ⟨_, rfl, .inl rfl⟩, ⟨_, rfl, .inl rfl⟩, ⟨_, rfl, .inl rfl⟩, ⟨_, rfl, .inl rfl⟩, ⟨_, rfl, .inl rfl⟩, trivial⟩ ⟨rfl, rfl, rfl, rfl, rfl, rfl, trivial⟩ rfl rfl rfl rfl)⟩
  clear hk20
  refine Ok.seq (Ok.region (OkOps.y (aB (x10.1 == 0)) (OkOps.y (aB (x10.1 == 0)) (OkOps.q (triQG (x := .c (.loc 0 0)) rfl rfl trivial rfl) ?_))))
  obtain ⟨x29, hx29, hr⟩ := bind_some hr
  refine OkOps.m 0 (triCallGW (tau [(0, 0)]) (aI x29.1) [(0, .blk [.d (.sl (List.map (eInt .i64) x29.2.L)), cI x29.2.At] 82)] (fun hg => b_Src_N_c _ _ (selT hg hx29)) (fun hg => by cases selF hg hx29; rfl) rfl rfl ⟨.inl rfl, .inl rfl, trivial⟩ ⟨fun h => h, trivial⟩ entry18 ⟨rfl, trivial⟩ rfl rfl rfl rfl rfl rfl rfl rfl) ?_
  refine OkOps.q (triQG (x := aB (x29.1 == 0)) rfl rfl ⟨fun h => h, trivial⟩ rfl) ?_
  refine OkOps.q (triOr rfl rfl (fun h => by rw [h]; rfl) rfl) ?_
  refine OkOps.nil ?_
  refine Ok.cond (b := (x10.1 == 0) || (x29.1 == 0)) rfl (fun h30 => ?_) (fun h30 => ?_)
  have hr := selT h30 hr
  refine Ok.region (OkOps.y (.c (.loc 0 0)) ?_)
  obtain ⟨x31, hx31, hr⟩ := bind_some hr
  refine OkOps.m 0 (triCl (tau [(0, 0)]) (.s (aI x31.1)) [(0, .blk [.d (.sl (List.map (eInt .i64) x31.2.L)), cI x31.2.At] 82)] (b_Src_N_c _ _ hx31) rfl ⟨.inl rfl, .inl rfl, trivial⟩ trivial entry18 ⟨rfl, trivial⟩) (OkOps.y (aI (IntKind.i64.wrap (97 + x31.1))) (OkOps.y (.c (.d (.v (.int .u8 (IntKind.u8.wrap (IntKind.i64.wrap (97 + x31.1))))))) (OkOps.m 0 (triBST (sz := 1) (enc := (eInt .u8)) (j := 7) ([107, IntKind.u8.wrap (IntKind.i64.wrap (97 + x31.1))]) rfl rfl rfl rfl rfl rfl rfl rfl (fun _ => rfl) trivial rfl rfl) (OkOps.q (triOfBytes (L := [107, IntKind.u8.wrap (IntKind.i64.wrap (97 + x31.1))]) rfl rfl trivial rfl) (OkOps.y (.c (.loc 4 1)) (OkOps.w (triStore (cs' := [cI x18.1.Kind, cS (ofBytes ([107, IntKind.u8.wrap (IntKind.i64.wrap (97 + x31.1))])), .d (.sl (List.map Attr.cs x18.1.Attrs)), .d (.sl (List.map Action.cs x18.1.Actions)), .d (.sl (List.map View.cs x18.1.Kids))]) rfl rfl rfl rfl rfl rfl rfl rfl rfl) (OkOps.nil ?_)))))))
  exact ⟨(x31.2.L, x31.2.At, ofBytes ([107, IntKind.u8.wrap (IntKind.i64.wrap (97 + x31.1))])), hr, (Conv.mk (tau []) ⟨⟨_, rfl, .inl rfl⟩, ⟨_, rfl, .inl rfl⟩, ⟨_, rfl, .inl rfl⟩, ⟨_, rfl, .inl rfl⟩, ⟨_, rfl, .inl rfl⟩, ⟨_, rfl, .inl rfl⟩, ⟨_, rfl, .inl rfl⟩, ⟨_, rfl, .inl rfl⟩, trivial⟩ ⟨rfl, rfl, rfl, rfl, rfl, rfl, trivial⟩ rfl rfl rfl rfl)⟩
  have hr := selF h30 hr
  refine Ok.skip ?_
  exact ⟨(x29.2.L, x29.2.At, x18.1.Key), hr, (Conv.mk (tau []) ⟨⟨_, rfl, .inl rfl⟩, ⟨_, rfl, .inl rfl⟩, ⟨_, rfl, .inl rfl⟩, ⟨_, rfl, .inl rfl⟩, ⟨_, rfl, .inl rfl⟩, ⟨_, rfl, .inl rfl⟩, ⟨_, rfl, .inl rfl⟩, ⟨_, rfl, .inl rfl⟩, trivial⟩ ⟨rfl, rfl, rfl, rfl, rfl, rfl, trivial⟩ rfl rfl rfl rfl)⟩
  have hr := selF h15 hr
  refine Ok.exit ?_
  exact ⟨(s13.2.1, s13.2.2.1, s13.2.2.2), hr, (Conv.mk (tau [(1011, 1016)]) ⟨⟨_, rfl, .inl rfl⟩, ⟨_, rfl, .inl rfl⟩, trivial⟩ ⟨rfl, rfl, rfl, rfl, rfl, trivial⟩ rfl rfl rfl rfl)⟩
  clear hk7
  refine Ok.seq (Ok.region (OkOps.y (.c (.loc 0 0)) ?_))
  obtain ⟨x32, hx32, hr⟩ := bind_some hr
  refine OkOps.m 0 (triCl (tau [(0, 0)]) (.s (aI x32.1)) [(0, .blk [.d (.sl (List.map (eInt .i64) x32.2.L)), cI x32.2.At] 82)] (b_Src_N_c _ _ hx32) rfl ⟨.inl rfl, .inl rfl, trivial⟩ trivial entry18 ⟨rfl, trivial⟩) (OkOps.y (aB (x32.1 == 0)) (OkOps.nil ?_))
  refine Ok.cond (b := x32.1 == 0) rfl (fun h33 => ?_) (fun h33 => ?_)
  have hr := selT h33 hr
  refine Ok.region (OkOps.y (.c (.loc 0 0)) ?_)
  obtain ⟨x34, hx34, hr⟩ := bind_some hr
  refine OkOps.m 0 (triCl (tau [(0, 0)]) (.s (.agg [cI x34.1.Kind, cI x34.1.N, cS x34.1.S, .d (.sl (List.map AValue.cs x34.1.L))])) [(0, .blk [.d (.sl (List.map (eInt .i64) x34.2.L)), cI x34.2.At] 82)] (b_Src_Value_c _ _ _ hx34) rfl ⟨.inl rfl, .inl rfl, trivial⟩ trivial entry20 ⟨rfl, trivial⟩) ?_
  refine OkOps.m 0 (triBST (sz := 4) (enc := AValue.cs) (j := 8) ([x34.1]) rfl rfl rfl rfl rfl (rows := [[dI x34.1.Kind, dI x34.1.N, dS x34.1.S, .sl (List.map AValue.cs x34.1.L)]]) (by simp only [List.map, AValue.cs_eq]) rfl rfl (fun x => by rw [AValue.cs_eq]; rfl) trivial rfl rfl) ?_
  refine OkOps.y (.agg [cS (ByteArray.mk #[112, 114, 101, 115, 115]), cS (ByteArray.mk #[47]), cS (ByteArray.mk #[103, 111]), .tl 8 (List.map AValue.cs ([x34.1]))]) (OkOps.m 0 (triBST (sz := 4) (enc := Action.cs) (j := 9) ([(Action.mk (ByteArray.mk #[112, 114, 101, 115, 115]) (ByteArray.mk #[47]) (ByteArray.mk #[103, 111]) ([x34.1]))]) rfl rfl rfl rfl rfl rfl rfl rfl (fun _ => rfl) trivial rfl rfl) (OkOps.y (.c (.loc 3 3)) (OkOps.w (triStore (cs' := [cI s3, cS ByteArray.empty, .d (.sl (List.map Attr.cs x5.1)), .tl 9 (List.map Action.cs ([(Action.mk (ByteArray.mk #[112, 114, 101, 115, 115]) (ByteArray.mk #[47]) (ByteArray.mk #[103, 111]) ([x34.1]))])), .d (.v (.slice none 0 0))]) rfl rfl rfl rfl rfl rfl rfl rfl rfl) (OkOps.nil ?_))))
  exact ⟨(x34.2.L, x34.2.At, [(Action.mk (ByteArray.mk #[112, 114, 101, 115, 115]) (ByteArray.mk #[47]) (ByteArray.mk #[103, 111]) ([x34.1]))]), hr, (Conv.mk (tau [(1000, 9)]) ⟨⟨_, rfl, .inl rfl⟩, ⟨_, rfl, .inl rfl⟩, ⟨_, rfl, .inl rfl⟩, ⟨_, rfl, .inl rfl⟩, trivial⟩ ⟨rfl, rfl, rfl, rfl, trivial⟩ rfl rfl rfl rfl)⟩
  have hr := selF h33 hr
  refine Ok.skip ?_
  exact ⟨(x32.2.L, x32.2.At, ([] : (List Action))), hr, (Conv.trans (Conv.nilO 3 3 1023 4 [cI s3, cS ByteArray.empty, .d (.sl (List.map Attr.cs x5.1)), .d (.v (.slice none 0 0)), .d (.v (.slice none 0 0))] [cI s3, cS ByteArray.empty, .d (.sl (List.map Attr.cs x5.1)), .tl 1023 (List.map Action.cs ([] : (List Action))), .d (.v (.slice none 0 0))] 31 0 rfl rfl rfl rfl) (Conv.mk (tau [(1000, 1023)]) ⟨⟨_, rfl, .inl rfl⟩, ⟨_, rfl, .inl rfl⟩, ⟨_, rfl, .inl rfl⟩, ⟨_, rfl, .inl rfl⟩, trivial⟩ ⟨rfl, rfl, rfl, rfl, trivial⟩ rfl rfl rfl rfl))⟩
  clear hk4
  refine Ok.seq (Ok.region (OkOps.y (aI depth) (OkOps.y (aB (decide (depth > 2))) (OkOps.nil ?_))))
  refine Ok.cond (b := decide (depth > 2)) rfl (fun h35 => ?_) (fun h35 => ?_)
  have hr := selT h35 hr
  refine Ok.region (OkOps.y (.c (.loc 3 0)) (OkOps.w (triStore (cs' := [cI 1, cS ByteArray.empty, .d (.v (.slice none 0 0)), .d (.v (.slice none 0 0)), .d (.v (.slice none 0 0))]) rfl rfl rfl rfl rfl rfl rfl rfl rfl) (OkOps.nil ?_)))
  exact ⟨1, hr, (Conv.mk (tau []) ⟨⟨_, rfl, .inl rfl⟩, ⟨_, rfl, .inl rfl⟩, ⟨_, rfl, .inl rfl⟩, ⟨_, rfl, .inl rfl⟩, trivial⟩ ⟨rfl, rfl, rfl, trivial⟩ rfl rfl rfl rfl)⟩
  have hr := selF h35 hr
  refine Ok.skip ?_
  exact ⟨x2, hr, (Conv.mk (tau []) ⟨⟨_, rfl, .inl rfl⟩, ⟨_, rfl, .inl rfl⟩, ⟨_, rfl, .inl rfl⟩, ⟨_, rfl, .inl rfl⟩, trivial⟩ ⟨rfl, rfl, rfl, trivial⟩ rfl rfl rfl rfl)⟩
theorem b_Src_view_all : ∀ n : Nat, (∀ (p_s : widgetrybase_Src) (depth : Int) {r : View × widgetrybase_Src}, b_Src_view n p_s depth = some r → Con Tryd.prog 51 [.c (.loc 0 0), aI depth] [(0, .blk [.d (.sl (List.map (eInt .i64) p_s.L)), cI p_s.At] 82)] (.s (.agg [cI r.1.Kind, cS r.1.Key, .d (.sl (List.map Attr.cs r.1.Attrs)), .d (.sl (List.map Action.cs r.1.Actions)), .d (.sl (List.map View.cs r.1.Kids))])) [(0, .blk [.d (.sl (List.map (eInt .i64) r.2.L)), cI r.2.At] 82)]) ∧ True := by
  intro n
  induction n with
  | zero => exact ⟨(by intros; rename_i hr; cases hr), trivial⟩
  | succ n ih => exact ⟨(by intros; rename_i hr; exact b_Src_view_B_c _ ih.1 _ _ hr), trivial⟩
theorem b_Src_view_c (n : Nat) (p_s : widgetrybase_Src) (depth : Int) {r : View × widgetrybase_Src} (hr : b_Src_view n p_s depth = some r) : Con Tryd.prog 51 [.c (.loc 0 0), aI depth] [(0, .blk [.d (.sl (List.map (eInt .i64) p_s.L)), cI p_s.At] 82)] (.s (.agg [cI r.1.Kind, cS r.1.Key, .d (.sl (List.map Attr.cs r.1.Attrs)), .d (.sl (List.map Action.cs r.1.Actions)), .d (.sl (List.map View.cs r.1.Kids))])) [(0, .blk [.d (.sl (List.map (eInt .i64) r.2.L)), cI r.2.At] 82)] := (b_Src_view_all n).1 p_s depth hr
theorem b_Src_View_c (p_s : widgetrybase_Src) (depth : Int) {r : View × widgetrybase_Src} (hr : b_Src_View p_s depth = some r) : Con Tryd.prog 16 [.c (.loc 0 0), aI depth] [(0, .blk [.d (.sl (List.map (eInt .i64) p_s.L)), cI p_s.At] 82)] (.s (.agg [cI r.1.Kind, cS r.1.Key, .d (.sl (List.map Attr.cs r.1.Attrs)), .d (.sl (List.map Action.cs r.1.Actions)), .d (.sl (List.map View.cs r.1.Kids))])) [(0, .blk [.d (.sl (List.map (eInt .i64) r.2.L)), cI r.2.At] 82)] := by
  unfold b_Src_View at hr
  refine Con.of_ok 14 0 [.cell 4 31] [(0, .s (.c (.loc 0 0))), (1, .s (aI depth))] Tryd.func16 rfl rfl rfl rfl rfl rfl rfl rfl fun w g M ρ _ => (Ok.seq (Ok.region (OkOps.m 0 (triAlloc (j := 1) (cs := [cI 0, cS ByteArray.empty, .d (.v (.slice none 0 0)), .d (.v (.slice none 0 0)), .d (.v (.slice none 0 0))]) rfl rfl rfl rfl) (OkOps.nil (Ok.seq (Ok.region (OkOps.y (.c (.loc 0 0)) (OkOps.y (aI depth) ?_))))))))
  obtain ⟨x1, hx1, hr⟩ := bind_some hr
  refine OkOps.m 0 (triCl (tau [(0, 0)]) (.s (.agg [cI x1.1.Kind, cS x1.1.Key, .d (.sl (List.map Attr.cs x1.1.Attrs)), .d (.sl (List.map Action.cs x1.1.Actions)), .d (.sl (List.map View.cs x1.1.Kids))])) [(0, .blk [.d (.sl (List.map (eInt .i64) x1.2.L)), cI x1.2.At] 82)] (b_Src_view_c _ _ _ hx1) rfl ⟨.inl rfl, .inl rfl, trivial⟩ trivial entry51 ⟨rfl, trivial⟩) (OkOps.m 0 (triAlloc (j := 2) (cs := [cI 0, cS ByteArray.empty, .d (.v (.slice none 0 0)), .d (.v (.slice none 0 0)), .d (.v (.slice none 0 0))]) rfl rfl rfl rfl) (OkOps.w (triStore (cs' := [cI x1.1.Kind, cS x1.1.Key, .d (.sl (List.map Attr.cs x1.1.Attrs)), .d (.sl (List.map Action.cs x1.1.Actions)), .d (.sl (List.map View.cs x1.1.Kids))]) rfl rfl rfl rfl rfl rfl rfl rfl rfl) (OkOps.nil (Ok.seq (Ok.seq (Ok.region (OkOps.y (.agg [cI x1.1.Kind, cS x1.1.Key, .d (.sl (List.map Attr.cs x1.1.Attrs)), .d (.sl (List.map Action.cs x1.1.Actions)), .d (.sl (List.map View.cs x1.1.Kids))]) ?_)))))))
  obtain ⟨x2, hx2, hr⟩ := bind_some hr
  refine OkOps.q (triCl (tau []) (.s (aI x2)) [] (r14_Validate_c _ hx2) rfl ⟨.inl rfl, trivial⟩ trivial entry23 trivial) (OkOps.y (aB (x2 != 0)) (OkOps.nil ?_))
  refine Ok.cond (b := x2 != 0) rfl (fun h3 => ?_) (fun h3 => ?_)
  have hr := selT h3 hr
  refine Ok.seq (Ok.region (OkOps.y (.agg [cI 1, cS ByteArray.empty, .d (.v (.slice none 0 0)), .d (.v (.slice none 0 0)), .d (.v (.slice none 0 0))]) (OkOps.w (triStore (cs' := [cI 1, cS ByteArray.empty, .d (.v (.slice none 0 0)), .d (.v (.slice none 0 0)), .d (.v (.slice none 0 0))]) rfl rfl rfl rfl rfl rfl rfl rfl rfl) (OkOps.nil (Ok.ret ?_)))))
  obtain rfl := Option.some.inj hr
  exact ⟨_, rfl, .inr rfl, ⟨rfl, trivial⟩⟩
  have hr := selF h3 hr
  refine Ok.skip (Ok.seq (Ok.region (OkOps.y (.agg [cI x1.1.Kind, cS x1.1.Key, .d (.sl (List.map Attr.cs x1.1.Attrs)), .d (.sl (List.map Action.cs x1.1.Actions)), .d (.sl (List.map View.cs x1.1.Kids))]) (OkOps.w (triStore (cs' := [cI x1.1.Kind, cS x1.1.Key, .d (.sl (List.map Attr.cs x1.1.Attrs)), .d (.sl (List.map Action.cs x1.1.Actions)), .d (.sl (List.map View.cs x1.1.Kids))]) rfl rfl rfl rfl rfl rfl rfl rfl rfl) (OkOps.nil (Ok.ret ?_))))))
  obtain rfl := Option.some.inj hr
  exact ⟨_, rfl, .inl rfl, ⟨rfl, trivial⟩⟩
theorem entry16 : Entry Tryd.prog 16 := ⟨_, Tryd.func16, by kernel_rfl, by kernel_rfl⟩
end Go.Proofs.YtcfegecdlbbeaaaDoor
end
section
set_option maxRecDepth 100000
namespace Go.Proofs.YtcfegecdlbbeaaaDoor
open Go Go.E2
theorem vw_attributes_c (l : (List Attr)) {r : Int} (hr : vw_attributes l = some r) : Con Tryd.prog 77 [.c (.d (.sl (List.map Attr.cs l)))] [] (.s (aI r)) [] := by
  unfold vw_attributes at hr
  refine Con.of_ok 39 0 [.tmp 2] [(0, .s (.c (.d (.sl (List.map Attr.cs l)))))] Tryd.func77 rfl rfl rfl rfl rfl rfl rfl rfl fun w g M ρ _ => (Ok.seq (Ok.region (OkOps.y (aI 0) (OkOps.nil ?_))))
  obtain ⟨k2, hk2, hr⟩ := jn_some hr
  refine Ok.join (fun (s1 : Unit) => ⟨[], [], 0⟩) k2 r (fun s1 hr => ?_) ?_
  rw [hk2] at hr
  refine Ok.seq (Ok.region (OkOps.y (aI 0) (OkOps.nil (Ok.ret ?_))))
  obtain rfl := Option.some.inj hr
  exact ⟨_, rfl, .inl rfl, trivial⟩
  clear hk2
  refine Ok.seq (Ok.region (OkOps.y (.c (.d (.sl (List.map Attr.cs l)))) (OkOps.q (triLen (enc := Attr.cs) l rfl rfl trivial rfl) (OkOps.y (aI 0) (OkOps.nil (Ok.block (Ok.loopK (fun (s3 : Int) => ⟨[(0, .s (.c (.d (.sl (List.map Attr.cs l))))), (6, .s (.c (.d (.sl (List.map Attr.cs l))))), (7, .s (aI (l.length : Int))), (8, .s (aI s3))], [], 0⟩) hr (Conv.mk (tau []) ⟨⟨_, rfl, .inl rfl⟩, ⟨_, rfl, .inl rfl⟩, ⟨_, rfl, .inl rfl⟩, ⟨_, rfl, .inl rfl⟩, trivial⟩ trivial rfl rfl rfl rfl) ?_)))))))
  clear hr
  intro again4 s3 hr
  unfold vw_attributes_L1 at hr
  refine Ok.seq (Ok.region (OkOps.y (aB (decide (s3 < (l.length : Int)))) (OkOps.nil (Ok.seq ?_))))
  refine Ok.cond (b := decide (s3 < (l.length : Int))) rfl (fun h5 => ?_) (fun h5 => ?_)
  have hr := selT h5 hr
  refine Ok.skip (Ok.seq (Ok.block (Ok.seq (Ok.region (OkOps.y (aI s3) ?_)))))
  obtain ⟨x6, hx6, hr⟩ := bind_some hr
  refine OkOps.q (triIdx (enc := Attr.cs) (L := l) (row := [dS x6.Name, dI x6.Value.Kind, dI x6.Value.N, dS x6.Value.S, .sl (List.map AValue.cs x6.Value.L)]) hx6 rfl rfl rfl rfl (fun _ => rfl) trivial rfl) (OkOps.y (.agg [cS x6.Name, cI x6.Value.Kind, cI x6.Value.N, cS x6.Value.S, .d (.sl (List.map AValue.cs x6.Value.L))]) (OkOps.m 0 (triAlloc (j := 0) (cs := [cS ByteArray.empty, cI 0, cI 0, cS ByteArray.empty, .d (.v (.slice none 0 0))]) rfl rfl rfl rfl) (OkOps.y (aI s3) (OkOps.w (triStore (cs' := [cS x6.Name, cI x6.Value.Kind, cI x6.Value.N, cS x6.Value.S, .d (.sl (List.map AValue.cs x6.Value.L))]) rfl rfl rfl rfl rfl rfl rfl rfl rfl) (OkOps.nil (Ok.seq (Ok.block (Ok.seq (Ok.region (OkOps.y (.c (.loc 0 0)) (OkOps.y (aS x6.Name) ?_)))))))))))
  obtain ⟨x7, hx7, hr⟩ := bind_some hr
  refine OkOps.q (triCl (tau []) (.s (aB x7)) [] (ex_Name_c _ hx7) rfl ⟨.inl rfl, trivial⟩ trivial entry104 trivial) (OkOps.y (aB (!x7)) (OkOps.y (aB (!x7)) (OkOps.nil ?_)))
  refine Ok.cond (b := !x7) rfl (fun h8 => ?_) (fun h8 => ?_)
  have hr := selT h8 hr
  refine Ok.seq (Ok.region (OkOps.y (aI 4) (OkOps.nil (Ok.ret ?_))))
  obtain rfl := Option.some.inj hr
  exact ⟨_, rfl, .inl rfl, trivial⟩
  have hr := selF h8 hr
  refine Ok.seq (Ok.regionD (by kernel_rfl) (OkD.x (aI s3) rfl trivial rfl (OkD.x (aB (decide (s3 > 0))) rfl trivial rfl (OkD.x (aB (decide (s3 > 0))) rfl trivial rfl (OkD.q (triQG (x := .c (.d (.sl (List.map Attr.cs l)))) rfl rfl trivial rfl) (OkD.q (triQG (x := aI s3) rfl rfl trivial rfl) (OkD.q (triQG (x := aI (IntKind.i64.wrap (s3 - 1))) rfl rfl ⟨fun h => h, trivial⟩ rfl) ?_)))))))
  obtain ⟨x9, hx9, hr⟩ := bind_some hr
  refine OkD.q (triIdxG (enc := Attr.cs) (L := l) (row := [dS x9.Name, dI x9.Value.Kind, dI x9.Value.N, dS x9.Value.S, .sl (List.map AValue.cs x9.Value.L)]) (gO_t hx9) rfl rfl rfl rfl rfl (fun _ => rfl) ⟨fun h => h, ⟨fun h => h, trivial⟩⟩ rfl) (OkD.q (triQG (x := .c (.pt [dS x9.Name, dI x9.Value.Kind, dI x9.Value.N, dS x9.Value.S, .sl (List.map AValue.cs x9.Value.L)])) rfl rfl ⟨fun h => h, trivial⟩ rfl) (OkD.q (triQG (x := aS x9.Name) rfl rfl ⟨fun h => h, trivial⟩ rfl) (OkD.q (triQG (x := .c (.loc 0 0)) rfl rfl trivial rfl) (OkD.q (triQG (x := aS x6.Name) rfl rfl ⟨fun h => h, trivial⟩ rfl) (OkD.q (triQG (x := aB (!(Op.bytesLess x9.Name.toList x6.Name.toList))) rfl rfl ⟨fun h => h, ⟨fun h => h, trivial⟩⟩ rfl) (OkD.q (triAnd rfl rfl (fun h => h) rfl) (OkD.x (aB ((decide (s3 > 0)) && (!(Op.bytesLess x9.Name.toList x6.Name.toList)))) rfl trivial rfl (OkD.nil (by kernel_rfl) ?_))))))))
  refine Ok.cond (b := (decide (s3 > 0)) && (!(Op.bytesLess x9.Name.toList x6.Name.toList))) rfl (fun h10 => ?_) (fun h10 => ?_)
  have hr := selT h10 hr
  refine Ok.seq (Ok.region (OkOps.y (aI 10) (OkOps.nil (Ok.ret ?_))))
  obtain rfl := Option.some.inj hr
  exact ⟨_, rfl, .inl rfl, trivial⟩
  have hr := selF h10 hr
  refine Ok.skip (Ok.seq (Ok.region (OkOps.y (.c (.loc 0 1)) (OkOps.y (.agg [cI x6.Value.Kind, cI x6.Value.N, cS x6.Value.S, .d (.sl (List.map AValue.cs x6.Value.L))]) ?_))))
  obtain ⟨x11, hx11, hr⟩ := bind_some hr
  refine OkOps.q (triCl (tau []) (.s (aI x11)) [] (ex_Check_c _ hx11) rfl ⟨.inl rfl, trivial⟩ trivial entry105 trivial) (OkOps.y (aI x11) (OkOps.nil (Ok.seq (Ok.region (OkOps.y (aI x11) (OkOps.y (aB (x11 != 0)) (OkOps.nil ?_)))))))
  refine Ok.cond (b := x11 != 0) rfl (fun h12 => ?_) (fun h12 => ?_)
  have hr := selT h12 hr
  refine Ok.seq (Ok.region (OkOps.y (aI x11) (OkOps.y (aI x11) (OkOps.nil (Ok.ret ?_)))))
  obtain rfl := Option.some.inj hr
  exact ⟨_, rfl, .inl rfl, trivial⟩
  have hr := selF h12 hr
  refine Ok.skip (Ok.region (OkOps.y (aI (IntKind.i64.wrap (s3 + 1))) (OkOps.y (aI (IntKind.i64.wrap (s3 + 1))) (OkOps.nil ?_))))
  exact ⟨IntKind.i64.wrap (s3 + 1), hr, (Conv.mk (tau []) ⟨⟨_, rfl, .inl rfl⟩, ⟨_, rfl, .inl rfl⟩, ⟨_, rfl, .inl rfl⟩, ⟨_, rfl, .inl rfl⟩, trivial⟩ trivial rfl rfl rfl rfl)⟩
  have hr := selF h5 hr
  refine Ok.exit ?_
  exact ⟨(), hr, (Conv.mk (tau []) trivial trivial rfl rfl rfl rfl)⟩
theorem entry77 : Entry Tryd.prog 77 := ⟨_, Tryd.func77, by kernel_rfl, by kernel_rfl⟩
theorem vw_actions_c (l : (List Action)) {r : Int} (hr : vw_actions l = some r) : Con Tryd.prog 78 [.c (.d (.sl (List.map Action.cs l)))] [] (.s (aI r)) [] := by
  unfold vw_actions at hr
  refine Con.of_ok 65 0 [.tmp 2] [(0, .s (.c (.d (.sl (List.map Action.cs l)))))] Tryd.func78 rfl rfl rfl rfl rfl rfl rfl rfl fun w g M ρ _ => (Ok.seq (Ok.region (OkOps.y (aI 0) (OkOps.nil ?_))))
  obtain ⟨k2, hk2, hr⟩ := jn_some hr
  refine Ok.join (fun (s1 : Unit) => ⟨[], [], 0⟩) k2 r (fun s1 hr => ?_) ?_
  rw [hk2] at hr
  refine Ok.seq (Ok.region (OkOps.y (aI 0) (OkOps.nil (Ok.ret ?_))))
  obtain rfl := Option.some.inj hr
  exact ⟨_, rfl, .inl rfl, trivial⟩
  clear hk2
  refine Ok.seq (Ok.region (OkOps.y (.c (.d (.sl (List.map Action.cs l)))) (OkOps.q (triLen (enc := Action.cs) l rfl rfl trivial rfl) (OkOps.y (aI 0) (OkOps.nil (Ok.block (Ok.loopK (fun (s3 : Int) => ⟨[(0, .s (.c (.d (.sl (List.map Action.cs l))))), (8, .s (.c (.d (.sl (List.map Action.cs l))))), (9, .s (aI (l.length : Int))), (10, .s (aI s3))], [], 0⟩) hr (Conv.mk (tau []) ⟨⟨_, rfl, .inl rfl⟩, ⟨_, rfl, .inl rfl⟩, ⟨_, rfl, .inl rfl⟩, ⟨_, rfl, .inl rfl⟩, trivial⟩ trivial rfl rfl rfl rfl) ?_)))))))
  clear hr
  intro again4 s3 hr
  unfold vw_actions_L2 at hr
  refine Ok.seq (Ok.region (OkOps.y (aB (decide (s3 < (l.length : Int)))) (OkOps.nil (Ok.seq ?_))))
  refine Ok.cond (b := decide (s3 < (l.length : Int))) rfl (fun h5 => ?_) (fun h5 => ?_)
  have hr := selT h5 hr
  refine Ok.skip ?_
  obtain ⟨k7, hk7, hr⟩ := jn_some hr
  refine Ok.join (fun (s6 : Unit) => ⟨[(0, .s (.c (.d (.sl (List.map Action.cs l))))), (8, .s (.c (.d (.sl (List.map Action.cs l))))), (9, .s (aI (l.length : Int))), (10, .s (aI s3))], [], 0⟩) k7 r (fun s6 hr => ?_) ?_
  rw [hk7] at hr
  refine Ok.region (OkOps.y (aI (IntKind.i64.wrap (s3 + 1))) (OkOps.y (aI (IntKind.i64.wrap (s3 + 1))) (OkOps.nil ?_)))
  exact ⟨IntKind.i64.wrap (s3 + 1), hr, (Conv.mk (tau []) ⟨⟨_, rfl, .inl rfl⟩, ⟨_, rfl, .inl rfl⟩, ⟨_, rfl, .inl rfl⟩, ⟨_, rfl, .inl rfl⟩, trivial⟩ trivial rfl rfl rfl rfl)⟩
  clear hk7
  refine Ok.block (Ok.seq (Ok.region (OkOps.y (aI s3) ?_)))
  obtain ⟨x8, hx8, hr⟩ := bind_some hr
  refine OkOps.q (triIdx (enc := Action.cs) (L := l) (row := [dS x8.Event, dS x8.Instance, dS x8.Handler, .sl (List.map AValue.cs x8.Args)]) hx8 rfl rfl rfl rfl (fun _ => rfl) trivial rfl) (OkOps.y (.agg [cS x8.Event, cS x8.Instance, cS x8.Handler, .d (.sl (List.map AValue.cs x8.Args))]) (OkOps.m 0 (triAlloc (j := 0) (cs := [cS ByteArray.empty, cS ByteArray.empty, cS ByteArray.empty, .d (.v (.slice none 0 0))]) rfl rfl rfl rfl) (OkOps.y (aI s3) (OkOps.w (triStore (cs' := [cS x8.Event, cS x8.Instance, cS x8.Handler, .d (.sl (List.map AValue.cs x8.Args))]) rfl rfl rfl rfl rfl rfl rfl rfl rfl) (OkOps.nil (Ok.seq (Ok.block (Ok.seq (Ok.region (OkOps.y (.c (.loc 0 0)) (OkOps.y (aS x8.Event) ?_)))))))))))
  obtain ⟨x9, hx9, hr⟩ := bind_some hr
  refine OkOps.q (triCl (tau []) (.s (aB x9)) [] (ex_Name_c _ hx9) rfl ⟨.inl rfl, trivial⟩ trivial entry104 trivial) (OkOps.y (aB (!x9)) (OkOps.y (aB (!x9)) (OkOps.q (triQG (x := .c (.loc 0 2)) rfl rfl trivial rfl) (OkOps.q (triQG (x := aS x8.Handler) rfl rfl ⟨fun h => h, trivial⟩ rfl) ?_))))
  obtain ⟨x10, hx10, hr⟩ := bind_some hr
  refine OkOps.q (triCallG (x := aB x10) (fun hg => ex_Name_c _ (gO_t hx10 hg)) rfl rfl ⟨.inl rfl, trivial⟩ ⟨fun h => h, trivial⟩ entry104 rfl rfl rfl) (OkOps.q (triQG (x := aB (!x10)) rfl rfl ⟨fun h => h, trivial⟩ rfl) ?_)
  refine OkOps.q (triOr rfl rfl (fun h => by rw [h]; rfl) rfl) ?_
  refine OkOps.y (aB ((!x9) || (!x10))) (OkOps.nil ?_)
  refine Ok.cond (b := (!x9) || (!x10)) rfl (fun h11 => ?_) (fun h11 => ?_)
  have hr := selT h11 hr
  refine Ok.seq (Ok.region (OkOps.y (aI 4) (OkOps.nil (Ok.ret ?_))))
  obtain rfl := Option.some.inj hr
  exact ⟨_, rfl, .inl rfl, trivial⟩
  have hr := selF h11 hr
  refine Ok.seq (Ok.regionD (by kernel_rfl) (OkD.x (aI s3) rfl trivial rfl (OkD.x (aB (decide (s3 > 0))) rfl trivial rfl (OkD.x (aB (decide (s3 > 0))) rfl trivial rfl (OkD.q (triQG (x := .c (.d (.sl (List.map Action.cs l)))) rfl rfl trivial rfl) (OkD.q (triQG (x := aI s3) rfl rfl trivial rfl) (OkD.q (triQG (x := aI (IntKind.i64.wrap (s3 - 1))) rfl rfl ⟨fun h => h, trivial⟩ rfl) ?_)))))))
  obtain ⟨x12, hx12, hr⟩ := bind_some hr
  refine OkD.q (triIdxG (enc := Action.cs) (L := l) (row := [dS x12.Event, dS x12.Instance, dS x12.Handler, .sl (List.map AValue.cs x12.Args)]) (gO_t hx12) rfl rfl rfl rfl rfl (fun _ => rfl) ⟨fun h => h, ⟨fun h => h, trivial⟩⟩ rfl) (OkD.q (triQG (x := .c (.pt [dS x12.Event, dS x12.Instance, dS x12.Handler, .sl (List.map AValue.cs x12.Args)])) rfl rfl ⟨fun h => h, trivial⟩ rfl) (OkD.q (triQG (x := aS x12.Event) rfl rfl ⟨fun h => h, trivial⟩ rfl) (OkD.q (triQG (x := .c (.loc 0 0)) rfl rfl trivial rfl) (OkD.q (triQG (x := aS x8.Event) rfl rfl ⟨fun h => h, trivial⟩ rfl) (OkD.q (triQG (x := aB (!(Op.bytesLess x12.Event.toList x8.Event.toList))) rfl rfl ⟨fun h => h, ⟨fun h => h, trivial⟩⟩ rfl) (OkD.q (triAnd rfl rfl (fun h => h) rfl) (OkD.x (aB ((decide (s3 > 0)) && (!(Op.bytesLess x12.Event.toList x8.Event.toList)))) rfl trivial rfl (OkD.nil (by kernel_rfl) ?_))))))))
  refine Ok.cond (b := (decide (s3 > 0)) && (!(Op.bytesLess x12.Event.toList x8.Event.toList))) rfl (fun h13 => ?_) (fun h13 => ?_)
  have hr := selT h13 hr
  refine Ok.seq (Ok.region (OkOps.y (aI 10) (OkOps.nil (Ok.ret ?_))))
  obtain rfl := Option.some.inj hr
  exact ⟨_, rfl, .inl rfl, trivial⟩
  have hr := selF h13 hr
  refine Ok.seq (Ok.region (OkOps.y (.c (.loc 0 1)) (OkOps.y (aS x8.Instance) (OkOps.y (aI (x8.Instance.size : Int)) (OkOps.y (aB (decide ((x8.Instance.size : Int) > 400))) (OkOps.y (aB (decide ((x8.Instance.size : Int) > 400))) (OkOps.q (triQG (x := .c (.loc 0 3)) rfl rfl trivial rfl) (OkOps.q (triQG (x := .c (.d (.sl (List.map AValue.cs x8.Args)))) rfl rfl ⟨fun h => h, trivial⟩ rfl) (OkOps.q (triLenG (enc := AValue.cs) x8.Args rfl rfl rfl ⟨fun h => h, trivial⟩ rfl) (OkOps.q (triQG (x := aB (decide ((x8.Args.length : Int) > 100))) rfl rfl ⟨fun h => h, trivial⟩ rfl) ?_))))))))))
  refine OkOps.q (triOr rfl rfl (fun h => by rw [h]; rfl) rfl) ?_
  refine OkOps.y (aB ((decide ((x8.Instance.size : Int) > 400)) || (decide ((x8.Args.length : Int) > 100)))) (OkOps.nil ?_)
  refine Ok.cond (b := (decide ((x8.Instance.size : Int) > 400)) || (decide ((x8.Args.length : Int) > 100))) rfl (fun h14 => ?_) (fun h14 => ?_)
  have hr := selT h14 hr
  refine Ok.seq (Ok.region (OkOps.y (aI 2) (OkOps.nil (Ok.ret ?_))))
  obtain rfl := Option.some.inj hr
  exact ⟨_, rfl, .inl rfl, trivial⟩
  have hr := selF h14 hr
  refine Ok.skip (Ok.seq (Ok.region (OkOps.y (.c (.loc 0 3)) (OkOps.y (.c (.d (.sl (List.map AValue.cs x8.Args)))) (OkOps.q (triLen (enc := AValue.cs) x8.Args rfl rfl trivial rfl) (OkOps.y (aI 0) (OkOps.nil ?_)))))))
  obtain ⟨k16, hk16, hr⟩ := jn_some hr
  refine Ok.joinEnd (fun (s15 : Unit) => ⟨[(0, .s (.c (.d (.sl (List.map Action.cs l))))), (8, .s (.c (.d (.sl (List.map Action.cs l))))), (9, .s (aI (l.length : Int))), (10, .s (aI s3))], [], 0⟩) k16 r (fun s15 hr => ?_) ?_
  rw [hk16] at hr
  exact ⟨(), hr, (Conv.mk (tau []) ⟨⟨_, rfl, .inl rfl⟩, ⟨_, rfl, .inl rfl⟩, ⟨_, rfl, .inl rfl⟩, ⟨_, rfl, .inl rfl⟩, trivial⟩ trivial rfl rfl rfl rfl)⟩
  clear hk16
  refine Ok.block (Ok.loopK (fun (s17 : Int) => ⟨[(0, .s (.c (.d (.sl (List.map Action.cs l))))), (8, .s (.c (.d (.sl (List.map Action.cs l))))), (9, .s (aI (l.length : Int))), (10, .s (aI s3)), (52, .s (.c (.d (.sl (List.map AValue.cs x8.Args))))), (53, .s (aI (x8.Args.length : Int))), (54, .s (aI s17))], [], 0⟩) hr (Conv.mk (tau []) ⟨⟨_, rfl, .inl rfl⟩, ⟨_, rfl, .inl rfl⟩, ⟨_, rfl, .inl rfl⟩, ⟨_, rfl, .inl rfl⟩, ⟨_, rfl, .inl rfl⟩, ⟨_, rfl, .inl rfl⟩, ⟨_, rfl, .inl rfl⟩, trivial⟩ trivial rfl rfl rfl rfl) ?_)
  clear hr
  intro again18 s17 hr
  unfold vw_actions_L1 at hr
  refine Ok.seq (Ok.region (OkOps.y (aB (decide (s17 < (x8.Args.length : Int)))) (OkOps.nil (Ok.seq ?_))))
  refine Ok.cond (b := decide (s17 < (x8.Args.length : Int))) rfl (fun h19 => ?_) (fun h19 => ?_)
  have hr := selT h19 hr
  refine Ok.skip (Ok.seq (Ok.block (Ok.seq (Ok.region ?_))))
  obtain ⟨x20, hx20, hr⟩ := bind_some hr
  refine OkOps.q (triIdx (enc := AValue.cs) (L := x8.Args) (row := [dI x20.Kind, dI x20.N, dS x20.S, .sl (List.map AValue.cs x20.L)]) hx20 (AValue.cs_eq _) rfl rfl rfl (fun x => by rw [AValue.cs_eq]; rfl) trivial rfl) ?_
  refine OkOps.y (.agg [cI x20.Kind, cI x20.N, cS x20.S, .d (.sl (List.map AValue.cs x20.L))]) (OkOps.m 0 (triAlloc (j := 1) (cs := [cI 0, cI 0, cS ByteArray.empty, .d (.v (.slice none 0 0))]) rfl rfl rfl rfl) (OkOps.w (triStore (cs' := [cI x20.Kind, cI x20.N, cS x20.S, .d (.sl (List.map AValue.cs x20.L))]) rfl rfl rfl rfl rfl rfl rfl rfl rfl) (OkOps.nil (Ok.seq (Ok.region (OkOps.y (.agg [cI x20.Kind, cI x20.N, cS x20.S, .d (.sl (List.map AValue.cs x20.L))]) ?_))))))
  obtain ⟨x21, hx21, hr⟩ := bind_some hr
  refine OkOps.q (triCl (tau []) (.s (aI x21)) [] (ex_Check_c _ hx21) rfl ⟨.inl rfl, trivial⟩ trivial entry105 trivial) (OkOps.y (aI x21) (OkOps.nil (Ok.seq (Ok.region (OkOps.y (aI x21) (OkOps.y (aB (x21 != 0)) (OkOps.nil ?_)))))))
  refine Ok.cond (b := x21 != 0) rfl (fun h22 => ?_) (fun h22 => ?_)
  have hr := selT h22 hr
  refine Ok.seq (Ok.region (OkOps.y (aI x21) (OkOps.y (aI x21) (OkOps.nil (Ok.ret ?_)))))
  obtain rfl := Option.some.inj hr
  exact ⟨_, rfl, .inl rfl, trivial⟩
  have hr := selF h22 hr
  refine Ok.skip (Ok.region (OkOps.y (aI (IntKind.i64.wrap (s17 + 1))) (OkOps.y (aI (IntKind.i64.wrap (s17 + 1))) (OkOps.nil ?_))))
  exact ⟨IntKind.i64.wrap (s17 + 1), hr, (Conv.mk (tau []) ⟨⟨_, rfl, .inl rfl⟩, ⟨_, rfl, .inl rfl⟩, ⟨_, rfl, .inl rfl⟩, ⟨_, rfl, .inl rfl⟩, ⟨_, rfl, .inl rfl⟩, ⟨_, rfl, .inl rfl⟩, ⟨_, rfl, .inl rfl⟩, trivial⟩ trivial rfl rfl rfl rfl)⟩
  have hr := selF h19 hr
  refine Ok.exit ?_
  exact ⟨(), hr, (Conv.mk (tau []) ⟨⟨_, rfl, .inl rfl⟩, ⟨_, rfl, .inl rfl⟩, ⟨_, rfl, .inl rfl⟩, ⟨_, rfl, .inl rfl⟩, trivial⟩ trivial rfl rfl rfl rfl)⟩
  have hr := selF h5 hr
  refine Ok.exit ?_
  exact ⟨(), hr, (Conv.mk (tau []) trivial trivial rfl rfl rfl rfl)⟩
theorem entry78 : Entry Tryd.prog 78 := ⟨_, Tryd.func78, by kernel_rfl, by kernel_rfl⟩
theorem entry52 : Entry Tryd.prog 52 := ⟨_, Tryd.func52, by kernel_rfl, by kernel_rfl⟩
theorem vw_validate_B_c (self0 : View → Int → Int → Option (Int × Int)) (hself0 : ∀ (v : View) (depth : Int) (p_n : Int) {r : Int × Int}, self0 v depth p_n = some r → Con Tryd.prog 52 [.agg [cI v.Kind, cS v.Key, .d (.sl (List.map Attr.cs v.Attrs)), .d (.sl (List.map Action.cs v.Actions)), .d (.sl (List.map View.cs v.Kids))], aI depth, .c (.loc 0 0)] [(0, .blk [cI p_n] 3)] (.s (aI r.1)) [(0, .blk [cI r.2] 3)]) (v : View) (depth : Int) (p_n : Int) {r : Int × Int} (hr : vw_validate_B self0 v depth p_n = some r) : Con Tryd.prog 52 [.agg [cI v.Kind, cS v.Key, .d (.sl (List.map Attr.cs v.Attrs)), .d (.sl (List.map Action.cs v.Actions)), .d (.sl (List.map View.cs v.Kids))], aI depth, .c (.loc 0 0)] [(0, .blk [cI p_n] 3)] (.s (aI r.1)) [(0, .blk [cI r.2] 3)] := by
  unfold vw_validate_B at hr
  refine Con.of_ok 108 0 [.tmp 6] [(0, .s (.agg [cI v.Kind, cS v.Key, .d (.sl (List.map Attr.cs v.Attrs)), .d (.sl (List.map Action.cs v.Actions)), .d (.sl (List.map View.cs v.Kids))])), (1, .s (aI depth)), (2, .s (.c (.loc 0 0)))] Tryd.func52 rfl rfl rfl rfl rfl rfl rfl rfl fun w g M ρ _ => (Ok.seq (Ok.region (OkOps.m 0 (triBox (j := 1) (cs := [cI v.Kind, cS v.Key, .d (.sl (List.map Attr.cs v.Attrs)), .d (.sl (List.map Action.cs v.Actions)), .d (.sl (List.map View.cs v.Kids))]) rfl rfl rfl rfl rfl) (OkOps.y (aI 0) (OkOps.nil (Ok.seq (Ok.region (OkOps.y (.c (.loc 0 0)) (OkOps.y (.c (.loc 0 0)) (OkOps.y (aI p_n) (OkOps.y (aI (IntKind.i64.wrap (p_n + 1))) (OkOps.y (.c (.loc 0 0)) (OkOps.w (triStore (cs' := [cI (IntKind.i64.wrap (p_n + 1))]) rfl rfl rfl rfl rfl rfl rfl rfl rfl) (OkOps.nil (Ok.seq ?_)))))))))))))))
  refine Ok.block (Ok.seq (Ok.region (OkOps.y (aI depth) (OkOps.y (aB (decide (depth > 16))) (OkOps.y (aB (decide (depth > 16))) (OkOps.nil ?_))))))
  refine Ok.cond (b := decide (depth > 16)) rfl (fun h1 => ?_) (fun h1 => ?_)
  have hr := selT h1 hr
  refine Ok.seq (Ok.region (OkOps.y (aI 8) (OkOps.nil (Ok.ret ?_))))
  obtain rfl := Option.some.inj hr
  exact ⟨_, rfl, .inl rfl, ⟨rfl, trivial⟩⟩
  have hr := selF h1 hr
  refine Ok.seq (Ok.region (OkOps.y (.c (.loc 0 0)) (OkOps.y (.c (.loc 0 0)) (OkOps.y (aI (IntKind.i64.wrap (p_n + 1))) (OkOps.y (aB (decide ((IntKind.i64.wrap (p_n + 1)) > 400))) (OkOps.y (aB (decide ((IntKind.i64.wrap (p_n + 1)) > 400))) (OkOps.nil ?_)))))))
  refine Ok.cond (b := decide ((IntKind.i64.wrap (p_n + 1)) > 400)) rfl (fun h2 => ?_) (fun h2 => ?_)
  have hr := selT h2 hr
  refine Ok.seq (Ok.region (OkOps.y (aI 2) (OkOps.nil (Ok.ret ?_))))
  obtain rfl := Option.some.inj hr
  exact ⟨_, rfl, .inl rfl, ⟨rfl, trivial⟩⟩
  have hr := selF h2 hr
  refine Ok.seq (Ok.region (OkOps.y (.c (.loc 1 0)) (OkOps.y (aI v.Kind) (OkOps.y (aB (decide (v.Kind < 1))) (OkOps.y (aB (decide (v.Kind < 1))) (OkOps.q (triQG (x := .c (.loc 1 0)) rfl rfl trivial rfl) (OkOps.q (triQG (x := aI v.Kind) rfl rfl ⟨fun h => h, trivial⟩ rfl) (OkOps.q (triQG (x := aB (decide (v.Kind > 13))) rfl rfl ⟨fun h => h, trivial⟩ rfl) ?_))))))))
  refine OkOps.q (triOr rfl rfl (fun h => by rw [h]; rfl) rfl) ?_
  refine OkOps.y (aB ((decide (v.Kind < 1)) || (decide (v.Kind > 13)))) (OkOps.nil ?_)
  refine Ok.cond (b := (decide (v.Kind < 1)) || (decide (v.Kind > 13))) rfl (fun h3 => ?_) (fun h3 => ?_)
  have hr := selT h3 hr
  refine Ok.seq (Ok.region (OkOps.y (aI 9) (OkOps.nil (Ok.ret ?_))))
  obtain rfl := Option.some.inj hr
  exact ⟨_, rfl, .inl rfl, ⟨rfl, trivial⟩⟩
  have hr := selF h3 hr
  refine Ok.seq (Ok.region (OkOps.y (.c (.loc 1 1)) (OkOps.y (aS v.Key) ?_)))
  obtain ⟨x4, hx4, hr⟩ := bind_some hr
  refine OkOps.q (triCl (tau []) (.s (aB x4)) [] (vw_Key_c _ hx4) rfl ⟨.inl rfl, trivial⟩ trivial entry12 trivial) (OkOps.y (aB (!x4)) (OkOps.y (aB (!x4)) (OkOps.nil ?_)))
  refine Ok.cond (b := !x4) rfl (fun h5 => ?_) (fun h5 => ?_)
  have hr := selT h5 hr
  refine Ok.seq (Ok.region (OkOps.y (aI 4) (OkOps.nil (Ok.ret ?_))))
  obtain rfl := Option.some.inj hr
  exact ⟨_, rfl, .inl rfl, ⟨rfl, trivial⟩⟩
  have hr := selF h5 hr
  refine Ok.seq (Ok.region (OkOps.y (.c (.loc 1 2)) (OkOps.y (.c (.d (.sl (List.map Attr.cs v.Attrs)))) (OkOps.q (triLen (enc := Attr.cs) v.Attrs rfl rfl trivial rfl) (OkOps.y (aB (decide ((v.Attrs.length : Int) > 24))) (OkOps.y (aB (decide ((v.Attrs.length : Int) > 24))) (OkOps.q (triQG (x := .c (.loc 1 3)) rfl rfl trivial rfl) (OkOps.q (triQG (x := .c (.d (.sl (List.map Action.cs v.Actions)))) rfl rfl ⟨fun h => h, trivial⟩ rfl) (OkOps.q (triLenG (enc := Action.cs) v.Actions rfl rfl rfl ⟨fun h => h, trivial⟩ rfl) (OkOps.q (triQG (x := aB (decide ((v.Actions.length : Int) > 24))) rfl rfl ⟨fun h => h, trivial⟩ rfl) ?_))))))))))
  refine OkOps.q (triOr rfl rfl (fun h => by rw [h]; rfl) rfl) ?_
  refine OkOps.y (aB ((decide ((v.Attrs.length : Int) > 24)) || (decide ((v.Actions.length : Int) > 24)))) (OkOps.q (triQG (x := .c (.loc 1 4)) rfl rfl trivial rfl) (OkOps.q (triQG (x := .c (.d (.sl (List.map View.cs v.Kids)))) rfl rfl ⟨fun h => h, trivial⟩ rfl) (OkOps.q (triLenG (enc := View.cs) v.Kids rfl rfl rfl ⟨fun h => h, trivial⟩ rfl) (OkOps.q (triQG (x := aB (decide ((v.Kids.length : Int) > 100))) rfl rfl ⟨fun h => h, trivial⟩ rfl) ?_))))
  refine OkOps.q (triOr rfl rfl (fun h => by rw [h]; rfl) rfl) ?_
  refine OkOps.y (aB (((decide ((v.Attrs.length : Int) > 24)) || (decide ((v.Actions.length : Int) > 24))) || (decide ((v.Kids.length : Int) > 100)))) (OkOps.nil ?_)
  refine Ok.cond (b := ((decide ((v.Attrs.length : Int) > 24)) || (decide ((v.Actions.length : Int) > 24))) || (decide ((v.Kids.length : Int) > 100))) rfl (fun h6 => ?_) (fun h6 => ?_)
  have hr := selT h6 hr
  refine Ok.seq (Ok.region (OkOps.y (aI 2) (OkOps.nil (Ok.ret ?_))))
  obtain rfl := Option.some.inj hr
  exact ⟨_, rfl, .inl rfl, ⟨rfl, trivial⟩⟩
  have hr := selF h6 hr
  refine Ok.skip (Ok.seq (Ok.seq (Ok.region (OkOps.y (.c (.loc 1 2)) (OkOps.y (.c (.d (.sl (List.map Attr.cs v.Attrs)))) ?_)))))
  obtain ⟨x7, hx7, hr⟩ := bind_some hr
  refine OkOps.q (triCl (tau []) (.s (aI x7)) [] (vw_attributes_c _ hx7) rfl ⟨.inl rfl, trivial⟩ trivial entry77 trivial) (OkOps.y (aI x7) (OkOps.nil (Ok.seq (Ok.region (OkOps.y (aI x7) (OkOps.y (aB (x7 != 0)) (OkOps.nil ?_)))))))
  refine Ok.cond (b := x7 != 0) rfl (fun h8 => ?_) (fun h8 => ?_)
  have hr := selT h8 hr
  refine Ok.seq (Ok.region (OkOps.y (aI x7) (OkOps.y (aI x7) (OkOps.nil (Ok.ret ?_)))))
  obtain rfl := Option.some.inj hr
  exact ⟨_, rfl, .inl rfl, ⟨rfl, trivial⟩⟩
  have hr := selF h8 hr
  refine Ok.skip (Ok.seq (Ok.seq (Ok.region (OkOps.y (.c (.loc 1 3)) (OkOps.y (.c (.d (.sl (List.map Action.cs v.Actions)))) ?_)))))
  obtain ⟨x9, hx9, hr⟩ := bind_some hr
  refine OkOps.q (triCl (tau []) (.s (aI x9)) [] (vw_actions_c _ hx9) rfl ⟨.inl rfl, trivial⟩ trivial entry78 trivial) (OkOps.y (aI x9) (OkOps.nil (Ok.seq (Ok.region (OkOps.y (aI x9) (OkOps.y (aB (x9 != 0)) (OkOps.nil ?_)))))))
  refine Ok.cond (b := x9 != 0) rfl (fun h10 => ?_) (fun h10 => ?_)
  have hr := selT h10 hr
  refine Ok.seq (Ok.region (OkOps.y (aI x9) (OkOps.y (aI x9) (OkOps.nil (Ok.ret ?_)))))
  obtain rfl := Option.some.inj hr
  exact ⟨_, rfl, .inl rfl, ⟨rfl, trivial⟩⟩
  have hr := selF h10 hr
  refine Ok.skip (Ok.seq (Ok.region (OkOps.m 0 (triMkM (j := 2) false rfl rfl) (OkOps.y (.c (.own 2)) (OkOps.nil ?_)))))
  obtain ⟨k12, hk12, hr⟩ := jn_some hr
  refine Ok.join (fun (s11 : Unit) => ⟨[(1, .s (aI depth)), (2, .s (.c (.loc 0 0))), (3, .s (.c (.loc 1 0)))], [(0, .blk [cI (IntKind.i64.wrap (p_n + 1))] 3), (1, .blk [cI v.Kind, cS v.Key, .d (.sl (List.map Attr.cs v.Attrs)), .d (.sl (List.map Action.cs v.Actions)), .d (.sl (List.map View.cs v.Kids))] 31)], 0⟩) k12 r (fun s11 hr => ?_) ?_
  rw [hk12] at hr
  obtain ⟨k14, hk14, hr⟩ := jn_some hr
  refine Ok.join (fun (s13 : Int) => ⟨[], [(0, .blk [cI s13] 3)], 0⟩) k14 r (fun s13 hr => ?_) ?_
  rw [hk14] at hr
  refine Ok.seq (Ok.region (OkOps.y (aI 0) (OkOps.nil (Ok.ret ?_))))
  obtain rfl := Option.some.inj hr
  exact ⟨_, rfl, .inl rfl, ⟨rfl, trivial⟩⟩
  clear hk14
  refine Ok.seq (Ok.region (OkOps.y (.c (.loc 1 4)) (OkOps.y (.c (.d (.sl (List.map View.cs v.Kids)))) (OkOps.q (triLen (enc := View.cs) v.Kids rfl rfl trivial rfl) (OkOps.y (aI 0) (OkOps.nil (Ok.block (Ok.loopK (fun (s15 : Int × Int) => ⟨[(1, .s (aI depth)), (2, .s (.c (.loc 0 0))), (93, .s (.c (.d (.sl (List.map View.cs v.Kids))))), (94, .s (aI (v.Kids.length : Int))), (95, .s (aI s15.1))], [(0, .blk [cI s15.2] 3)], 0⟩) hr (Conv.mk (tau []) ⟨⟨_, rfl, .inl rfl⟩, ⟨_, rfl, .inl rfl⟩, ⟨_, rfl, .inl rfl⟩, ⟨_, rfl, .inl rfl⟩, ⟨_, rfl, .inl rfl⟩, trivial⟩ ⟨rfl, trivial⟩ rfl rfl rfl rfl) ?_))))))))
  clear hr
  intro again16 s15 hr
  unfold vw_validate_L1 at hr
  refine Ok.seq (Ok.region (OkOps.y (aB (decide (s15.1 < (v.Kids.length : Int)))) (OkOps.nil (Ok.seq ?_))))
  refine Ok.cond (b := decide (s15.1 < (v.Kids.length : Int))) rfl (fun h17 => ?_) (fun h17 => ?_)
  have hr := selT h17 hr
  refine Ok.skip (Ok.seq (Ok.block (Ok.seq (Ok.region ?_))))
  obtain ⟨x18, hx18, hr⟩ := bind_some hr
  refine OkOps.q (triIdx (enc := View.cs) (L := v.Kids) (row := [dI x18.Kind, dS x18.Key, .sl (List.map Attr.cs x18.Attrs), .sl (List.map Action.cs x18.Actions), .sl (List.map View.cs x18.Kids)]) hx18 (View.cs_eq _) rfl rfl rfl (fun x => by rw [View.cs_eq]; rfl) trivial rfl) ?_
  refine OkOps.y (.agg [cI x18.Kind, cS x18.Key, .d (.sl (List.map Attr.cs x18.Attrs)), .d (.sl (List.map Action.cs x18.Actions)), .d (.sl (List.map View.cs x18.Kids))]) (OkOps.m 0 (triAlloc (j := 3) (cs := [cI 0, cS ByteArray.empty, .d (.v (.slice none 0 0)), .d (.v (.slice none 0 0)), .d (.v (.slice none 0 0))]) rfl rfl rfl rfl) (OkOps.w (triStore (cs' := [cI x18.Kind, cS x18.Key, .d (.sl (List.map Attr.cs x18.Attrs)), .d (.sl (List.map Action.cs x18.Actions)), .d (.sl (List.map View.cs x18.Kids))]) rfl rfl rfl rfl rfl rfl rfl rfl rfl) (OkOps.nil (Ok.seq (Ok.region (OkOps.y (.agg [cI x18.Kind, cS x18.Key, .d (.sl (List.map Attr.cs x18.Attrs)), .d (.sl (List.map Action.cs x18.Actions)), .d (.sl (List.map View.cs x18.Kids))]) (OkOps.y (aI depth) (OkOps.y (aI (IntKind.i64.wrap (depth + 1))) (OkOps.y (.c (.loc 0 0)) ?_)))))))))
  obtain ⟨x19, hx19, hr⟩ := bind_some hr
  refine OkOps.m 0 (triCl (tau [(0, 0)]) (.s (aI x19.1)) [(0, .blk [cI x19.2] 3)] (hself0 _ _ _ hx19) rfl ⟨.inl rfl, .inl rfl, .inl rfl, trivial⟩ trivial entry52 ⟨rfl, trivial⟩) (OkOps.y (aI x19.1) (OkOps.nil (Ok.seq (Ok.region (OkOps.y (aI x19.1) (OkOps.y (aB (x19.1 != 0)) (OkOps.nil ?_)))))))
  refine Ok.cond (b := x19.1 != 0) rfl (fun h20 => ?_) (fun h20 => ?_)
  have hr := selT h20 hr
  refine Ok.seq (Ok.region (OkOps.y (aI x19.1) (OkOps.y (aI x19.1) (OkOps.nil (Ok.ret ?_)))))
  obtain rfl := Option.some.inj hr
  exact ⟨_, rfl, .inl rfl, ⟨rfl, trivial⟩⟩
  have hr := selF h20 hr
  refine Ok.skip (Ok.region (OkOps.y (aI (IntKind.i64.wrap (s15.1 + 1))) (OkOps.y (aI (IntKind.i64.wrap (s15.1 + 1))) (OkOps.nil ?_))))
  exact ⟨(IntKind.i64.wrap (s15.1 + 1), x19.2), hr, (Conv.mk (tau []) ⟨⟨_, rfl, .inl rfl⟩, ⟨_, rfl, .inl rfl⟩, ⟨_, rfl, .inl rfl⟩, ⟨_, rfl, .inl rfl⟩, ⟨_, rfl, .inl rfl⟩, trivial⟩ ⟨rfl, trivial⟩ rfl rfl rfl rfl)⟩
  have hr := selF h17 hr
  refine Ok.exit ?_
  exact ⟨s15.2, hr, (Conv.mk (tau []) trivial ⟨rfl, trivial⟩ rfl rfl rfl rfl)⟩
  clear hk12
  refine Ok.seq (Ok.region (OkOps.y (.c (.loc 1 4)) (OkOps.y (.c (.d (.sl (List.map View.cs v.Kids)))) (OkOps.q (triLen (enc := View.cs) v.Kids rfl rfl trivial rfl) (OkOps.y (aI 0) (OkOps.nil (Ok.block (Ok.loopK (fun (s21 : Int × (List (Str × Bool))) => ⟨[(1, .s (aI depth)), (2, .s (.c (.loc 0 0))), (3, .s (.c (.loc 1 0))), (9, .s (.c (.own 2))), (73, .s (.c (.d (.sl (List.map View.cs v.Kids))))), (74, .s (aI (v.Kids.length : Int))), (75, .s (aI s21.1))], [(0, .blk [cI (IntKind.i64.wrap (p_n + 1))] 3), (1, .blk [cI v.Kind, cS v.Key, .d (.sl (List.map Attr.cs v.Attrs)), .d (.sl (List.map Action.cs v.Actions)), .d (.sl (List.map View.cs v.Kids))] 31), (2, .mp false (encM kStr eBool s21.2))], 0⟩) hr (Conv.mk (tau []) ⟨⟨_, rfl, .inl rfl⟩, ⟨_, rfl, .inl rfl⟩, ⟨_, rfl, .inl rfl⟩, ⟨_, rfl, .inl rfl⟩, ⟨_, rfl, .inl rfl⟩, ⟨_, rfl, .inl rfl⟩, ⟨_, rfl, .inl rfl⟩, trivial⟩ ⟨rfl, rfl, rfl, trivial⟩ rfl rfl rfl rfl) ?_))))))))
  clear hr
  intro again22 s21 hr
  unfold vw_validate_L2 at hr
  refine Ok.seq (Ok.region (OkOps.y (aB (decide (s21.1 < (v.Kids.length : Int)))) (OkOps.nil (Ok.seq ?_))))
  refine Ok.cond (b := decide (s21.1 < (v.Kids.length : Int))) rfl (fun h23 => ?_) (fun h23 => ?_)
  have hr := selT h23 hr
  refine Ok.skip (Ok.seq (Ok.block (Ok.seq (Ok.region ?_))))
  obtain ⟨x24, hx24, hr⟩ := bind_some hr
  refine OkOps.q (triIdx (enc := View.cs) (L := v.Kids) (row := [dI x24.Kind, dS x24.Key, .sl (List.map Attr.cs x24.Attrs), .sl (List.map Action.cs x24.Actions), .sl (List.map View.cs x24.Kids)]) hx24 (View.cs_eq _) rfl rfl rfl (fun x => by rw [View.cs_eq]; rfl) trivial rfl) ?_
  refine OkOps.y (.agg [cI x24.Kind, cS x24.Key, .d (.sl (List.map Attr.cs x24.Attrs)), .d (.sl (List.map Action.cs x24.Actions)), .d (.sl (List.map View.cs x24.Kids))]) (OkOps.m 0 (triAlloc (j := 4) (cs := [cI 0, cS ByteArray.empty, .d (.v (.slice none 0 0)), .d (.v (.slice none 0 0)), .d (.v (.slice none 0 0))]) rfl rfl rfl rfl) (OkOps.w (triStore (cs' := [cI x24.Kind, cS x24.Key, .d (.sl (List.map Attr.cs x24.Attrs)), .d (.sl (List.map Action.cs x24.Actions)), .d (.sl (List.map View.cs x24.Kids))]) rfl rfl rfl rfl rfl rfl rfl rfl rfl) (OkOps.nil (Ok.seq (Ok.seq (Ok.region (OkOps.y (.c (.loc 4 1)) (OkOps.y (aS x24.Key) (OkOps.y (aB (!(x24.Key.toList == (ByteArray.mk #[]).toList))) (OkOps.y (aB (!(x24.Key.toList == (ByteArray.mk #[]).toList))) (OkOps.q (triQG (x := .c (.own 2)) rfl rfl trivial rfl) (OkOps.q (triQG (x := .c (.loc 4 1)) rfl rfl trivial rfl) (OkOps.q (triQG (x := aS x24.Key) rfl rfl ⟨fun h => h, trivial⟩ rfl) ?_)))))))))))))
  obtain ⟨x25, hx25, hr⟩ := bind_some hr
  refine OkOps.q (triLookG (agg := false) (ek := kStr) (ev := eBool) (L := s21.2) (r := aB x25.1) (gO_t hx25) rfl rfl rfl rfl (keyStr Tryd.underlying9) rfl rfl (fun _ _ => rfl) rfl ⟨fun h => h, ⟨fun h => h, trivial⟩⟩ rfl) (OkOps.q (triAnd rfl rfl (fun h => h) rfl) (OkOps.nil ?_))
  refine Ok.cond (b := (!(x24.Key.toList == (ByteArray.mk #[]).toList)) && x25.1) rfl (fun h26 => ?_) (fun h26 => ?_)
  have hr := selT h26 hr
  refine Ok.seq (Ok.region (OkOps.y (aI 6) (OkOps.nil (Ok.ret ?_))))
  obtain rfl := Option.some.inj hr
  exact ⟨_, rfl, .inl rfl, ⟨rfl, trivial⟩⟩
  have hr := selF h26 hr
  refine Ok.skip (Ok.region (OkOps.y (.c (.own 2)) (OkOps.y (.c (.loc 4 1)) (OkOps.y (aS x24.Key) (OkOps.w (triMapUp (ek := kStr) (ev := eBool) (L := s21.2) (z := true) rfl rfl rfl rfl rfl rfl (keyStr Tryd.underlying9) (fun _ _ => rfl) rfl trivial) (OkOps.nil (Ok.region (OkOps.y (aI (IntKind.i64.wrap (s21.1 + 1))) (OkOps.y (aI (IntKind.i64.wrap (s21.1 + 1))) (OkOps.nil ?_))))))))))
  exact ⟨(IntKind.i64.wrap (s21.1 + 1), msetL s21.2 x24.Key true), hr, (Conv.mk (tau []) ⟨⟨_, rfl, .inl rfl⟩, ⟨_, rfl, .inl rfl⟩, ⟨_, rfl, .inl rfl⟩, ⟨_, rfl, .inl rfl⟩, ⟨_, rfl, .inl rfl⟩, ⟨_, rfl, .inl rfl⟩, ⟨_, rfl, .inl rfl⟩, trivial⟩ ⟨rfl, rfl, rfl, trivial⟩ rfl rfl rfl rfl)⟩
  have hr := selF h23 hr
  refine Ok.exit ?_
  exact ⟨(), hr, (Conv.mk (tau []) ⟨⟨_, rfl, .inl rfl⟩, ⟨_, rfl, .inl rfl⟩, ⟨_, rfl, .inl rfl⟩, trivial⟩ ⟨rfl, rfl, trivial⟩ rfl rfl rfl rfl)⟩
theorem vw_validate_all : ∀ n : Nat, (∀ (v : View) (depth : Int) (p_n : Int) {r : Int × Int}, vw_validate n v depth p_n = some r → Con Tryd.prog 52 [.agg [cI v.Kind, cS v.Key, .d (.sl (List.map Attr.cs v.Attrs)), .d (.sl (List.map Action.cs v.Actions)), .d (.sl (List.map View.cs v.Kids))], aI depth, .c (.loc 0 0)] [(0, .blk [cI p_n] 3)] (.s (aI r.1)) [(0, .blk [cI r.2] 3)]) ∧ True := by
  intro n
  induction n with
  | zero => exact ⟨(by intros; rename_i hr; cases hr), trivial⟩
  | succ n ih => exact ⟨(by intros; rename_i hr; exact vw_validate_B_c _ ih.1 _ _ _ hr), trivial⟩
theorem vw_validate_c (n : Nat) (v : View) (depth : Int) (p_n : Int) {r : Int × Int} (hr : vw_validate n v depth p_n = some r) : Con Tryd.prog 52 [.agg [cI v.Kind, cS v.Key, .d (.sl (List.map Attr.cs v.Attrs)), .d (.sl (List.map Action.cs v.Actions)), .d (.sl (List.map View.cs v.Kids))], aI depth, .c (.loc 0 0)] [(0, .blk [cI p_n] 3)] (.s (aI r.1)) [(0, .blk [cI r.2] 3)] := (vw_validate_all n).1 v depth p_n hr
theorem vw_Validate_c (v : View) {r : Int} (hr : vw_Validate v = some r) : Con Tryd.prog 17 [.agg [cI v.Kind, cS v.Key, .d (.sl (List.map Attr.cs v.Attrs)), .d (.sl (List.map Action.cs v.Actions)), .d (.sl (List.map View.cs v.Kids))]] [] (.s (aI r)) [] := by
  unfold vw_Validate at hr
  refine Con.of_ok 6 0 [.tmp 2] [(0, .s (.agg [cI v.Kind, cS v.Key, .d (.sl (List.map Attr.cs v.Attrs)), .d (.sl (List.map Action.cs v.Actions)), .d (.sl (List.map View.cs v.Kids))]))] Tryd.func17 rfl rfl rfl rfl rfl rfl rfl rfl fun w g M ρ _ => (Ok.seq (Ok.region (OkOps.m 0 (triBox (j := 0) (cs := [cI v.Kind, cS v.Key, .d (.sl (List.map Attr.cs v.Attrs)), .d (.sl (List.map Action.cs v.Actions)), .d (.sl (List.map View.cs v.Kids))]) rfl rfl rfl rfl rfl) (OkOps.y (aI 0) (OkOps.nil (Ok.seq (Ok.region (OkOps.m 0 (triAlloc (j := 1) (cs := [cI 0]) rfl rfl rfl rfl) (OkOps.w (triStore (cs' := [cI 0]) rfl rfl rfl rfl rfl rfl rfl rfl rfl) (OkOps.nil (Ok.seq (Ok.region (OkOps.y (.agg [cI v.Kind, cS v.Key, .d (.sl (List.map Attr.cs v.Attrs)), .d (.sl (List.map Action.cs v.Actions)), .d (.sl (List.map View.cs v.Kids))]) ?_)))))))))))))
  obtain ⟨x1, hx1, hr⟩ := bind_some hr
  refine OkOps.m 0 (triCl (tau [(0, 1)]) (.s (aI x1.1)) [(1, .blk [cI x1.2] 3)] (vw_validate_c _ _ _ _ hx1) rfl ⟨.inl rfl, .inl rfl, .inl rfl, trivial⟩ trivial entry52 ⟨rfl, trivial⟩) (OkOps.y (aI x1.1) (OkOps.nil (Ok.ret ?_)))
  obtain rfl := Option.some.inj hr
  exact ⟨_, rfl, .inl rfl, trivial⟩
theorem entry17 : Entry Tryd.prog 17 := ⟨_, Tryd.func17, by kernel_rfl, by kernel_rfl⟩
theorem entry60 : Entry Tryd.prog 60 := ⟨_, Tryd.func60, by kernel_rfl, by kernel_rfl⟩
theorem entry83 : Entry Tryd.prog 83 := ⟨_, Tryd.func83, by kernel_rfl, by kernel_rfl⟩
theorem vw_value_B_c (self0 : AValue → Option AValue) (self1 : (List AValue) → Option (List AValue)) (_hself0 : ∀ (v : AValue) {r : AValue}, self0 v = some r → Con Tryd.prog 60 [.agg [cI v.Kind, cI v.N, cS v.S, .d (.sl (List.map AValue.cs v.L))]] [] (.s (.agg [cI r.Kind, cI r.N, cS r.S, .d (.sl (List.map AValue.cs r.L))])) []) (hself1 : ∀ (l : (List AValue)) {r : (List AValue)}, self1 l = some r → Con Tryd.prog 83 [.c (.d (.sl (List.map AValue.cs l)))] [] (.s (.c (.d (.sl (List.map AValue.cs r))))) []) (v : AValue) {r : AValue} (hr : vw_value_B self0 self1 v = some r) : Con Tryd.prog 60 [.agg [cI v.Kind, cI v.N, cS v.S, .d (.sl (List.map AValue.cs v.L))]] [] (.s (.agg [cI r.Kind, cI r.N, cS r.S, .d (.sl (List.map AValue.cs r.L))])) [] := by
  unfold vw_value_B at hr
  refine Con.of_ok 8 0 [.cell 2 40] [(0, .s (.agg [cI v.Kind, cI v.N, cS v.S, .d (.sl (List.map AValue.cs v.L))]))] Tryd.func60 rfl rfl rfl rfl rfl rfl rfl rfl fun w g M ρ _ => (Ok.seq (Ok.region (OkOps.m 0 (triBox (j := 0) (cs := [cI v.Kind, cI v.N, cS v.S, .d (.sl (List.map AValue.cs v.L))]) rfl rfl rfl rfl rfl) (OkOps.m 0 (triAlloc (j := 1) (cs := [cI 0, cI 0, cS ByteArray.empty, .d (.v (.slice none 0 0))]) rfl rfl rfl rfl) (OkOps.nil (Ok.seq (Ok.region (OkOps.y (.c (.loc 0 3)) (OkOps.y (.c (.d (.sl (List.map AValue.cs v.L)))) ?_)))))))))
  obtain ⟨x1, hx1, hr⟩ := bind_some hr
  refine OkOps.q (triCl (tau []) (.s (.c (.d (.sl (List.map AValue.cs x1))))) [] (hself1 _ hx1) rfl ⟨.inl rfl, trivial⟩ trivial entry83 trivial) (OkOps.y (.c (.loc 0 3)) (OkOps.w (triStore (cs' := [cI v.Kind, cI v.N, cS v.S, .d (.sl (List.map AValue.cs x1))]) rfl rfl rfl rfl rfl rfl rfl rfl rfl) (OkOps.nil (Ok.seq (Ok.region (OkOps.y (.agg [cI v.Kind, cI v.N, cS v.S, .d (.sl (List.map AValue.cs x1))]) (OkOps.w (triStore (cs' := [cI v.Kind, cI v.N, cS v.S, .d (.sl (List.map AValue.cs x1))]) rfl rfl rfl rfl rfl rfl rfl rfl rfl) (OkOps.nil (Ok.ret ?_)))))))))
  obtain rfl := Option.some.inj hr
  exact ⟨_, rfl, .inl rfl, trivial⟩
theorem vw_values_B_c (self0 : AValue → Option AValue) (self1 : (List AValue) → Option (List AValue)) (hself0 : ∀ (v : AValue) {r : AValue}, self0 v = some r → Con Tryd.prog 60 [.agg [cI v.Kind, cI v.N, cS v.S, .d (.sl (List.map AValue.cs v.L))]] [] (.s (.agg [cI r.Kind, cI r.N, cS r.S, .d (.sl (List.map AValue.cs r.L))])) []) (_hself1 : ∀ (l : (List AValue)) {r : (List AValue)}, self1 l = some r → Con Tryd.prog 83 [.c (.d (.sl (List.map AValue.cs l)))] [] (.s (.c (.d (.sl (List.map AValue.cs r))))) []) (l : (List AValue)) {r : (List AValue)} (hr : vw_values_B self0 self1 l = some r) : Con Tryd.prog 83 [.c (.d (.sl (List.map AValue.cs l)))] [] (.s (.c (.d (.sl (List.map AValue.cs r))))) [] := by
  unfold vw_values_B at hr
  refine Con.of_ok 19 0 [.tmp 2] [(0, .s (.c (.d (.sl (List.map AValue.cs l)))))] Tryd.func83 rfl rfl rfl rfl rfl rfl rfl rfl fun w g M ρ _ => (Ok.seq (Ok.region (OkOps.y (.c (.d (.v (.slice none 0 0)))) (OkOps.nil (Ok.seq (Ok.region (OkOps.y (.c (.d (.v (.slice none 0 0)))) (OkOps.nil ?_))))))))
  obtain ⟨k2, hk2, hr⟩ := jn_some hr
  refine Ok.join (fun (s1 : (List AValue)) => ⟨[(3, .s (.c (.tl 1004 (List.map AValue.cs s1))))], [(1004, .tail 4)], 0⟩) k2 r (fun s1 hr => ?_) ?_
  rw [hk2] at hr
  refine Ok.seq (Ok.region (OkOps.y (.c (.tl 1004 (List.map AValue.cs s1))) (OkOps.y (.c (.tl 1004 (List.map AValue.cs s1))) (OkOps.nil (Ok.ret ?_)))))
  obtain rfl := Option.some.inj hr
  exact ⟨_, rfl, .inr rfl, trivial⟩
  clear hk2
  refine Ok.seq (Ok.region (OkOps.y (.c (.d (.sl (List.map AValue.cs l)))) (OkOps.q (triLen (enc := AValue.cs) l rfl rfl trivial rfl) (OkOps.y (aI 0) (OkOps.nil (Ok.block (Ok.loopK (fun (s3 : (List AValue) × Int) => ⟨[(3, .s (.c (.tl 1007 (List.map AValue.cs s3.1)))), (6, .s (.c (.d (.sl (List.map AValue.cs l))))), (7, .s (aI (l.length : Int))), (8, .s (aI s3.2))], [(1007, .tail 4)], 0⟩) hr (Conv.trans (Conv.nil 3 1009 4 0 rfl rfl) (Conv.mk (tau [(1007, 1009)]) ⟨⟨_, rfl, .inl rfl⟩, ⟨_, rfl, .inl rfl⟩, ⟨_, rfl, .inl rfl⟩, ⟨_, rfl, .inl rfl⟩, trivial⟩ ⟨rfl, trivial⟩ rfl rfl rfl rfl)) ?_)))))))
  clear hr
  intro again4 s3 hr
  unfold vw_values_L1 at hr
  refine Ok.seq (Ok.region (OkOps.y (aB (decide (s3.2 < (l.length : Int)))) (OkOps.nil (Ok.seq ?_))))
  refine Ok.cond (b := decide (s3.2 < (l.length : Int))) rfl (fun h5 => ?_) (fun h5 => ?_)
  have hr := selT h5 hr
  refine Ok.skip (Ok.seq (Ok.block (Ok.seq (Ok.region ?_))))
  obtain ⟨x6, hx6, hr⟩ := bind_some hr
  refine OkOps.q (triIdx (enc := AValue.cs) (L := l) (row := [dI x6.Kind, dI x6.N, dS x6.S, .sl (List.map AValue.cs x6.L)]) hx6 (AValue.cs_eq _) rfl rfl rfl (fun x => by rw [AValue.cs_eq]; rfl) trivial rfl) ?_
  refine OkOps.y (.agg [cI x6.Kind, cI x6.N, cS x6.S, .d (.sl (List.map AValue.cs x6.L))]) (OkOps.m 0 (triAlloc (j := 0) (cs := [cI 0, cI 0, cS ByteArray.empty, .d (.v (.slice none 0 0))]) rfl rfl rfl rfl) (OkOps.w (triStore (cs' := [cI x6.Kind, cI x6.N, cS x6.S, .d (.sl (List.map AValue.cs x6.L))]) rfl rfl rfl rfl rfl rfl rfl rfl rfl) (OkOps.nil (Ok.region (OkOps.y (.c (.tl 1007 (List.map AValue.cs s3.1))) (OkOps.y (.agg [cI x6.Kind, cI x6.N, cS x6.S, .d (.sl (List.map AValue.cs x6.L))]) ?_))))))
  obtain ⟨x7, hx7, hr⟩ := bind_some hr
  refine OkOps.q (triCl (tau []) (.s (.agg [cI x7.Kind, cI x7.N, cS x7.S, .d (.sl (List.map AValue.cs x7.L))])) [] (hself0 _ hx7) rfl ⟨.inl rfl, trivial⟩ trivial entry60 trivial) ?_
  refine OkOps.m 0 (triBST (sz := 4) (enc := AValue.cs) (j := 1) ([x7]) rfl rfl rfl rfl rfl (rows := [[dI x7.Kind, dI x7.N, dS x7.S, .sl (List.map AValue.cs x7.L)]]) (by simp only [List.map, AValue.cs_eq]) rfl rfl (fun x => by rw [AValue.cs_eq]; rfl) trivial rfl rfl) ?_
  obtain ⟨x8, hx8, hr⟩ := bind_some hr
  refine OkOps.m2 0 (triApp (enc := AValue.cs) (L := s3.1) (X := [x7]) (j := 1007) (j' := 2) hx8 rfl rfl rfl rfl rfl rfl (fun x => by rw [AValue.cs_eq]; rfl) (fun x => by rw [AValue.cs_eq]; rfl) (by decide) trivial rfl rfl) ?_
  refine OkOps.y (.c (.tl 2 (List.map AValue.cs x8))) (OkOps.nil (Ok.region (OkOps.y (aI (IntKind.i64.wrap (s3.2 + 1))) (OkOps.y (aI (IntKind.i64.wrap (s3.2 + 1))) (OkOps.nil ?_)))))
  exact ⟨(x8, IntKind.i64.wrap (s3.2 + 1)), hr, (Conv.mk (tau [(1007, 2)]) ⟨⟨_, rfl, .inl rfl⟩, ⟨_, rfl, .inl rfl⟩, ⟨_, rfl, .inl rfl⟩, ⟨_, rfl, .inl rfl⟩, trivial⟩ ⟨rfl, trivial⟩ rfl rfl rfl rfl)⟩
  have hr := selF h5 hr
  refine Ok.exit ?_
  exact ⟨s3.1, hr, (Conv.mk (tau [(1004, 1007)]) ⟨⟨_, rfl, .inl rfl⟩, trivial⟩ ⟨rfl, trivial⟩ rfl rfl rfl rfl)⟩
theorem vw_value_all : ∀ n : Nat, (∀ (v : AValue) {r : AValue}, vw_value n v = some r → Con Tryd.prog 60 [.agg [cI v.Kind, cI v.N, cS v.S, .d (.sl (List.map AValue.cs v.L))]] [] (.s (.agg [cI r.Kind, cI r.N, cS r.S, .d (.sl (List.map AValue.cs r.L))])) []) ∧ (∀ (l : (List AValue)) {r : (List AValue)}, vw_values n l = some r → Con Tryd.prog 83 [.c (.d (.sl (List.map AValue.cs l)))] [] (.s (.c (.d (.sl (List.map AValue.cs r))))) []) ∧ True := by
  intro n
  induction n with
  | zero => exact ⟨(by intros; rename_i hr; cases hr), (by intros; rename_i hr; cases hr), trivial⟩
  | succ n ih => exact ⟨(by intros; rename_i hr; exact vw_value_B_c _ _ ih.1 ih.2.1 _ hr), (by intros; rename_i hr; exact vw_values_B_c _ _ ih.1 ih.2.1 _ hr), trivial⟩
theorem vw_value_c (n : Nat) (v : AValue) {r : AValue} (hr : vw_value n v = some r) : Con Tryd.prog 60 [.agg [cI v.Kind, cI v.N, cS v.S, .d (.sl (List.map AValue.cs v.L))]] [] (.s (.agg [cI r.Kind, cI r.N, cS r.S, .d (.sl (List.map AValue.cs r.L))])) [] := (vw_value_all n).1 v hr
theorem vw_values_c (n : Nat) (l : (List AValue)) {r : (List AValue)} (hr : vw_values n l = some r) : Con Tryd.prog 83 [.c (.d (.sl (List.map AValue.cs l)))] [] (.s (.c (.d (.sl (List.map AValue.cs r))))) [] := (vw_value_all n).2.1 l hr
theorem vw_copied_c (attrs : (List Attr)) (acts : (List Action)) {r : (List Attr) × (List Action)} (hr : vw_copied attrs acts = some r) : Con Tryd.prog 59 [.c (.d (.sl (List.map Attr.cs attrs))), .c (.d (.sl (List.map Action.cs acts)))] [] (.tup [.c (.d (.sl (List.map Attr.cs r.1))), .c (.d (.sl (List.map Action.cs r.2)))]) [] := by
  unfold vw_copied at hr
  refine Con.of_ok 45 0 [.tmp 4, .tmp 5] [(0, .s (.c (.d (.sl (List.map Attr.cs attrs))))), (1, .s (.c (.d (.sl (List.map Action.cs acts)))))] Tryd.func59 rfl rfl rfl rfl rfl rfl rfl rfl fun w g M ρ _ => (Ok.seq (Ok.region (OkOps.y (.c (.d (.v (.slice none 0 0)))) (OkOps.y (.c (.d (.v (.slice none 0 0)))) (OkOps.nil (Ok.seq (Ok.region (OkOps.y (.c (.d (.v (.slice none 0 0)))) (OkOps.nil ?_)))))))))
  obtain ⟨k2, hk2, hr⟩ := jn_some hr
  refine Ok.join (fun (s1 : (List Attr)) => ⟨[(1, .s (.c (.d (.sl (List.map Action.cs acts))))), (6, .s (.c (.tl 1004 (List.map Attr.cs s1))))], [(1004, .tail 5)], 0⟩) k2 r (fun s1 hr => ?_) ?_
  rw [hk2] at hr
  refine Ok.seq (Ok.region (OkOps.y (.c (.d (.v (.slice none 0 0)))) (OkOps.nil ?_)))
  obtain ⟨k4, hk4, hr⟩ := jn_some hr
  refine Ok.join (fun (s3 : (List Action)) => ⟨[(6, .s (.c (.tl 1004 (List.map Attr.cs s1)))), (9, .s (.c (.tl 1009 (List.map Action.cs s3))))], [(1004, .tail 5), (1009, .tail 4)], 0⟩) k4 r (fun s3 hr => ?_) ?_
  rw [hk4] at hr
  refine Ok.seq (Ok.region (OkOps.y (.c (.tl 1004 (List.map Attr.cs s1))) (OkOps.y (.c (.tl 1009 (List.map Action.cs s3))) (OkOps.y (.c (.tl 1004 (List.map Attr.cs s1))) (OkOps.y (.c (.tl 1009 (List.map Action.cs s3))) (OkOps.nil (Ok.ret ?_)))))))
  obtain rfl := Option.some.inj hr
  exact ⟨_, rfl, .inr rfl, trivial⟩
  clear hk4
  refine Ok.seq (Ok.region (OkOps.y (.c (.d (.sl (List.map Action.cs acts)))) (OkOps.q (triLen (enc := Action.cs) acts rfl rfl trivial rfl) (OkOps.y (aI 0) (OkOps.nil (Ok.block (Ok.loopK (fun (s5 : (List Action) × Int) => ⟨[(6, .s (.c (.tl 1004 (List.map Attr.cs s1)))), (9, .s (.c (.tl 1012 (List.map Action.cs s5.1)))), (28, .s (.c (.d (.sl (List.map Action.cs acts))))), (29, .s (aI (acts.length : Int))), (30, .s (aI s5.2))], [(1004, .tail 5), (1012, .tail 4)], 0⟩) hr (Conv.trans (Conv.nil 9 1014 4 0 rfl rfl) (Conv.mk (tau [(1012, 1014)]) ⟨⟨_, rfl, .inl rfl⟩, ⟨_, rfl, .inl rfl⟩, ⟨_, rfl, .inl rfl⟩, ⟨_, rfl, .inl rfl⟩, ⟨_, rfl, .inl rfl⟩, trivial⟩ ⟨rfl, rfl, trivial⟩ rfl rfl rfl rfl)) ?_)))))))
  clear hr
  intro again6 s5 hr
  unfold vw_copied_L1 at hr
  refine Ok.seq (Ok.region (OkOps.y (aB (decide (s5.2 < (acts.length : Int)))) (OkOps.nil (Ok.seq ?_))))
  refine Ok.cond (b := decide (s5.2 < (acts.length : Int))) rfl (fun h7 => ?_) (fun h7 => ?_)
  have hr := selT h7 hr
  refine Ok.skip (Ok.seq (Ok.block (Ok.seq (Ok.region ?_))))
  obtain ⟨x8, hx8, hr⟩ := bind_some hr
  refine OkOps.q (triIdx (enc := Action.cs) (L := acts) (row := [dS x8.Event, dS x8.Instance, dS x8.Handler, .sl (List.map AValue.cs x8.Args)]) hx8 rfl rfl rfl rfl (fun _ => rfl) trivial rfl) (OkOps.y (.agg [cS x8.Event, cS x8.Instance, cS x8.Handler, .d (.sl (List.map AValue.cs x8.Args))]) (OkOps.m 0 (triAlloc (j := 0) (cs := [cS ByteArray.empty, cS ByteArray.empty, cS ByteArray.empty, .d (.v (.slice none 0 0))]) rfl rfl rfl rfl) (OkOps.w (triStore (cs' := [cS x8.Event, cS x8.Instance, cS x8.Handler, .d (.sl (List.map AValue.cs x8.Args))]) rfl rfl rfl rfl rfl rfl rfl rfl rfl) (OkOps.nil (Ok.seq (Ok.region (OkOps.y (.c (.loc 0 3)) (OkOps.y (.c (.d (.sl (List.map AValue.cs x8.Args)))) ?_))))))))
  obtain ⟨x9, hx9, hr⟩ := bind_some hr
  refine OkOps.q (triCl (tau []) (.s (.c (.d (.sl (List.map AValue.cs x9))))) [] (vw_values_c _ _ hx9) rfl ⟨.inl rfl, trivial⟩ trivial entry83 trivial) (OkOps.y (.c (.loc 0 3)) (OkOps.w (triStore (cs' := [cS x8.Event, cS x8.Instance, cS x8.Handler, .d (.sl (List.map AValue.cs x9))]) rfl rfl rfl rfl rfl rfl rfl rfl rfl) (OkOps.nil (Ok.region (OkOps.y (.c (.tl 1012 (List.map Action.cs s5.1))) (OkOps.y (.agg [cS x8.Event, cS x8.Instance, cS x8.Handler, .d (.sl (List.map AValue.cs x9))]) (OkOps.m 0 (triBST (sz := 4) (enc := Action.cs) (j := 1) ([(Action.mk x8.Event x8.Instance x8.Handler x9)]) rfl rfl rfl rfl rfl rfl rfl rfl (fun _ => rfl) trivial rfl rfl) ?_)))))))
  obtain ⟨x10, hx10, hr⟩ := bind_some hr
  refine OkOps.m2 0 (triApp (enc := Action.cs) (L := s5.1) (X := [(Action.mk x8.Event x8.Instance x8.Handler x9)]) (j := 1012) (j' := 2) hx10 rfl rfl rfl rfl rfl rfl (fun _ => rfl) (fun _ => rfl) (by decide) trivial rfl rfl) (OkOps.y (.c (.tl 2 (List.map Action.cs x10))) (OkOps.nil (Ok.region (OkOps.y (aI (IntKind.i64.wrap (s5.2 + 1))) (OkOps.y (aI (IntKind.i64.wrap (s5.2 + 1))) (OkOps.nil ?_))))))
  exact ⟨(x10, IntKind.i64.wrap (s5.2 + 1)), hr, (Conv.mk (tau [(1012, 2)]) ⟨⟨_, rfl, .inl rfl⟩, ⟨_, rfl, .inl rfl⟩, ⟨_, rfl, .inl rfl⟩, ⟨_, rfl, .inl rfl⟩, ⟨_, rfl, .inl rfl⟩, trivial⟩ ⟨rfl, rfl, trivial⟩ rfl rfl rfl rfl)⟩
  have hr := selF h7 hr
  refine Ok.exit ?_
  exact ⟨s5.1, hr, (Conv.mk (tau [(1009, 1012)]) ⟨⟨_, rfl, .inl rfl⟩, ⟨_, rfl, .inl rfl⟩, trivial⟩ ⟨rfl, rfl, trivial⟩ rfl rfl rfl rfl)⟩
  clear hk2
  refine Ok.seq (Ok.region (OkOps.y (.c (.d (.sl (List.map Attr.cs attrs)))) (OkOps.q (triLen (enc := Attr.cs) attrs rfl rfl trivial rfl) (OkOps.y (aI 0) (OkOps.nil (Ok.block (Ok.loopK (fun (s11 : (List Attr) × Int) => ⟨[(1, .s (.c (.d (.sl (List.map Action.cs acts))))), (6, .s (.c (.tl 1017 (List.map Attr.cs s11.1)))), (12, .s (.c (.d (.sl (List.map Attr.cs attrs))))), (13, .s (aI (attrs.length : Int))), (14, .s (aI s11.2))], [(1017, .tail 5)], 0⟩) hr (Conv.trans (Conv.nil 6 1019 5 0 rfl rfl) (Conv.mk (tau [(1017, 1019)]) ⟨⟨_, rfl, .inl rfl⟩, ⟨_, rfl, .inl rfl⟩, ⟨_, rfl, .inl rfl⟩, ⟨_, rfl, .inl rfl⟩, ⟨_, rfl, .inl rfl⟩, trivial⟩ ⟨rfl, trivial⟩ rfl rfl rfl rfl)) ?_)))))))
  clear hr
  intro again12 s11 hr
  unfold vw_copied_L2 at hr
  refine Ok.seq (Ok.region (OkOps.y (aB (decide (s11.2 < (attrs.length : Int)))) (OkOps.nil (Ok.seq ?_))))
  refine Ok.cond (b := decide (s11.2 < (attrs.length : Int))) rfl (fun h13 => ?_) (fun h13 => ?_)
  have hr := selT h13 hr
  refine Ok.skip (Ok.seq (Ok.block (Ok.seq (Ok.region ?_))))
  obtain ⟨x14, hx14, hr⟩ := bind_some hr
  refine OkOps.q (triIdx (enc := Attr.cs) (L := attrs) (row := [dS x14.Name, dI x14.Value.Kind, dI x14.Value.N, dS x14.Value.S, .sl (List.map AValue.cs x14.Value.L)]) hx14 rfl rfl rfl rfl (fun _ => rfl) trivial rfl) (OkOps.y (.agg [cS x14.Name, cI x14.Value.Kind, cI x14.Value.N, cS x14.Value.S, .d (.sl (List.map AValue.cs x14.Value.L))]) (OkOps.m 0 (triAlloc (j := 3) (cs := [cS ByteArray.empty, cI 0, cI 0, cS ByteArray.empty, .d (.v (.slice none 0 0))]) rfl rfl rfl rfl) (OkOps.w (triStore (cs' := [cS x14.Name, cI x14.Value.Kind, cI x14.Value.N, cS x14.Value.S, .d (.sl (List.map AValue.cs x14.Value.L))]) rfl rfl rfl rfl rfl rfl rfl rfl rfl) (OkOps.nil (Ok.regionD (by kernel_rfl) (OkD.x (.c (.tl 1017 (List.map Attr.cs s11.1))) rfl trivial rfl (OkD.x (.c (.loc 3 0)) rfl trivial rfl (OkD.x (aS x14.Name) rfl trivial rfl (OkD.x (.c (.loc 3 1)) rfl trivial rfl (OkD.x (.agg [cI x14.Value.Kind, cI x14.Value.N, cS x14.Value.S, .d (.sl (List.map AValue.cs x14.Value.L))]) rfl trivial rfl ?_))))))))))
  obtain ⟨x15, hx15, hr⟩ := bind_some hr
  refine OkD.q (triCl (tau []) (.s (.agg [cI x15.Kind, cI x15.N, cS x15.S, .d (.sl (List.map AValue.cs x15.L))])) [] (vw_value_c _ _ hx15) rfl ⟨.inl rfl, trivial⟩ trivial entry60 trivial) (OkD.x (.agg [cS x14.Name, cI x15.Kind, cI x15.N, cS x15.S, .d (.sl (List.map AValue.cs x15.L))]) rfl trivial rfl (OkD.m 0 (triBST (sz := 5) (enc := Attr.cs) (j := 4) ([(Attr.mk x14.Name x15)]) rfl rfl rfl rfl rfl rfl rfl rfl (fun _ => rfl) trivial rfl rfl) ?_))
  obtain ⟨x16, hx16, hr⟩ := bind_some hr
  refine OkD.m2 0 (triApp (enc := Attr.cs) (L := s11.1) (X := [(Attr.mk x14.Name x15)]) (j := 1017) (j' := 5) hx16 rfl rfl rfl rfl rfl rfl (fun _ => rfl) (fun _ => rfl) (by decide) trivial rfl rfl) (OkD.x (.c (.tl 5 (List.map Attr.cs x16))) rfl trivial rfl (OkD.nil (by kernel_rfl) (Ok.region (OkOps.y (aI (IntKind.i64.wrap (s11.2 + 1))) (OkOps.y (aI (IntKind.i64.wrap (s11.2 + 1))) (OkOps.nil ?_))))))
  exact ⟨(x16, IntKind.i64.wrap (s11.2 + 1)), hr, (Conv.mk (tau [(1017, 5)]) ⟨⟨_, rfl, .inl rfl⟩, ⟨_, rfl, .inl rfl⟩, ⟨_, rfl, .inl rfl⟩, ⟨_, rfl, .inl rfl⟩, ⟨_, rfl, .inl rfl⟩, trivial⟩ ⟨rfl, trivial⟩ rfl rfl rfl rfl)⟩
  have hr := selF h13 hr
  refine Ok.exit ?_
  exact ⟨s11.1, hr, (Conv.mk (tau [(1004, 1017)]) ⟨⟨_, rfl, .inl rfl⟩, ⟨_, rfl, .inl rfl⟩, trivial⟩ ⟨rfl, trivial⟩ rfl rfl rfl rfl)⟩
theorem entry59 : Entry Tryd.prog 59 := ⟨_, Tryd.func59, by kernel_rfl, by kernel_rfl⟩
theorem entry67 : Entry Tryd.prog 67 := ⟨_, Tryd.func67, by kernel_rfl, by kernel_rfl⟩
theorem vw_preorder_B_c (self0 : (List (Int × Node)) → Int → Option (List Int)) (hself0 : ∀ (nodes : (List (Int × Node))) (id : Int) {r : (List Int)}, self0 nodes id = some r → Con Tryd.prog 67 [.c (.d (.mp true (encM (kInt .i64) Node.cs nodes))), aI id] [] (.s (.c (.d (.sl (List.map (eInt .i64) r))))) []) (nodes : (List (Int × Node))) (id : Int) {r : (List Int)} (hr : vw_preorder_B self0 nodes id = some r) : Con Tryd.prog 67 [.c (.d (.mp true (encM (kInt .i64) Node.cs nodes))), aI id] [] (.s (.c (.d (.sl (List.map (eInt .i64) r))))) [] := by
  unfold vw_preorder_B at hr
  refine Con.of_ok 26 0 [.tmp 4] [(0, .s (.c (.d (.mp true (encM (kInt .i64) Node.cs nodes))))), (1, .s (aI id))] Tryd.func67 rfl rfl rfl rfl rfl rfl rfl rfl fun w g M ρ _ => (Ok.seq (Ok.region (OkOps.y (.c (.d (.v (.slice none 0 0)))) (OkOps.nil (Ok.seq (Ok.region (OkOps.y (aI id) (OkOps.m 0 (triBST (sz := 1) (enc := (eInt .i64)) (j := 0) ([id]) rfl rfl rfl rfl rfl rfl rfl rfl (fun _ => rfl) trivial rfl rfl) (OkOps.y (.c (.tl 0 (List.map (eInt .i64) ([id])))) (OkOps.nil ?_))))))))))
  obtain ⟨k2, hk2, hr⟩ := jn_some hr
  refine Ok.join (fun (s1 : (List Int)) => ⟨[(5, .s (.c (.tl 1003 (List.map (eInt .i64) s1))))], [(1003, .tail 1)], 0⟩) k2 r (fun s1 hr => ?_) ?_
  rw [hk2] at hr
  refine Ok.seq (Ok.region (OkOps.y (.c (.tl 1003 (List.map (eInt .i64) s1))) (OkOps.y (.c (.tl 1003 (List.map (eInt .i64) s1))) (OkOps.nil (Ok.ret ?_)))))
  obtain rfl := Option.some.inj hr
  exact ⟨_, rfl, .inr rfl, trivial⟩
  clear hk2
  refine Ok.seq (Ok.region (OkOps.y (.c (.d (.mp true (encM (kInt .i64) Node.cs nodes)))) (OkOps.y (aI id) ?_)))
  obtain ⟨x3, hx3, hr⟩ := bind_some hr
  refine OkOps.q (triLook (agg := true) (ek := (kInt .i64)) (ev := Node.cs) (L := nodes) (r := .agg [cI x3.1.ID, cI x3.1.Parent, cI x3.1.Kind, cS x3.1.Key, .d (.sl (List.map Attr.cs x3.1.Attrs)), .d (.sl (List.map Action.cs x3.1.Actions)), .d (.sl (List.map (eInt .i64) x3.1.Kids))]) hx3 rfl rfl rfl (keyInt Tryd.underlying3) rfl rfl (fun h => by cases h) rfl trivial rfl) ?_
  refine OkOps.y (.c (.d (.sl (List.map (eInt .i64) x3.1.Kids)))) (OkOps.q (triLen (enc := (eInt .i64)) x3.1.Kids rfl rfl trivial rfl) (OkOps.y (aI 0) (OkOps.nil (Ok.block (Ok.loopK (fun (s4 : (List Int) × Int) => ⟨[(0, .s (.c (.d (.mp true (encM (kInt .i64) Node.cs nodes))))), (5, .s (.c (.tl 1005 (List.map (eInt .i64) s4.1)))), (13, .s (.c (.d (.sl (List.map (eInt .i64) x3.1.Kids))))), (14, .s (aI (x3.1.Kids.length : Int))), (15, .s (aI s4.2))], [(1005, .tail 1)], 0⟩) hr (Conv.mk (tau [(1005, 0)]) ⟨⟨_, rfl, .inl rfl⟩, ⟨_, rfl, .inl rfl⟩, ⟨_, rfl, .inl rfl⟩, ⟨_, rfl, .inl rfl⟩, ⟨_, rfl, .inl rfl⟩, trivial⟩ ⟨rfl, trivial⟩ rfl rfl rfl rfl) ?_)))))
  clear hr
  intro again5 s4 hr
  unfold vw_preorder_L1 at hr
  refine Ok.seq (Ok.region (OkOps.y (aB (decide (s4.2 < (x3.1.Kids.length : Int)))) (OkOps.nil (Ok.seq ?_))))
  refine Ok.cond (b := decide (s4.2 < (x3.1.Kids.length : Int))) rfl (fun h6 => ?_) (fun h6 => ?_)
  have hr := selT h6 hr
  refine Ok.skip (Ok.seq (Ok.block (Ok.seq (Ok.region ?_))))
  obtain ⟨x7, hx7, hr⟩ := bind_some hr
  refine OkOps.q (triIdx (enc := (eInt .i64)) (L := x3.1.Kids) (row := [dI x7]) hx7 rfl rfl rfl rfl (fun _ => rfl) trivial rfl) (OkOps.y (aI x7) (OkOps.y (aI x7) (OkOps.nil (Ok.region (OkOps.y (.c (.tl 1005 (List.map (eInt .i64) s4.1))) (OkOps.y (.c (.d (.mp true (encM (kInt .i64) Node.cs nodes)))) (OkOps.y (aI x7) ?_)))))))
  obtain ⟨x8, hx8, hr⟩ := bind_some hr
  refine OkOps.q (triCl (tau []) (.s (.c (.d (.sl (List.map (eInt .i64) x8))))) [] (hself0 _ _ hx8) rfl ⟨.inl rfl, .inl rfl, trivial⟩ trivial entry67 trivial) ?_
  obtain ⟨x9, hx9, hr⟩ := bind_some hr
  refine OkOps.m2 0 (triApp (enc := (eInt .i64)) (L := s4.1) (X := x8) (j := 1005) (j' := 1) hx9 rfl rfl rfl rfl rfl rfl (fun _ => rfl) (fun _ => rfl) (by decide) trivial rfl rfl) (OkOps.y (.c (.tl 1 (List.map (eInt .i64) x9))) (OkOps.nil (Ok.region (OkOps.y (aI (IntKind.i64.wrap (s4.2 + 1))) (OkOps.y (aI (IntKind.i64.wrap (s4.2 + 1))) (OkOps.nil ?_))))))
  exact ⟨(x9, IntKind.i64.wrap (s4.2 + 1)), hr, (Conv.mk (tau [(1005, 1)]) ⟨⟨_, rfl, .inl rfl⟩, ⟨_, rfl, .inl rfl⟩, ⟨_, rfl, .inl rfl⟩, ⟨_, rfl, .inl rfl⟩, ⟨_, rfl, .inl rfl⟩, trivial⟩ ⟨rfl, trivial⟩ rfl rfl rfl rfl)⟩
  have hr := selF h6 hr
  refine Ok.exit ?_
  exact ⟨s4.1, hr, (Conv.mk (tau [(1003, 1005)]) ⟨⟨_, rfl, .inl rfl⟩, trivial⟩ ⟨rfl, trivial⟩ rfl rfl rfl rfl)⟩
theorem vw_preorder_all : ∀ n : Nat, (∀ (nodes : (List (Int × Node))) (id : Int) {r : (List Int)}, vw_preorder n nodes id = some r → Con Tryd.prog 67 [.c (.d (.mp true (encM (kInt .i64) Node.cs nodes))), aI id] [] (.s (.c (.d (.sl (List.map (eInt .i64) r))))) []) ∧ True := by
  intro n
  induction n with
  | zero => exact ⟨(by intros; rename_i hr; cases hr), trivial⟩
  | succ n ih => exact ⟨(by intros; rename_i hr; exact vw_preorder_B_c _ ih.1 _ _ hr), trivial⟩
theorem vw_preorder_c (n : Nat) (nodes : (List (Int × Node))) (id : Int) {r : (List Int)} (hr : vw_preorder n nodes id = some r) : Con Tryd.prog 67 [.c (.d (.mp true (encM (kInt .i64) Node.cs nodes))), aI id] [] (.s (.c (.d (.sl (List.map (eInt .i64) r))))) [] := (vw_preorder_all n).1 nodes id hr
theorem vw_graph_c (t : Tree) {r : (List (Int × Node)) × Bool} (hr : vw_graph t = some r) : Con Tryd.prog 90 [.agg [cI t.Root, cI t.Next, .d (.sl (List.map Node.cs t.Nodes))]] [] (.tup [.c (.d (.mp true (encM (kInt .i64) Node.cs r.1))), aB r.2]) [] := by
  unfold vw_graph at hr
  refine Con.of_ok 139 0 [.tmp 2, .tmp 3] [(0, .s (.agg [cI t.Root, cI t.Next, .d (.sl (List.map Node.cs t.Nodes))]))] Tryd.func90 rfl rfl rfl rfl rfl rfl rfl rfl fun w g M ρ _ => (Ok.seq (Ok.region (OkOps.m 0 (triBox (j := 0) (cs := [cI t.Root, cI t.Next, .d (.sl (List.map Node.cs t.Nodes))]) rfl rfl rfl rfl rfl) (OkOps.y (.c (.d (.v (.map none)))) (OkOps.y (aB false) (OkOps.nil (Ok.seq (Ok.seq (Ok.region (OkOps.y (.c (.loc 0 1)) (OkOps.y (aI t.Next) (OkOps.y (aB (decide (t.Next < 2))) (OkOps.y (aB (decide (t.Next < 2))) (OkOps.q (triQG (x := .c (.loc 0 1)) rfl rfl trivial rfl) (OkOps.q (triQG (x := aI t.Next) rfl rfl ⟨fun h => h, trivial⟩ rfl) ?_)))))))))))))))
  refine OkOps.q (triQG (x := aB (decide (t.Next > 1099511627776))) rfl rfl ⟨fun h => h, trivial⟩ rfl) ?_
  refine OkOps.q (triOr rfl rfl (fun h => by rw [h]; rfl) rfl) ?_
  refine OkOps.y (aB ((decide (t.Next < 2)) || (decide (t.Next > 1099511627776)))) (OkOps.q (triQG (x := .c (.loc 0 2)) rfl rfl trivial rfl) (OkOps.q (triQG (x := .c (.d (.sl (List.map Node.cs t.Nodes)))) rfl rfl ⟨fun h => h, trivial⟩ rfl) (OkOps.q (triLenG (enc := Node.cs) t.Nodes rfl rfl rfl ⟨fun h => h, trivial⟩ rfl) (OkOps.q (triQG (x := aB (decide ((t.Nodes.length : Int) < 1))) rfl rfl ⟨fun h => h, trivial⟩ rfl) ?_))))
  refine OkOps.q (triOr rfl rfl (fun h => by rw [h]; rfl) rfl) ?_
  refine OkOps.y (aB (((decide (t.Next < 2)) || (decide (t.Next > 1099511627776))) || (decide ((t.Nodes.length : Int) < 1)))) (OkOps.q (triQG (x := .c (.loc 0 2)) rfl rfl trivial rfl) (OkOps.q (triQG (x := .c (.d (.sl (List.map Node.cs t.Nodes)))) rfl rfl ⟨fun h => h, trivial⟩ rfl) (OkOps.q (triLenG (enc := Node.cs) t.Nodes rfl rfl rfl ⟨fun h => h, trivial⟩ rfl) (OkOps.q (triQG (x := aB (decide ((t.Nodes.length : Int) > 400))) rfl rfl ⟨fun h => h, trivial⟩ rfl) ?_))))
  refine OkOps.q (triOr rfl rfl (fun h => by rw [h]; rfl) rfl) ?_
  refine OkOps.nil ?_
  refine Ok.cond (b := (((decide (t.Next < 2)) || (decide (t.Next > 1099511627776))) || (decide ((t.Nodes.length : Int) < 1))) || (decide ((t.Nodes.length : Int) > 400))) rfl (fun h1 => ?_) (fun h1 => ?_)
  have hr := selT h1 hr
  refine Ok.seq (Ok.region (OkOps.y (.c (.d (.v (.map none)))) (OkOps.y (aB false) (OkOps.nil (Ok.conv (Conv.nilM 2 true rfl) (Ok.ret ?_))))))
  obtain rfl := Option.some.inj hr
  exact ⟨_, rfl, .inl rfl, trivial⟩
  have hr := selF h1 hr
  refine Ok.skip (Ok.seq (Ok.region (OkOps.m 0 (triMkM (j := 1) true rfl rfl) (OkOps.y (.c (.own 1)) (OkOps.nil (Ok.seq (Ok.region (OkOps.y (aI 0) (OkOps.nil ?_)))))))))
  obtain ⟨k3, hk3, hr⟩ := jn_some hr
  refine Ok.join (fun (s2 : (List (Int × Node))) => ⟨[(1, .s (.c (.loc 0 0))), (4, .s (.c (.own 1)))], [(0, .blk [cI t.Root, cI t.Next, .d (.sl (List.map Node.cs t.Nodes))] 51), (1, .mp true (encM (kInt .i64) Node.cs s2))], 0⟩) k3 r (fun s2 hr => ?_) ?_
  rw [hk3] at hr
  refine Ok.seq (Ok.seq (Ok.region (OkOps.y (.c (.own 1)) (OkOps.y (.c (.loc 0 0)) (OkOps.y (aI t.Root) ?_)))))
  obtain ⟨x4, hx4, hr⟩ := bind_some hr
  refine OkOps.q (triLookT (agg := true) (ek := (kInt .i64)) (ev := Node.cs) (L := s2) (r := .agg [cI x4.1.ID, cI x4.1.Parent, cI x4.1.Kind, cS x4.1.Key, .d (.sl (List.map Attr.cs x4.1.Attrs)), .d (.sl (List.map Action.cs x4.1.Actions)), .d (.sl (List.map (eInt .i64) x4.1.Kids))]) hx4 rfl rfl rfl (keyInt Tryd.underlying3) rfl rfl (fun h => by cases h) rfl trivial rfl) ?_
  refine OkOps.q (triMv (v := .tup [.agg [cI x4.1.ID, cI x4.1.Parent, cI x4.1.Kind, cS x4.1.Key, .d (.sl (List.map Attr.cs x4.1.Attrs)), .d (.sl (List.map Action.cs x4.1.Actions)), .d (.sl (List.map (eInt .i64) x4.1.Kids))], aB x4.2]) rfl rfl) (OkOps.y (.agg [cI x4.1.ID, cI x4.1.Parent, cI x4.1.Kind, cS x4.1.Key, .d (.sl (List.map Attr.cs x4.1.Attrs)), .d (.sl (List.map Action.cs x4.1.Actions)), .d (.sl (List.map (eInt .i64) x4.1.Kids))]) (OkOps.y (aB x4.2) (OkOps.m 0 (triAlloc (j := 2) (cs := [cI 0, cI 0, cI 0, cS ByteArray.empty, .d (.v (.slice none 0 0)), .d (.v (.slice none 0 0)), .d (.v (.slice none 0 0))]) rfl rfl rfl rfl) (OkOps.w (triStore (cs' := [cI x4.1.ID, cI x4.1.Parent, cI x4.1.Kind, cS x4.1.Key, .d (.sl (List.map Attr.cs x4.1.Attrs)), .d (.sl (List.map Action.cs x4.1.Actions)), .d (.sl (List.map (eInt .i64) x4.1.Kids))]) rfl rfl rfl rfl rfl rfl rfl rfl rfl) (OkOps.y (aB x4.2) (OkOps.nil (Ok.seq (Ok.region (OkOps.y (aB x4.2) (OkOps.y (aB (!x4.2)) (OkOps.nil ?_)))))))))))
  refine Ok.cond (b := !x4.2) rfl (fun h5 => ?_) (fun h5 => ?_)
  have hr := selT h5 hr
  refine Ok.seq (Ok.region (OkOps.y (.c (.d (.v (.map none)))) (OkOps.y (aB false) (OkOps.nil (Ok.conv (Conv.nilM 2 true rfl) (Ok.ret ?_))))))
  obtain rfl := Option.some.inj hr
  exact ⟨_, rfl, .inl rfl, trivial⟩
  have hr := selF h5 hr
  refine Ok.skip (Ok.seq (Ok.region (OkOps.m 0 (triMkM (j := 3) false rfl rfl) (OkOps.y (.c (.loc 0 0)) (OkOps.y (aI t.Root) (OkOps.w (triMapIns (ek := (kInt .i64)) (ev := eBool) (L := ([] : (List (Int × Bool)))) (z := true) rfl rfl rfl rfl rfl rfl (keyInt Tryd.underlying3) (fun _ _ => rfl) rfl trivial) (OkOps.y (.c (.own 3)) (OkOps.y (.c (.own 3)) (OkOps.nil ?_)))))))))
  obtain ⟨k7, hk7, hr⟩ := jn_some hr
  refine Ok.join (fun (s6 : (List (Int × Bool))) => ⟨[(1, .s (.c (.loc 0 0))), (4, .s (.c (.own 1))), (10, .s (.c (.own 3)))], [(0, .blk [cI t.Root, cI t.Next, .d (.sl (List.map Node.cs t.Nodes))] 51), (1, .mp true (encM (kInt .i64) Node.cs s2)), (3, .mp false (encM (kInt .i64) eBool s6))], 0⟩) k7 r (fun s6 hr => ?_) ?_
  rw [hk7] at hr
  refine Ok.seq (Ok.seq (Ok.region (OkOps.y (.c (.own 3)) (OkOps.q (triLenM (ek := (kInt .i64)) (ev := eBool) s6 rfl rfl trivial rfl) (OkOps.y (.c (.own 1)) (OkOps.q (triLenM (ek := (kInt .i64)) (ev := Node.cs) s2 rfl rfl trivial rfl) (OkOps.y (aB ((s6.length : Int) != (s2.length : Int))) (OkOps.nil ?_))))))))
  refine Ok.cond (b := (s6.length : Int) != (s2.length : Int)) rfl (fun h8 => ?_) (fun h8 => ?_)
  have hr := selT h8 hr
  refine Ok.seq (Ok.region (OkOps.y (.c (.d (.v (.map none)))) (OkOps.y (aB false) (OkOps.nil (Ok.conv (Conv.nilM 2 true rfl) (Ok.ret ?_))))))
  obtain rfl := Option.some.inj hr
  exact ⟨_, rfl, .inl rfl, trivial⟩
  have hr := selF h8 hr
  refine Ok.skip (Ok.seq (Ok.region (OkOps.y (.c (.own 1)) (OkOps.y (.c (.own 1)) (OkOps.y (.c (.loc 0 0)) (OkOps.y (aI t.Root) (OkOps.conv (Conv.freezeM [(4, .s (.c (.d (.mp true (encM (kInt .i64) Node.cs s2))))), (127, .s (.c (.d (.mp true (encM (kInt .i64) Node.cs s2))))), (130, .s (.c (.d (.mp true (encM (kInt .i64) Node.cs s2))))), (131, .s (.c (.d (.mp true (encM (kInt .i64) Node.cs s2)))))] [] 1 0 rfl ⟨⟨_, rfl, rfl⟩, ⟨_, rfl, rfl⟩, ⟨_, rfl, rfl⟩, ⟨_, rfl, rfl⟩, trivial⟩ trivial) ?_)))))))
  obtain ⟨x9, hx9, hr⟩ := bind_some hr
  refine OkOps.q (triCl (tau []) (.s (.c (.d (.sl (List.map (eInt .i64) x9))))) [] (vw_preorder_c _ _ _ hx9) rfl ⟨.inl rfl, .inl rfl, trivial⟩ trivial entry67 trivial) (OkOps.q (triLen (enc := (eInt .i64)) x9 rfl rfl trivial rfl) (OkOps.y (.c (.d (.mp true (encM (kInt .i64) Node.cs s2)))) (OkOps.q (triLenM (ek := (kInt .i64)) (ev := Node.cs) s2 rfl rfl trivial rfl) (OkOps.y (aB ((x9.length : Int) == (s2.length : Int))) (OkOps.y (.c (.d (.mp true (encM (kInt .i64) Node.cs s2)))) (OkOps.y (aB ((x9.length : Int) == (s2.length : Int))) (OkOps.nil (Ok.ret ?_))))))))
  obtain rfl := Option.some.inj hr
  exact ⟨_, rfl, .inl rfl, trivial⟩
  clear hk7
  refine Ok.seq (Ok.region (OkOps.y (.c (.loc 0 2)) (OkOps.y (.c (.d (.sl (List.map Node.cs t.Nodes)))) (OkOps.q (triLen (enc := Node.cs) t.Nodes rfl rfl trivial rfl) (OkOps.y (aI 0) (OkOps.nil (Ok.block (Ok.loopK (fun (s10 : Int × (List (Int × Bool))) => ⟨[(1, .s (.c (.loc 0 0))), (4, .s (.c (.own 1))), (10, .s (.c (.own 3))), (88, .s (.c (.d (.sl (List.map Node.cs t.Nodes))))), (89, .s (aI (t.Nodes.length : Int))), (90, .s (aI s10.1))], [(0, .blk [cI t.Root, cI t.Next, .d (.sl (List.map Node.cs t.Nodes))] 51), (1, .mp true (encM (kInt .i64) Node.cs s2)), (3, .mp false (encM (kInt .i64) eBool s10.2))], 0⟩) hr (Conv.mk (tau []) ⟨⟨_, rfl, .inl rfl⟩, ⟨_, rfl, .inl rfl⟩, ⟨_, rfl, .inl rfl⟩, ⟨_, rfl, .inl rfl⟩, ⟨_, rfl, .inl rfl⟩, ⟨_, rfl, .inl rfl⟩, trivial⟩ ⟨rfl, rfl, rfl, trivial⟩ rfl rfl rfl rfl) ?_))))))))
  clear hr
  intro again11 s10 hr
  unfold vw_graph_L2 at hr
  refine Ok.seq (Ok.region (OkOps.y (aB (decide (s10.1 < (t.Nodes.length : Int)))) (OkOps.nil (Ok.seq ?_))))
  refine Ok.cond (b := decide (s10.1 < (t.Nodes.length : Int))) rfl (fun h12 => ?_) (fun h12 => ?_)
  have hr := selT h12 hr
  refine Ok.skip ?_
  obtain ⟨k14, hk14, hr⟩ := jn_some hr
  refine Ok.join (fun (s13 : (List (Int × Bool))) => ⟨[(1, .s (.c (.loc 0 0))), (4, .s (.c (.own 1))), (10, .s (.c (.own 3))), (88, .s (.c (.d (.sl (List.map Node.cs t.Nodes))))), (89, .s (aI (t.Nodes.length : Int))), (90, .s (aI s10.1))], [(0, .blk [cI t.Root, cI t.Next, .d (.sl (List.map Node.cs t.Nodes))] 51), (1, .mp true (encM (kInt .i64) Node.cs s2)), (3, .mp false (encM (kInt .i64) eBool s13))], 0⟩) k14 r (fun s13 hr => ?_) ?_
  rw [hk14] at hr
  refine Ok.region (OkOps.y (aI (IntKind.i64.wrap (s10.1 + 1))) (OkOps.y (aI (IntKind.i64.wrap (s10.1 + 1))) (OkOps.nil ?_)))
  exact ⟨(IntKind.i64.wrap (s10.1 + 1), s13), hr, (Conv.mk (tau []) ⟨⟨_, rfl, .inl rfl⟩, ⟨_, rfl, .inl rfl⟩, ⟨_, rfl, .inl rfl⟩, ⟨_, rfl, .inl rfl⟩, ⟨_, rfl, .inl rfl⟩, ⟨_, rfl, .inl rfl⟩, trivial⟩ ⟨rfl, rfl, rfl, trivial⟩ rfl rfl rfl rfl)⟩
  clear hk14
  refine Ok.block (Ok.seq (Ok.region ?_))
  obtain ⟨x15, hx15, hr⟩ := bind_some hr
  refine OkOps.q (triIdx (enc := Node.cs) (L := t.Nodes) (row := [dI x15.ID, dI x15.Parent, dI x15.Kind, dS x15.Key, .sl (List.map Attr.cs x15.Attrs), .sl (List.map Action.cs x15.Actions), .sl (List.map (eInt .i64) x15.Kids)]) hx15 rfl rfl rfl rfl (fun _ => rfl) trivial rfl) (OkOps.y (.agg [cI x15.ID, cI x15.Parent, cI x15.Kind, cS x15.Key, .d (.sl (List.map Attr.cs x15.Attrs)), .d (.sl (List.map Action.cs x15.Actions)), .d (.sl (List.map (eInt .i64) x15.Kids))]) (OkOps.m 0 (triAlloc (j := 4) (cs := [cI 0, cI 0, cI 0, cS ByteArray.empty, .d (.v (.slice none 0 0)), .d (.v (.slice none 0 0)), .d (.v (.slice none 0 0))]) rfl rfl rfl rfl) (OkOps.w (triStore (cs' := [cI x15.ID, cI x15.Parent, cI x15.Kind, cS x15.Key, .d (.sl (List.map Attr.cs x15.Attrs)), .d (.sl (List.map Action.cs x15.Actions)), .d (.sl (List.map (eInt .i64) x15.Kids))]) rfl rfl rfl rfl rfl rfl rfl rfl rfl) (OkOps.nil (Ok.seq (Ok.region (OkOps.y (.c (.loc 4 6)) (OkOps.y (.c (.d (.sl (List.map (eInt .i64) x15.Kids)))) (OkOps.q (triLen (enc := (eInt .i64)) x15.Kids rfl rfl trivial rfl) (OkOps.y (aI 0) (OkOps.nil ?_)))))))))))
  obtain ⟨k17, hk17, hr⟩ := jn_some hr
  refine Ok.joinEnd (fun (s16 : (List (Int × Bool))) => ⟨[(1, .s (.c (.loc 0 0))), (4, .s (.c (.own 1))), (10, .s (.c (.own 3))), (88, .s (.c (.d (.sl (List.map Node.cs t.Nodes))))), (89, .s (aI (t.Nodes.length : Int))), (90, .s (aI s10.1))], [(0, .blk [cI t.Root, cI t.Next, .d (.sl (List.map Node.cs t.Nodes))] 51), (1, .mp true (encM (kInt .i64) Node.cs s2)), (3, .mp false (encM (kInt .i64) eBool s16))], 0⟩) k17 r (fun s16 hr => ?_) ?_
  rw [hk17] at hr
  exact ⟨s16, hr, (Conv.mk (tau []) ⟨⟨_, rfl, .inl rfl⟩, ⟨_, rfl, .inl rfl⟩, ⟨_, rfl, .inl rfl⟩, ⟨_, rfl, .inl rfl⟩, ⟨_, rfl, .inl rfl⟩, ⟨_, rfl, .inl rfl⟩, trivial⟩ ⟨rfl, rfl, rfl, trivial⟩ rfl rfl rfl rfl)⟩
  clear hk17
  refine Ok.block (Ok.loopK (fun (s18 : Int × (List (Int × Bool))) => ⟨[(1, .s (.c (.loc 0 0))), (4, .s (.c (.own 1))), (10, .s (.c (.own 3))), (12, .s (.c (.loc 4 0))), (88, .s (.c (.d (.sl (List.map Node.cs t.Nodes))))), (89, .s (aI (t.Nodes.length : Int))), (90, .s (aI s10.1)), (95, .s (.c (.d (.sl (List.map (eInt .i64) x15.Kids))))), (96, .s (aI (x15.Kids.length : Int))), (97, .s (aI s18.1))], [(0, .blk [cI t.Root, cI t.Next, .d (.sl (List.map Node.cs t.Nodes))] 51), (1, .mp true (encM (kInt .i64) Node.cs s2)), (3, .mp false (encM (kInt .i64) eBool s18.2)), (4, .blk [cI x15.ID, cI x15.Parent, cI x15.Kind, cS x15.Key, .d (.sl (List.map Attr.cs x15.Attrs)), .d (.sl (List.map Action.cs x15.Actions)), .d (.sl (List.map (eInt .i64) x15.Kids))] 55)], 0⟩) hr (Conv.mk (tau []) ⟨⟨_, rfl, .inl rfl⟩, ⟨_, rfl, .inl rfl⟩, ⟨_, rfl, .inl rfl⟩, ⟨_, rfl, .inl rfl⟩, ⟨_, rfl, .inl rfl⟩, ⟨_, rfl, .inl rfl⟩, ⟨_, rfl, .inl rfl⟩, ⟨_, rfl, .inl rfl⟩, ⟨_, rfl, .inl rfl⟩, ⟨_, rfl, .inl rfl⟩, trivial⟩ ⟨rfl, rfl, rfl, rfl, trivial⟩ rfl rfl rfl rfl) ?_)
  clear hr
  intro again19 s18 hr
  unfold vw_graph_L1 at hr
  refine Ok.seq (Ok.region (OkOps.y (aB (decide (s18.1 < (x15.Kids.length : Int)))) (OkOps.nil (Ok.seq ?_))))
  refine Ok.cond (b := decide (s18.1 < (x15.Kids.length : Int))) rfl (fun h20 => ?_) (fun h20 => ?_)
  have hr := selT h20 hr
  refine Ok.skip (Ok.seq (Ok.block (Ok.seq (Ok.region ?_))))
  obtain ⟨x21, hx21, hr⟩ := bind_some hr
  refine OkOps.q (triIdx (enc := (eInt .i64)) (L := x15.Kids) (row := [dI x21]) hx21 rfl rfl rfl rfl (fun _ => rfl) trivial rfl) (OkOps.y (aI x21) (OkOps.y (aI x21) (OkOps.nil (Ok.seq (Ok.seq (Ok.region (OkOps.y (.c (.own 1)) (OkOps.y (aI x21) ?_))))))))
  obtain ⟨x22, hx22, hr⟩ := bind_some hr
  refine OkOps.q (triLookT (agg := true) (ek := (kInt .i64)) (ev := Node.cs) (L := s2) (r := .agg [cI x22.1.ID, cI x22.1.Parent, cI x22.1.Kind, cS x22.1.Key, .d (.sl (List.map Attr.cs x22.1.Attrs)), .d (.sl (List.map Action.cs x22.1.Actions)), .d (.sl (List.map (eInt .i64) x22.1.Kids))]) hx22 rfl rfl rfl (keyInt Tryd.underlying3) rfl rfl (fun h => by cases h) rfl trivial rfl) ?_
  refine OkOps.q (triMv (v := .tup [.agg [cI x22.1.ID, cI x22.1.Parent, cI x22.1.Kind, cS x22.1.Key, .d (.sl (List.map Attr.cs x22.1.Attrs)), .d (.sl (List.map Action.cs x22.1.Actions)), .d (.sl (List.map (eInt .i64) x22.1.Kids))], aB x22.2]) rfl rfl) (OkOps.y (.agg [cI x22.1.ID, cI x22.1.Parent, cI x22.1.Kind, cS x22.1.Key, .d (.sl (List.map Attr.cs x22.1.Attrs)), .d (.sl (List.map Action.cs x22.1.Actions)), .d (.sl (List.map (eInt .i64) x22.1.Kids))]) (OkOps.y (aB x22.2) (OkOps.m 0 (triAlloc (j := 5) (cs := [cI 0, cI 0, cI 0, cS ByteArray.empty, .d (.v (.slice none 0 0)), .d (.v (.slice none 0 0)), .d (.v (.slice none 0 0))]) rfl rfl rfl rfl) (OkOps.w (triStore (cs' := [cI x22.1.ID, cI x22.1.Parent, cI x22.1.Kind, cS x22.1.Key, .d (.sl (List.map Attr.cs x22.1.Attrs)), .d (.sl (List.map Action.cs x22.1.Actions)), .d (.sl (List.map (eInt .i64) x22.1.Kids))]) rfl rfl rfl rfl rfl rfl rfl rfl rfl) (OkOps.y (aB x22.2) (OkOps.nil (Ok.seq (Ok.region (OkOps.y (aB x22.2) (OkOps.y (aB (!x22.2)) (OkOps.y (aB (!x22.2)) (OkOps.q (triQG (x := .c (.loc 5 1)) rfl rfl trivial rfl) (OkOps.q (triQG (x := aI x22.1.Parent) rfl rfl ⟨fun h => h, trivial⟩ rfl) (OkOps.q (triQG (x := .c (.loc 4 0)) rfl rfl trivial rfl) (OkOps.q (triQG (x := aI x15.ID) rfl rfl ⟨fun h => h, trivial⟩ rfl) ?_)))))))))))))))
  refine OkOps.q (triQG (x := aB (x22.1.Parent != x15.ID)) rfl rfl ⟨fun h => h, ⟨fun h => h, trivial⟩⟩ rfl) ?_
  refine OkOps.q (triOr rfl rfl (fun h => by rw [h]; rfl) rfl) ?_
  refine OkOps.y (aB ((!x22.2) || (x22.1.Parent != x15.ID))) (OkOps.q (triQG (x := .c (.own 3)) rfl rfl trivial rfl) (OkOps.q (triQG (x := aI x21) rfl rfl trivial rfl) ?_))
  obtain ⟨x23, hx23, hr⟩ := bind_some hr
  refine OkOps.q (triLookG (agg := false) (ek := (kInt .i64)) (ev := eBool) (L := s18.2) (r := aB x23.1) (gO_t hx23) rfl rfl rfl rfl (keyInt Tryd.underlying3) rfl rfl (fun _ _ => rfl) rfl ⟨fun h => h, ⟨fun h => h, trivial⟩⟩ rfl) ?_
  refine OkOps.q (triOr rfl rfl (fun h => by rw [h]; rfl) rfl) ?_
  refine OkOps.nil ?_
  refine Ok.cond (b := ((!x22.2) || (x22.1.Parent != x15.ID)) || x23.1) rfl (fun h24 => ?_) (fun h24 => ?_)
  have hr := selT h24 hr
  refine Ok.seq (Ok.region (OkOps.y (.c (.d (.v (.map none)))) (OkOps.y (aB false) (OkOps.nil (Ok.conv (Conv.nilM 2 true rfl) (Ok.ret ?_))))))
  obtain rfl := Option.some.inj hr
  exact ⟨_, rfl, .inl rfl, trivial⟩
  have hr := selF h24 hr
  refine Ok.skip (Ok.region (OkOps.y (.c (.own 3)) (OkOps.y (aI x21) (OkOps.w (triMapUp (ek := (kInt .i64)) (ev := eBool) (L := s18.2) (z := true) rfl rfl rfl rfl rfl rfl (keyInt Tryd.underlying3) (fun _ _ => rfl) rfl trivial) (OkOps.nil (Ok.region (OkOps.y (aI (IntKind.i64.wrap (s18.1 + 1))) (OkOps.y (aI (IntKind.i64.wrap (s18.1 + 1))) (OkOps.nil ?_)))))))))
  exact ⟨(IntKind.i64.wrap (s18.1 + 1), msetL s18.2 x21 true), hr, (Conv.mk (tau []) ⟨⟨_, rfl, .inl rfl⟩, ⟨_, rfl, .inl rfl⟩, ⟨_, rfl, .inl rfl⟩, ⟨_, rfl, .inl rfl⟩, ⟨_, rfl, .inl rfl⟩, ⟨_, rfl, .inl rfl⟩, ⟨_, rfl, .inl rfl⟩, ⟨_, rfl, .inl rfl⟩, ⟨_, rfl, .inl rfl⟩, ⟨_, rfl, .inl rfl⟩, trivial⟩ ⟨rfl, rfl, rfl, rfl, trivial⟩ rfl rfl rfl rfl)⟩
  have hr := selF h20 hr
  refine Ok.exit ?_
  exact ⟨s18.2, hr, (Conv.mk (tau []) ⟨⟨_, rfl, .inl rfl⟩, ⟨_, rfl, .inl rfl⟩, ⟨_, rfl, .inl rfl⟩, ⟨_, rfl, .inl rfl⟩, ⟨_, rfl, .inl rfl⟩, ⟨_, rfl, .inl rfl⟩, trivial⟩ ⟨rfl, rfl, rfl, trivial⟩ rfl rfl rfl rfl)⟩
  have hr := selF h12 hr
  refine Ok.exit ?_
  exact ⟨s10.2, hr, (Conv.mk (tau []) ⟨⟨_, rfl, .inl rfl⟩, ⟨_, rfl, .inl rfl⟩, ⟨_, rfl, .inl rfl⟩, trivial⟩ ⟨rfl, rfl, rfl, trivial⟩ rfl rfl rfl rfl)⟩
  clear hk3
  refine Ok.seq (Ok.region (OkOps.y (.c (.loc 0 2)) (OkOps.y (.c (.d (.sl (List.map Node.cs t.Nodes)))) (OkOps.q (triLen (enc := Node.cs) t.Nodes rfl rfl trivial rfl) (OkOps.y (aI 0) (OkOps.nil (Ok.block (Ok.loopK (fun (s25 : Int × Int × (List (Int × Node))) => ⟨[(1, .s (.c (.loc 0 0))), (4, .s (.c (.own 1))), (5, .s (aI s25.1)), (39, .s (.c (.d (.sl (List.map Node.cs t.Nodes))))), (40, .s (aI (t.Nodes.length : Int))), (41, .s (aI s25.2.1))], [(0, .blk [cI t.Root, cI t.Next, .d (.sl (List.map Node.cs t.Nodes))] 51), (1, .mp true (encM (kInt .i64) Node.cs s25.2.2))], 0⟩) hr (Conv.mk (tau []) ⟨⟨_, rfl, .inl rfl⟩, ⟨_, rfl, .inl rfl⟩, ⟨_, rfl, .inl rfl⟩, ⟨_, rfl, .inl rfl⟩, ⟨_, rfl, .inl rfl⟩, ⟨_, rfl, .inl rfl⟩, trivial⟩ ⟨rfl, rfl, trivial⟩ rfl rfl rfl rfl) ?_))))))))
  clear hr
  intro again26 s25 hr
  unfold vw_graph_L3 at hr
  refine Ok.seq (Ok.region (OkOps.y (aB (decide (s25.2.1 < (t.Nodes.length : Int)))) (OkOps.nil (Ok.seq ?_))))
  refine Ok.cond (b := decide (s25.2.1 < (t.Nodes.length : Int))) rfl (fun h27 => ?_) (fun h27 => ?_)
  have hr := selT h27 hr
  refine Ok.skip (Ok.seq (Ok.block (Ok.seq (Ok.region ?_))))
  obtain ⟨x28, hx28, hr⟩ := bind_some hr
  refine OkOps.q (triIdx (enc := Node.cs) (L := t.Nodes) (row := [dI x28.ID, dI x28.Parent, dI x28.Kind, dS x28.Key, .sl (List.map Attr.cs x28.Attrs), .sl (List.map Action.cs x28.Actions), .sl (List.map (eInt .i64) x28.Kids)]) hx28 rfl rfl rfl rfl (fun _ => rfl) trivial rfl) (OkOps.y (.agg [cI x28.ID, cI x28.Parent, cI x28.Kind, cS x28.Key, .d (.sl (List.map Attr.cs x28.Attrs)), .d (.sl (List.map Action.cs x28.Actions)), .d (.sl (List.map (eInt .i64) x28.Kids))]) (OkOps.m 0 (triAlloc (j := 6) (cs := [cI 0, cI 0, cI 0, cS ByteArray.empty, .d (.v (.slice none 0 0)), .d (.v (.slice none 0 0)), .d (.v (.slice none 0 0))]) rfl rfl rfl rfl) (OkOps.w (triStore (cs' := [cI x28.ID, cI x28.Parent, cI x28.Kind, cS x28.Key, .d (.sl (List.map Attr.cs x28.Attrs)), .d (.sl (List.map Action.cs x28.Actions)), .d (.sl (List.map (eInt .i64) x28.Kids))]) rfl rfl rfl rfl rfl rfl rfl rfl rfl) (OkOps.nil (Ok.seq (Ok.seq (Ok.region (OkOps.y (.c (.loc 6 0)) (OkOps.y (aI x28.ID) (OkOps.y (aI s25.1) (OkOps.y (aB (decide (x28.ID ≤ s25.1))) (OkOps.y (aB (decide (x28.ID ≤ s25.1))) (OkOps.q (triQG (x := .c (.loc 6 0)) rfl rfl trivial rfl) (OkOps.q (triQG (x := aI x28.ID) rfl rfl ⟨fun h => h, trivial⟩ rfl) (OkOps.q (triQG (x := .c (.loc 0 1)) rfl rfl trivial rfl) ?_)))))))))))))))
  refine OkOps.q (triQG (x := aI t.Next) rfl rfl ⟨fun h => h, trivial⟩ rfl) (OkOps.q (triQG (x := aB (decide (x28.ID ≥ t.Next))) rfl rfl ⟨fun h => h, ⟨fun h => h, trivial⟩⟩ rfl) ?_)
  refine OkOps.q (triOr rfl rfl (fun h => by rw [h]; rfl) rfl) ?_
  refine OkOps.y (aB ((decide (x28.ID ≤ s25.1)) || (decide (x28.ID ≥ t.Next)))) (OkOps.q (triQG (x := .c (.loc 6 1)) rfl rfl trivial rfl) (OkOps.q (triQG (x := aI x28.Parent) rfl rfl ⟨fun h => h, trivial⟩ rfl) (OkOps.q (triQG (x := aB (x28.Parent == 0)) rfl rfl ⟨fun h => h, trivial⟩ rfl) (OkOps.q (triQG (x := .c (.loc 6 0)) rfl rfl trivial rfl) (OkOps.q (triQG (x := aI x28.ID) rfl rfl ⟨fun h => h, trivial⟩ rfl) (OkOps.q (triQG (x := .c (.loc 0 0)) rfl rfl trivial rfl) (OkOps.q (triQG (x := aI t.Root) rfl rfl ⟨fun h => h, trivial⟩ rfl) (OkOps.q (triQG (x := aB (x28.ID == t.Root)) rfl rfl ⟨fun h => h, ⟨fun h => h, trivial⟩⟩ rfl) (OkOps.q (triQG (x := aB ((x28.Parent == 0) != (x28.ID == t.Root))) rfl rfl ⟨fun h => h, ⟨fun h => h, trivial⟩⟩ rfl) ?_)))))))))
  refine OkOps.q (triOr rfl rfl (fun h => by rw [h]; rfl) rfl) ?_
  refine OkOps.nil ?_
  refine Ok.cond (b := ((decide (x28.ID ≤ s25.1)) || (decide (x28.ID ≥ t.Next))) || ((x28.Parent == 0) != (x28.ID == t.Root))) rfl (fun h29 => ?_) (fun h29 => ?_)
  have hr := selT h29 hr
  refine Ok.seq (Ok.region (OkOps.y (.c (.d (.v (.map none)))) (OkOps.y (aB false) (OkOps.nil (Ok.conv (Conv.nilM 2 true rfl) (Ok.ret ?_))))))
  obtain rfl := Option.some.inj hr
  exact ⟨_, rfl, .inl rfl, trivial⟩
  have hr := selF h29 hr
  refine Ok.skip (Ok.seq (Ok.region (OkOps.y (.c (.loc 6 0)) (OkOps.y (aI x28.ID) (OkOps.y (aI x28.ID) (OkOps.nil (Ok.region (OkOps.y (.c (.own 1)) (OkOps.y (.c (.loc 6 0)) (OkOps.y (aI x28.ID) (OkOps.y (.agg [cI x28.ID, cI x28.Parent, cI x28.Kind, cS x28.Key, .d (.sl (List.map Attr.cs x28.Attrs)), .d (.sl (List.map Action.cs x28.Actions)), .d (.sl (List.map (eInt .i64) x28.Kids))]) ?_)))))))))))
  refine OkOps.w (triMapUp (ek := (kInt .i64)) (ev := Node.cs) (L := s25.2.2) (z := x28) rfl rfl rfl rfl rfl rfl (keyInt Tryd.underlying3) (fun h => by cases h) rfl trivial) ?_
  refine OkOps.nil (Ok.region (OkOps.y (aI (IntKind.i64.wrap (s25.2.1 + 1))) (OkOps.y (aI (IntKind.i64.wrap (s25.2.1 + 1))) (OkOps.nil ?_))))
  exact ⟨(x28.ID, IntKind.i64.wrap (s25.2.1 + 1), msetL s25.2.2 x28.ID x28), hr, (Conv.mk (tau []) ⟨⟨_, rfl, .inl rfl⟩, ⟨_, rfl, .inl rfl⟩, ⟨_, rfl, .inl rfl⟩, ⟨_, rfl, .inl rfl⟩, ⟨_, rfl, .inl rfl⟩, ⟨_, rfl, .inl rfl⟩, trivial⟩ ⟨rfl, rfl, trivial⟩ rfl rfl rfl rfl)⟩
  have hr := selF h27 hr
  refine Ok.exit ?_
  exact ⟨s25.2.2, hr, (Conv.mk (tau []) ⟨⟨_, rfl, .inl rfl⟩, ⟨_, rfl, .inl rfl⟩, trivial⟩ ⟨rfl, rfl, trivial⟩ rfl rfl rfl rfl)⟩
theorem entry90 : Entry Tryd.prog 90 := ⟨_, Tryd.func90, by kernel_rfl, by kernel_rfl⟩
theorem entry91 : Entry Tryd.prog 91 := ⟨_, Tryd.func91, by kernel_rfl, by kernel_rfl⟩
theorem vw_described_B_c (self0 : (List (Int × Node)) → Int → Option View) (hself0 : ∀ (nodes : (List (Int × Node))) (id : Int) {r : View}, self0 nodes id = some r → Con Tryd.prog 91 [.c (.d (.mp true (encM (kInt .i64) Node.cs nodes))), aI id] [] (.s (.agg [cI r.Kind, cS r.Key, .d (.sl (List.map Attr.cs r.Attrs)), .d (.sl (List.map Action.cs r.Actions)), .d (.sl (List.map View.cs r.Kids))])) []) (nodes : (List (Int × Node))) (id : Int) {r : View} (hr : vw_described_B self0 nodes id = some r) : Con Tryd.prog 91 [.c (.d (.mp true (encM (kInt .i64) Node.cs nodes))), aI id] [] (.s (.agg [cI r.Kind, cS r.Key, .d (.sl (List.map Attr.cs r.Attrs)), .d (.sl (List.map Action.cs r.Actions)), .d (.sl (List.map View.cs r.Kids))])) [] := by
  unfold vw_described_B at hr
  refine Con.of_ok 38 0 [.cell 4 31] [(0, .s (.c (.d (.mp true (encM (kInt .i64) Node.cs nodes))))), (1, .s (aI id))] Tryd.func91 rfl rfl rfl rfl rfl rfl rfl rfl fun w g M ρ _ => (Ok.seq (Ok.region (OkOps.m 0 (triAlloc (j := 0) (cs := [cI 0, cS ByteArray.empty, .d (.v (.slice none 0 0)), .d (.v (.slice none 0 0)), .d (.v (.slice none 0 0))]) rfl rfl rfl rfl) (OkOps.nil (Ok.seq (Ok.region (OkOps.y (.c (.d (.mp true (encM (kInt .i64) Node.cs nodes)))) (OkOps.y (aI id) ?_))))))))
  obtain ⟨x1, hx1, hr⟩ := bind_some hr
  refine OkOps.q (triLook (agg := true) (ek := (kInt .i64)) (ev := Node.cs) (L := nodes) (r := .agg [cI x1.1.ID, cI x1.1.Parent, cI x1.1.Kind, cS x1.1.Key, .d (.sl (List.map Attr.cs x1.1.Attrs)), .d (.sl (List.map Action.cs x1.1.Actions)), .d (.sl (List.map (eInt .i64) x1.1.Kids))]) hx1 rfl rfl rfl (keyInt Tryd.underlying3) rfl rfl (fun h => by cases h) rfl trivial rfl) ?_
  refine OkOps.m 0 (triAlloc (j := 1) (cs := [cI 0, cI 0, cI 0, cS ByteArray.empty, .d (.v (.slice none 0 0)), .d (.v (.slice none 0 0)), .d (.v (.slice none 0 0))]) rfl rfl rfl rfl) (OkOps.w (triStore (cs' := [cI x1.1.ID, cI x1.1.Parent, cI x1.1.Kind, cS x1.1.Key, .d (.sl (List.map Attr.cs x1.1.Attrs)), .d (.sl (List.map Action.cs x1.1.Actions)), .d (.sl (List.map (eInt .i64) x1.1.Kids))]) rfl rfl rfl rfl rfl rfl rfl rfl rfl) (OkOps.nil (Ok.seq (Ok.region (OkOps.y (.c (.loc 1 2)) (OkOps.y (aI x1.1.Kind) (OkOps.y (.c (.loc 1 3)) (OkOps.y (aS x1.1.Key) (OkOps.y (.c (.loc 1 4)) (OkOps.y (.c (.d (.sl (List.map Attr.cs x1.1.Attrs)))) (OkOps.y (.c (.loc 1 5)) (OkOps.y (.c (.d (.sl (List.map Action.cs x1.1.Actions)))) (OkOps.y (.agg [cI x1.1.Kind, cS x1.1.Key, .d (.sl (List.map Attr.cs x1.1.Attrs)), .d (.sl (List.map Action.cs x1.1.Actions)), .d (.v (.slice none 0 0))]) (OkOps.m 0 (triAlloc (j := 2) (cs := [cI 0, cS ByteArray.empty, .d (.v (.slice none 0 0)), .d (.v (.slice none 0 0)), .d (.v (.slice none 0 0))]) rfl rfl rfl rfl) (OkOps.w (triStore (cs' := [cI x1.1.Kind, cS x1.1.Key, .d (.sl (List.map Attr.cs x1.1.Attrs)), .d (.sl (List.map Action.cs x1.1.Actions)), .d (.v (.slice none 0 0))]) rfl rfl rfl rfl rfl rfl rfl rfl rfl) ?_)))))))))))))))
  refine OkOps.nil ?_
  obtain ⟨k3, hk3, hr⟩ := jn_some hr
  refine Ok.join (fun (s2 : (List View)) => ⟨[(4, .s (.c (.loc 0 0))), (6, .s (.c (.loc 2 0)))], [(0, .blk [cI 0, cS ByteArray.empty, .d (.v (.slice none 0 0)), .d (.v (.slice none 0 0)), .d (.v (.slice none 0 0))] 31), (2, .blk [cI x1.1.Kind, cS x1.1.Key, .d (.sl (List.map Attr.cs x1.1.Attrs)), .d (.sl (List.map Action.cs x1.1.Actions)), .tl 1004 (List.map View.cs s2)] 31), (1004, .tail 5)], 0⟩) k3 r (fun s2 hr => ?_) ?_
  rw [hk3] at hr
  refine Ok.seq (Ok.region (OkOps.y (.agg [cI x1.1.Kind, cS x1.1.Key, .d (.sl (List.map Attr.cs x1.1.Attrs)), .d (.sl (List.map Action.cs x1.1.Actions)), .tl 1004 (List.map View.cs s2)]) (OkOps.w (triStore (cs' := [cI x1.1.Kind, cS x1.1.Key, .d (.sl (List.map Attr.cs x1.1.Attrs)), .d (.sl (List.map Action.cs x1.1.Actions)), .tl 1004 (List.map View.cs s2)]) rfl rfl rfl rfl rfl rfl rfl rfl rfl) (OkOps.nil (Ok.ret ?_)))))
  obtain rfl := Option.some.inj hr
  exact ⟨_, rfl, .inr rfl, trivial⟩
  clear hk3
  refine Ok.seq (Ok.region (OkOps.y (.c (.loc 1 6)) (OkOps.y (.c (.d (.sl (List.map (eInt .i64) x1.1.Kids)))) (OkOps.q (triLen (enc := (eInt .i64)) x1.1.Kids rfl rfl trivial rfl) (OkOps.y (aI 0) (OkOps.nil (Ok.block (Ok.loopK (fun (s4 : Int × (List View)) => ⟨[(0, .s (.c (.d (.mp true (encM (kInt .i64) Node.cs nodes))))), (4, .s (.c (.loc 0 0))), (6, .s (.c (.loc 2 0))), (22, .s (.c (.d (.sl (List.map (eInt .i64) x1.1.Kids))))), (23, .s (aI (x1.1.Kids.length : Int))), (24, .s (aI s4.1))], [(0, .blk [cI 0, cS ByteArray.empty, .d (.v (.slice none 0 0)), .d (.v (.slice none 0 0)), .d (.v (.slice none 0 0))] 31), (2, .blk [cI x1.1.Kind, cS x1.1.Key, .d (.sl (List.map Attr.cs x1.1.Attrs)), .d (.sl (List.map Action.cs x1.1.Actions)), .tl 1007 (List.map View.cs s4.2)] 31), (1007, .tail 5)], 0⟩) hr (Conv.trans (Conv.nilO 2 4 1009 5 [cI x1.1.Kind, cS x1.1.Key, .d (.sl (List.map Attr.cs x1.1.Attrs)), .d (.sl (List.map Action.cs x1.1.Actions)), .d (.v (.slice none 0 0))] [cI x1.1.Kind, cS x1.1.Key, .d (.sl (List.map Attr.cs x1.1.Attrs)), .d (.sl (List.map Action.cs x1.1.Actions)), .tl 1009 (List.map View.cs ([] : (List View)))] 31 0 rfl rfl rfl rfl) (Conv.mk (tau [(1007, 1009)]) ⟨⟨_, rfl, .inl rfl⟩, ⟨_, rfl, .inl rfl⟩, ⟨_, rfl, .inl rfl⟩, ⟨_, rfl, .inl rfl⟩, ⟨_, rfl, .inl rfl⟩, ⟨_, rfl, .inl rfl⟩, trivial⟩ ⟨rfl, rfl, rfl, trivial⟩ rfl rfl rfl rfl)) ?_))))))))
  clear hr
  intro again5 s4 hr
  unfold vw_described_L1 at hr
  refine Ok.seq (Ok.region (OkOps.y (aB (decide (s4.1 < (x1.1.Kids.length : Int)))) (OkOps.nil (Ok.seq ?_))))
  refine Ok.cond (b := decide (s4.1 < (x1.1.Kids.length : Int))) rfl (fun h6 => ?_) (fun h6 => ?_)
  have hr := selT h6 hr
  refine Ok.skip (Ok.seq (Ok.block (Ok.seq (Ok.region ?_))))
  obtain ⟨x7, hx7, hr⟩ := bind_some hr
  refine OkOps.q (triIdx (enc := (eInt .i64)) (L := x1.1.Kids) (row := [dI x7]) hx7 rfl rfl rfl rfl (fun _ => rfl) trivial rfl) (OkOps.y (aI x7) (OkOps.y (aI x7) (OkOps.nil (Ok.regionD (by kernel_rfl) (OkD.x (.c (.loc 2 4)) rfl trivial rfl (OkD.x (.c (.tl 1007 (List.map View.cs s4.2))) rfl trivial rfl (OkD.x (.c (.d (.mp true (encM (kInt .i64) Node.cs nodes)))) rfl trivial rfl (OkD.x (aI x7) rfl trivial rfl ?_))))))))
  obtain ⟨x8, hx8, hr⟩ := bind_some hr
  refine OkD.q (triCl (tau []) (.s (.agg [cI x8.Kind, cS x8.Key, .d (.sl (List.map Attr.cs x8.Attrs)), .d (.sl (List.map Action.cs x8.Actions)), .d (.sl (List.map View.cs x8.Kids))])) [] (hself0 _ _ hx8) rfl ⟨.inl rfl, .inl rfl, trivial⟩ trivial entry91 trivial) ?_
  refine OkD.m 0 (triBST (sz := 5) (enc := View.cs) (j := 3) ([x8]) rfl rfl rfl rfl rfl (rows := [[dI x8.Kind, dS x8.Key, .sl (List.map Attr.cs x8.Attrs), .sl (List.map Action.cs x8.Actions), .sl (List.map View.cs x8.Kids)]]) (by simp only [List.map, View.cs_eq]) rfl rfl (fun x => by rw [View.cs_eq]; rfl) trivial rfl rfl) ?_
  obtain ⟨x9, hx9, hr⟩ := bind_some hr
  refine OkD.m2 0 (triApp (enc := View.cs) (L := s4.2) (X := [x8]) (j := 1007) (j' := 4) hx9 rfl rfl rfl rfl rfl rfl (fun x => by rw [View.cs_eq]; rfl) (fun x => by rw [View.cs_eq]; rfl) (by decide) trivial rfl rfl) ?_
  refine OkD.x (.c (.loc 2 4)) rfl trivial rfl (OkD.w (triStore (cs' := [cI x1.1.Kind, cS x1.1.Key, .d (.sl (List.map Attr.cs x1.1.Attrs)), .d (.sl (List.map Action.cs x1.1.Actions)), .tl 4 (List.map View.cs x9)]) rfl rfl rfl rfl rfl rfl rfl rfl rfl) (OkD.nil (by kernel_rfl) (Ok.region (OkOps.y (aI (IntKind.i64.wrap (s4.1 + 1))) (OkOps.y (aI (IntKind.i64.wrap (s4.1 + 1))) (OkOps.nil ?_))))))
  exact ⟨(IntKind.i64.wrap (s4.1 + 1), x9), hr, (Conv.mk (tau [(1007, 4)]) ⟨⟨_, rfl, .inl rfl⟩, ⟨_, rfl, .inl rfl⟩, ⟨_, rfl, .inl rfl⟩, ⟨_, rfl, .inl rfl⟩, ⟨_, rfl, .inl rfl⟩, ⟨_, rfl, .inl rfl⟩, trivial⟩ ⟨rfl, rfl, rfl, trivial⟩ rfl rfl rfl rfl)⟩
  have hr := selF h6 hr
  refine Ok.exit ?_
  exact ⟨s4.2, hr, (Conv.mk (tau [(1004, 1007)]) ⟨⟨_, rfl, .inl rfl⟩, ⟨_, rfl, .inl rfl⟩, trivial⟩ ⟨rfl, rfl, rfl, trivial⟩ rfl rfl rfl rfl)⟩
theorem vw_described_all : ∀ n : Nat, (∀ (nodes : (List (Int × Node))) (id : Int) {r : View}, vw_described n nodes id = some r → Con Tryd.prog 91 [.c (.d (.mp true (encM (kInt .i64) Node.cs nodes))), aI id] [] (.s (.agg [cI r.Kind, cS r.Key, .d (.sl (List.map Attr.cs r.Attrs)), .d (.sl (List.map Action.cs r.Actions)), .d (.sl (List.map View.cs r.Kids))])) []) ∧ True := by
  intro n
  induction n with
  | zero => exact ⟨(by intros; rename_i hr; cases hr), trivial⟩
  | succ n ih => exact ⟨(by intros; rename_i hr; exact vw_described_B_c _ ih.1 _ _ hr), trivial⟩
theorem vw_described_c (n : Nat) (nodes : (List (Int × Node))) (id : Int) {r : View} (hr : vw_described n nodes id = some r) : Con Tryd.prog 91 [.c (.d (.mp true (encM (kInt .i64) Node.cs nodes))), aI id] [] (.s (.agg [cI r.Kind, cS r.Key, .d (.sl (List.map Attr.cs r.Attrs)), .d (.sl (List.map Action.cs r.Actions)), .d (.sl (List.map View.cs r.Kids))])) [] := (vw_described_all n).1 nodes id hr
theorem vw_examine_c (t : Tree) {r : (List (Int × Node)) × View × Int} (hr : vw_examine t = some r) : Con Tryd.prog 65 [.agg [cI t.Root, cI t.Next, .d (.sl (List.map Node.cs t.Nodes))]] [] (.tup [.c (.d (.mp true (encM (kInt .i64) Node.cs r.1))), .agg [cI r.2.1.Kind, cS r.2.1.Key, .d (.sl (List.map Attr.cs r.2.1.Attrs)), .d (.sl (List.map Action.cs r.2.1.Actions)), .d (.sl (List.map View.cs r.2.1.Kids))], aI r.2.2]) [] := by
  unfold vw_examine at hr
  refine Con.of_ok 24 0 [.tmp 2, .cell 3 31, .tmp 4] [(0, .s (.agg [cI t.Root, cI t.Next, .d (.sl (List.map Node.cs t.Nodes))]))] Tryd.func65 rfl rfl rfl rfl rfl rfl rfl rfl fun w g M ρ _ => (Ok.seq (Ok.region (OkOps.m 0 (triBox (j := 0) (cs := [cI t.Root, cI t.Next, .d (.sl (List.map Node.cs t.Nodes))]) rfl rfl rfl rfl rfl) (OkOps.y (.c (.d (.v (.map none)))) (OkOps.m 0 (triAlloc (j := 1) (cs := [cI 0, cS ByteArray.empty, .d (.v (.slice none 0 0)), .d (.v (.slice none 0 0)), .d (.v (.slice none 0 0))]) rfl rfl rfl rfl) (OkOps.y (aI 0) (OkOps.nil (Ok.seq (Ok.region (OkOps.y (.agg [cI t.Root, cI t.Next, .d (.sl (List.map Node.cs t.Nodes))]) ?_))))))))))
  obtain ⟨x1, hx1, hr⟩ := bind_some hr
  refine OkOps.q (triCl (tau []) (.tup [.c (.d (.mp true (encM (kInt .i64) Node.cs x1.1))), aB x1.2]) [] (vw_graph_c _ hx1) rfl ⟨.inl rfl, trivial⟩ trivial entry90 trivial) (OkOps.q (triMv (v := .tup [.c (.d (.mp true (encM (kInt .i64) Node.cs x1.1))), aB x1.2]) rfl rfl) (OkOps.y (.c (.d (.mp true (encM (kInt .i64) Node.cs x1.1)))) (OkOps.y (aB x1.2) (OkOps.y (.c (.d (.mp true (encM (kInt .i64) Node.cs x1.1)))) (OkOps.y (aB x1.2) (OkOps.nil (Ok.seq (Ok.seq (Ok.region (OkOps.y (aB x1.2) (OkOps.y (aB (!x1.2)) (OkOps.nil ?_))))))))))))
  refine Ok.cond (b := !x1.2) rfl (fun h2 => ?_) (fun h2 => ?_)
  have hr := selT h2 hr
  refine Ok.seq (Ok.region (OkOps.y (.agg [cI 0, cS ByteArray.empty, .d (.v (.slice none 0 0)), .d (.v (.slice none 0 0)), .d (.v (.slice none 0 0))]) (OkOps.y (.c (.d (.v (.map none)))) (OkOps.w (triStore (cs' := [cI 0, cS ByteArray.empty, .d (.v (.slice none 0 0)), .d (.v (.slice none 0 0)), .d (.v (.slice none 0 0))]) rfl rfl rfl rfl rfl rfl rfl rfl rfl) (OkOps.y (aI 12) (OkOps.nil (Ok.conv (Conv.nilM 2 true rfl) (Ok.ret ?_))))))))
  obtain rfl := Option.some.inj hr
  exact ⟨_, rfl, .inr rfl, trivial⟩
  have hr := selF h2 hr
  refine Ok.skip (Ok.seq (Ok.region (OkOps.y (.c (.d (.mp true (encM (kInt .i64) Node.cs x1.1)))) (OkOps.y (.c (.loc 0 0)) (OkOps.y (aI t.Root) ?_)))))
  obtain ⟨x3, hx3, hr⟩ := bind_some hr
  refine OkOps.q (triCl (tau []) (.s (.agg [cI x3.Kind, cS x3.Key, .d (.sl (List.map Attr.cs x3.Attrs)), .d (.sl (List.map Action.cs x3.Actions)), .d (.sl (List.map View.cs x3.Kids))])) [] (vw_described_c _ _ _ hx3) rfl ⟨.inl rfl, .inl rfl, trivial⟩ trivial entry91 trivial) (OkOps.m 0 (triAlloc (j := 2) (cs := [cI 0, cS ByteArray.empty, .d (.v (.slice none 0 0)), .d (.v (.slice none 0 0)), .d (.v (.slice none 0 0))]) rfl rfl rfl rfl) (OkOps.w (triStore (cs' := [cI x3.Kind, cS x3.Key, .d (.sl (List.map Attr.cs x3.Attrs)), .d (.sl (List.map Action.cs x3.Actions)), .d (.sl (List.map View.cs x3.Kids))]) rfl rfl rfl rfl rfl rfl rfl rfl rfl) (OkOps.nil (Ok.seq (Ok.regionD (by kernel_rfl) (OkD.x (.c (.d (.mp true (encM (kInt .i64) Node.cs x1.1)))) rfl trivial rfl (OkD.x (.agg [cI x3.Kind, cS x3.Key, .d (.sl (List.map Attr.cs x3.Attrs)), .d (.sl (List.map Action.cs x3.Actions)), .d (.sl (List.map View.cs x3.Kids))]) rfl trivial rfl (OkD.x (.agg [cI x3.Kind, cS x3.Key, .d (.sl (List.map Attr.cs x3.Attrs)), .d (.sl (List.map Action.cs x3.Actions)), .d (.sl (List.map View.cs x3.Kids))]) rfl trivial rfl ?_))))))))
  obtain ⟨x4, hx4, hr⟩ := bind_some hr
  refine OkD.q (triCl (tau []) (.s (aI x4)) [] (vw_Validate_c _ hx4) rfl ⟨.inl rfl, trivial⟩ trivial entry17 trivial) (OkD.x (.c (.d (.mp true (encM (kInt .i64) Node.cs x1.1)))) rfl trivial rfl (OkD.w (triStore (cs' := [cI x3.Kind, cS x3.Key, .d (.sl (List.map Attr.cs x3.Attrs)), .d (.sl (List.map Action.cs x3.Actions)), .d (.sl (List.map View.cs x3.Kids))]) rfl rfl rfl rfl rfl rfl rfl rfl rfl) (OkD.x (aI x4) rfl trivial rfl (OkD.nil (by kernel_rfl) (Ok.ret ?_)))))
  obtain rfl := Option.some.inj hr
  exact ⟨_, rfl, .inl rfl, trivial⟩
theorem entry65 : Entry Tryd.prog 65 := ⟨_, Tryd.func65, by kernel_rfl, by kernel_rfl⟩
theorem vw_Check_c (t : Tree) {r : Int} (hr : vw_Check t = some r) : Con Tryd.prog 43 [.agg [cI t.Root, cI t.Next, .d (.sl (List.map Node.cs t.Nodes))]] [] (.s (aI r)) [] := by
  unfold vw_Check at hr
  refine Con.of_ok 13 0 [.tmp 2] [(0, .s (.agg [cI t.Root, cI t.Next, .d (.sl (List.map Node.cs t.Nodes))]))] Tryd.func43 rfl rfl rfl rfl rfl rfl rfl rfl fun w g M ρ _ => (Ok.seq (Ok.region (OkOps.m 0 (triBox (j := 0) (cs := [cI t.Root, cI t.Next, .d (.sl (List.map Node.cs t.Nodes))]) rfl rfl rfl rfl rfl) (OkOps.y (aI 0) (OkOps.nil (Ok.seq (Ok.region (OkOps.y (.agg [cI t.Root, cI t.Next, .d (.sl (List.map Node.cs t.Nodes))]) ?_))))))))
  obtain ⟨x1, hx1, hr⟩ := bind_some hr
  refine OkOps.q (triCl (tau []) (.tup [.c (.d (.mp true (encM (kInt .i64) Node.cs x1.1))), .agg [cI x1.2.1.Kind, cS x1.2.1.Key, .d (.sl (List.map Attr.cs x1.2.1.Attrs)), .d (.sl (List.map Action.cs x1.2.1.Actions)), .d (.sl (List.map View.cs x1.2.1.Kids))], aI x1.2.2]) [] (vw_examine_c _ hx1) rfl ⟨.inl rfl, trivial⟩ trivial entry65 trivial) (OkOps.q (triMv (v := .tup [.c (.d (.mp true (encM (kInt .i64) Node.cs x1.1))), .agg [cI x1.2.1.Kind, cS x1.2.1.Key, .d (.sl (List.map Attr.cs x1.2.1.Attrs)), .d (.sl (List.map Action.cs x1.2.1.Actions)), .d (.sl (List.map View.cs x1.2.1.Kids))], aI x1.2.2]) rfl rfl) (OkOps.y (.c (.d (.mp true (encM (kInt .i64) Node.cs x1.1)))) (OkOps.y (.agg [cI x1.2.1.Kind, cS x1.2.1.Key, .d (.sl (List.map Attr.cs x1.2.1.Attrs)), .d (.sl (List.map Action.cs x1.2.1.Actions)), .d (.sl (List.map View.cs x1.2.1.Kids))]) (OkOps.y (aI x1.2.2) (OkOps.m 0 (triAlloc (j := 1) (cs := [cI 0, cS ByteArray.empty, .d (.v (.slice none 0 0)), .d (.v (.slice none 0 0)), .d (.v (.slice none 0 0))]) rfl rfl rfl rfl) (OkOps.y (.c (.d (.mp true (encM (kInt .i64) Node.cs x1.1)))) (OkOps.w (triStore (cs' := [cI x1.2.1.Kind, cS x1.2.1.Key, .d (.sl (List.map Attr.cs x1.2.1.Attrs)), .d (.sl (List.map Action.cs x1.2.1.Actions)), .d (.sl (List.map View.cs x1.2.1.Kids))]) rfl rfl rfl rfl rfl rfl rfl rfl rfl) (OkOps.y (aI x1.2.2) (OkOps.nil (Ok.seq (Ok.region (OkOps.y (aI x1.2.2) (OkOps.y (aI x1.2.2) (OkOps.nil (Ok.ret ?_)))))))))))))))
  obtain rfl := Option.some.inj hr
  exact ⟨_, rfl, .inl rfl, trivial⟩
theorem entry43 : Entry Tryd.prog 43 := ⟨_, Tryd.func43, by kernel_rfl, by kernel_rfl⟩
theorem vw_valid_c (t : Tree) {r : (List (Int × Node)) × Bool} (hr : vw_valid t = some r) : Con Tryd.prog 55 [.agg [cI t.Root, cI t.Next, .d (.sl (List.map Node.cs t.Nodes))]] [] (.tup [.c (.d (.mp true (encM (kInt .i64) Node.cs r.1))), aB r.2]) [] := by
  unfold vw_valid at hr
  refine Con.of_ok 16 0 [.tmp 2, .tmp 3] [(0, .s (.agg [cI t.Root, cI t.Next, .d (.sl (List.map Node.cs t.Nodes))]))] Tryd.func55 rfl rfl rfl rfl rfl rfl rfl rfl fun w g M ρ _ => (Ok.seq (Ok.region (OkOps.m 0 (triBox (j := 0) (cs := [cI t.Root, cI t.Next, .d (.sl (List.map Node.cs t.Nodes))]) rfl rfl rfl rfl rfl) (OkOps.y (.c (.d (.v (.map none)))) (OkOps.y (aB false) (OkOps.nil (Ok.seq (Ok.region (OkOps.y (.agg [cI t.Root, cI t.Next, .d (.sl (List.map Node.cs t.Nodes))]) ?_)))))))))
  obtain ⟨x1, hx1, hr⟩ := bind_some hr
  refine OkOps.q (triCl (tau []) (.tup [.c (.d (.mp true (encM (kInt .i64) Node.cs x1.1))), .agg [cI x1.2.1.Kind, cS x1.2.1.Key, .d (.sl (List.map Attr.cs x1.2.1.Attrs)), .d (.sl (List.map Action.cs x1.2.1.Actions)), .d (.sl (List.map View.cs x1.2.1.Kids))], aI x1.2.2]) [] (vw_examine_c _ hx1) rfl ⟨.inl rfl, trivial⟩ trivial entry65 trivial) (OkOps.q (triMv (v := .tup [.c (.d (.mp true (encM (kInt .i64) Node.cs x1.1))), .agg [cI x1.2.1.Kind, cS x1.2.1.Key, .d (.sl (List.map Attr.cs x1.2.1.Attrs)), .d (.sl (List.map Action.cs x1.2.1.Actions)), .d (.sl (List.map View.cs x1.2.1.Kids))], aI x1.2.2]) rfl rfl) (OkOps.y (.c (.d (.mp true (encM (kInt .i64) Node.cs x1.1)))) (OkOps.y (.agg [cI x1.2.1.Kind, cS x1.2.1.Key, .d (.sl (List.map Attr.cs x1.2.1.Attrs)), .d (.sl (List.map Action.cs x1.2.1.Actions)), .d (.sl (List.map View.cs x1.2.1.Kids))]) (OkOps.y (aI x1.2.2) (OkOps.m 0 (triAlloc (j := 1) (cs := [cI 0, cS ByteArray.empty, .d (.v (.slice none 0 0)), .d (.v (.slice none 0 0)), .d (.v (.slice none 0 0))]) rfl rfl rfl rfl) (OkOps.y (.c (.d (.mp true (encM (kInt .i64) Node.cs x1.1)))) (OkOps.w (triStore (cs' := [cI x1.2.1.Kind, cS x1.2.1.Key, .d (.sl (List.map Attr.cs x1.2.1.Attrs)), .d (.sl (List.map Action.cs x1.2.1.Actions)), .d (.sl (List.map View.cs x1.2.1.Kids))]) rfl rfl rfl rfl rfl rfl rfl rfl rfl) (OkOps.y (aI x1.2.2) (OkOps.nil (Ok.seq (Ok.region (OkOps.y (.c (.d (.mp true (encM (kInt .i64) Node.cs x1.1)))) (OkOps.y (aI x1.2.2) (OkOps.y (aB (x1.2.2 == 0)) (OkOps.y (.c (.d (.mp true (encM (kInt .i64) Node.cs x1.1)))) ?_)))))))))))))))
  refine OkOps.y (aB (x1.2.2 == 0)) (OkOps.nil (Ok.ret ?_))
  obtain rfl := Option.some.inj hr
  exact ⟨_, rfl, .inl rfl, trivial⟩
theorem entry55 : Entry Tryd.prog 55 := ⟨_, Tryd.func55, by kernel_rfl, by kernel_rfl⟩
theorem slices_Reverse_Sl_int_int_c (p_s : (List Int)) {r : (List Int)} (hr : slices_Reverse_Sl_int_int p_s = some r) : Con Tryd.prog 81 [.c (.own 0)] [(0, .vec 1 (List.map (eInt .i64) p_s))] (.tup []) [(0, .vec 1 (List.map (eInt .i64) r))] := by
  unfold slices_Reverse_Sl_int_int at hr
  refine Con.of_ok 28 0 [] [(0, .s (.c (.own 0)))] Tryd.func81 rfl rfl rfl rfl rfl rfl rfl rfl fun w g M ρ _ => (Ok.seq (Ok.region (OkOps.y (.c (.own 0)) (OkOps.q (triLenV (enc := (eInt .i64)) p_s rfl rfl rfl rfl) (OkOps.y (aI (IntKind.i64.wrap ((p_s.length : Int) - 1))) (OkOps.y (aI 0) (OkOps.y (aI (IntKind.i64.wrap ((p_s.length : Int) - 1))) (OkOps.nil ?_))))))))
  obtain ⟨k2, hk2, hr⟩ := jn_some hr
  refine Ok.joinEnd (fun (s1 : (List Int)) => ⟨[], [(0, .vec 1 (List.map (eInt .i64) s1))], 0⟩) k2 r (fun s1 hr => ?_) ?_
  rw [hk2] at hr
  obtain rfl := Option.some.inj hr
  exact ⟨_, rfl, .inl rfl, ⟨rfl, trivial⟩⟩
  clear hk2
  refine Ok.block (Ok.loopK (fun (s3 : Int × Int × (List Int)) => ⟨[(0, .s (.c (.own 0))), (2, .s (aI s3.1)), (3, .s (aI s3.2.1))], [(0, .vec 1 (List.map (eInt .i64) s3.2.2))], 0⟩) hr (Conv.mk (tau []) ⟨⟨_, rfl, .inl rfl⟩, ⟨_, rfl, .inl rfl⟩, ⟨_, rfl, .inl rfl⟩, trivial⟩ ⟨rfl, trivial⟩ rfl rfl rfl rfl) ?_)
  clear hr
  intro again4 s3 hr
  unfold slices_Reverse_Sl_int_int_L1 at hr
  refine Ok.seq (Ok.seq (Ok.region (OkOps.y (aI s3.1) (OkOps.y (aI s3.2.1) (OkOps.y (aB (decide (s3.1 < s3.2.1))) (OkOps.nil ?_))))))
  refine Ok.cond (b := decide (s3.1 < s3.2.1)) rfl (fun h5 => ?_) (fun h5 => ?_)
  have hr := selT h5 hr
  refine Ok.skip (Ok.seq (Ok.block (Ok.regionD (by kernel_rfl) (OkD.x (.c (.own 0)) rfl trivial rfl (OkD.x (aI s3.1) rfl trivial rfl (OkD.x (.c (.own 0)) rfl trivial rfl (OkD.x (aI s3.2.1) rfl trivial rfl (OkD.x (.c (.own 0)) rfl trivial rfl (OkD.x (aI s3.2.1) rfl trivial rfl ?_)))))))))
  obtain ⟨x6, hx6, hr⟩ := bind_some hr
  refine OkD.q (triIdxV (enc := (eInt .i64)) (L := s3.2.2) hx6 rfl rfl rfl rfl trivial rfl) ?_
  obtain ⟨x7, hx7, hr⟩ := bind_some hr
  refine OkD.q (triLoadV (enc := (eInt .i64)) (L := s3.2.2) (row := [dI x7]) (r := aI x7) hx7 rfl rfl rfl (fun _ => rfl) rfl  rfl) (OkD.x (.c (.own 0)) rfl trivial rfl (OkD.x (aI s3.1) rfl trivial rfl ?_))
  obtain ⟨x8, hx8, hr⟩ := bind_some hr
  refine OkD.q (triIdxV (enc := (eInt .i64)) (L := s3.2.2) hx8 rfl rfl rfl rfl trivial rfl) ?_
  obtain ⟨x9, hx9, hr⟩ := bind_some hr
  refine OkD.q (triLoadV (enc := (eInt .i64)) (L := s3.2.2) (row := [dI x9]) (r := aI x9) hx9 rfl rfl rfl (fun _ => rfl) rfl  rfl) ?_
  obtain ⟨x10, hx10, hr⟩ := bind_some hr
  refine OkD.q (triIdxV (enc := (eInt .i64)) (L := s3.2.2) hx10 rfl rfl rfl rfl trivial rfl) (OkD.w (triStoreV (enc := (eInt .i64)) (L := s3.2.2) x7 (.inr (ixO_spec hx10).2) rfl rfl rfl rfl rfl rfl (fun _ => rfl) rfl) ?_)
  obtain ⟨x11, hx11, hr⟩ := bind_some hr
  refine OkD.q (triIdxV (enc := (eInt .i64)) (L := List.set s3.2.2 x10 x7) hx11 rfl rfl rfl rfl trivial rfl) (OkD.w (triStoreV (enc := (eInt .i64)) (L := List.set s3.2.2 x10 x7) x9 (.inr (ixO_spec hx11).2) rfl rfl rfl rfl rfl rfl (fun _ => rfl) rfl) (OkD.nil (by kernel_rfl) (Ok.region (OkOps.y (aI s3.1) (OkOps.y (aI (IntKind.i64.wrap (s3.1 + 1))) (OkOps.y (aI s3.2.1) (OkOps.y (aI (IntKind.i64.wrap (s3.2.1 - 1))) (OkOps.y (aI (IntKind.i64.wrap (s3.1 + 1))) (OkOps.y (aI (IntKind.i64.wrap (s3.2.1 - 1))) (OkOps.nil ?_))))))))))
  exact ⟨(IntKind.i64.wrap (s3.1 + 1), IntKind.i64.wrap (s3.2.1 - 1), List.set (List.set s3.2.2 x10 x7) x11 x9), hr, (Conv.mk (tau []) ⟨⟨_, rfl, .inl rfl⟩, ⟨_, rfl, .inl rfl⟩, ⟨_, rfl, .inl rfl⟩, trivial⟩ ⟨rfl, trivial⟩ rfl rfl rfl rfl)⟩
  have hr := selF h5 hr
  refine Ok.exit ?_
  exact ⟨s3.2.2, hr, (Conv.mk (tau []) trivial ⟨rfl, trivial⟩ rfl rfl rfl rfl)⟩
theorem entry81 : Entry Tryd.prog 81 := ⟨_, Tryd.func81, by kernel_rfl, by kernel_rfl⟩
theorem vw_path_c (nodes : (List (Int × Node))) (id : Int) {r : (List Int)} (hr : vw_path nodes id = some r) : Con Tryd.prog 56 [.c (.d (.mp true (encM (kInt .i64) Node.cs nodes))), aI id] [] (.s (.c (.d (.sl (List.map (eInt .i64) r))))) [] := by
  unfold vw_path at hr
  refine Con.of_ok 31 0 [.tmp 4] [(0, .s (.c (.d (.mp true (encM (kInt .i64) Node.cs nodes))))), (1, .s (aI id))] Tryd.func56 rfl rfl rfl rfl rfl rfl rfl rfl fun w g M ρ _ => (Ok.seq (Ok.region (OkOps.y (.c (.d (.v (.slice none 0 0)))) (OkOps.nil (Ok.seq (Ok.region (OkOps.y (.c (.d (.v (.slice none 0 0)))) (OkOps.conv (Conv.nilV (enc := (eInt .i64)) 5 0 1 0 rfl rfl) (OkOps.nil ?_)))))))))
  obtain ⟨k2, hk2, hr⟩ := jn_some hr
  refine Ok.join (fun (s1 : (List Int)) => ⟨[(5, .s (.c (.own 1006)))], [(1006, .vec 1 (List.map (eInt .i64) s1))], 0⟩) k2 r (fun s1 hr => ?_) ?_
  rw [hk2] at hr
  refine Ok.seq (Ok.region (OkOps.y (.c (.own 1006)) ?_))
  obtain ⟨x3, hx3, hr⟩ := bind_some hr
  refine OkOps.m 0 (triCl (tau [(0, 1006)]) (.tup []) [(1006, .vec 1 (List.map (eInt .i64) x3))] (slices_Reverse_Sl_int_int_c _ hx3) rfl ⟨.inl rfl, trivial⟩ trivial entry81 ⟨rfl, trivial⟩) (OkOps.nil (Ok.seq (Ok.region (OkOps.y (.c (.own 1006)) (OkOps.y (.c (.own 1006)) (OkOps.nil (Ok.conv (Conv.freeze (enc := (eInt .i64)) (L := x3) [4, 5, 28, 30] 1006 1 1 0 ⟨rfl, rfl, rfl, rfl, trivial⟩ rfl (fun _ => rfl) rfl) (Ok.ret ?_))))))))
  obtain rfl := Option.some.inj hr
  exact ⟨_, rfl, .inr rfl, trivial⟩
  clear hk2
  refine Ok.seq (Ok.region (OkOps.y (.c (.d (.mp true (encM (kInt .i64) Node.cs nodes)))) (OkOps.y (aI id) ?_)))
  obtain ⟨x4, hx4, hr⟩ := bind_some hr
  refine OkOps.q (triLookT (agg := true) (ek := (kInt .i64)) (ev := Node.cs) (L := nodes) (r := .agg [cI x4.1.ID, cI x4.1.Parent, cI x4.1.Kind, cS x4.1.Key, .d (.sl (List.map Attr.cs x4.1.Attrs)), .d (.sl (List.map Action.cs x4.1.Actions)), .d (.sl (List.map (eInt .i64) x4.1.Kids))]) hx4 rfl rfl rfl (keyInt Tryd.underlying3) rfl rfl (fun h => by cases h) rfl trivial rfl) ?_
  refine OkOps.q (triMv (v := .tup [.agg [cI x4.1.ID, cI x4.1.Parent, cI x4.1.Kind, cS x4.1.Key, .d (.sl (List.map Attr.cs x4.1.Attrs)), .d (.sl (List.map Action.cs x4.1.Actions)), .d (.sl (List.map (eInt .i64) x4.1.Kids))], aB x4.2]) rfl rfl) (OkOps.y (.agg [cI x4.1.ID, cI x4.1.Parent, cI x4.1.Kind, cS x4.1.Key, .d (.sl (List.map Attr.cs x4.1.Attrs)), .d (.sl (List.map Action.cs x4.1.Actions)), .d (.sl (List.map (eInt .i64) x4.1.Kids))]) (OkOps.y (aB x4.2) (OkOps.m 0 (triAlloc (j := 2) (cs := [cI 0, cI 0, cI 0, cS ByteArray.empty, .d (.v (.slice none 0 0)), .d (.v (.slice none 0 0)), .d (.v (.slice none 0 0))]) rfl rfl rfl rfl) (OkOps.w (triStore (cs' := [cI x4.1.ID, cI x4.1.Parent, cI x4.1.Kind, cS x4.1.Key, .d (.sl (List.map Attr.cs x4.1.Attrs)), .d (.sl (List.map Action.cs x4.1.Actions)), .d (.sl (List.map (eInt .i64) x4.1.Kids))]) rfl rfl rfl rfl rfl rfl rfl rfl rfl) (OkOps.y (aB x4.2) (OkOps.nil (Ok.block (Ok.loopK (fun (s5 : (List Int) × Int × Int × Int × Str × (List Attr) × (List Action) × (List Int) × Bool) => ⟨[(0, .s (.c (.d (.mp true (encM (kInt .i64) Node.cs nodes))))), (5, .s (.c (.own 1009))), (6, .s (.c (.loc 1010 0))), (7, .s (aB s5.2.2.2.2.2.2.2.2))], [(1009, .vec 1 (List.map (eInt .i64) s5.1)), (1010, .blk [cI s5.2.1, cI s5.2.2.1, cI s5.2.2.2.1, cS s5.2.2.2.2.1, .d (.sl (List.map Attr.cs s5.2.2.2.2.2.1)), .d (.sl (List.map Action.cs s5.2.2.2.2.2.2.1)), .d (.sl (List.map (eInt .i64) s5.2.2.2.2.2.2.2.1))] 55)], 0⟩) hr (Conv.mk (tau [(1009, 0), (1010, 2)]) ⟨⟨_, rfl, .inl rfl⟩, ⟨_, rfl, .inl rfl⟩, ⟨_, rfl, .inl rfl⟩, ⟨_, rfl, .inl rfl⟩, trivial⟩ ⟨rfl, rfl, trivial⟩ rfl rfl rfl rfl) ?_))))))))
  clear hr
  intro again6 s5 hr
  unfold vw_path_L1 at hr
  refine Ok.seq (Ok.seq (Ok.region (OkOps.y (aB s5.2.2.2.2.2.2.2.2) (OkOps.nil ?_))))
  refine Ok.cond (b := s5.2.2.2.2.2.2.2.2) rfl (fun h7 => ?_) (fun h7 => ?_)
  have hr := selT h7 hr
  refine Ok.skip (Ok.seq (Ok.block (Ok.region (OkOps.y (.c (.own 1009)) (OkOps.y (.c (.loc 1010 0)) (OkOps.y (aI s5.2.1) (OkOps.m 0 (triBST (sz := 1) (enc := (eInt .i64)) (j := 3) ([s5.2.1]) rfl rfl rfl rfl rfl rfl rfl rfl (fun _ => rfl) trivial rfl rfl) ?_)))))))
  obtain ⟨x8, hx8, hr⟩ := bind_some hr
  refine OkOps.m2 0 (triAppV (enc := (eInt .i64)) (L := s5.1) (X := [s5.2.1]) (j := 1009) (j' := 4) hx8 rfl rfl rfl rfl rfl rfl (fun _ => rfl) (fun _ => rfl) trivial rfl rfl) (OkOps.y (.c (.own 4)) (OkOps.nil (Ok.seq (Ok.seq (Ok.region (OkOps.y (.agg [cI s5.2.1, cI s5.2.2.1, cI s5.2.2.2.1, cS s5.2.2.2.2.1, .d (.sl (List.map Attr.cs s5.2.2.2.2.2.1)), .d (.sl (List.map Action.cs s5.2.2.2.2.2.2.1)), .d (.sl (List.map (eInt .i64) s5.2.2.2.2.2.2.2.1))]) (OkOps.nil (Ok.region (OkOps.m 0 (triAlloc (j := 5) (cs := [cI 0, cI 0, cI 0, cS ByteArray.empty, .d (.v (.slice none 0 0)), .d (.v (.slice none 0 0)), .d (.v (.slice none 0 0))]) rfl rfl rfl rfl) (OkOps.w (triStore (cs' := [cI s5.2.1, cI s5.2.2.1, cI s5.2.2.2.1, cS s5.2.2.2.2.1, .d (.sl (List.map Attr.cs s5.2.2.2.2.2.1)), .d (.sl (List.map Action.cs s5.2.2.2.2.2.2.1)), .d (.sl (List.map (eInt .i64) s5.2.2.2.2.2.2.2.1))]) rfl rfl rfl rfl rfl rfl rfl rfl rfl) (OkOps.nil (Ok.region (OkOps.y (.c (.d (.mp true (encM (kInt .i64) Node.cs nodes)))) (OkOps.y (.c (.loc 5 1)) (OkOps.y (aI s5.2.2.1) ?_)))))))))))))))
  obtain ⟨x9, hx9, hr⟩ := bind_some hr
  refine OkOps.q (triLookT (agg := true) (ek := (kInt .i64)) (ev := Node.cs) (L := nodes) (r := .agg [cI x9.1.ID, cI x9.1.Parent, cI x9.1.Kind, cS x9.1.Key, .d (.sl (List.map Attr.cs x9.1.Attrs)), .d (.sl (List.map Action.cs x9.1.Actions)), .d (.sl (List.map (eInt .i64) x9.1.Kids))]) hx9 rfl rfl rfl (keyInt Tryd.underlying3) rfl rfl (fun h => by cases h) rfl trivial rfl) ?_
  refine OkOps.q (triMv (v := .tup [.agg [cI x9.1.ID, cI x9.1.Parent, cI x9.1.Kind, cS x9.1.Key, .d (.sl (List.map Attr.cs x9.1.Attrs)), .d (.sl (List.map Action.cs x9.1.Actions)), .d (.sl (List.map (eInt .i64) x9.1.Kids))], aB x9.2]) rfl rfl) (OkOps.y (.agg [cI x9.1.ID, cI x9.1.Parent, cI x9.1.Kind, cS x9.1.Key, .d (.sl (List.map Attr.cs x9.1.Attrs)), .d (.sl (List.map Action.cs x9.1.Actions)), .d (.sl (List.map (eInt .i64) x9.1.Kids))]) (OkOps.y (aB x9.2) (OkOps.w (triStore (cs' := [cI x9.1.ID, cI x9.1.Parent, cI x9.1.Kind, cS x9.1.Key, .d (.sl (List.map Attr.cs x9.1.Attrs)), .d (.sl (List.map Action.cs x9.1.Actions)), .d (.sl (List.map (eInt .i64) x9.1.Kids))]) rfl rfl rfl rfl rfl rfl rfl rfl rfl) (OkOps.y (aB x9.2) (OkOps.nil ?_)))))
  exact ⟨(x8, x9.1.ID, x9.1.Parent, x9.1.Kind, x9.1.Key, x9.1.Attrs, x9.1.Actions, x9.1.Kids, x9.2), hr, (Conv.mk (tau [(1009, 4), (1010, 5)]) ⟨⟨_, rfl, .inl rfl⟩, ⟨_, rfl, .inl rfl⟩, ⟨_, rfl, .inl rfl⟩, ⟨_, rfl, .inl rfl⟩, trivial⟩ ⟨rfl, rfl, trivial⟩ rfl rfl rfl rfl)⟩
  have hr := selF h7 hr
  refine Ok.exit ?_
  exact ⟨s5.1, hr, (Conv.mk (tau [(1006, 1009)]) ⟨⟨_, rfl, .inl rfl⟩, trivial⟩ ⟨rfl, trivial⟩ rfl rfl rfl rfl)⟩
theorem entry56 : Entry Tryd.prog 56 := ⟨_, Tryd.func56, by kernel_rfl, by kernel_rfl⟩
theorem istrconv_small_c (i : Int) {r : Str} (hr : istrconv_small i = some r) : Con Tryd.prog 114 [aI i] [] (.s (aS r)) [] := by
  unfold istrconv_small at hr
  refine Con.of_ok 15 0 [.tmp 2] [(0, .s (aI i))] Tryd.func114 rfl rfl rfl rfl rfl rfl rfl rfl fun w g M ρ _ => (Ok.seq (Ok.region (OkOps.y (aS (ByteArray.mk #[])) (OkOps.nil (Ok.seq (Ok.seq (Ok.region (OkOps.y (aI i) (OkOps.y (aB (decide (i < 10))) (OkOps.nil ?_))))))))))
  refine Ok.cond (b := decide (i < 10)) rfl (fun h1 => ?_) (fun h1 => ?_)
  have hr := selT h1 hr
  refine Ok.seq (Ok.region (OkOps.y (aI i) (OkOps.y (aI i) (OkOps.y (aI (IntKind.i64.wrap (i + 1))) ?_))))
  obtain ⟨x2, hx2, hr⟩ := bind_some hr
  refine OkOps.q (triSSlc hx2 rfl rfl rfl (.inr ⟨_, rfl⟩) (.inr ⟨_, rfl⟩) rfl trivial rfl) (OkOps.y (aS x2) (OkOps.nil (Ok.ret ?_)))
  obtain rfl := Option.some.inj hr
  exact ⟨_, rfl, .inl rfl, trivial⟩
  have hr := selF h1 hr
  refine Ok.skip (Ok.seq (Ok.region (OkOps.y (aI i) (OkOps.y (aI (IntKind.i64.wrap (i * 2))) (OkOps.y (aI i) (OkOps.y (aI (IntKind.i64.wrap (i * 2))) (OkOps.y (aI (IntKind.i64.wrap ((IntKind.i64.wrap (i * 2)) + 2))) ?_)))))))
  obtain ⟨x3, hx3, hr⟩ := bind_some hr
  refine OkOps.q (triSSlc hx3 rfl rfl rfl (.inr ⟨_, rfl⟩) (.inr ⟨_, rfl⟩) rfl trivial rfl) (OkOps.y (aS x3) (OkOps.nil (Ok.ret ?_)))
  obtain rfl := Option.some.inj hr
  exact ⟨_, rfl, .inl rfl, trivial⟩
theorem entry114 : Entry Tryd.prog 114 := ⟨_, Tryd.func114, by kernel_rfl, by kernel_rfl⟩
theorem istrconv_FormatInt_c (i : Int) (base : Int) {r : Str} (hr : istrconv_FormatInt i base = some r) : Con Tryd.prog 108 [aI i, aI base] [] (.s (aS r)) [] := by
  unfold istrconv_FormatInt at hr
  refine Con.of_ok 54 0 [.tmp 4] [(0, .s (aI i)), (1, .s (aI base))] Tryd.func108 rfl rfl rfl rfl rfl rfl rfl rfl fun w g M ρ _ => (Ok.seq (Ok.region (OkOps.y (aS (ByteArray.mk #[])) (OkOps.nil (Ok.seq (Ok.seq (Ok.region (OkOps.y (aI base) (OkOps.y (aB (base == 10)) (OkOps.nil ?_))))))))))
  refine Ok.cond (b := base == 10) rfl (fun h1 => ?_) (fun h1 => ?_)
  have hr := selT h1 hr
  refine Ok.seq (Ok.seq (Ok.region (OkOps.y (aI i) (OkOps.y (aB (decide (0 ≤ i))) (OkOps.y (aB (decide (0 ≤ i))) (OkOps.q (triQG (x := aI i) rfl rfl trivial rfl) (OkOps.q (triQG (x := aB (decide (i < 100))) rfl rfl ⟨fun h => h, trivial⟩ rfl) (OkOps.q (triAnd rfl rfl (fun h => h) rfl) (OkOps.nil ?_)))))))))
  refine Ok.cond (b := (decide (0 ≤ i)) && (decide (i < 100))) rfl (fun h2 => ?_) (fun h2 => ?_)
  have hr := selT h2 hr
  refine Ok.seq (Ok.region (OkOps.y (aI i) ?_))
  obtain ⟨x3, hx3, hr⟩ := bind_some hr
  refine OkOps.q (triCl (tau []) (.s (aS x3)) [] (istrconv_small_c _ hx3) rfl ⟨.inl rfl, trivial⟩ trivial entry114 trivial) (OkOps.y (aS x3) (OkOps.nil (Ok.ret ?_)))
  obtain rfl := Option.some.inj hr
  exact ⟨_, rfl, .inl rfl, trivial⟩
  have hr := selF h2 hr
  refine Ok.skip (Ok.seq (Ok.region (OkOps.m 0 (triAlloc (j := 0) (cs := ([] ++ (arrC 24 (dInt .u8) (fun _ => 0) ++ []))) rfl rfl rfl rfl) (OkOps.nil (Ok.seq (Ok.region (OkOps.y (aI i) (OkOps.y (.c (.d (.v (.int .u64 (IntKind.u64.wrap i))))) (OkOps.y (.c (.d (.v (.int .u64 (IntKind.u64.wrap i))))) (OkOps.nil ?_))))))))))
  obtain ⟨k5, hk5, hr⟩ := jn_some hr
  refine Ok.join (fun (s4 : Int) => ⟨[(0, .s (aI i)), (5, .s (.c (.loc 0 0))), (6, .s (.c (.d (.v (.int .u64 s4)))))], [(0, .blk ([] ++ (arrC 24 (dInt .u8) (fun _ => 0) ++ [])) 139)], 0⟩) k5 r (fun s4 hr => ?_) ?_
  rw [hk5] at hr
  refine Ok.seq (Ok.region (OkOps.y (.c (.d (.v (.int .u64 s4)))) ?_))
  cases hr
  clear hk5
  refine Ok.seq (Ok.region (OkOps.y (aI i) (OkOps.y (aB (decide (i < 0))) (OkOps.nil ?_))))
  refine Ok.cond (b := decide (i < 0)) rfl (fun h6 => ?_) (fun h6 => ?_)
  have hr := selT h6 hr
  refine Ok.region (OkOps.y (.c (.d (.v (.int .u64 (IntKind.u64.wrap i))))) (OkOps.y (.c (.d (.v (.int .u64 (IntKind.u64.wrap (0 - (IntKind.u64.wrap i))))))) (OkOps.y (.c (.d (.v (.int .u64 (IntKind.u64.wrap (0 - (IntKind.u64.wrap i))))))) (OkOps.nil ?_))))
  exact ⟨IntKind.u64.wrap (0 - (IntKind.u64.wrap i)), hr, (Conv.mk (tau []) ⟨⟨_, rfl, .inl rfl⟩, ⟨_, rfl, .inl rfl⟩, ⟨_, rfl, .inl rfl⟩, trivial⟩ ⟨rfl, trivial⟩ rfl rfl rfl rfl)⟩
  have hr := selF h6 hr
  refine Ok.skip ?_
  exact ⟨IntKind.u64.wrap i, hr, (Conv.mk (tau []) ⟨⟨_, rfl, .inl rfl⟩, ⟨_, rfl, .inl rfl⟩, ⟨_, rfl, .inl rfl⟩, trivial⟩ ⟨rfl, trivial⟩ rfl rfl rfl rfl)⟩
  have hr := selF h1 hr
  refine Ok.skip (Ok.seq (Ok.region (OkOps.y (aI i) (OkOps.y (.c (.d (.v (.int .u64 (IntKind.u64.wrap i))))) (OkOps.y (aI base) (OkOps.y (aI i) (OkOps.y (aB (decide (i < 0))) ?_)))))))
  cases hr
theorem entry108 : Entry Tryd.prog 108 := ⟨_, Tryd.func108, by kernel_rfl, by kernel_rfl⟩
theorem istrconv_Itoa_c (i : Int) {r : Str} (hr : istrconv_Itoa i = some r) : Con Tryd.prog 82 [aI i] [] (.s (aS r)) [] := by
  unfold istrconv_Itoa at hr
  refine Con.of_ok 5 0 [.tmp 2] [(0, .s (aI i))] Tryd.func82 rfl rfl rfl rfl rfl rfl rfl rfl fun w g M ρ _ => (Ok.seq (Ok.region (OkOps.y (aS (ByteArray.mk #[])) (OkOps.nil (Ok.seq (Ok.region (OkOps.y (aI i) ?_)))))))
  obtain ⟨x1, hx1, hr⟩ := bind_some hr
  refine OkOps.q (triCl (tau []) (.s (aS x1)) [] (istrconv_FormatInt_c _ _ hx1) rfl ⟨.inl rfl, .inl rfl, trivial⟩ trivial entry108 trivial) (OkOps.y (aS x1) (OkOps.nil (Ok.ret ?_)))
  obtain rfl := Option.some.inj hr
  exact ⟨_, rfl, .inl rfl, trivial⟩
theorem entry82 : Entry Tryd.prog 82 := ⟨_, Tryd.func82, by kernel_rfl, by kernel_rfl⟩
theorem strconv_Itoa_c (i : Int) {r : Str} (hr : strconv_Itoa i = some r) : Con Tryd.prog 57 [aI i] [] (.s (aS r)) [] := by
  unfold strconv_Itoa at hr
  refine Con.of_ok 5 0 [.tmp 2] [(0, .s (aI i))] Tryd.func57 rfl rfl rfl rfl rfl rfl rfl rfl fun w g M ρ _ => (Ok.seq (Ok.region (OkOps.y (aS (ByteArray.mk #[])) (OkOps.nil (Ok.seq (Ok.region (OkOps.y (aI i) ?_)))))))
  obtain ⟨x1, hx1, hr⟩ := bind_some hr
  refine OkOps.q (triCl (tau []) (.s (aS x1)) [] (istrconv_Itoa_c _ hx1) rfl ⟨.inl rfl, trivial⟩ trivial entry82 trivial) (OkOps.y (aS x1) (OkOps.nil (Ok.ret ?_)))
  obtain rfl := Option.some.inj hr
  exact ⟨_, rfl, .inl rfl, trivial⟩
theorem entry57 : Entry Tryd.prog 57 := ⟨_, Tryd.func57, by kernel_rfl, by kernel_rfl⟩
theorem vw_PathName_c (t : Tree) (id : Int) {r : Str} (hr : vw_PathName t id = some r) : Con Tryd.prog 25 [.agg [cI t.Root, cI t.Next, .d (.sl (List.map Node.cs t.Nodes))], aI id] [] (.s (aS r)) [] := by
  unfold vw_PathName at hr
  refine Con.of_ok 82 0 [.tmp 4] [(0, .s (.agg [cI t.Root, cI t.Next, .d (.sl (List.map Node.cs t.Nodes))])), (1, .s (aI id))] Tryd.func25 rfl rfl rfl rfl rfl rfl rfl rfl fun w g M ρ _ => (Ok.seq (Ok.region (OkOps.m 0 (triBox (j := 0) (cs := [cI t.Root, cI t.Next, .d (.sl (List.map Node.cs t.Nodes))]) rfl rfl rfl rfl rfl) (OkOps.y (aS (ByteArray.mk #[])) (OkOps.nil (Ok.seq (Ok.region (OkOps.y (.agg [cI t.Root, cI t.Next, .d (.sl (List.map Node.cs t.Nodes))]) ?_))))))))
  obtain ⟨x1, hx1, hr⟩ := bind_some hr
  refine OkOps.q (triCl (tau []) (.tup [.c (.d (.mp true (encM (kInt .i64) Node.cs x1.1))), aB x1.2]) [] (vw_valid_c _ hx1) rfl ⟨.inl rfl, trivial⟩ trivial entry55 trivial) (OkOps.q (triMv (v := .tup [.c (.d (.mp true (encM (kInt .i64) Node.cs x1.1))), aB x1.2]) rfl rfl) (OkOps.y (.c (.d (.mp true (encM (kInt .i64) Node.cs x1.1)))) (OkOps.y (aB x1.2) (OkOps.y (.c (.d (.mp true (encM (kInt .i64) Node.cs x1.1)))) (OkOps.y (aB x1.2) (OkOps.nil (Ok.seq (Ok.seq (Ok.region (OkOps.y (aB x1.2) (OkOps.y (aB (!x1.2)) (OkOps.nil ?_))))))))))))
  refine Ok.cond (b := !x1.2) rfl (fun h2 => ?_) (fun h2 => ?_)
  have hr := selT h2 hr
  refine Ok.seq (Ok.region (OkOps.y (aS (ByteArray.mk #[])) (OkOps.nil (Ok.ret ?_))))
  obtain rfl := Option.some.inj hr
  exact ⟨_, rfl, .inl rfl, trivial⟩
  have hr := selF h2 hr
  refine Ok.skip (Ok.seq (Ok.region (OkOps.y (aS (ByteArray.mk #[])) (OkOps.nil ?_))))
  obtain ⟨k4, hk4, hr⟩ := jn_some hr
  refine Ok.join (fun (s3 : Str) => ⟨[(7, .s (aS s3))], [], 0⟩) k4 r (fun s3 hr => ?_) ?_
  rw [hk4] at hr
  refine Ok.seq (Ok.region (OkOps.y (aS s3) (OkOps.y (aS s3) (OkOps.nil (Ok.ret ?_)))))
  obtain rfl := Option.some.inj hr
  exact ⟨_, rfl, .inl rfl, trivial⟩
  clear hk4
  refine Ok.seq (Ok.region (OkOps.y (.c (.d (.mp true (encM (kInt .i64) Node.cs x1.1)))) (OkOps.y (aI id) ?_)))
  obtain ⟨x5, hx5, hr⟩ := bind_some hr
  refine OkOps.q (triCl (tau []) (.s (.c (.d (.sl (List.map (eInt .i64) x5))))) [] (vw_path_c _ _ hx5) rfl ⟨.inl rfl, .inl rfl, trivial⟩ trivial entry56 trivial) (OkOps.q (triLen (enc := (eInt .i64)) x5 rfl rfl trivial rfl) (OkOps.y (aI 0) (OkOps.nil (Ok.block (Ok.loopK (fun (s6 : Str × Int) => ⟨[(5, .s (.c (.d (.mp true (encM (kInt .i64) Node.cs x1.1))))), (7, .s (aS s6.1)), (24, .s (.c (.d (.sl (List.map (eInt .i64) x5))))), (25, .s (aI (x5.length : Int))), (26, .s (aI s6.2))], [], 0⟩) hr (Conv.mk (tau []) ⟨⟨_, rfl, .inl rfl⟩, ⟨_, rfl, .inl rfl⟩, ⟨_, rfl, .inl rfl⟩, ⟨_, rfl, .inl rfl⟩, ⟨_, rfl, .inl rfl⟩, trivial⟩ trivial rfl rfl rfl rfl) ?_)))))
  clear hr
  intro again7 s6 hr
  unfold vw_PathName_L2 at hr
  refine Ok.seq (Ok.region (OkOps.y (aB (decide (s6.2 < (x5.length : Int)))) (OkOps.nil (Ok.seq ?_))))
  refine Ok.cond (b := decide (s6.2 < (x5.length : Int))) rfl (fun h8 => ?_) (fun h8 => ?_)
  have hr := selT h8 hr
  refine Ok.skip ?_
  obtain ⟨k10, hk10, hr⟩ := jn_some hr
  refine Ok.join (fun (s9 : Str) => ⟨[(5, .s (.c (.d (.mp true (encM (kInt .i64) Node.cs x1.1))))), (7, .s (aS s9)), (24, .s (.c (.d (.sl (List.map (eInt .i64) x5))))), (25, .s (aI (x5.length : Int))), (26, .s (aI s6.2))], [], 0⟩) k10 r (fun s9 hr => ?_) ?_
  rw [hk10] at hr
  refine Ok.region (OkOps.y (aI (IntKind.i64.wrap (s6.2 + 1))) (OkOps.y (aI (IntKind.i64.wrap (s6.2 + 1))) (OkOps.nil ?_)))
  exact ⟨(s9, IntKind.i64.wrap (s6.2 + 1)), hr, (Conv.mk (tau []) ⟨⟨_, rfl, .inl rfl⟩, ⟨_, rfl, .inl rfl⟩, ⟨_, rfl, .inl rfl⟩, ⟨_, rfl, .inl rfl⟩, ⟨_, rfl, .inl rfl⟩, trivial⟩ trivial rfl rfl rfl rfl)⟩
  clear hk10
  refine Ok.block (Ok.seq (Ok.region ?_))
  obtain ⟨x11, hx11, hr⟩ := bind_some hr
  refine OkOps.q (triIdx (enc := (eInt .i64)) (L := x5) (row := [dI x11]) hx11 rfl rfl rfl rfl (fun _ => rfl) trivial rfl) (OkOps.y (aI x11) (OkOps.y (aI x11) (OkOps.nil (Ok.seq (Ok.region (OkOps.y (.c (.d (.mp true (encM (kInt .i64) Node.cs x1.1)))) (OkOps.y (aI x11) ?_)))))))
  obtain ⟨x12, hx12, hr⟩ := bind_some hr
  refine OkOps.q (triLook (agg := true) (ek := (kInt .i64)) (ev := Node.cs) (L := x1.1) (r := .agg [cI x12.1.ID, cI x12.1.Parent, cI x12.1.Kind, cS x12.1.Key, .d (.sl (List.map Attr.cs x12.1.Attrs)), .d (.sl (List.map Action.cs x12.1.Actions)), .d (.sl (List.map (eInt .i64) x12.1.Kids))]) hx12 rfl rfl rfl (keyInt Tryd.underlying3) rfl rfl (fun h => by cases h) rfl trivial rfl) ?_
  refine OkOps.m 0 (triAlloc (j := 1) (cs := [cI 0, cI 0, cI 0, cS ByteArray.empty, .d (.v (.slice none 0 0)), .d (.v (.slice none 0 0)), .d (.v (.slice none 0 0))]) rfl rfl rfl rfl) (OkOps.w (triStore (cs' := [cI x12.1.ID, cI x12.1.Parent, cI x12.1.Kind, cS x12.1.Key, .d (.sl (List.map Attr.cs x12.1.Attrs)), .d (.sl (List.map Action.cs x12.1.Actions)), .d (.sl (List.map (eInt .i64) x12.1.Kids))]) rfl rfl rfl rfl rfl rfl rfl rfl rfl) (OkOps.nil (Ok.seq (Ok.seq (Ok.region (OkOps.y (.c (.loc 1 3)) (OkOps.y (aS x12.1.Key) (OkOps.y (aB (!(x12.1.Key.toList == (ByteArray.mk #[]).toList))) (OkOps.nil ?_)))))))))
  refine Ok.cond (b := !(x12.1.Key.toList == (ByteArray.mk #[]).toList)) rfl (fun h13 => ?_) (fun h13 => ?_)
  have hr := selT h13 hr
  refine Ok.seq (Ok.region (OkOps.y (aS s6.1) (OkOps.y (.c (.loc 1 3)) (OkOps.y (aS x12.1.Key) ?_))))
  obtain ⟨x14, hx14, hr⟩ := bind_some hr
  refine OkOps.q (triCat hx14 rfl rfl trivial rfl) ?_
  obtain ⟨x15, hx15, hr⟩ := bind_some hr
  refine OkOps.q (triCat hx15 rfl rfl trivial rfl) (OkOps.y (aS x15) (OkOps.nil (Ok.exit ?_)))
  exact ⟨x15, hr, (Conv.mk (tau []) ⟨⟨_, rfl, .inl rfl⟩, ⟨_, rfl, .inl rfl⟩, ⟨_, rfl, .inl rfl⟩, ⟨_, rfl, .inl rfl⟩, ⟨_, rfl, .inl rfl⟩, trivial⟩ trivial rfl rfl rfl rfl)⟩
  have hr := selF h13 hr
  refine Ok.skip (Ok.seq (Ok.region (OkOps.y (aI 0) (OkOps.nil ?_))))
  obtain ⟨k17, hk17, hr⟩ := jn_some hr
  refine Ok.join (fun (s16 : Int) => ⟨[(5, .s (.c (.d (.mp true (encM (kInt .i64) Node.cs x1.1))))), (7, .s (aS s6.1)), (10, .s (.c (.loc 1 0))), (11, .s (aI s16)), (24, .s (.c (.d (.sl (List.map (eInt .i64) x5))))), (25, .s (aI (x5.length : Int))), (26, .s (aI s6.2))], [(1, .blk [cI x12.1.ID, cI x12.1.Parent, cI x12.1.Kind, cS x12.1.Key, .d (.sl (List.map Attr.cs x12.1.Attrs)), .d (.sl (List.map Action.cs x12.1.Actions)), .d (.sl (List.map (eInt .i64) x12.1.Kids))] 55)], 0⟩) k17 r (fun s16 hr => ?_) ?_
  rw [hk17] at hr
  refine Ok.region (OkOps.y (aS s6.1) (OkOps.y (.c (.loc 1 2)) (OkOps.y (aI x12.1.Kind) ?_)))
  obtain ⟨x18, hx18, hr⟩ := bind_some hr
  refine OkOps.q (triCl (tau []) (.s (aS x18)) [] (strconv_Itoa_c _ hx18) rfl ⟨.inl rfl, trivial⟩ trivial entry57 trivial) ?_
  obtain ⟨x19, hx19, hr⟩ := bind_some hr
  refine OkOps.q (triCat hx19 rfl rfl trivial rfl) ?_
  obtain ⟨x20, hx20, hr⟩ := bind_some hr
  refine OkOps.q (triCat hx20 rfl rfl trivial rfl) (OkOps.y (aI s16) ?_)
  obtain ⟨x21, hx21, hr⟩ := bind_some hr
  refine OkOps.q (triCl (tau []) (.s (aS x21)) [] (strconv_Itoa_c _ hx21) rfl ⟨.inl rfl, trivial⟩ trivial entry57 trivial) ?_
  obtain ⟨x22, hx22, hr⟩ := bind_some hr
  refine OkOps.q (triCat hx22 rfl rfl trivial rfl) ?_
  obtain ⟨x23, hx23, hr⟩ := bind_some hr
  refine OkOps.q (triCat hx23 rfl rfl trivial rfl) (OkOps.y (aS x23) (OkOps.nil ?_))
  exact ⟨x23, hr, (Conv.mk (tau []) ⟨⟨_, rfl, .inl rfl⟩, ⟨_, rfl, .inl rfl⟩, ⟨_, rfl, .inl rfl⟩, ⟨_, rfl, .inl rfl⟩, ⟨_, rfl, .inl rfl⟩, trivial⟩ trivial rfl rfl rfl rfl)⟩
  clear hk17
  refine Ok.seq (Ok.region (OkOps.y (.c (.d (.mp true (encM (kInt .i64) Node.cs x1.1)))) (OkOps.y (.c (.loc 1 1)) (OkOps.y (aI x12.1.Parent) ?_))))
  obtain ⟨x24, hx24, hr⟩ := bind_some hr
  refine OkOps.q (triLook (agg := true) (ek := (kInt .i64)) (ev := Node.cs) (L := x1.1) (r := .agg [cI x24.1.ID, cI x24.1.Parent, cI x24.1.Kind, cS x24.1.Key, .d (.sl (List.map Attr.cs x24.1.Attrs)), .d (.sl (List.map Action.cs x24.1.Actions)), .d (.sl (List.map (eInt .i64) x24.1.Kids))]) hx24 rfl rfl rfl (keyInt Tryd.underlying3) rfl rfl (fun h => by cases h) rfl trivial rfl) ?_
  refine OkOps.y (.c (.d (.sl (List.map (eInt .i64) x24.1.Kids)))) (OkOps.q (triLen (enc := (eInt .i64)) x24.1.Kids rfl rfl trivial rfl) (OkOps.y (aI 0) (OkOps.nil (Ok.block (Ok.loopK (fun (s25 : Int × Int) => ⟨[(5, .s (.c (.d (.mp true (encM (kInt .i64) Node.cs x1.1))))), (7, .s (aS s6.1)), (9, .s (aI x11)), (10, .s (.c (.loc 1 0))), (11, .s (aI s25.1)), (24, .s (.c (.d (.sl (List.map (eInt .i64) x5))))), (25, .s (aI (x5.length : Int))), (26, .s (aI s6.2)), (45, .s (.c (.d (.sl (List.map (eInt .i64) x24.1.Kids))))), (46, .s (aI (x24.1.Kids.length : Int))), (47, .s (aI s25.2))], [(1, .blk [cI x12.1.ID, cI x12.1.Parent, cI x12.1.Kind, cS x12.1.Key, .d (.sl (List.map Attr.cs x12.1.Attrs)), .d (.sl (List.map Action.cs x12.1.Actions)), .d (.sl (List.map (eInt .i64) x12.1.Kids))] 55)], 0⟩) hr (Conv.mk (tau []) ⟨⟨_, rfl, .inl rfl⟩, ⟨_, rfl, .inl rfl⟩, ⟨_, rfl, .inl rfl⟩, ⟨_, rfl, .inl rfl⟩, ⟨_, rfl, .inl rfl⟩, ⟨_, rfl, .inl rfl⟩, ⟨_, rfl, .inl rfl⟩, ⟨_, rfl, .inl rfl⟩, ⟨_, rfl, .inl rfl⟩, ⟨_, rfl, .inl rfl⟩, ⟨_, rfl, .inl rfl⟩, trivial⟩ ⟨rfl, trivial⟩ rfl rfl rfl rfl) ?_)))))
  clear hr
  intro again26 s25 hr
  unfold vw_PathName_L1 at hr
  refine Ok.seq (Ok.region (OkOps.y (aB (decide (s25.2 < (x24.1.Kids.length : Int)))) (OkOps.nil (Ok.seq ?_))))
  refine Ok.cond (b := decide (s25.2 < (x24.1.Kids.length : Int))) rfl (fun h27 => ?_) (fun h27 => ?_)
  have hr := selT h27 hr
  refine Ok.skip ?_
  obtain ⟨k29, hk29, hr⟩ := jn_some hr
  refine Ok.join (fun (s28 : Int) => ⟨[(5, .s (.c (.d (.mp true (encM (kInt .i64) Node.cs x1.1))))), (7, .s (aS s6.1)), (9, .s (aI x11)), (10, .s (.c (.loc 1 0))), (11, .s (aI s28)), (24, .s (.c (.d (.sl (List.map (eInt .i64) x5))))), (25, .s (aI (x5.length : Int))), (26, .s (aI s6.2)), (45, .s (.c (.d (.sl (List.map (eInt .i64) x24.1.Kids))))), (46, .s (aI (x24.1.Kids.length : Int))), (47, .s (aI s25.2))], [(1, .blk [cI x12.1.ID, cI x12.1.Parent, cI x12.1.Kind, cS x12.1.Key, .d (.sl (List.map Attr.cs x12.1.Attrs)), .d (.sl (List.map Action.cs x12.1.Actions)), .d (.sl (List.map (eInt .i64) x12.1.Kids))] 55)], 0⟩) k29 r (fun s28 hr => ?_) ?_
  rw [hk29] at hr
  refine Ok.region (OkOps.y (aI (IntKind.i64.wrap (s25.2 + 1))) (OkOps.y (aI (IntKind.i64.wrap (s25.2 + 1))) (OkOps.nil ?_)))
  exact ⟨(s28, IntKind.i64.wrap (s25.2 + 1)), hr, (Conv.mk (tau []) ⟨⟨_, rfl, .inl rfl⟩, ⟨_, rfl, .inl rfl⟩, ⟨_, rfl, .inl rfl⟩, ⟨_, rfl, .inl rfl⟩, ⟨_, rfl, .inl rfl⟩, ⟨_, rfl, .inl rfl⟩, ⟨_, rfl, .inl rfl⟩, ⟨_, rfl, .inl rfl⟩, ⟨_, rfl, .inl rfl⟩, ⟨_, rfl, .inl rfl⟩, ⟨_, rfl, .inl rfl⟩, trivial⟩ ⟨rfl, trivial⟩ rfl rfl rfl rfl)⟩
  clear hk29
  refine Ok.block (Ok.seq (Ok.region ?_))
  obtain ⟨x30, hx30, hr⟩ := bind_some hr
  refine OkOps.q (triIdx (enc := (eInt .i64)) (L := x24.1.Kids) (row := [dI x30]) hx30 rfl rfl rfl rfl (fun _ => rfl) trivial rfl) (OkOps.y (aI x30) (OkOps.y (aI x30) (OkOps.nil (Ok.seq (Ok.seq (Ok.region (OkOps.y (aI x30) (OkOps.y (aI x11) (OkOps.y (aB (x30 == x11)) (OkOps.nil ?_))))))))))
  refine Ok.cond (b := x30 == x11) rfl (fun h31 => ?_) (fun h31 => ?_)
  have hr := selT h31 hr
  refine Ok.exit ?_
  exact ⟨s25.1, hr, (Conv.mk (tau []) ⟨⟨_, rfl, .inl rfl⟩, ⟨_, rfl, .inl rfl⟩, ⟨_, rfl, .inl rfl⟩, ⟨_, rfl, .inl rfl⟩, ⟨_, rfl, .inl rfl⟩, ⟨_, rfl, .inl rfl⟩, ⟨_, rfl, .inl rfl⟩, trivial⟩ ⟨rfl, trivial⟩ rfl rfl rfl rfl)⟩
  have hr := selF h31 hr
  refine Ok.skip (Ok.seq (Ok.region (OkOps.y (.c (.d (.mp true (encM (kInt .i64) Node.cs x1.1)))) (OkOps.y (aI x30) ?_))))
  obtain ⟨x32, hx32, hr⟩ := bind_some hr
  refine OkOps.q (triLook (agg := true) (ek := (kInt .i64)) (ev := Node.cs) (L := x1.1) (r := .agg [cI x32.1.ID, cI x32.1.Parent, cI x32.1.Kind, cS x32.1.Key, .d (.sl (List.map Attr.cs x32.1.Attrs)), .d (.sl (List.map Action.cs x32.1.Actions)), .d (.sl (List.map (eInt .i64) x32.1.Kids))]) hx32 rfl rfl rfl (keyInt Tryd.underlying3) rfl rfl (fun h => by cases h) rfl trivial rfl) ?_
  refine OkOps.m 0 (triAlloc (j := 2) (cs := [cI 0, cI 0, cI 0, cS ByteArray.empty, .d (.v (.slice none 0 0)), .d (.v (.slice none 0 0)), .d (.v (.slice none 0 0))]) rfl rfl rfl rfl) (OkOps.w (triStore (cs' := [cI x32.1.ID, cI x32.1.Parent, cI x32.1.Kind, cS x32.1.Key, .d (.sl (List.map Attr.cs x32.1.Attrs)), .d (.sl (List.map Action.cs x32.1.Actions)), .d (.sl (List.map (eInt .i64) x32.1.Kids))]) rfl rfl rfl rfl rfl rfl rfl rfl rfl) (OkOps.nil (Ok.seq (Ok.region (OkOps.y (.c (.loc 2 3)) (OkOps.y (aS x32.1.Key) (OkOps.y (aB (x32.1.Key.toList == (ByteArray.mk #[]).toList)) (OkOps.y (aB (x32.1.Key.toList == (ByteArray.mk #[]).toList)) (OkOps.q (triQG (x := .c (.loc 2 2)) rfl rfl trivial rfl) (OkOps.q (triQG (x := aI x32.1.Kind) rfl rfl ⟨fun h => h, trivial⟩ rfl) (OkOps.q (triQG (x := .c (.loc 1 2)) rfl rfl trivial rfl) (OkOps.q (triQG (x := aI x12.1.Kind) rfl rfl ⟨fun h => h, trivial⟩ rfl) (OkOps.q (triQG (x := aB (x32.1.Kind == x12.1.Kind)) rfl rfl ⟨fun h => h, ⟨fun h => h, trivial⟩⟩ rfl) (OkOps.q (triAnd rfl rfl (fun h => h) rfl) (OkOps.nil ?_)))))))))))))))
  refine Ok.cond (b := (x32.1.Key.toList == (ByteArray.mk #[]).toList) && (x32.1.Kind == x12.1.Kind)) rfl (fun h33 => ?_) (fun h33 => ?_)
  have hr := selT h33 hr
  refine Ok.region (OkOps.y (aI s25.1) (OkOps.y (aI (IntKind.i64.wrap (s25.1 + 1))) (OkOps.y (aI (IntKind.i64.wrap (s25.1 + 1))) (OkOps.nil ?_))))
  exact ⟨IntKind.i64.wrap (s25.1 + 1), hr, (Conv.mk (tau []) ⟨⟨_, rfl, .inl rfl⟩, ⟨_, rfl, .inl rfl⟩, ⟨_, rfl, .inl rfl⟩, ⟨_, rfl, .inl rfl⟩, ⟨_, rfl, .inl rfl⟩, ⟨_, rfl, .inl rfl⟩, ⟨_, rfl, .inl rfl⟩, ⟨_, rfl, .inl rfl⟩, ⟨_, rfl, .inl rfl⟩, ⟨_, rfl, .inl rfl⟩, ⟨_, rfl, .inl rfl⟩, trivial⟩ ⟨rfl, trivial⟩ rfl rfl rfl rfl)⟩
  have hr := selF h33 hr
  refine Ok.skip ?_
  exact ⟨s25.1, hr, (Conv.mk (tau []) ⟨⟨_, rfl, .inl rfl⟩, ⟨_, rfl, .inl rfl⟩, ⟨_, rfl, .inl rfl⟩, ⟨_, rfl, .inl rfl⟩, ⟨_, rfl, .inl rfl⟩, ⟨_, rfl, .inl rfl⟩, ⟨_, rfl, .inl rfl⟩, ⟨_, rfl, .inl rfl⟩, ⟨_, rfl, .inl rfl⟩, ⟨_, rfl, .inl rfl⟩, ⟨_, rfl, .inl rfl⟩, trivial⟩ ⟨rfl, trivial⟩ rfl rfl rfl rfl)⟩
  have hr := selF h27 hr
  refine Ok.exit ?_
  exact ⟨s25.1, hr, (Conv.mk (tau []) ⟨⟨_, rfl, .inl rfl⟩, ⟨_, rfl, .inl rfl⟩, ⟨_, rfl, .inl rfl⟩, ⟨_, rfl, .inl rfl⟩, ⟨_, rfl, .inl rfl⟩, ⟨_, rfl, .inl rfl⟩, ⟨_, rfl, .inl rfl⟩, trivial⟩ ⟨rfl, trivial⟩ rfl rfl rfl rfl)⟩
  have hr := selF h8 hr
  refine Ok.exit ?_
  exact ⟨s6.1, hr, (Conv.mk (tau []) ⟨⟨_, rfl, .inl rfl⟩, trivial⟩ trivial rfl rfl rfl rfl)⟩
theorem entry25 : Entry Tryd.prog 25 := ⟨_, Tryd.func25, by kernel_rfl, by kernel_rfl⟩
end Go.Proofs.YtcfegecdlbbeaaaDoor
end

/-
  Part 3 of the texts under the law ViewSpoilt: the calculus, the plain functions, their walks, plain facts.
-/
import Derived.Test.YtcfegecdlbbeaaaDoorViewSpoiltB2
import Derived.Test.YtcfegecdlbbeaaaDoorProg
import Derived.KernelRfl
section
set_option maxRecDepth 100000
namespace Go.Proofs.YtcfegecdlbbeaaaDoor
open Go Go.E2
theorem r11_letter_c (c : Int) {r : Bool} (hr : r11_letter c = some r) : Con Tryd.prog 106 [.c (.d (.v (.int .u8 c)))] [] (.s (aB r)) [] := by
  unfold r11_letter at hr
  refine Con.of_ok 17 0 [.tmp 2] [(0, .s (.c (.d (.v (.int .u8 c)))))] Tryd.func106 rfl rfl rfl rfl rfl rfl rfl rfl fun w g M ρ _ => (Ok.seq (Ok.region (OkOps.y (aB false) (OkOps.nil (Ok.seq (Ok.region (OkOps.y (.c (.d (.v (.int .u8 c)))) (OkOps.y (aB (decide (c ≥ 97))) (OkOps.y (aB (decide (c ≥ 97))) (OkOps.q (triQG (x := .c (.d (.v (.int .u8 c)))) rfl rfl trivial rfl) (OkOps.q (triQG (x := aB (decide (c ≤ 122))) rfl rfl ⟨fun h => h, trivial⟩ rfl) (OkOps.q (triAnd rfl rfl (fun h => h) rfl) (OkOps.y (aB ((decide (c ≥ 97)) && (decide (c ≤ 122)))) (OkOps.q (triQG (x := .c (.d (.v (.int .u8 c)))) rfl rfl trivial rfl) (OkOps.q (triQG (x := aB (decide (c ≥ 65))) rfl rfl ⟨fun h => h, trivial⟩ rfl) ?_)))))))))))))))
  refine OkOps.q (triQG (x := aB (decide (c ≥ 65))) rfl rfl ⟨fun h => h, trivial⟩ rfl) (OkOps.q (triQG (x := .c (.d (.v (.int .u8 c)))) rfl rfl trivial rfl) (OkOps.q (triQG (x := aB (decide (c ≤ 90))) rfl rfl ⟨fun h => h, trivial⟩ rfl) ?_))
  refine OkOps.q (triAndG rfl rfl rfl (fun h => h) (fun h h2 => by rw [h, h2]; rfl) rfl) ?_
  refine OkOps.q (triOr rfl rfl (fun h => by rw [h]; rfl) rfl) ?_
  refine OkOps.y (aB (((decide (c ≥ 97)) && (decide (c ≤ 122))) || ((decide (c ≥ 65)) && (decide (c ≤ 90))))) (OkOps.nil (Ok.ret ?_))
  obtain rfl := Option.some.inj hr
  exact ⟨_, rfl, .inl rfl, trivial⟩
theorem entry106 : Entry Tryd.prog 106 := ⟨_, Tryd.func106, by kernel_rfl, by kernel_rfl⟩
theorem r11_Name_c (p_s : Str) {r : Bool} (hr : r11_Name p_s = some r) : Con Tryd.prog 79 [aS p_s] [] (.s (aB r)) [] := by
  unfold r11_Name at hr
  refine Con.of_ok 53 0 [.tmp 2] [(0, .s (aS p_s))] Tryd.func79 rfl rfl rfl rfl rfl rfl rfl rfl fun w g M ρ _ => (Ok.seq (Ok.region (OkOps.y (aB false) (OkOps.nil (Ok.seq (Ok.seq (Ok.region (OkOps.y (aS p_s) (OkOps.y (aI (p_s.size : Int)) (OkOps.y (aB (decide ((p_s.size : Int) < 1))) (OkOps.y (aB (decide ((p_s.size : Int) < 1))) (OkOps.q (triQG (x := aS p_s) rfl rfl trivial rfl) (OkOps.q (triQG (x := aI (p_s.size : Int)) rfl rfl ⟨fun h => h, trivial⟩ rfl) (OkOps.q (triQG (x := aB (decide ((p_s.size : Int) > 24))) rfl rfl ⟨fun h => h, trivial⟩ rfl) ?_))))))))))))))
  refine OkOps.q (triOr rfl rfl (fun h => by rw [h]; rfl) rfl) ?_
  refine OkOps.y (aB ((decide ((p_s.size : Int) < 1)) || (decide ((p_s.size : Int) > 24)))) (OkOps.q (triQG (x := aS p_s) rfl rfl trivial rfl) ?_)
  obtain ⟨x1, hx1, hr⟩ := bind_some hr
  refine OkOps.q (triSIdxG (gO_t hx1) rfl rfl rfl rfl ⟨fun h => h, trivial⟩ rfl) ?_
  obtain ⟨x2, hx2, hr⟩ := bind_some hr
  refine OkOps.q (triCallG (x := aB x2) (fun hg => r11_letter_c _ (gO_t hx2 hg)) rfl rfl ⟨.inl rfl, trivial⟩ ⟨fun h => h, trivial⟩ entry106 rfl rfl rfl) (OkOps.q (triQG (x := aB (!x2)) rfl rfl ⟨fun h => h, trivial⟩ rfl) ?_)
  refine OkOps.q (triOr rfl rfl (fun h => by rw [h]; rfl) rfl) ?_
  refine OkOps.nil ?_
  refine Ok.cond (b := ((decide ((p_s.size : Int) < 1)) || (decide ((p_s.size : Int) > 24))) || (!x2)) rfl (fun h3 => ?_) (fun h3 => ?_)
  have hr := selT h3 hr
  refine Ok.seq (Ok.region (OkOps.y (aB false) (OkOps.nil (Ok.ret ?_))))
  obtain rfl := Option.some.inj hr
  exact ⟨_, rfl, .inl rfl, trivial⟩
  have hr := selF h3 hr
  refine Ok.skip ?_
  obtain ⟨k5, hk5, hr⟩ := jn_some hr
  refine Ok.join (fun (s4 : Unit) => ⟨[], [], 0⟩) k5 r (fun s4 hr => ?_) ?_
  rw [hk5] at hr
  refine Ok.seq (Ok.region (OkOps.y (aB true) (OkOps.nil (Ok.ret ?_))))
  obtain rfl := Option.some.inj hr
  exact ⟨_, rfl, .inl rfl, trivial⟩
  clear hk5
  refine Ok.seq (Ok.region (OkOps.y (aI 1) (OkOps.nil (Ok.block (Ok.loopK (fun (s6 : Int) => ⟨[(0, .s (aS p_s)), (3, .s (aI s6))], [], 0⟩) hr (Conv.mk (tau []) ⟨⟨_, rfl, .inl rfl⟩, ⟨_, rfl, .inl rfl⟩, trivial⟩ trivial rfl rfl rfl rfl) ?_)))))
  clear hr
  intro again7 s6 hr
  unfold r11_Name_L1 at hr
  refine Ok.seq (Ok.seq (Ok.region (OkOps.y (aI s6) (OkOps.y (aS p_s) (OkOps.y (aI (p_s.size : Int)) (OkOps.y (aB (decide (s6 < (p_s.size : Int)))) (OkOps.nil ?_)))))))
  refine Ok.cond (b := decide (s6 < (p_s.size : Int))) rfl (fun h8 => ?_) (fun h8 => ?_)
  have hr := selT h8 hr
  refine Ok.skip (Ok.seq (Ok.block (Ok.seq (Ok.region (OkOps.y (aS p_s) (OkOps.y (aI s6) ?_))))))
  obtain ⟨x9, hx9, hr⟩ := bind_some hr
  refine OkOps.q (triSIdx hx9 rfl rfl rfl trivial rfl) ?_
  obtain ⟨x10, hx10, hr⟩ := bind_some hr
  refine OkOps.q (triCl (tau []) (.s (aB x10)) [] (r11_letter_c _ hx10) rfl ⟨.inl rfl, trivial⟩ trivial entry106 trivial) (OkOps.y (aB (!x10)) (OkOps.y (aB (!x10)) (OkOps.q (triQG (x := aS p_s) rfl rfl trivial rfl) (OkOps.q (triQG (x := aI s6) rfl rfl trivial rfl) ?_))))
  obtain ⟨x11, hx11, hr⟩ := bind_some hr
  refine OkOps.q (triSIdxG (gO_t hx11) rfl rfl rfl rfl ⟨fun h => h, ⟨fun h => h, trivial⟩⟩ rfl) (OkOps.q (triQG (x := aB (decide (x11 < 48))) rfl rfl ⟨fun h => h, trivial⟩ rfl) (OkOps.q (triQG (x := aB (decide (x11 < 48))) rfl rfl ⟨fun h => h, trivial⟩ rfl) (OkOps.q (triQG (x := aS p_s) rfl rfl trivial rfl) (OkOps.q (triQG (x := aI s6) rfl rfl trivial rfl) ?_))))
  obtain ⟨x12, hx12, hr⟩ := bind_some hr
  refine OkOps.q (triSIdxG (gO_t hx12) rfl rfl rfl rfl ⟨fun h => h, ⟨fun h => h, trivial⟩⟩ rfl) (OkOps.q (triQG (x := aB (decide (x12 > 57))) rfl rfl ⟨fun h => h, trivial⟩ rfl) ?_)
  refine OkOps.q (triOrG rfl rfl rfl (fun h => h) (fun h h2 => by rw [h, h2]; rfl) rfl) ?_
  refine OkOps.q (triAnd rfl rfl (fun h => h) rfl) (OkOps.y (aB ((!x10) && ((decide (x11 < 48)) || (decide (x12 > 57))))) (OkOps.q (triQG (x := aS p_s) rfl rfl trivial rfl) (OkOps.q (triQG (x := aI s6) rfl rfl trivial rfl) ?_)))
  obtain ⟨x13, hx13, hr⟩ := bind_some hr
  refine OkOps.q (triSIdxG (gO_t hx13) rfl rfl rfl rfl ⟨fun h => h, ⟨fun h => h, trivial⟩⟩ rfl) (OkOps.q (triQG (x := aB (x13 != 45)) rfl rfl ⟨fun h => h, trivial⟩ rfl) (OkOps.q (triAnd rfl rfl (fun h => h) rfl) (OkOps.y (aB (((!x10) && ((decide (x11 < 48)) || (decide (x12 > 57)))) && (x13 != 45))) (OkOps.q (triQG (x := aS p_s) rfl rfl trivial rfl) (OkOps.q (triQG (x := aI s6) rfl rfl trivial rfl) ?_)))))
  obtain ⟨x14, hx14, hr⟩ := bind_some hr
  refine OkOps.q (triSIdxG (gO_t hx14) rfl rfl rfl rfl ⟨fun h => h, ⟨fun h => h, trivial⟩⟩ rfl) (OkOps.q (triQG (x := aB (x14 != 95)) rfl rfl ⟨fun h => h, trivial⟩ rfl) (OkOps.q (triAnd rfl rfl (fun h => h) rfl) (OkOps.nil ?_)))
  refine Ok.cond (b := (((!x10) && ((decide (x11 < 48)) || (decide (x12 > 57)))) && (x13 != 45)) && (x14 != 95)) rfl (fun h15 => ?_) (fun h15 => ?_)
  have hr := selT h15 hr
  refine Ok.seq (Ok.region (OkOps.y (aB false) (OkOps.nil (Ok.ret ?_))))
  obtain rfl := Option.some.inj hr
  exact ⟨_, rfl, .inl rfl, trivial⟩
  have hr := selF h15 hr
  refine Ok.skip (Ok.region (OkOps.y (aI s6) (OkOps.y (aI (IntKind.i64.wrap (s6 + 1))) (OkOps.y (aI (IntKind.i64.wrap (s6 + 1))) (OkOps.nil ?_)))))
  exact ⟨IntKind.i64.wrap (s6 + 1), hr, (Conv.mk (tau []) ⟨⟨_, rfl, .inl rfl⟩, ⟨_, rfl, .inl rfl⟩, trivial⟩ trivial rfl rfl rfl rfl)⟩
  have hr := selF h8 hr
  refine Ok.exit ?_
  exact ⟨(), hr, (Conv.mk (tau []) trivial trivial rfl rfl rfl rfl)⟩
theorem entry79 : Entry Tryd.prog 79 := ⟨_, Tryd.func79, by kernel_rfl, by kernel_rfl⟩
theorem ex_Name_c (p_s : Str) {r : Bool} (hr : ex_Name p_s = some r) : Con Tryd.prog 104 [aS p_s] [] (.s (aB r)) [] := by
  unfold ex_Name at hr
  refine Con.of_ok 59 0 [.tmp 2] [(0, .s (aS p_s))] Tryd.func104 rfl rfl rfl rfl rfl rfl rfl rfl fun w g M ρ _ => (Ok.seq (Ok.region (OkOps.y (aB false) (OkOps.nil (Ok.seq (Ok.seq (Ok.region (OkOps.y (aS p_s) (OkOps.y (aI (p_s.size : Int)) (OkOps.y (aB ((p_s.size : Int) == 0)) (OkOps.y (aB ((p_s.size : Int) == 0)) (OkOps.q (triQG (x := aS p_s) rfl rfl trivial rfl) (OkOps.q (triQG (x := aI (p_s.size : Int)) rfl rfl ⟨fun h => h, trivial⟩ rfl) (OkOps.q (triQG (x := aB (decide ((p_s.size : Int) > 24))) rfl rfl ⟨fun h => h, trivial⟩ rfl) ?_))))))))))))))
  refine OkOps.q (triOr rfl rfl (fun h => by rw [h]; rfl) rfl) ?_
  refine OkOps.nil ?_
  refine Ok.cond (b := ((p_s.size : Int) == 0) || (decide ((p_s.size : Int) > 24))) rfl (fun h1 => ?_) (fun h1 => ?_)
  have hr := selT h1 hr
  refine Ok.seq (Ok.region (OkOps.y (aB false) (OkOps.nil (Ok.ret ?_))))
  obtain rfl := Option.some.inj hr
  exact ⟨_, rfl, .inl rfl, trivial⟩
  have hr := selF h1 hr
  refine Ok.skip ?_
  obtain ⟨k3, hk3, hr⟩ := jn_some hr
  refine Ok.join (fun (s2 : Unit) => ⟨[], [], 0⟩) k3 r (fun s2 hr => ?_) ?_
  rw [hk3] at hr
  refine Ok.seq (Ok.region (OkOps.y (aB true) (OkOps.nil (Ok.ret ?_))))
  obtain rfl := Option.some.inj hr
  exact ⟨_, rfl, .inl rfl, trivial⟩
  clear hk3
  refine Ok.seq (Ok.region (OkOps.y (aS p_s) (OkOps.y (aI (p_s.size : Int)) (OkOps.y (aI 0) (OkOps.nil (Ok.block (Ok.loopK (fun (s4 : Int) => ⟨[(0, .s (aS p_s)), (15, .s (aI (p_s.size : Int))), (16, .s (aI s4))], [], 0⟩) hr (Conv.mk (tau []) ⟨⟨_, rfl, .inl rfl⟩, ⟨_, rfl, .inl rfl⟩, ⟨_, rfl, .inl rfl⟩, trivial⟩ trivial rfl rfl rfl rfl) ?_)))))))
  clear hr
  intro again5 s4 hr
  unfold ex_Name_L1 at hr
  refine Ok.seq (Ok.region (OkOps.y (aB (decide (s4 < (p_s.size : Int)))) (OkOps.nil (Ok.seq ?_))))
  refine Ok.cond (b := decide (s4 < (p_s.size : Int))) rfl (fun h6 => ?_) (fun h6 => ?_)
  have hr := selT h6 hr
  refine Ok.skip (Ok.seq (Ok.block (Ok.seq (Ok.region (OkOps.y (aI s4) (OkOps.y (aI s4) (OkOps.nil (Ok.seq (Ok.region (OkOps.y (aS p_s) (OkOps.y (aI s4) ?_)))))))))))
  obtain ⟨x7, hx7, hr⟩ := bind_some hr
  refine OkOps.q (triSIdx hx7 rfl rfl rfl trivial rfl) (OkOps.y (.c (.d (.v (.int .u8 x7)))) (OkOps.nil (Ok.seq (Ok.region (OkOps.y (.c (.d (.v (.int .u8 x7)))) (OkOps.y (aB (decide (x7 ≥ 97))) (OkOps.y (aB (decide (x7 ≥ 97))) (OkOps.q (triQG (x := .c (.d (.v (.int .u8 x7)))) rfl rfl trivial rfl) (OkOps.q (triQG (x := aB (decide (x7 ≤ 122))) rfl rfl ⟨fun h => h, trivial⟩ rfl) (OkOps.q (triAnd rfl rfl (fun h => h) rfl) (OkOps.y (aB ((decide (x7 ≥ 97)) && (decide (x7 ≤ 122)))) (OkOps.q (triQG (x := .c (.d (.v (.int .u8 x7)))) rfl rfl trivial rfl) (OkOps.q (triQG (x := aB (decide (x7 ≥ 65))) rfl rfl ⟨fun h => h, trivial⟩ rfl) (OkOps.q (triQG (x := aB (decide (x7 ≥ 65))) rfl rfl ⟨fun h => h, trivial⟩ rfl) (OkOps.q (triQG (x := .c (.d (.v (.int .u8 x7)))) rfl rfl trivial rfl) ?_)))))))))))))))
  refine OkOps.q (triQG (x := aB (decide (x7 ≤ 90))) rfl rfl ⟨fun h => h, trivial⟩ rfl) ?_
  refine OkOps.q (triAndG rfl rfl rfl (fun h => h) (fun h h2 => by rw [h, h2]; rfl) rfl) ?_
  refine OkOps.q (triOr rfl rfl (fun h => by rw [h]; rfl) rfl) ?_
  refine OkOps.y (aB (((decide (x7 ≥ 97)) && (decide (x7 ≤ 122))) || ((decide (x7 ≥ 65)) && (decide (x7 ≤ 90))))) (OkOps.nil (Ok.seq (Ok.region (OkOps.y (aB (((decide (x7 ≥ 97)) && (decide (x7 ≤ 122))) || ((decide (x7 ≥ 65)) && (decide (x7 ≤ 90))))) (OkOps.y (aB (!(((decide (x7 ≥ 97)) && (decide (x7 ≤ 122))) || ((decide (x7 ≥ 65)) && (decide (x7 ≤ 90)))))) (OkOps.y (aB (!(((decide (x7 ≥ 97)) && (decide (x7 ≤ 122))) || ((decide (x7 ≥ 65)) && (decide (x7 ≤ 90)))))) (OkOps.q (triQG (x := aI s4) rfl rfl trivial rfl) (OkOps.q (triQG (x := aB (s4 == 0)) rfl rfl ⟨fun h => h, trivial⟩ rfl) (OkOps.q (triQG (x := aB (s4 == 0)) rfl rfl ⟨fun h => h, trivial⟩ rfl) (OkOps.q (triQG (x := .c (.d (.v (.int .u8 x7)))) rfl rfl trivial rfl) (OkOps.q (triQG (x := aB (decide (x7 < 48))) rfl rfl ⟨fun h => h, trivial⟩ rfl) (OkOps.q (triQG (x := aB (decide (x7 < 48))) rfl rfl ⟨fun h => h, trivial⟩ rfl) (OkOps.q (triQG (x := .c (.d (.v (.int .u8 x7)))) rfl rfl trivial rfl) (OkOps.q (triQG (x := aB (decide (x7 > 57))) rfl rfl ⟨fun h => h, trivial⟩ rfl) ?_))))))))))))))
  refine OkOps.q (triOrG rfl rfl rfl (fun h => h) (fun h h2 => by rw [h, h2]; rfl) rfl) ?_
  refine OkOps.q (triQG (x := aB ((decide (x7 < 48)) || (decide (x7 > 57)))) rfl rfl ⟨fun h => h, trivial⟩ rfl) (OkOps.q (triQG (x := .c (.d (.v (.int .u8 x7)))) rfl rfl trivial rfl) (OkOps.q (triQG (x := aB (x7 != 45)) rfl rfl ⟨fun h => h, trivial⟩ rfl) ?_))
  refine OkOps.q (triAndG rfl rfl rfl (fun h => h) (fun h h2 => by rw [h, h2]; rfl) rfl) ?_
  refine OkOps.q (triQG (x := aB (((decide (x7 < 48)) || (decide (x7 > 57))) && (x7 != 45))) rfl rfl ⟨fun h => h, trivial⟩ rfl) (OkOps.q (triQG (x := .c (.d (.v (.int .u8 x7)))) rfl rfl trivial rfl) (OkOps.q (triQG (x := aB (x7 != 95)) rfl rfl ⟨fun h => h, trivial⟩ rfl) ?_))
  refine OkOps.q (triAndG rfl rfl rfl (fun h => h) (fun h h2 => by rw [h, h2]; rfl) rfl) ?_
  refine OkOps.q (triOrG rfl rfl rfl (fun h => h) (fun h h2 => by rw [h, h2]; rfl) rfl) ?_
  refine OkOps.q (triAnd rfl rfl (fun h => h) rfl) (OkOps.nil ?_)
  refine Ok.cond (b := (!(((decide (x7 ≥ 97)) && (decide (x7 ≤ 122))) || ((decide (x7 ≥ 65)) && (decide (x7 ≤ 90))))) && ((s4 == 0) || ((((decide (x7 < 48)) || (decide (x7 > 57))) && (x7 != 45)) && (x7 != 95)))) rfl (fun h8 => ?_) (fun h8 => ?_)
  have hr := selT h8 hr
  refine Ok.seq (Ok.region (OkOps.y (aB false) (OkOps.nil (Ok.ret ?_))))
  obtain rfl := Option.some.inj hr
  exact ⟨_, rfl, .inl rfl, trivial⟩
  have hr := selF h8 hr
  refine Ok.skip (Ok.region (OkOps.y (aI (IntKind.i64.wrap (s4 + 1))) (OkOps.y (aI (IntKind.i64.wrap (s4 + 1))) (OkOps.nil ?_))))
  exact ⟨IntKind.i64.wrap (s4 + 1), hr, (Conv.mk (tau []) ⟨⟨_, rfl, .inl rfl⟩, ⟨_, rfl, .inl rfl⟩, ⟨_, rfl, .inl rfl⟩, trivial⟩ trivial rfl rfl rfl rfl)⟩
  have hr := selF h6 hr
  refine Ok.exit ?_
  exact ⟨(), hr, (Conv.mk (tau []) trivial trivial rfl rfl rfl rfl)⟩
theorem entry104 : Entry Tryd.prog 104 := ⟨_, Tryd.func104, by kernel_rfl, by kernel_rfl⟩
theorem r13_Key_c (p_s : Str) {r : Bool} (hr : r13_Key p_s = some r) : Con Tryd.prog 50 [aS p_s] [] (.s (aB r)) [] := by
  unfold r13_Key at hr
  refine Con.of_ok 47 0 [.tmp 2] [(0, .s (aS p_s))] Tryd.func50 rfl rfl rfl rfl rfl rfl rfl rfl fun w g M ρ _ => (Ok.seq (Ok.region (OkOps.y (aB false) (OkOps.nil ?_))))
  obtain ⟨k2, hk2, hr⟩ := jn_some hr
  refine Ok.join (fun (s1 : Unit) => ⟨[(0, .s (aS p_s))], [], 0⟩) k2 r (fun s1 hr => ?_) ?_
  rw [hk2] at hr
  refine Ok.seq (Ok.region (OkOps.y (aS p_s) (OkOps.y (aI (p_s.size : Int)) (OkOps.y (aB (decide ((p_s.size : Int) ≤ 24))) (OkOps.y (aB (decide ((p_s.size : Int) ≤ 24))) (OkOps.nil (Ok.ret ?_)))))))
  obtain rfl := Option.some.inj hr
  exact ⟨_, rfl, .inl rfl, trivial⟩
  clear hk2
  refine Ok.seq (Ok.region (OkOps.y (aI 0) (OkOps.nil (Ok.block (Ok.loopK (fun (s3 : Int) => ⟨[(0, .s (aS p_s)), (3, .s (aI s3))], [], 0⟩) hr (Conv.mk (tau []) ⟨⟨_, rfl, .inl rfl⟩, ⟨_, rfl, .inl rfl⟩, trivial⟩ trivial rfl rfl rfl rfl) ?_)))))
  clear hr
  intro again4 s3 hr
  unfold r13_Key_L1 at hr
  refine Ok.seq (Ok.seq (Ok.region (OkOps.y (aI s3) (OkOps.y (aS p_s) (OkOps.y (aI (p_s.size : Int)) (OkOps.y (aB (decide (s3 < (p_s.size : Int)))) (OkOps.nil ?_)))))))
  refine Ok.cond (b := decide (s3 < (p_s.size : Int))) rfl (fun h5 => ?_) (fun h5 => ?_)
  have hr := selT h5 hr
  refine Ok.skip (Ok.seq (Ok.block (Ok.seq (Ok.region (OkOps.y (aS p_s) (OkOps.y (aI s3) ?_))))))
  obtain ⟨x6, hx6, hr⟩ := bind_some hr
  refine OkOps.q (triSIdx hx6 rfl rfl rfl trivial rfl) (OkOps.y (.c (.d (.v (.int .u8 x6)))) (OkOps.nil (Ok.seq (Ok.region (OkOps.y (.c (.d (.v (.int .u8 x6)))) (OkOps.y (aB (decide (x6 < 97))) (OkOps.y (aB (decide (x6 < 97))) (OkOps.q (triQG (x := .c (.d (.v (.int .u8 x6)))) rfl rfl trivial rfl) (OkOps.q (triQG (x := aB (decide (x6 > 122))) rfl rfl ⟨fun h => h, trivial⟩ rfl) ?_)))))))))
  refine OkOps.q (triOr rfl rfl (fun h => by rw [h]; rfl) rfl) ?_
  refine OkOps.y (aB ((decide (x6 < 97)) || (decide (x6 > 122)))) (OkOps.q (triQG (x := .c (.d (.v (.int .u8 x6)))) rfl rfl trivial rfl) (OkOps.q (triQG (x := aB (decide (x6 < 65))) rfl rfl ⟨fun h => h, trivial⟩ rfl) (OkOps.q (triQG (x := aB (decide (x6 < 65))) rfl rfl ⟨fun h => h, trivial⟩ rfl) (OkOps.q (triQG (x := .c (.d (.v (.int .u8 x6)))) rfl rfl trivial rfl) (OkOps.q (triQG (x := aB (decide (x6 > 90))) rfl rfl ⟨fun h => h, trivial⟩ rfl) ?_)))))
  refine OkOps.q (triOrG rfl rfl rfl (fun h => h) (fun h h2 => by rw [h, h2]; rfl) rfl) ?_
  refine OkOps.q (triAnd rfl rfl (fun h => h) rfl) (OkOps.y (aB (((decide (x6 < 97)) || (decide (x6 > 122))) && ((decide (x6 < 65)) || (decide (x6 > 90))))) (OkOps.q (triQG (x := .c (.d (.v (.int .u8 x6)))) rfl rfl trivial rfl) (OkOps.q (triQG (x := aB (decide (x6 < 48))) rfl rfl ⟨fun h => h, trivial⟩ rfl) (OkOps.q (triQG (x := aB (decide (x6 < 48))) rfl rfl ⟨fun h => h, trivial⟩ rfl) (OkOps.q (triQG (x := .c (.d (.v (.int .u8 x6)))) rfl rfl trivial rfl) (OkOps.q (triQG (x := aB (decide (x6 > 57))) rfl rfl ⟨fun h => h, trivial⟩ rfl) ?_))))))
  refine OkOps.q (triOrG rfl rfl rfl (fun h => h) (fun h h2 => by rw [h, h2]; rfl) rfl) ?_
  refine OkOps.q (triAnd rfl rfl (fun h => h) rfl) (OkOps.y (aB ((((decide (x6 < 97)) || (decide (x6 > 122))) && ((decide (x6 < 65)) || (decide (x6 > 90)))) && ((decide (x6 < 48)) || (decide (x6 > 57))))) (OkOps.q (triQG (x := .c (.d (.v (.int .u8 x6)))) rfl rfl trivial rfl) (OkOps.q (triQG (x := aB (x6 != 45)) rfl rfl ⟨fun h => h, trivial⟩ rfl) (OkOps.q (triAnd rfl rfl (fun h => h) rfl) (OkOps.y (aB (((((decide (x6 < 97)) || (decide (x6 > 122))) && ((decide (x6 < 65)) || (decide (x6 > 90)))) && ((decide (x6 < 48)) || (decide (x6 > 57)))) && (x6 != 45))) (OkOps.q (triQG (x := .c (.d (.v (.int .u8 x6)))) rfl rfl trivial rfl) (OkOps.q (triQG (x := aB (x6 != 95)) rfl rfl ⟨fun h => h, trivial⟩ rfl) (OkOps.q (triAnd rfl rfl (fun h => h) rfl) (OkOps.nil ?_)))))))))
  refine Ok.cond (b := (((((decide (x6 < 97)) || (decide (x6 > 122))) && ((decide (x6 < 65)) || (decide (x6 > 90)))) && ((decide (x6 < 48)) || (decide (x6 > 57)))) && (x6 != 45)) && (x6 != 95)) rfl (fun h7 => ?_) (fun h7 => ?_)
  have hr := selT h7 hr
  refine Ok.seq (Ok.region (OkOps.y (aB false) (OkOps.nil (Ok.ret ?_))))
  obtain rfl := Option.some.inj hr
  exact ⟨_, rfl, .inl rfl, trivial⟩
  have hr := selF h7 hr
  refine Ok.skip (Ok.region (OkOps.y (aI s3) (OkOps.y (aI (IntKind.i64.wrap (s3 + 1))) (OkOps.y (aI (IntKind.i64.wrap (s3 + 1))) (OkOps.nil ?_)))))
  exact ⟨IntKind.i64.wrap (s3 + 1), hr, (Conv.mk (tau []) ⟨⟨_, rfl, .inl rfl⟩, ⟨_, rfl, .inl rfl⟩, trivial⟩ trivial rfl rfl rfl rfl)⟩
  have hr := selF h5 hr
  refine Ok.exit ?_
  exact ⟨(), hr, (Conv.mk (tau []) ⟨⟨_, rfl, .inl rfl⟩, trivial⟩ trivial rfl rfl rfl rfl)⟩
theorem entry50 : Entry Tryd.prog 50 := ⟨_, Tryd.func50, by kernel_rfl, by kernel_rfl⟩
theorem r14_Key_c (p_s : Str) {r : Bool} (hr : r14_Key p_s = some r) : Con Tryd.prog 13 [aS p_s] [] (.s (aB r)) [] := by
  unfold r14_Key at hr
  refine Con.of_ok 5 0 [.tmp 2] [(0, .s (aS p_s))] Tryd.func13 rfl rfl rfl rfl rfl rfl rfl rfl fun w g M ρ _ => (Ok.seq (Ok.region (OkOps.y (aB false) (OkOps.nil (Ok.seq (Ok.region (OkOps.y (aS p_s) ?_)))))))
  obtain ⟨x1, hx1, hr⟩ := bind_some hr
  refine OkOps.q (triCl (tau []) (.s (aB x1)) [] (r13_Key_c _ hx1) rfl ⟨.inl rfl, trivial⟩ trivial entry50 trivial) (OkOps.y (aB x1) (OkOps.nil (Ok.ret ?_)))
  obtain rfl := Option.some.inj hr
  exact ⟨_, rfl, .inl rfl, trivial⟩
theorem entry13 : Entry Tryd.prog 13 := ⟨_, Tryd.func13, by kernel_rfl, by kernel_rfl⟩
theorem vw_Key_c (p_s : Str) {r : Bool} (hr : vw_Key p_s = some r) : Con Tryd.prog 12 [aS p_s] [] (.s (aB r)) [] := by
  unfold vw_Key at hr
  refine Con.of_ok 47 0 [.tmp 2] [(0, .s (aS p_s))] Tryd.func12 rfl rfl rfl rfl rfl rfl rfl rfl fun w g M ρ _ => (Ok.seq (Ok.region (OkOps.y (aB false) (OkOps.nil ?_))))
  obtain ⟨k2, hk2, hr⟩ := jn_some hr
  refine Ok.join (fun (s1 : Unit) => ⟨[(0, .s (aS p_s))], [], 0⟩) k2 r (fun s1 hr => ?_) ?_
  rw [hk2] at hr
  refine Ok.seq (Ok.region (OkOps.y (aS p_s) (OkOps.y (aI (p_s.size : Int)) (OkOps.y (aB (decide ((p_s.size : Int) ≤ 24))) (OkOps.y (aB (decide ((p_s.size : Int) ≤ 24))) (OkOps.nil (Ok.ret ?_)))))))
  obtain rfl := Option.some.inj hr
  exact ⟨_, rfl, .inl rfl, trivial⟩
  clear hk2
  refine Ok.seq (Ok.region (OkOps.y (aS p_s) (OkOps.y (aI (p_s.size : Int)) (OkOps.y (aI 0) (OkOps.nil (Ok.block (Ok.loopK (fun (s3 : Int) => ⟨[(0, .s (aS p_s)), (6, .s (aI (p_s.size : Int))), (7, .s (aI s3))], [], 0⟩) hr (Conv.mk (tau []) ⟨⟨_, rfl, .inl rfl⟩, ⟨_, rfl, .inl rfl⟩, ⟨_, rfl, .inl rfl⟩, trivial⟩ trivial rfl rfl rfl rfl) ?_)))))))
  clear hr
  intro again4 s3 hr
  unfold vw_Key_L1 at hr
  refine Ok.seq (Ok.region (OkOps.y (aB (decide (s3 < (p_s.size : Int)))) (OkOps.nil (Ok.seq ?_))))
  refine Ok.cond (b := decide (s3 < (p_s.size : Int))) rfl (fun h5 => ?_) (fun h5 => ?_)
  have hr := selT h5 hr
  refine Ok.skip (Ok.seq (Ok.block (Ok.seq (Ok.region (OkOps.y (aI s3) (OkOps.y (aI s3) (OkOps.nil (Ok.seq (Ok.region (OkOps.y (aS p_s) (OkOps.y (aI s3) ?_)))))))))))
  obtain ⟨x6, hx6, hr⟩ := bind_some hr
  refine OkOps.q (triSIdx hx6 rfl rfl rfl trivial rfl) (OkOps.y (.c (.d (.v (.int .u8 x6)))) (OkOps.nil (Ok.seq (Ok.region (OkOps.y (.c (.d (.v (.int .u8 x6)))) (OkOps.y (aB (decide (x6 < 97))) (OkOps.y (aB (decide (x6 < 97))) (OkOps.q (triQG (x := .c (.d (.v (.int .u8 x6)))) rfl rfl trivial rfl) (OkOps.q (triQG (x := aB (decide (x6 > 122))) rfl rfl ⟨fun h => h, trivial⟩ rfl) ?_)))))))))
  refine OkOps.q (triOr rfl rfl (fun h => by rw [h]; rfl) rfl) ?_
  refine OkOps.y (aB ((decide (x6 < 97)) || (decide (x6 > 122)))) (OkOps.q (triQG (x := .c (.d (.v (.int .u8 x6)))) rfl rfl trivial rfl) (OkOps.q (triQG (x := aB (decide (x6 < 65))) rfl rfl ⟨fun h => h, trivial⟩ rfl) (OkOps.q (triQG (x := aB (decide (x6 < 65))) rfl rfl ⟨fun h => h, trivial⟩ rfl) (OkOps.q (triQG (x := .c (.d (.v (.int .u8 x6)))) rfl rfl trivial rfl) (OkOps.q (triQG (x := aB (decide (x6 > 90))) rfl rfl ⟨fun h => h, trivial⟩ rfl) ?_)))))
  refine OkOps.q (triOrG rfl rfl rfl (fun h => h) (fun h h2 => by rw [h, h2]; rfl) rfl) ?_
  refine OkOps.q (triAnd rfl rfl (fun h => h) rfl) (OkOps.y (aB (((decide (x6 < 97)) || (decide (x6 > 122))) && ((decide (x6 < 65)) || (decide (x6 > 90))))) (OkOps.q (triQG (x := .c (.d (.v (.int .u8 x6)))) rfl rfl trivial rfl) (OkOps.q (triQG (x := aB (decide (x6 < 48))) rfl rfl ⟨fun h => h, trivial⟩ rfl) (OkOps.q (triQG (x := aB (decide (x6 < 48))) rfl rfl ⟨fun h => h, trivial⟩ rfl) (OkOps.q (triQG (x := .c (.d (.v (.int .u8 x6)))) rfl rfl trivial rfl) (OkOps.q (triQG (x := aB (decide (x6 > 57))) rfl rfl ⟨fun h => h, trivial⟩ rfl) ?_))))))
  refine OkOps.q (triOrG rfl rfl rfl (fun h => h) (fun h h2 => by rw [h, h2]; rfl) rfl) ?_
  refine OkOps.q (triAnd rfl rfl (fun h => h) rfl) (OkOps.y (aB ((((decide (x6 < 97)) || (decide (x6 > 122))) && ((decide (x6 < 65)) || (decide (x6 > 90)))) && ((decide (x6 < 48)) || (decide (x6 > 57))))) (OkOps.q (triQG (x := .c (.d (.v (.int .u8 x6)))) rfl rfl trivial rfl) (OkOps.q (triQG (x := aB (x6 != 45)) rfl rfl ⟨fun h => h, trivial⟩ rfl) (OkOps.q (triAnd rfl rfl (fun h => h) rfl) (OkOps.y (aB (((((decide (x6 < 97)) || (decide (x6 > 122))) && ((decide (x6 < 65)) || (decide (x6 > 90)))) && ((decide (x6 < 48)) || (decide (x6 > 57)))) && (x6 != 45))) (OkOps.q (triQG (x := .c (.d (.v (.int .u8 x6)))) rfl rfl trivial rfl) (OkOps.q (triQG (x := aB (x6 != 95)) rfl rfl ⟨fun h => h, trivial⟩ rfl) (OkOps.q (triAnd rfl rfl (fun h => h) rfl) (OkOps.nil ?_)))))))))
  refine Ok.cond (b := (((((decide (x6 < 97)) || (decide (x6 > 122))) && ((decide (x6 < 65)) || (decide (x6 > 90)))) && ((decide (x6 < 48)) || (decide (x6 > 57)))) && (x6 != 45)) && (x6 != 95)) rfl (fun h7 => ?_) (fun h7 => ?_)
  have hr := selT h7 hr
  refine Ok.seq (Ok.region (OkOps.y (aB false) (OkOps.nil (Ok.ret ?_))))
  obtain rfl := Option.some.inj hr
  exact ⟨_, rfl, .inl rfl, trivial⟩
  have hr := selF h7 hr
  refine Ok.skip (Ok.region (OkOps.y (aI (IntKind.i64.wrap (s3 + 1))) (OkOps.y (aI (IntKind.i64.wrap (s3 + 1))) (OkOps.nil ?_))))
  exact ⟨IntKind.i64.wrap (s3 + 1), hr, (Conv.mk (tau []) ⟨⟨_, rfl, .inl rfl⟩, ⟨_, rfl, .inl rfl⟩, ⟨_, rfl, .inl rfl⟩, trivial⟩ trivial rfl rfl rfl rfl)⟩
  have hr := selF h5 hr
  refine Ok.exit ?_
  exact ⟨(), hr, (Conv.mk (tau []) ⟨⟨_, rfl, .inl rfl⟩, trivial⟩ trivial rfl rfl rfl rfl)⟩
theorem entry12 : Entry Tryd.prog 12 := ⟨_, Tryd.func12, by kernel_rfl, by kernel_rfl⟩
theorem r11_UTF8_c (p_s : Str) {r : Bool} (hr : r11_UTF8 p_s = some r) : Con Tryd.prog 123 [aS p_s] [] (.s (aB r)) [] := by
  unfold r11_UTF8 at hr
  refine Con.of_ok 8 0 [.tmp 2] [(0, .s (aS p_s))] Tryd.func123 rfl rfl rfl rfl rfl rfl rfl rfl fun w g M ρ _ => (Ok.seq (Ok.region (OkOps.y (aB false) (OkOps.nil (Ok.seq (Ok.region (OkOps.y (aS p_s) (OkOps.q (triRunes rfl rfl trivial rfl) (OkOps.q (triOfRunes (L := runes p_s) rfl rfl trivial rfl) (OkOps.y (aS p_s) (OkOps.y (aB ((ofRunes (runes p_s)).toList == p_s.toList)) (OkOps.y (aB ((ofRunes (runes p_s)).toList == p_s.toList)) (OkOps.nil (Ok.ret ?_))))))))))))))
  obtain rfl := Option.some.inj hr
  exact ⟨_, rfl, .inl rfl, trivial⟩
theorem entry123 : Entry Tryd.prog 123 := ⟨_, Tryd.func123, by kernel_rfl, by kernel_rfl⟩
theorem ex_fields_c (v : AValue) {r : Bool} (hr : ex_fields v = some r) : Con Tryd.prog 130 [.agg [cI v.Kind, cI v.N, cS v.S, .d (.sl (List.map AValue.cs v.L))]] [] (.s (aB r)) [] := by
  unfold ex_fields at hr
  refine Con.of_ok 38 0 [.tmp 2] [(0, .s (.agg [cI v.Kind, cI v.N, cS v.S, .d (.sl (List.map AValue.cs v.L))]))] Tryd.func130 rfl rfl rfl rfl rfl rfl rfl rfl fun w g M ρ _ => (Ok.seq (Ok.region (OkOps.m 0 (triBox (j := 0) (cs := [cI v.Kind, cI v.N, cS v.S, .d (.sl (List.map AValue.cs v.L))]) rfl rfl rfl rfl rfl) (OkOps.y (aB false) (OkOps.nil (Ok.seq (Ok.seq (Ok.region (OkOps.y (.c (.loc 0 0)) (OkOps.y (aI v.Kind) (OkOps.nil (Ok.block ?_))))))))))))
  obtain ⟨k2, hk2, hr⟩ := jn_some hr
  refine Ok.join (fun (s1 : Bool) => ⟨[(1, .s (.c (.loc 0 0))), (4, .s (aI v.Kind)), (5, .s (aB s1))], [(0, .blk [cI v.Kind, cI v.N, cS v.S, .d (.sl (List.map AValue.cs v.L))] 40)], 0⟩) k2 r (fun s1 hr => ?_) ?_
  rw [hk2] at hr
  refine Ok.cond (b := s1) rfl (fun h3 => ?_) (fun h3 => ?_)
  have hr := selT h3 hr
  refine Ok.seq (Ok.region (OkOps.y (.c (.loc 0 2)) (OkOps.y (aS v.S) (OkOps.y (aB (v.S.toList == (ByteArray.mk #[]).toList)) (OkOps.y (aB (v.S.toList == (ByteArray.mk #[]).toList)) (OkOps.q (triQG (x := .c (.loc 0 3)) rfl rfl trivial rfl) (OkOps.q (triQG (x := .c (.d (.sl (List.map AValue.cs v.L)))) rfl rfl ⟨fun h => h, trivial⟩ rfl) (OkOps.q (triLenG (enc := AValue.cs) v.L rfl rfl rfl ⟨fun h => h, trivial⟩ rfl) (OkOps.q (triQG (x := aB ((v.L.length : Int) == 0)) rfl rfl ⟨fun h => h, trivial⟩ rfl) (OkOps.q (triAnd rfl rfl (fun h => h) rfl) (OkOps.y (aB ((v.S.toList == (ByteArray.mk #[]).toList) && ((v.L.length : Int) == 0))) (OkOps.nil (Ok.ret ?_)))))))))))))
  obtain rfl := Option.some.inj hr
  exact ⟨_, rfl, .inl rfl, trivial⟩
  have hr := selF h3 hr
  refine Ok.seq (Ok.region (OkOps.y (aB (v.Kind == 3)) (OkOps.y (aB (v.Kind == 3)) (OkOps.nil ?_))))
  refine Ok.cond (b := v.Kind == 3) rfl (fun h4 => ?_) (fun h4 => ?_)
  have hr := selT h4 hr
  refine Ok.seq (Ok.region (OkOps.y (.c (.loc 0 1)) (OkOps.y (aI v.N) (OkOps.y (aB (v.N == 0)) (OkOps.y (aB (v.N == 0)) (OkOps.q (triQG (x := .c (.loc 0 3)) rfl rfl trivial rfl) (OkOps.q (triQG (x := .c (.d (.sl (List.map AValue.cs v.L)))) rfl rfl ⟨fun h => h, trivial⟩ rfl) (OkOps.q (triLenG (enc := AValue.cs) v.L rfl rfl rfl ⟨fun h => h, trivial⟩ rfl) (OkOps.q (triQG (x := aB ((v.L.length : Int) == 0)) rfl rfl ⟨fun h => h, trivial⟩ rfl) (OkOps.q (triAnd rfl rfl (fun h => h) rfl) (OkOps.y (aB ((v.N == 0) && ((v.L.length : Int) == 0))) (OkOps.nil (Ok.ret ?_)))))))))))))
  obtain rfl := Option.some.inj hr
  exact ⟨_, rfl, .inl rfl, trivial⟩
  have hr := selF h4 hr
  refine Ok.seq (Ok.region (OkOps.y (aB (v.Kind == 4)) (OkOps.y (aB (v.Kind == 4)) (OkOps.nil ?_))))
  refine Ok.cond (b := v.Kind == 4) rfl (fun h5 => ?_) (fun h5 => ?_)
  have hr := selT h5 hr
  refine Ok.seq (Ok.region (OkOps.y (.c (.loc 0 1)) (OkOps.y (aI v.N) (OkOps.y (aB (v.N == 0)) (OkOps.y (aB (v.N == 0)) (OkOps.q (triQG (x := .c (.loc 0 2)) rfl rfl trivial rfl) (OkOps.q (triQG (x := aS v.S) rfl rfl ⟨fun h => h, trivial⟩ rfl) (OkOps.q (triQG (x := aB (v.S.toList == (ByteArray.mk #[]).toList)) rfl rfl ⟨fun h => h, trivial⟩ rfl) (OkOps.q (triAnd rfl rfl (fun h => h) rfl) (OkOps.y (aB ((v.N == 0) && (v.S.toList == (ByteArray.mk #[]).toList))) (OkOps.nil (Ok.ret ?_))))))))))))
  obtain rfl := Option.some.inj hr
  exact ⟨_, rfl, .inl rfl, trivial⟩
  have hr := selF h5 hr
  refine Ok.skip (Ok.seq (Ok.region (OkOps.y (aB false) (OkOps.nil (Ok.ret ?_)))))
  obtain rfl := Option.some.inj hr
  exact ⟨_, rfl, .inl rfl, trivial⟩
  clear hk2
  refine Ok.seq (Ok.region (OkOps.y (aB (v.Kind == 1)) (OkOps.y (aB (v.Kind == 1)) (OkOps.nil ?_))))
  refine Ok.cond (b := v.Kind == 1) rfl (fun h6 => ?_) (fun h6 => ?_)
  have hr := selT h6 hr
  refine Ok.skip ?_
  exact ⟨v.Kind == 1, hr, (Conv.mk (tau []) ⟨⟨_, rfl, .inl rfl⟩, ⟨_, rfl, .inl rfl⟩, ⟨_, rfl, .inl rfl⟩, trivial⟩ ⟨rfl, trivial⟩ rfl rfl rfl rfl)⟩
  have hr := selF h6 hr
  refine Ok.region (OkOps.y (aB (v.Kind == 2)) (OkOps.y (aB (v.Kind == 2)) (OkOps.nil ?_)))
  exact ⟨v.Kind == 2, hr, (Conv.mk (tau []) ⟨⟨_, rfl, .inl rfl⟩, ⟨_, rfl, .inl rfl⟩, ⟨_, rfl, .inl rfl⟩, trivial⟩ ⟨rfl, trivial⟩ rfl rfl rfl rfl)⟩
theorem entry130 : Entry Tryd.prog 130 := ⟨_, Tryd.func130, by kernel_rfl, by kernel_rfl⟩
theorem ex_within_c (p_n : Int) {r : Bool} (hr : ex_within p_n = some r) : Con Tryd.prog 131 [aI p_n] [] (.s (aB r)) [] := by
  unfold ex_within at hr
  refine Con.of_ok 9 0 [.tmp 2] [(0, .s (aI p_n))] Tryd.func131 rfl rfl rfl rfl rfl rfl rfl rfl fun w g M ρ _ => (Ok.seq (Ok.region (OkOps.y (aB false) (OkOps.nil (Ok.seq (Ok.region (OkOps.y (aI p_n) (OkOps.y (aB (decide (p_n ≥ (-1099511627776)))) (OkOps.y (aB (decide (p_n ≥ (-1099511627776)))) (OkOps.q (triQG (x := aI p_n) rfl rfl trivial rfl) (OkOps.q (triQG (x := aB (decide (p_n ≤ 1099511627776))) rfl rfl ⟨fun h => h, trivial⟩ rfl) (OkOps.q (triAnd rfl rfl (fun h => h) rfl) (OkOps.y (aB ((decide (p_n ≥ (-1099511627776))) && (decide (p_n ≤ 1099511627776)))) (OkOps.nil (Ok.ret ?_)))))))))))))))
  obtain rfl := Option.some.inj hr
  exact ⟨_, rfl, .inl rfl, trivial⟩
theorem entry131 : Entry Tryd.prog 131 := ⟨_, Tryd.func131, by kernel_rfl, by kernel_rfl⟩
theorem unicode_utf8_word_string_c (p_s : Str) {r : Int} (hr : unicode_utf8_word_string p_s = some r) : Con Tryd.prog 137 [aS p_s] [] (.s (.c (.d (.v (.int .u64 r))))) [] := by
  unfold unicode_utf8_word_string at hr
  refine Con.of_ok 59 0 [.tmp 2] [(0, .s (aS p_s))] Tryd.func137 rfl rfl rfl rfl rfl rfl rfl rfl fun w g M ρ _ => (Ok.seq (Ok.region (OkOps.y (.c (.d (.v (.int .u64 0)))) (OkOps.nil (Ok.seq ?_)))))
  refine Ok.cond (b := false) rfl (fun h1 => ?_) (fun h1 => ?_)
  have hr := selT h1 hr
  refine Ok.seq (Ok.regionD (by kernel_rfl) (OkD.x (aS p_s) rfl trivial rfl ?_))
  obtain ⟨x2, hx2, hr⟩ := bind_some hr
  refine OkD.q (triSIdx hx2 rfl rfl rfl trivial rfl) (OkD.x (.c (.d (.v (.int .u64 (IntKind.u64.wrap x2))))) rfl trivial rfl (OkD.x (aS p_s) rfl trivial rfl ?_))
  obtain ⟨x3, hx3, hr⟩ := bind_some hr
  refine OkD.q (triSIdx hx3 rfl rfl rfl trivial rfl) (OkD.x (.c (.d (.v (.int .u64 (IntKind.u64.wrap x3))))) rfl trivial rfl (OkD.x (.c (.d (.v (.int .u64 (bShl .u64 (IntKind.u64.wrap x3) 8))))) rfl trivial rfl (OkD.x (.c (.d (.v (.int .u64 (bOr .u64 (IntKind.u64.wrap x2) (bShl .u64 (IntKind.u64.wrap x3) 8)))))) rfl trivial rfl (OkD.x (aS p_s) rfl trivial rfl ?_))))
  obtain ⟨x4, hx4, hr⟩ := bind_some hr
  refine OkD.q (triSIdx hx4 rfl rfl rfl trivial rfl) (OkD.x (.c (.d (.v (.int .u64 (IntKind.u64.wrap x4))))) rfl trivial rfl (OkD.x (.c (.d (.v (.int .u64 (bShl .u64 (IntKind.u64.wrap x4) 16))))) rfl trivial rfl (OkD.x (.c (.d (.v (.int .u64 (bOr .u64 (bOr .u64 (IntKind.u64.wrap x2) (bShl .u64 (IntKind.u64.wrap x3) 8)) (bShl .u64 (IntKind.u64.wrap x4) 16)))))) rfl trivial rfl (OkD.x (aS p_s) rfl trivial rfl ?_))))
  obtain ⟨x5, hx5, hr⟩ := bind_some hr
  refine OkD.q (triSIdx hx5 rfl rfl rfl trivial rfl) (OkD.x (.c (.d (.v (.int .u64 (IntKind.u64.wrap x5))))) rfl trivial rfl (OkD.x (.c (.d (.v (.int .u64 (bShl .u64 (IntKind.u64.wrap x5) 24))))) rfl trivial rfl (OkD.x (.c (.d (.v (.int .u64 (bOr .u64 (bOr .u64 (bOr .u64 (IntKind.u64.wrap x2) (bShl .u64 (IntKind.u64.wrap x3) 8)) (bShl .u64 (IntKind.u64.wrap x4) 16)) (bShl .u64 (IntKind.u64.wrap x5) 24)))))) rfl trivial rfl (OkD.x (.c (.d (.v (.int .u64 (bOr .u64 (bOr .u64 (bOr .u64 (IntKind.u64.wrap x2) (bShl .u64 (IntKind.u64.wrap x3) 8)) (bShl .u64 (IntKind.u64.wrap x4) 16)) (bShl .u64 (IntKind.u64.wrap x5) 24)))))) rfl trivial rfl (OkD.nil (by kernel_rfl) (Ok.ret ?_))))))
  obtain rfl := Option.some.inj hr
  exact ⟨_, rfl, .inl rfl, trivial⟩
  have hr := selF h1 hr
  refine Ok.skip (Ok.seq (Ok.regionD (by kernel_rfl) (OkD.x (aS p_s) rfl trivial rfl ?_)))
  obtain ⟨x6, hx6, hr⟩ := bind_some hr
  refine OkD.q (triSIdx hx6 rfl rfl rfl trivial rfl) (OkD.x (.c (.d (.v (.int .u64 (IntKind.u64.wrap x6))))) rfl trivial rfl (OkD.x (aS p_s) rfl trivial rfl ?_))
  obtain ⟨x7, hx7, hr⟩ := bind_some hr
  refine OkD.q (triSIdx hx7 rfl rfl rfl trivial rfl) (OkD.x (.c (.d (.v (.int .u64 (IntKind.u64.wrap x7))))) rfl trivial rfl (OkD.x (.c (.d (.v (.int .u64 (bShl .u64 (IntKind.u64.wrap x7) 8))))) rfl trivial rfl (OkD.x (.c (.d (.v (.int .u64 (bOr .u64 (IntKind.u64.wrap x6) (bShl .u64 (IntKind.u64.wrap x7) 8)))))) rfl trivial rfl (OkD.x (aS p_s) rfl trivial rfl ?_))))
  obtain ⟨x8, hx8, hr⟩ := bind_some hr
  refine OkD.q (triSIdx hx8 rfl rfl rfl trivial rfl) (OkD.x (.c (.d (.v (.int .u64 (IntKind.u64.wrap x8))))) rfl trivial rfl (OkD.x (.c (.d (.v (.int .u64 (bShl .u64 (IntKind.u64.wrap x8) 16))))) rfl trivial rfl (OkD.x (.c (.d (.v (.int .u64 (bOr .u64 (bOr .u64 (IntKind.u64.wrap x6) (bShl .u64 (IntKind.u64.wrap x7) 8)) (bShl .u64 (IntKind.u64.wrap x8) 16)))))) rfl trivial rfl (OkD.x (aS p_s) rfl trivial rfl ?_))))
  obtain ⟨x9, hx9, hr⟩ := bind_some hr
  refine OkD.q (triSIdx hx9 rfl rfl rfl trivial rfl) (OkD.x (.c (.d (.v (.int .u64 (IntKind.u64.wrap x9))))) rfl trivial rfl (OkD.x (.c (.d (.v (.int .u64 (bShl .u64 (IntKind.u64.wrap x9) 24))))) rfl trivial rfl (OkD.x (.c (.d (.v (.int .u64 (bOr .u64 (bOr .u64 (bOr .u64 (IntKind.u64.wrap x6) (bShl .u64 (IntKind.u64.wrap x7) 8)) (bShl .u64 (IntKind.u64.wrap x8) 16)) (bShl .u64 (IntKind.u64.wrap x9) 24)))))) rfl trivial rfl (OkD.x (aS p_s) rfl trivial rfl ?_))))
  obtain ⟨x10, hx10, hr⟩ := bind_some hr
  refine OkD.q (triSIdx hx10 rfl rfl rfl trivial rfl) (OkD.x (.c (.d (.v (.int .u64 (IntKind.u64.wrap x10))))) rfl trivial rfl (OkD.x (.c (.d (.v (.int .u64 (bShl .u64 (IntKind.u64.wrap x10) 32))))) rfl trivial rfl (OkD.x (.c (.d (.v (.int .u64 (bOr .u64 (bOr .u64 (bOr .u64 (bOr .u64 (IntKind.u64.wrap x6) (bShl .u64 (IntKind.u64.wrap x7) 8)) (bShl .u64 (IntKind.u64.wrap x8) 16)) (bShl .u64 (IntKind.u64.wrap x9) 24)) (bShl .u64 (IntKind.u64.wrap x10) 32)))))) rfl trivial rfl (OkD.x (aS p_s) rfl trivial rfl ?_))))
  obtain ⟨x11, hx11, hr⟩ := bind_some hr
  refine OkD.q (triSIdx hx11 rfl rfl rfl trivial rfl) (OkD.x (.c (.d (.v (.int .u64 (IntKind.u64.wrap x11))))) rfl trivial rfl (OkD.x (.c (.d (.v (.int .u64 (bShl .u64 (IntKind.u64.wrap x11) 40))))) rfl trivial rfl (OkD.x (.c (.d (.v (.int .u64 (bOr .u64 (bOr .u64 (bOr .u64 (bOr .u64 (bOr .u64 (IntKind.u64.wrap x6) (bShl .u64 (IntKind.u64.wrap x7) 8)) (bShl .u64 (IntKind.u64.wrap x8) 16)) (bShl .u64 (IntKind.u64.wrap x9) 24)) (bShl .u64 (IntKind.u64.wrap x10) 32)) (bShl .u64 (IntKind.u64.wrap x11) 40)))))) rfl trivial rfl (OkD.x (aS p_s) rfl trivial rfl ?_))))
  obtain ⟨x12, hx12, hr⟩ := bind_some hr
  refine OkD.q (triSIdx hx12 rfl rfl rfl trivial rfl) (OkD.x (.c (.d (.v (.int .u64 (IntKind.u64.wrap x12))))) rfl trivial rfl (OkD.x (.c (.d (.v (.int .u64 (bShl .u64 (IntKind.u64.wrap x12) 48))))) rfl trivial rfl (OkD.x (.c (.d (.v (.int .u64 (bOr .u64 (bOr .u64 (bOr .u64 (bOr .u64 (bOr .u64 (bOr .u64 (IntKind.u64.wrap x6) (bShl .u64 (IntKind.u64.wrap x7) 8)) (bShl .u64 (IntKind.u64.wrap x8) 16)) (bShl .u64 (IntKind.u64.wrap x9) 24)) (bShl .u64 (IntKind.u64.wrap x10) 32)) (bShl .u64 (IntKind.u64.wrap x11) 40)) (bShl .u64 (IntKind.u64.wrap x12) 48)))))) rfl trivial rfl (OkD.x (aS p_s) rfl trivial rfl ?_))))
  obtain ⟨x13, hx13, hr⟩ := bind_some hr
  refine OkD.q (triSIdx hx13 rfl rfl rfl trivial rfl) (OkD.x (.c (.d (.v (.int .u64 (IntKind.u64.wrap x13))))) rfl trivial rfl (OkD.x (.c (.d (.v (.int .u64 (bShl .u64 (IntKind.u64.wrap x13) 56))))) rfl trivial rfl (OkD.x (.c (.d (.v (.int .u64 (bOr .u64 (bOr .u64 (bOr .u64 (bOr .u64 (bOr .u64 (bOr .u64 (bOr .u64 (IntKind.u64.wrap x6) (bShl .u64 (IntKind.u64.wrap x7) 8)) (bShl .u64 (IntKind.u64.wrap x8) 16)) (bShl .u64 (IntKind.u64.wrap x9) 24)) (bShl .u64 (IntKind.u64.wrap x10) 32)) (bShl .u64 (IntKind.u64.wrap x11) 40)) (bShl .u64 (IntKind.u64.wrap x12) 48)) (bShl .u64 (IntKind.u64.wrap x13) 56)))))) rfl trivial rfl (OkD.x (.c (.d (.v (.int .u64 (bOr .u64 (bOr .u64 (bOr .u64 (bOr .u64 (bOr .u64 (bOr .u64 (bOr .u64 (IntKind.u64.wrap x6) (bShl .u64 (IntKind.u64.wrap x7) 8)) (bShl .u64 (IntKind.u64.wrap x8) 16)) (bShl .u64 (IntKind.u64.wrap x9) 24)) (bShl .u64 (IntKind.u64.wrap x10) 32)) (bShl .u64 (IntKind.u64.wrap x11) 40)) (bShl .u64 (IntKind.u64.wrap x12) 48)) (bShl .u64 (IntKind.u64.wrap x13) 56)))))) rfl trivial rfl (OkD.nil (by kernel_rfl) (Ok.ret ?_))))))
  obtain rfl := Option.some.inj hr
  exact ⟨_, rfl, .inl rfl, trivial⟩
theorem entry137 : Entry Tryd.prog 137 := ⟨_, Tryd.func137, by kernel_rfl, by kernel_rfl⟩
theorem unicode_utf8_ValidString_c (p_s : Str) {r : Bool} (hr : unicode_utf8_ValidString p_s = some r) : Con Tryd.prog 132 [aS p_s] [] (.s (aB r)) [] := by
  unfold unicode_utf8_ValidString at hr
  refine Con.of_ok 169 0 [.tmp 2] [(0, .s (aS p_s))] Tryd.func132 rfl rfl rfl rfl rfl rfl rfl rfl fun w g M ρ _ => (Ok.seq (Ok.region (OkOps.y (aB false) (OkOps.nil ?_))))
  obtain ⟨k2, hk2, hr⟩ := jn_some hr
  refine Ok.join (fun (s1 : Unit) => ⟨[], [], 0⟩) k2 r (fun s1 hr => ?_) ?_
  rw [hk2] at hr
  refine Ok.seq (Ok.region (OkOps.y (aB true) (OkOps.nil (Ok.ret ?_))))
  obtain rfl := Option.some.inj hr
  exact ⟨_, rfl, .inl rfl, trivial⟩
  clear hk2
  refine Ok.block (Ok.loopK (fun (s3 : Str) => ⟨[(0, .s (aS s3))], [], 0⟩) hr (Conv.mk (tau []) ⟨⟨_, rfl, .inl rfl⟩, trivial⟩ trivial rfl rfl rfl rfl) ?_)
  clear hr
  intro again4 s3 hr
  unfold unicode_utf8_ValidString_L2 at hr
  refine Ok.seq (Ok.seq (Ok.region (OkOps.y (aS s3) (OkOps.y (aI (s3.size : Int)) (OkOps.y (aB (decide ((s3.size : Int) > 0))) (OkOps.nil ?_))))))
  refine Ok.cond (b := decide ((s3.size : Int) > 0)) rfl (fun h5 => ?_) (fun h5 => ?_)
  have hr := selT h5 hr
  refine Ok.skip ?_
  obtain ⟨k7, hk7, hr⟩ := jn_some hr
  refine Ok.joinEnd (fun (s6 : Str) => ⟨[(0, .s (aS s6))], [], 0⟩) k7 r (fun s6 hr => ?_) ?_
  rw [hk7] at hr
  exact ⟨s6, hr, (Conv.mk (tau []) ⟨⟨_, rfl, .inl rfl⟩, trivial⟩ trivial rfl rfl rfl rfl)⟩
  clear hk7
  refine Ok.block (Ok.seq (Ok.region (OkOps.y (aS s3) ?_)))
  obtain ⟨x8, hx8, hr⟩ := bind_some hr
  refine OkOps.q (triSIdx hx8 rfl rfl rfl trivial rfl) (OkOps.y (.c (.d (.v (.int .u8 x8)))) (OkOps.nil (Ok.seq (Ok.seq (Ok.region (OkOps.y (.c (.d (.v (.int .u8 x8)))) (OkOps.y (aB (decide (x8 < 128))) (OkOps.nil ?_))))))))
  refine Ok.cond (b := decide (x8 < 128)) rfl (fun h9 => ?_) (fun h9 => ?_)
  have hr := selT h9 hr
  refine Ok.seq (Ok.region (OkOps.y (aS s3) ?_))
  obtain ⟨x10, hx10, hr⟩ := bind_some hr
  refine OkOps.q (triSSlc hx10 rfl rfl rfl (.inr ⟨_, rfl⟩) (.inl ⟨rfl, rfl⟩) rfl trivial rfl) (OkOps.y (aS x10) (OkOps.nil ?_))
  obtain ⟨k12, hk12, hr⟩ := jn_some hr
  refine Ok.join (fun (s11 : Str) => ⟨[(0, .s (aS s11))], [], 0⟩) k12 r (fun s11 hr => ?_) ?_
  rw [hk12] at hr
  refine Ok.exit ?_
  exact ⟨s11, hr, (Conv.mk (tau []) ⟨⟨_, rfl, .inl rfl⟩, trivial⟩ trivial rfl rfl rfl rfl)⟩
  clear hk12
  refine Ok.seq (Ok.region (OkOps.y (aS x10) (OkOps.y (aI (x10.size : Int)) (OkOps.y (aB (decide ((x10.size : Int) > 8))) (OkOps.y (aB (decide ((x10.size : Int) > 8))) (OkOps.q (triQG (x := aS x10) rfl rfl trivial rfl) ?_))))))
  obtain ⟨x13, hx13, hr⟩ := bind_some hr
  refine OkOps.q (triCallG (x := .c (.d (.v (.int .u64 x13)))) (fun hg => unicode_utf8_word_string_c _ (gO_t hx13 hg)) rfl rfl ⟨.inl rfl, trivial⟩ ⟨fun h => h, trivial⟩ entry137 rfl rfl rfl) (OkOps.q (triQG (x := .c (.d (.v (.int .u64 (bAnd .u64 x13 9259542123273814144))))) rfl rfl ⟨fun h => h, trivial⟩ rfl) (OkOps.q (triQG (x := aB ((bAnd .u64 x13 9259542123273814144) == 0)) rfl rfl ⟨fun h => h, trivial⟩ rfl) (OkOps.q (triAnd rfl rfl (fun h => h) rfl) (OkOps.nil ?_))))
  refine Ok.cond (b := (decide ((x10.size : Int) > 8)) && ((bAnd .u64 x13 9259542123273814144) == 0)) rfl (fun h14 => ?_) (fun h14 => ?_)
  have hr := selT h14 hr
  refine Ok.seq (Ok.region (OkOps.y (aS x10) ?_))
  obtain ⟨x15, hx15, hr⟩ := bind_some hr
  refine OkOps.q (triSSlc hx15 rfl rfl rfl (.inr ⟨_, rfl⟩) (.inl ⟨rfl, rfl⟩) rfl trivial rfl) (OkOps.y (aS x15) (OkOps.nil (Ok.seq (Ok.regionD (by kernel_rfl) (OkD.x (aS x15) rfl trivial rfl (OkD.x (aI (x15.size : Int)) rfl trivial rfl (OkD.x (aB (decide ((x15.size : Int) > 16))) rfl trivial rfl (OkD.x (aB (decide ((x15.size : Int) > 16))) rfl trivial rfl (OkD.q (triQG (x := aS x15) rfl rfl trivial rfl) ?_)))))))))
  obtain ⟨x16, hx16, hr⟩ := bind_some hr
  refine OkD.q (triCallG (x := .c (.d (.v (.int .u64 x16)))) (fun hg => unicode_utf8_word_string_c _ (gO_t hx16 hg)) rfl rfl ⟨.inl rfl, trivial⟩ ⟨fun h => h, trivial⟩ entry137 rfl rfl rfl) (OkD.q (triQG (x := aS x15) rfl rfl trivial rfl) ?_)
  obtain ⟨x17, hx17, hr⟩ := bind_some hr
  refine OkD.q (triSSlcG (gO_t hx17) rfl rfl rfl rfl (.inr ⟨_, rfl⟩) (.inl ⟨rfl, rfl⟩) rfl ⟨fun h => h, trivial⟩ rfl) ?_
  obtain ⟨x18, hx18, hr⟩ := bind_some hr
  refine OkD.q (triCallG (x := .c (.d (.v (.int .u64 x18)))) (fun hg => unicode_utf8_word_string_c _ (gO_t hx18 hg)) rfl rfl ⟨.inl rfl, trivial⟩ ⟨fun h => h, trivial⟩ entry137 rfl rfl rfl) (OkD.q (triQG (x := .c (.d (.v (.int .u64 (bOr .u64 x16 x18))))) rfl rfl ⟨fun h => h, ⟨fun h => h, trivial⟩⟩ rfl) (OkD.q (triQG (x := .c (.d (.v (.int .u64 (bAnd .u64 (bOr .u64 x16 x18) 9259542123273814144))))) rfl rfl ⟨fun h => h, trivial⟩ rfl) (OkD.q (triQG (x := aB ((bAnd .u64 (bOr .u64 x16 x18) 9259542123273814144) == 0)) rfl rfl ⟨fun h => h, trivial⟩ rfl) (OkD.q (triAnd rfl rfl (fun h => h) rfl) (OkD.nil (by kernel_rfl) ?_)))))
  refine Ok.cond (b := (decide ((x15.size : Int) > 16)) && ((bAnd .u64 (bOr .u64 x16 x18) 9259542123273814144) == 0)) rfl (fun h19 => ?_) (fun h19 => ?_)
  have hr := selT h19 hr
  refine Ok.seq (Ok.region (OkOps.y (aS x15) ?_))
  obtain ⟨x20, hx20, hr⟩ := bind_some hr
  refine OkOps.q (triSSlc hx20 rfl rfl rfl (.inr ⟨_, rfl⟩) (.inl ⟨rfl, rfl⟩) rfl trivial rfl) (OkOps.y (aS x20) (OkOps.nil (Ok.block (Ok.loopK (fun (s21 : Str) => ⟨[(0, .s (aS s21))], [], 0⟩) hr (Conv.mk (tau []) ⟨⟨_, rfl, .inl rfl⟩, trivial⟩ trivial rfl rfl rfl rfl) ?_))))
  clear hr
  intro again22 s21 hr
  unfold unicode_utf8_ValidString_L1 at hr
  refine Ok.seq (Ok.seq (Ok.regionD (by kernel_rfl) (OkD.x (aS s21) rfl trivial rfl (OkD.x (aI (s21.size : Int)) rfl trivial rfl (OkD.x (aB (decide ((s21.size : Int) > 32))) rfl trivial rfl (OkD.x (aB (decide ((s21.size : Int) > 32))) rfl trivial rfl (OkD.q (triQG (x := aS s21) rfl rfl trivial rfl) ?_)))))))
  obtain ⟨x23, hx23, hr⟩ := bind_some hr
  refine OkD.q (triCallG (x := .c (.d (.v (.int .u64 x23)))) (fun hg => unicode_utf8_word_string_c _ (gO_t hx23 hg)) rfl rfl ⟨.inl rfl, trivial⟩ ⟨fun h => h, trivial⟩ entry137 rfl rfl rfl) (OkD.q (triQG (x := aS s21) rfl rfl trivial rfl) ?_)
  obtain ⟨x24, hx24, hr⟩ := bind_some hr
  refine OkD.q (triSSlcG (gO_t hx24) rfl rfl rfl rfl (.inr ⟨_, rfl⟩) (.inl ⟨rfl, rfl⟩) rfl ⟨fun h => h, trivial⟩ rfl) ?_
  obtain ⟨x25, hx25, hr⟩ := bind_some hr
  refine OkD.q (triCallG (x := .c (.d (.v (.int .u64 x25)))) (fun hg => unicode_utf8_word_string_c _ (gO_t hx25 hg)) rfl rfl ⟨.inl rfl, trivial⟩ ⟨fun h => h, trivial⟩ entry137 rfl rfl rfl) (OkD.q (triQG (x := .c (.d (.v (.int .u64 (bOr .u64 x23 x25))))) rfl rfl ⟨fun h => h, ⟨fun h => h, trivial⟩⟩ rfl) (OkD.q (triQG (x := aS s21) rfl rfl trivial rfl) ?_))
  obtain ⟨x26, hx26, hr⟩ := bind_some hr
  refine OkD.q (triSSlcG (gO_t hx26) rfl rfl rfl rfl (.inr ⟨_, rfl⟩) (.inl ⟨rfl, rfl⟩) rfl ⟨fun h => h, trivial⟩ rfl) ?_
  obtain ⟨x27, hx27, hr⟩ := bind_some hr
  refine OkD.q (triCallG (x := .c (.d (.v (.int .u64 x27)))) (fun hg => unicode_utf8_word_string_c _ (gO_t hx27 hg)) rfl rfl ⟨.inl rfl, trivial⟩ ⟨fun h => h, trivial⟩ entry137 rfl rfl rfl) (OkD.q (triQG (x := aS s21) rfl rfl trivial rfl) ?_)
  obtain ⟨x28, hx28, hr⟩ := bind_some hr
  refine OkD.q (triSSlcG (gO_t hx28) rfl rfl rfl rfl (.inr ⟨_, rfl⟩) (.inl ⟨rfl, rfl⟩) rfl ⟨fun h => h, trivial⟩ rfl) ?_
  obtain ⟨x29, hx29, hr⟩ := bind_some hr
  refine OkD.q (triCallG (x := .c (.d (.v (.int .u64 x29)))) (fun hg => unicode_utf8_word_string_c _ (gO_t hx29 hg)) rfl rfl ⟨.inl rfl, trivial⟩ ⟨fun h => h, trivial⟩ entry137 rfl rfl rfl) (OkD.q (triQG (x := .c (.d (.v (.int .u64 (bOr .u64 x27 x29))))) rfl rfl ⟨fun h => h, ⟨fun h => h, trivial⟩⟩ rfl) (OkD.q (triQG (x := .c (.d (.v (.int .u64 (bOr .u64 (bOr .u64 x23 x25) (bOr .u64 x27 x29)))))) rfl rfl ⟨fun h => h, ⟨fun h => h, trivial⟩⟩ rfl) (OkD.q (triQG (x := .c (.d (.v (.int .u64 (bAnd .u64 (bOr .u64 (bOr .u64 x23 x25) (bOr .u64 x27 x29)) 9259542123273814144))))) rfl rfl ⟨fun h => h, trivial⟩ rfl) (OkD.q (triQG (x := aB ((bAnd .u64 (bOr .u64 (bOr .u64 x23 x25) (bOr .u64 x27 x29)) 9259542123273814144) == 0)) rfl rfl ⟨fun h => h, trivial⟩ rfl) (OkD.q (triAnd rfl rfl (fun h => h) rfl) (OkD.nil (by kernel_rfl) ?_))))))
  refine Ok.cond (b := (decide ((s21.size : Int) > 32)) && ((bAnd .u64 (bOr .u64 (bOr .u64 x23 x25) (bOr .u64 x27 x29)) 9259542123273814144) == 0)) rfl (fun h30 => ?_) (fun h30 => ?_)
  have hr := selT h30 hr
  refine Ok.skip (Ok.block (Ok.region (OkOps.y (aS s21) ?_)))
  obtain ⟨x31, hx31, hr⟩ := bind_some hr
  refine OkOps.q (triSSlc hx31 rfl rfl rfl (.inr ⟨_, rfl⟩) (.inl ⟨rfl, rfl⟩) rfl trivial rfl) (OkOps.y (aS x31) (OkOps.nil ?_))
  exact ⟨x31, hr, (Conv.mk (tau []) ⟨⟨_, rfl, .inl rfl⟩, trivial⟩ trivial rfl rfl rfl rfl)⟩
  have hr := selF h30 hr
  refine Ok.exit ?_
  exact ⟨s21, hr, (Conv.mk (tau []) ⟨⟨_, rfl, .inl rfl⟩, trivial⟩ trivial rfl rfl rfl rfl)⟩
  have hr := selF h19 hr
  refine Ok.skip ?_
  exact ⟨x15, hr, (Conv.mk (tau []) ⟨⟨_, rfl, .inl rfl⟩, trivial⟩ trivial rfl rfl rfl rfl)⟩
  have hr := selF h14 hr
  refine Ok.skip ?_
  exact ⟨x10, hr, (Conv.mk (tau []) ⟨⟨_, rfl, .inl rfl⟩, trivial⟩ trivial rfl rfl rfl rfl)⟩
  have hr := selF h9 hr
  refine Ok.skip (Ok.seq (Ok.region (OkOps.y (.c (.d (.v (.int .u8 x8)))) ?_)))
  obtain ⟨x32, hx32, hr⟩ := bind_some hr
  refine OkOps.q (triFirst (y := x32) hx32 (by kernel_rfl) rfl rfl trivial rfl) (OkOps.y (.c (.d (.v (.int .u8 x32)))) (OkOps.y (.c (.d (.v (.int .u8 x32)))) (OkOps.nil (Ok.seq (Ok.region (OkOps.y (.c (.d (.v (.int .u8 x32)))) (OkOps.y (.c (.d (.v (.int .u8 (bAnd .u8 x32 7))))) (OkOps.y (aI (IntKind.i64.wrap (bAnd .u8 x32 7))) (OkOps.y (aI (IntKind.i64.wrap (bAnd .u8 x32 7))) (OkOps.nil (Ok.seq (Ok.region (OkOps.y (.c (.d (.v (.int .u8 x32)))) (OkOps.y (.c (.d (.v (.int .u8 (bShr .u8 x32 4))))) ?_))))))))))))))
  obtain ⟨x33, hx33, hr⟩ := bind_some hr
  refine OkOps.q (triAccept (y := x33) hx33 (by kernel_rfl) rfl rfl trivial rfl) (OkOps.y (.agg [.d (.v (.int .u8 x33.1)), .d (.v (.int .u8 x33.2))]) (OkOps.m 0 (triAlloc (j := 0) (cs := [.d (.v (.int .u8 0)), .d (.v (.int .u8 0))]) rfl rfl rfl rfl) (OkOps.w (triStore (cs' := [.d (.v (.int .u8 x33.1)), .d (.v (.int .u8 x33.2))]) rfl rfl rfl rfl rfl rfl rfl rfl rfl) (OkOps.nil (Ok.seq (Ok.region (OkOps.y (aI (IntKind.i64.wrap (bAnd .u8 x32 7))) (OkOps.nil (Ok.block (Ok.seq (Ok.region (OkOps.y (aB ((IntKind.i64.wrap (bAnd .u8 x32 7)) == 2)) (OkOps.y (aB ((IntKind.i64.wrap (bAnd .u8 x32 7)) == 2)) (OkOps.nil ?_))))))))))))))
  refine Ok.cond (b := (IntKind.i64.wrap (bAnd .u8 x32 7)) == 2) rfl (fun h34 => ?_) (fun h34 => ?_)
  have hr := selT h34 hr
  refine Ok.seq (Ok.seq (Ok.regionD (by kernel_rfl) (OkD.x (aS s3) rfl trivial rfl (OkD.x (aI (s3.size : Int)) rfl trivial rfl (OkD.x (aB (decide ((s3.size : Int) < 2))) rfl trivial rfl (OkD.x (aB (decide ((s3.size : Int) < 2))) rfl trivial rfl (OkD.q (triQG (x := aS s3) rfl rfl trivial rfl) ?_)))))))
  obtain ⟨x35, hx35, hr⟩ := bind_some hr
  refine OkD.q (triSIdxG (gO_t hx35) rfl rfl rfl rfl ⟨fun h => h, trivial⟩ rfl) (OkD.q (triQG (x := .c (.loc 0 0)) rfl rfl trivial rfl) (OkD.q (triQG (x := .c (.d (.v (.int .u8 x33.1)))) rfl rfl ⟨fun h => h, trivial⟩ rfl) (OkD.q (triQG (x := aB (decide (x35 < x33.1))) rfl rfl ⟨fun h => h, ⟨fun h => h, trivial⟩⟩ rfl) ?_)))
  refine OkD.q (triOr rfl rfl (fun h => by rw [h]; rfl) rfl) ?_
  refine OkD.x (aB ((decide ((s3.size : Int) < 2)) || (decide (x35 < x33.1)))) rfl trivial rfl (OkD.q (triQG (x := .c (.loc 0 1)) rfl rfl trivial rfl) (OkD.q (triQG (x := .c (.d (.v (.int .u8 x33.2)))) rfl rfl ⟨fun h => h, trivial⟩ rfl) (OkD.q (triQG (x := aS s3) rfl rfl trivial rfl) ?_)))
  obtain ⟨x36, hx36, hr⟩ := bind_some hr
  refine OkD.q (triSIdxG (gO_t hx36) rfl rfl rfl rfl ⟨fun h => h, trivial⟩ rfl) (OkD.q (triQG (x := aB (decide (x33.2 < x36))) rfl rfl ⟨fun h => h, ⟨fun h => h, trivial⟩⟩ rfl) ?_)
  refine OkD.q (triOr rfl rfl (fun h => by rw [h]; rfl) rfl) ?_
  refine OkD.nil (by kernel_rfl) ?_
  refine Ok.cond (b := ((decide ((s3.size : Int) < 2)) || (decide (x35 < x33.1))) || (decide (x33.2 < x36))) rfl (fun h37 => ?_) (fun h37 => ?_)
  have hr := selT h37 hr
  refine Ok.seq (Ok.region (OkOps.y (aB false) (OkOps.nil (Ok.ret ?_))))
  obtain rfl := Option.some.inj hr
  exact ⟨_, rfl, .inl rfl, trivial⟩
  have hr := selF h37 hr
  refine Ok.skip (Ok.region (OkOps.y (aS s3) ?_))
  obtain ⟨x38, hx38, hr⟩ := bind_some hr
  refine OkOps.q (triSSlc hx38 rfl rfl rfl (.inr ⟨_, rfl⟩) (.inl ⟨rfl, rfl⟩) rfl trivial rfl) (OkOps.y (aS x38) (OkOps.nil ?_))
  exact ⟨x38, hr, (Conv.mk (tau []) ⟨⟨_, rfl, .inl rfl⟩, trivial⟩ trivial rfl rfl rfl rfl)⟩
  have hr := selF h34 hr
  refine Ok.seq (Ok.region (OkOps.y (aB ((IntKind.i64.wrap (bAnd .u8 x32 7)) == 3)) (OkOps.y (aB ((IntKind.i64.wrap (bAnd .u8 x32 7)) == 3)) (OkOps.nil ?_))))
  refine Ok.cond (b := (IntKind.i64.wrap (bAnd .u8 x32 7)) == 3) rfl (fun h39 => ?_) (fun h39 => ?_)
  have hr := selT h39 hr
  refine Ok.seq (Ok.seq (Ok.regionD (by kernel_rfl) (OkD.x (aS s3) rfl trivial rfl (OkD.x (aI (s3.size : Int)) rfl trivial rfl (OkD.x (aB (decide ((s3.size : Int) < 3))) rfl trivial rfl (OkD.x (aB (decide ((s3.size : Int) < 3))) rfl trivial rfl (OkD.q (triQG (x := aS s3) rfl rfl trivial rfl) ?_)))))))
  obtain ⟨x40, hx40, hr⟩ := bind_some hr
  refine OkD.q (triSIdxG (gO_t hx40) rfl rfl rfl rfl ⟨fun h => h, trivial⟩ rfl) (OkD.q (triQG (x := .c (.loc 0 0)) rfl rfl trivial rfl) (OkD.q (triQG (x := .c (.d (.v (.int .u8 x33.1)))) rfl rfl ⟨fun h => h, trivial⟩ rfl) (OkD.q (triQG (x := aB (decide (x40 < x33.1))) rfl rfl ⟨fun h => h, ⟨fun h => h, trivial⟩⟩ rfl) ?_)))
  refine OkD.q (triOr rfl rfl (fun h => by rw [h]; rfl) rfl) ?_
  refine OkD.x (aB ((decide ((s3.size : Int) < 3)) || (decide (x40 < x33.1)))) rfl trivial rfl (OkD.q (triQG (x := .c (.loc 0 1)) rfl rfl trivial rfl) (OkD.q (triQG (x := .c (.d (.v (.int .u8 x33.2)))) rfl rfl ⟨fun h => h, trivial⟩ rfl) (OkD.q (triQG (x := aS s3) rfl rfl trivial rfl) ?_)))
  obtain ⟨x41, hx41, hr⟩ := bind_some hr
  refine OkD.q (triSIdxG (gO_t hx41) rfl rfl rfl rfl ⟨fun h => h, trivial⟩ rfl) (OkD.q (triQG (x := aB (decide (x33.2 < x41))) rfl rfl ⟨fun h => h, ⟨fun h => h, trivial⟩⟩ rfl) ?_)
  refine OkD.q (triOr rfl rfl (fun h => by rw [h]; rfl) rfl) ?_
  refine OkD.x (aB (((decide ((s3.size : Int) < 3)) || (decide (x40 < x33.1))) || (decide (x33.2 < x41)))) rfl trivial rfl (OkD.q (triQG (x := aS s3) rfl rfl trivial rfl) ?_)
  obtain ⟨x42, hx42, hr⟩ := bind_some hr
  refine OkD.q (triSIdxG (gO_t hx42) rfl rfl rfl rfl ⟨fun h => h, trivial⟩ rfl) (OkD.q (triQG (x := aB (decide (x42 < 128))) rfl rfl ⟨fun h => h, trivial⟩ rfl) ?_)
  refine OkD.q (triOr rfl rfl (fun h => by rw [h]; rfl) rfl) ?_
  refine OkD.x (aB ((((decide ((s3.size : Int) < 3)) || (decide (x40 < x33.1))) || (decide (x33.2 < x41))) || (decide (x42 < 128)))) rfl trivial rfl (OkD.q (triQG (x := aS s3) rfl rfl trivial rfl) ?_)
  obtain ⟨x43, hx43, hr⟩ := bind_some hr
  refine OkD.q (triSIdxG (gO_t hx43) rfl rfl rfl rfl ⟨fun h => h, trivial⟩ rfl) (OkD.q (triQG (x := aB (decide (191 < x43))) rfl rfl ⟨fun h => h, trivial⟩ rfl) ?_)
  refine OkD.q (triOr rfl rfl (fun h => by rw [h]; rfl) rfl) ?_
  refine OkD.nil (by kernel_rfl) ?_
  refine Ok.cond (b := ((((decide ((s3.size : Int) < 3)) || (decide (x40 < x33.1))) || (decide (x33.2 < x41))) || (decide (x42 < 128))) || (decide (191 < x43))) rfl (fun h44 => ?_) (fun h44 => ?_)
  have hr := selT h44 hr
  refine Ok.seq (Ok.region (OkOps.y (aB false) (OkOps.nil (Ok.ret ?_))))
  obtain rfl := Option.some.inj hr
  exact ⟨_, rfl, .inl rfl, trivial⟩
  have hr := selF h44 hr
  refine Ok.skip (Ok.region (OkOps.y (aS s3) ?_))
  obtain ⟨x45, hx45, hr⟩ := bind_some hr
  refine OkOps.q (triSSlc hx45 rfl rfl rfl (.inr ⟨_, rfl⟩) (.inl ⟨rfl, rfl⟩) rfl trivial rfl) (OkOps.y (aS x45) (OkOps.nil ?_))
  exact ⟨x45, hr, (Conv.mk (tau []) ⟨⟨_, rfl, .inl rfl⟩, trivial⟩ trivial rfl rfl rfl rfl)⟩
  have hr := selF h39 hr
  refine Ok.seq (Ok.region (OkOps.y (aB ((IntKind.i64.wrap (bAnd .u8 x32 7)) == 4)) (OkOps.y (aB ((IntKind.i64.wrap (bAnd .u8 x32 7)) == 4)) (OkOps.nil ?_))))
  refine Ok.cond (b := (IntKind.i64.wrap (bAnd .u8 x32 7)) == 4) rfl (fun h46 => ?_) (fun h46 => ?_)
  have hr := selT h46 hr
  refine Ok.seq (Ok.seq (Ok.regionD (by kernel_rfl) (OkD.x (aS s3) rfl trivial rfl (OkD.x (aI (s3.size : Int)) rfl trivial rfl (OkD.x (aB (decide ((s3.size : Int) < 4))) rfl trivial rfl (OkD.x (aB (decide ((s3.size : Int) < 4))) rfl trivial rfl (OkD.q (triQG (x := aS s3) rfl rfl trivial rfl) ?_)))))))
  obtain ⟨x47, hx47, hr⟩ := bind_some hr
  refine OkD.q (triSIdxG (gO_t hx47) rfl rfl rfl rfl ⟨fun h => h, trivial⟩ rfl) (OkD.q (triQG (x := .c (.loc 0 0)) rfl rfl trivial rfl) (OkD.q (triQG (x := .c (.d (.v (.int .u8 x33.1)))) rfl rfl ⟨fun h => h, trivial⟩ rfl) (OkD.q (triQG (x := aB (decide (x47 < x33.1))) rfl rfl ⟨fun h => h, ⟨fun h => h, trivial⟩⟩ rfl) ?_)))
  refine OkD.q (triOr rfl rfl (fun h => by rw [h]; rfl) rfl) ?_
  refine OkD.x (aB ((decide ((s3.size : Int) < 4)) || (decide (x47 < x33.1)))) rfl trivial rfl (OkD.q (triQG (x := .c (.loc 0 1)) rfl rfl trivial rfl) (OkD.q (triQG (x := .c (.d (.v (.int .u8 x33.2)))) rfl rfl ⟨fun h => h, trivial⟩ rfl) (OkD.q (triQG (x := aS s3) rfl rfl trivial rfl) ?_)))
  obtain ⟨x48, hx48, hr⟩ := bind_some hr
  refine OkD.q (triSIdxG (gO_t hx48) rfl rfl rfl rfl ⟨fun h => h, trivial⟩ rfl) (OkD.q (triQG (x := aB (decide (x33.2 < x48))) rfl rfl ⟨fun h => h, ⟨fun h => h, trivial⟩⟩ rfl) ?_)
  refine OkD.q (triOr rfl rfl (fun h => by rw [h]; rfl) rfl) ?_
  refine OkD.x (aB (((decide ((s3.size : Int) < 4)) || (decide (x47 < x33.1))) || (decide (x33.2 < x48)))) rfl trivial rfl (OkD.q (triQG (x := aS s3) rfl rfl trivial rfl) ?_)
  obtain ⟨x49, hx49, hr⟩ := bind_some hr
  refine OkD.q (triSIdxG (gO_t hx49) rfl rfl rfl rfl ⟨fun h => h, trivial⟩ rfl) (OkD.q (triQG (x := aB (decide (x49 < 128))) rfl rfl ⟨fun h => h, trivial⟩ rfl) ?_)
  refine OkD.q (triOr rfl rfl (fun h => by rw [h]; rfl) rfl) ?_
  refine OkD.x (aB ((((decide ((s3.size : Int) < 4)) || (decide (x47 < x33.1))) || (decide (x33.2 < x48))) || (decide (x49 < 128)))) rfl trivial rfl (OkD.q (triQG (x := aS s3) rfl rfl trivial rfl) ?_)
  obtain ⟨x50, hx50, hr⟩ := bind_some hr
  refine OkD.q (triSIdxG (gO_t hx50) rfl rfl rfl rfl ⟨fun h => h, trivial⟩ rfl) (OkD.q (triQG (x := aB (decide (191 < x50))) rfl rfl ⟨fun h => h, trivial⟩ rfl) ?_)
  refine OkD.q (triOr rfl rfl (fun h => by rw [h]; rfl) rfl) ?_
  refine OkD.x (aB (((((decide ((s3.size : Int) < 4)) || (decide (x47 < x33.1))) || (decide (x33.2 < x48))) || (decide (x49 < 128))) || (decide (191 < x50)))) rfl trivial rfl (OkD.q (triQG (x := aS s3) rfl rfl trivial rfl) ?_)
  obtain ⟨x51, hx51, hr⟩ := bind_some hr
  refine OkD.q (triSIdxG (gO_t hx51) rfl rfl rfl rfl ⟨fun h => h, trivial⟩ rfl) (OkD.q (triQG (x := aB (decide (x51 < 128))) rfl rfl ⟨fun h => h, trivial⟩ rfl) ?_)
  refine OkD.q (triOr rfl rfl (fun h => by rw [h]; rfl) rfl) ?_
  refine OkD.x (aB ((((((decide ((s3.size : Int) < 4)) || (decide (x47 < x33.1))) || (decide (x33.2 < x48))) || (decide (x49 < 128))) || (decide (191 < x50))) || (decide (x51 < 128)))) rfl trivial rfl (OkD.q (triQG (x := aS s3) rfl rfl trivial rfl) ?_)
  obtain ⟨x52, hx52, hr⟩ := bind_some hr
  refine OkD.q (triSIdxG (gO_t hx52) rfl rfl rfl rfl ⟨fun h => h, trivial⟩ rfl) (OkD.q (triQG (x := aB (decide (191 < x52))) rfl rfl ⟨fun h => h, trivial⟩ rfl) ?_)
  refine OkD.q (triOr rfl rfl (fun h => by rw [h]; rfl) rfl) ?_
  refine OkD.nil (by kernel_rfl) ?_
  refine Ok.cond (b := ((((((decide ((s3.size : Int) < 4)) || (decide (x47 < x33.1))) || (decide (x33.2 < x48))) || (decide (x49 < 128))) || (decide (191 < x50))) || (decide (x51 < 128))) || (decide (191 < x52))) rfl (fun h53 => ?_) (fun h53 => ?_)
  have hr := selT h53 hr
  refine Ok.seq (Ok.region (OkOps.y (aB false) (OkOps.nil (Ok.ret ?_))))
  obtain rfl := Option.some.inj hr
  exact ⟨_, rfl, .inl rfl, trivial⟩
  have hr := selF h53 hr
  refine Ok.skip (Ok.region (OkOps.y (aS s3) ?_))
  obtain ⟨x54, hx54, hr⟩ := bind_some hr
  refine OkOps.q (triSSlc hx54 rfl rfl rfl (.inr ⟨_, rfl⟩) (.inl ⟨rfl, rfl⟩) rfl trivial rfl) (OkOps.y (aS x54) (OkOps.nil ?_))
  exact ⟨x54, hr, (Conv.mk (tau []) ⟨⟨_, rfl, .inl rfl⟩, trivial⟩ trivial rfl rfl rfl rfl)⟩
  have hr := selF h46 hr
  refine Ok.seq (Ok.region (OkOps.y (aB false) (OkOps.nil (Ok.ret ?_))))
  obtain rfl := Option.some.inj hr
  exact ⟨_, rfl, .inl rfl, trivial⟩
  have hr := selF h5 hr
  refine Ok.exit ?_
  exact ⟨(), hr, (Conv.mk (tau []) trivial trivial rfl rfl rfl rfl)⟩
theorem entry132 : Entry Tryd.prog 132 := ⟨_, Tryd.func132, by kernel_rfl, by kernel_rfl⟩
theorem ex_listOf_c (t : AType) {r : AType} (hr : ex_listOf t = some r) : Con Tryd.prog 134 [.agg [cI t.Kind, .d (.sl (List.map AType.cs t.Of))]] [] (.s (.agg [cI r.Kind, .d (.sl (List.map AType.cs r.Of))])) [] := by
  unfold ex_listOf at hr
  refine Con.of_ok 6 0 [.cell 2 130] [(0, .s (.agg [cI t.Kind, .d (.sl (List.map AType.cs t.Of))]))] Tryd.func134 rfl rfl rfl rfl rfl rfl rfl rfl fun w g M ρ _ => (Ok.seq (Ok.region (OkOps.m 0 (triBox (j := 0) (cs := [cI t.Kind, .d (.sl (List.map AType.cs t.Of))]) rfl rfl rfl rfl rfl) (OkOps.m 0 (triAlloc (j := 1) (cs := [cI 0, .d (.v (.slice none 0 0))]) rfl rfl rfl rfl) (OkOps.nil (Ok.seq (Ok.region (OkOps.y (.agg [cI t.Kind, .d (.sl (List.map AType.cs t.Of))]) ?_))))))))
  refine OkOps.m 0 (triBST (sz := 2) (enc := AType.cs) (j := 2) ([t]) rfl rfl rfl rfl rfl (rows := [[dI t.Kind, .sl (List.map AType.cs t.Of)]]) (by simp only [List.map, AType.cs_eq]) rfl rfl (fun x => by rw [AType.cs_eq]; rfl) trivial rfl rfl) ?_
  refine OkOps.y (.agg [cI 4, .tl 2 (List.map AType.cs ([t]))]) (OkOps.w (triStore (cs' := [cI 4, .tl 2 (List.map AType.cs ([t]))]) rfl rfl rfl rfl rfl rfl rfl rfl rfl) (OkOps.nil (Ok.ret ?_)))
  obtain rfl := Option.some.inj hr
  exact ⟨_, rfl, .inr rfl, trivial⟩
theorem entry134 : Entry Tryd.prog 134 := ⟨_, Tryd.func134, by kernel_rfl, by kernel_rfl⟩
theorem entry138 : Entry Tryd.prog 138 := ⟨_, Tryd.func138, by kernel_rfl, by kernel_rfl⟩
theorem ex_join_B_c (self0 : AType → AType → Option (AType × Bool)) (hself0 : ∀ (a : AType) (b : AType) {r : AType × Bool}, self0 a b = some r → Con Tryd.prog 138 [.agg [cI a.Kind, .d (.sl (List.map AType.cs a.Of))], .agg [cI b.Kind, .d (.sl (List.map AType.cs b.Of))]] [] (.tup [.agg [cI r.1.Kind, .d (.sl (List.map AType.cs r.1.Of))], aB r.2]) []) (a : AType) (b : AType) {r : AType × Bool} (hr : ex_join_B self0 a b = some r) : Con Tryd.prog 138 [.agg [cI a.Kind, .d (.sl (List.map AType.cs a.Of))], .agg [cI b.Kind, .d (.sl (List.map AType.cs b.Of))]] [] (.tup [.agg [cI r.1.Kind, .d (.sl (List.map AType.cs r.1.Of))], aB r.2]) [] := by
  unfold ex_join_B at hr
  refine Con.of_ok 44 0 [.cell 4 130, .tmp 5] [(0, .s (.agg [cI a.Kind, .d (.sl (List.map AType.cs a.Of))])), (1, .s (.agg [cI b.Kind, .d (.sl (List.map AType.cs b.Of))]))] Tryd.func138 rfl rfl rfl rfl rfl rfl rfl rfl fun w g M ρ _ => (Ok.seq (Ok.region (OkOps.m 0 (triBox (j := 0) (cs := [cI a.Kind, .d (.sl (List.map AType.cs a.Of))]) rfl rfl rfl rfl rfl) (OkOps.m 0 (triBox (j := 1) (cs := [cI b.Kind, .d (.sl (List.map AType.cs b.Of))]) rfl rfl rfl rfl rfl) (OkOps.m 0 (triAlloc (j := 2) (cs := [cI 0, .d (.v (.slice none 0 0))]) rfl rfl rfl rfl) (OkOps.y (aB false) (OkOps.nil (Ok.seq (Ok.block (Ok.seq (Ok.region (OkOps.y (.c (.loc 0 0)) (OkOps.y (aI a.Kind) (OkOps.y (.c (.loc 1 0)) (OkOps.y (aI b.Kind) ?_)))))))))))))))
  refine OkOps.y (aB (a.Kind != b.Kind)) (OkOps.y (aB (a.Kind != b.Kind)) (OkOps.nil ?_))
  refine Ok.cond (b := a.Kind != b.Kind) rfl (fun h1 => ?_) (fun h1 => ?_)
  have hr := selT h1 hr
  refine Ok.seq (Ok.region (OkOps.y (.agg [cI 0, .d (.v (.slice none 0 0))]) (OkOps.w (triStore (cs' := [cI 0, .d (.v (.slice none 0 0))]) rfl rfl rfl rfl rfl rfl rfl rfl rfl) (OkOps.y (aB false) (OkOps.nil (Ok.ret ?_))))))
  obtain rfl := Option.some.inj hr
  exact ⟨_, rfl, .inr rfl, trivial⟩
  have hr := selF h1 hr
  refine Ok.seq (Ok.region (OkOps.y (.c (.loc 0 1)) (OkOps.y (.c (.d (.sl (List.map AType.cs a.Of)))) (OkOps.q (triLen (enc := AType.cs) a.Of rfl rfl trivial rfl) (OkOps.y (aB ((a.Of.length : Int) == 0)) (OkOps.y (aB ((a.Of.length : Int) == 0)) (OkOps.nil ?_)))))))
  refine Ok.cond (b := (a.Of.length : Int) == 0) rfl (fun h2 => ?_) (fun h2 => ?_)
  have hr := selT h2 hr
  refine Ok.seq (Ok.region (OkOps.y (.agg [cI b.Kind, .d (.sl (List.map AType.cs b.Of))]) (OkOps.w (triStore (cs' := [cI b.Kind, .d (.sl (List.map AType.cs b.Of))]) rfl rfl rfl rfl rfl rfl rfl rfl rfl) (OkOps.y (aB true) (OkOps.nil (Ok.ret ?_))))))
  obtain rfl := Option.some.inj hr
  exact ⟨_, rfl, .inl rfl, trivial⟩
  have hr := selF h2 hr
  refine Ok.seq (Ok.region (OkOps.y (.c (.loc 1 1)) (OkOps.y (.c (.d (.sl (List.map AType.cs b.Of)))) (OkOps.q (triLen (enc := AType.cs) b.Of rfl rfl trivial rfl) (OkOps.y (aB ((b.Of.length : Int) == 0)) (OkOps.y (aB ((b.Of.length : Int) == 0)) (OkOps.nil ?_)))))))
  refine Ok.cond (b := (b.Of.length : Int) == 0) rfl (fun h3 => ?_) (fun h3 => ?_)
  have hr := selT h3 hr
  refine Ok.seq (Ok.region (OkOps.y (.agg [cI a.Kind, .d (.sl (List.map AType.cs a.Of))]) (OkOps.w (triStore (cs' := [cI a.Kind, .d (.sl (List.map AType.cs a.Of))]) rfl rfl rfl rfl rfl rfl rfl rfl rfl) (OkOps.y (aB true) (OkOps.nil (Ok.ret ?_))))))
  obtain rfl := Option.some.inj hr
  exact ⟨_, rfl, .inl rfl, trivial⟩
  have hr := selF h3 hr
  refine Ok.skip (Ok.seq (Ok.regionD (by kernel_rfl) (OkD.x (.c (.loc 0 1)) rfl trivial rfl (OkD.x (.c (.d (.sl (List.map AType.cs a.Of)))) rfl trivial rfl ?_))))
  obtain ⟨x4, hx4, hr⟩ := bind_some hr
  refine OkD.q (triIdx (enc := AType.cs) (L := a.Of) (row := [dI x4.Kind, .sl (List.map AType.cs x4.Of)]) hx4 (AType.cs_eq _) rfl rfl rfl (fun x => by rw [AType.cs_eq]; rfl) trivial rfl) ?_
  refine OkD.x (.agg [cI x4.Kind, .d (.sl (List.map AType.cs x4.Of))]) rfl trivial rfl (OkD.x (.c (.loc 1 1)) rfl trivial rfl (OkD.x (.c (.d (.sl (List.map AType.cs b.Of)))) rfl trivial rfl ?_))
  obtain ⟨x5, hx5, hr⟩ := bind_some hr
  refine OkD.q (triIdx (enc := AType.cs) (L := b.Of) (row := [dI x5.Kind, .sl (List.map AType.cs x5.Of)]) hx5 (AType.cs_eq _) rfl rfl rfl (fun x => by rw [AType.cs_eq]; rfl) trivial rfl) ?_
  refine OkD.x (.agg [cI x5.Kind, .d (.sl (List.map AType.cs x5.Of))]) rfl trivial rfl ?_
  obtain ⟨x6, hx6, hr⟩ := bind_some hr
  refine OkD.q (triCl (tau []) (.tup [.agg [cI x6.1.Kind, .d (.sl (List.map AType.cs x6.1.Of))], aB x6.2]) [] (hself0 _ _ hx6) rfl ⟨.inl rfl, .inl rfl, trivial⟩ trivial entry138 trivial) (OkD.q (triMv (v := .tup [.agg [cI x6.1.Kind, .d (.sl (List.map AType.cs x6.1.Of))], aB x6.2]) rfl rfl) (OkD.x (.agg [cI x6.1.Kind, .d (.sl (List.map AType.cs x6.1.Of))]) rfl trivial rfl (OkD.x (aB x6.2) rfl trivial rfl (OkD.m 0 (triAlloc (j := 3) (cs := [cI 0, .d (.v (.slice none 0 0))]) rfl rfl rfl rfl) (OkD.w (triStore (cs' := [cI x6.1.Kind, .d (.sl (List.map AType.cs x6.1.Of))]) rfl rfl rfl rfl rfl rfl rfl rfl rfl) (OkD.x (aB x6.2) rfl trivial rfl (OkD.nil (by kernel_rfl) (Ok.seq (Ok.seq (Ok.region (OkOps.y (aB x6.2) (OkOps.y (aB (!x6.2)) (OkOps.nil ?_)))))))))))))
  refine Ok.cond (b := !x6.2) rfl (fun h7 => ?_) (fun h7 => ?_)
  have hr := selT h7 hr
  refine Ok.seq (Ok.region (OkOps.y (.agg [cI 0, .d (.v (.slice none 0 0))]) (OkOps.w (triStore (cs' := [cI 0, .d (.v (.slice none 0 0))]) rfl rfl rfl rfl rfl rfl rfl rfl rfl) (OkOps.y (aB false) (OkOps.nil (Ok.ret ?_))))))
  obtain rfl := Option.some.inj hr
  exact ⟨_, rfl, .inr rfl, trivial⟩
  have hr := selF h7 hr
  refine Ok.skip (Ok.seq (Ok.region (OkOps.y (.agg [cI x6.1.Kind, .d (.sl (List.map AType.cs x6.1.Of))]) ?_)))
  obtain ⟨x8, hx8, hr⟩ := bind_some hr
  refine OkOps.q (triCl (tau []) (.s (.agg [cI x8.Kind, .d (.sl (List.map AType.cs x8.Of))])) [] (ex_listOf_c _ hx8) rfl ⟨.inl rfl, trivial⟩ trivial entry134 trivial) (OkOps.w (triStore (cs' := [cI x8.Kind, .d (.sl (List.map AType.cs x8.Of))]) rfl rfl rfl rfl rfl rfl rfl rfl rfl) (OkOps.y (aB true) (OkOps.nil (Ok.ret ?_))))
  obtain rfl := Option.some.inj hr
  exact ⟨_, rfl, .inl rfl, trivial⟩
theorem ex_join_all : ∀ n : Nat, (∀ (a : AType) (b : AType) {r : AType × Bool}, ex_join n a b = some r → Con Tryd.prog 138 [.agg [cI a.Kind, .d (.sl (List.map AType.cs a.Of))], .agg [cI b.Kind, .d (.sl (List.map AType.cs b.Of))]] [] (.tup [.agg [cI r.1.Kind, .d (.sl (List.map AType.cs r.1.Of))], aB r.2]) []) ∧ True := by
  intro n
  induction n with
  | zero => exact ⟨(by intros; rename_i hr; cases hr), trivial⟩
  | succ n ih => exact ⟨(by intros; rename_i hr; exact ex_join_B_c _ ih.1 _ _ hr), trivial⟩
theorem ex_join_c (n : Nat) (a : AType) (b : AType) {r : AType × Bool} (hr : ex_join n a b = some r) : Con Tryd.prog 138 [.agg [cI a.Kind, .d (.sl (List.map AType.cs a.Of))], .agg [cI b.Kind, .d (.sl (List.map AType.cs b.Of))]] [] (.tup [.agg [cI r.1.Kind, .d (.sl (List.map AType.cs r.1.Of))], aB r.2]) [] := (ex_join_all n).1 a b hr
theorem ex_common_c (l : (List AType)) {r : AType × Bool} (hr : ex_common l = some r) : Con Tryd.prog 133 [.c (.d (.sl (List.map AType.cs l)))] [] (.tup [.agg [cI r.1.Kind, .d (.sl (List.map AType.cs r.1.Of))], aB r.2]) [] := by
  unfold ex_common at hr
  refine Con.of_ok 34 0 [.cell 2 130, .tmp 3] [(0, .s (.c (.d (.sl (List.map AType.cs l)))))] Tryd.func133 rfl rfl rfl rfl rfl rfl rfl rfl fun w g M ρ _ => (Ok.seq (Ok.region (OkOps.m 0 (triAlloc (j := 0) (cs := [cI 0, .d (.v (.slice none 0 0))]) rfl rfl rfl rfl) (OkOps.y (aB false) (OkOps.nil (Ok.seq (Ok.seq (Ok.region (OkOps.y (.c (.d (.sl (List.map AType.cs l)))) (OkOps.q (triLen (enc := AType.cs) l rfl rfl trivial rfl) (OkOps.y (aB ((l.length : Int) == 0)) (OkOps.nil ?_))))))))))))
  refine Ok.cond (b := (l.length : Int) == 0) rfl (fun h1 => ?_) (fun h1 => ?_)
  have hr := selT h1 hr
  refine Ok.seq (Ok.region (OkOps.y (.agg [cI 4, .d (.v (.slice none 0 0))]) (OkOps.w (triStore (cs' := [cI 4, .d (.v (.slice none 0 0))]) rfl rfl rfl rfl rfl rfl rfl rfl rfl) (OkOps.y (aB true) (OkOps.nil (Ok.ret ?_))))))
  obtain rfl := Option.some.inj hr
  exact ⟨_, rfl, .inr rfl, trivial⟩
  have hr := selF h1 hr
  refine Ok.skip (Ok.seq (Ok.region (OkOps.y (.c (.d (.sl (List.map AType.cs l)))) ?_)))
  obtain ⟨x2, hx2, hr⟩ := bind_some hr
  refine OkOps.q (triIdx (enc := AType.cs) (L := l) (row := [dI x2.Kind, .sl (List.map AType.cs x2.Of)]) hx2 (AType.cs_eq _) rfl rfl rfl (fun x => by rw [AType.cs_eq]; rfl) trivial rfl) ?_
  refine OkOps.y (.agg [cI x2.Kind, .d (.sl (List.map AType.cs x2.Of))]) (OkOps.m 0 (triAlloc (j := 1) (cs := [cI 0, .d (.v (.slice none 0 0))]) rfl rfl rfl rfl) (OkOps.w (triStore (cs' := [cI x2.Kind, .d (.sl (List.map AType.cs x2.Of))]) rfl rfl rfl rfl rfl rfl rfl rfl rfl) (OkOps.nil ?_)))
  obtain ⟨k4, hk4, hr⟩ := jn_some hr
  refine Ok.join (fun (s3 : Int × (List AType)) => ⟨[(2, .s (.c (.loc 0 0))), (4, .s (.c (.loc 1 0)))], [(0, .blk [cI 0, .d (.v (.slice none 0 0))] 130), (1, .blk [cI s3.1, .d (.sl (List.map AType.cs s3.2))] 130)], 0⟩) k4 r (fun s3 hr => ?_) ?_
  rw [hk4] at hr
  refine Ok.seq (Ok.region (OkOps.y (.agg [cI s3.1, .d (.sl (List.map AType.cs s3.2))]) ?_))
  obtain ⟨x5, hx5, hr⟩ := bind_some hr
  refine OkOps.q (triCl (tau []) (.s (.agg [cI x5.Kind, .d (.sl (List.map AType.cs x5.Of))])) [] (ex_listOf_c _ hx5) rfl ⟨.inl rfl, trivial⟩ trivial entry134 trivial) (OkOps.w (triStore (cs' := [cI x5.Kind, .d (.sl (List.map AType.cs x5.Of))]) rfl rfl rfl rfl rfl rfl rfl rfl rfl) (OkOps.y (aB true) (OkOps.nil (Ok.ret ?_))))
  obtain rfl := Option.some.inj hr
  exact ⟨_, rfl, .inl rfl, trivial⟩
  clear hk4
  refine Ok.seq (Ok.region (OkOps.y (.c (.d (.sl (List.map AType.cs l)))) ?_))
  obtain ⟨x6, hx6, hr⟩ := bind_some hr
  refine OkOps.q (triSlc (enc := AType.cs) (L := l) hx6 rfl rfl rfl (.inr ⟨_, rfl⟩) (.inl ⟨rfl, rfl⟩) rfl (fun x => by rw [AType.cs_eq]; rfl) trivial rfl) ?_
  refine OkOps.q (triLen (enc := AType.cs) x6 rfl rfl trivial rfl) (OkOps.y (aI 0) (OkOps.nil (Ok.block (Ok.loopK (fun (s7 : Int × Int × (List AType)) => ⟨[(2, .s (.c (.loc 0 0))), (4, .s (.c (.loc 1 0))), (16, .s (.c (.d (.sl (List.map AType.cs x6))))), (17, .s (aI (x6.length : Int))), (18, .s (aI s7.1))], [(0, .blk [cI 0, .d (.v (.slice none 0 0))] 130), (1, .blk [cI s7.2.1, .d (.sl (List.map AType.cs s7.2.2))] 130)], 0⟩) hr (Conv.mk (tau []) ⟨⟨_, rfl, .inl rfl⟩, ⟨_, rfl, .inl rfl⟩, ⟨_, rfl, .inl rfl⟩, ⟨_, rfl, .inl rfl⟩, ⟨_, rfl, .inl rfl⟩, trivial⟩ ⟨rfl, rfl, trivial⟩ rfl rfl rfl rfl) ?_))))
  clear hr
  intro again8 s7 hr
  unfold ex_common_L1 at hr
  refine Ok.seq (Ok.region (OkOps.y (aB (decide (s7.1 < (x6.length : Int)))) (OkOps.nil (Ok.seq ?_))))
  refine Ok.cond (b := decide (s7.1 < (x6.length : Int))) rfl (fun h9 => ?_) (fun h9 => ?_)
  have hr := selT h9 hr
  refine Ok.skip (Ok.seq (Ok.block (Ok.seq (Ok.region ?_))))
  obtain ⟨x10, hx10, hr⟩ := bind_some hr
  refine OkOps.q (triIdx (enc := AType.cs) (L := x6) (row := [dI x10.Kind, .sl (List.map AType.cs x10.Of)]) hx10 (AType.cs_eq _) rfl rfl rfl (fun x => by rw [AType.cs_eq]; rfl) trivial rfl) ?_
  refine OkOps.y (.agg [cI x10.Kind, .d (.sl (List.map AType.cs x10.Of))]) (OkOps.m 0 (triAlloc (j := 2) (cs := [cI 0, .d (.v (.slice none 0 0))]) rfl rfl rfl rfl) (OkOps.w (triStore (cs' := [cI x10.Kind, .d (.sl (List.map AType.cs x10.Of))]) rfl rfl rfl rfl rfl rfl rfl rfl rfl) (OkOps.nil (Ok.seq (Ok.region (OkOps.y (aB false) (OkOps.nil (Ok.seq (Ok.region (OkOps.y (.agg [cI s7.2.1, .d (.sl (List.map AType.cs s7.2.2))]) (OkOps.y (.agg [cI x10.Kind, .d (.sl (List.map AType.cs x10.Of))]) ?_)))))))))))
  obtain ⟨x11, hx11, hr⟩ := bind_some hr
  refine OkOps.q (triCl (tau []) (.tup [.agg [cI x11.1.Kind, .d (.sl (List.map AType.cs x11.1.Of))], aB x11.2]) [] (ex_join_c _ _ _ hx11) rfl ⟨.inl rfl, .inl rfl, trivial⟩ trivial entry138 trivial) (OkOps.q (triMv (v := .tup [.agg [cI x11.1.Kind, .d (.sl (List.map AType.cs x11.1.Of))], aB x11.2]) rfl rfl) (OkOps.y (.agg [cI x11.1.Kind, .d (.sl (List.map AType.cs x11.1.Of))]) (OkOps.y (aB x11.2) (OkOps.w (triStore (cs' := [cI x11.1.Kind, .d (.sl (List.map AType.cs x11.1.Of))]) rfl rfl rfl rfl rfl rfl rfl rfl rfl) (OkOps.y (aB x11.2) (OkOps.nil (Ok.seq (Ok.region (OkOps.y (aB x11.2) (OkOps.y (aB (!x11.2)) (OkOps.nil ?_)))))))))))
  refine Ok.cond (b := !x11.2) rfl (fun h12 => ?_) (fun h12 => ?_)
  have hr := selT h12 hr
  refine Ok.seq (Ok.region (OkOps.y (.agg [cI 0, .d (.v (.slice none 0 0))]) (OkOps.w (triStore (cs' := [cI 0, .d (.v (.slice none 0 0))]) rfl rfl rfl rfl rfl rfl rfl rfl rfl) (OkOps.y (aB false) (OkOps.nil (Ok.ret ?_))))))
  obtain rfl := Option.some.inj hr
  exact ⟨_, rfl, .inr rfl, trivial⟩
  have hr := selF h12 hr
  refine Ok.skip (Ok.region (OkOps.y (aI (IntKind.i64.wrap (s7.1 + 1))) (OkOps.y (aI (IntKind.i64.wrap (s7.1 + 1))) (OkOps.nil ?_))))
  exact ⟨(IntKind.i64.wrap (s7.1 + 1), x11.1.Kind, x11.1.Of), hr, (Conv.mk (tau []) ⟨⟨_, rfl, .inl rfl⟩, ⟨_, rfl, .inl rfl⟩, ⟨_, rfl, .inl rfl⟩, ⟨_, rfl, .inl rfl⟩, ⟨_, rfl, .inl rfl⟩, trivial⟩ ⟨rfl, rfl, trivial⟩ rfl rfl rfl rfl)⟩
  have hr := selF h9 hr
  refine Ok.exit ?_
  exact ⟨(s7.2.1, s7.2.2), hr, (Conv.mk (tau []) ⟨⟨_, rfl, .inl rfl⟩, ⟨_, rfl, .inl rfl⟩, trivial⟩ ⟨rfl, rfl, trivial⟩ rfl rfl rfl rfl)⟩
theorem entry133 : Entry Tryd.prog 133 := ⟨_, Tryd.func133, by kernel_rfl, by kernel_rfl⟩
theorem entry121 : Entry Tryd.prog 121 := ⟨_, Tryd.func121, by kernel_rfl, by kernel_rfl⟩
theorem ex_check_B_c (self0 : AValue → Int → Int → Option (AType × Int × Int)) (hself0 : ∀ (v : AValue) (depth : Int) (p_n : Int) {r : AType × Int × Int}, self0 v depth p_n = some r → Con Tryd.prog 121 [.agg [cI v.Kind, cI v.N, cS v.S, .d (.sl (List.map AValue.cs v.L))], aI depth, .c (.loc 0 0)] [(0, .blk [cI p_n] 3)] (.tup [.agg [cI r.1.Kind, .d (.sl (List.map AType.cs r.1.Of))], aI r.2.1]) [(0, .blk [cI r.2.2] 3)]) (v : AValue) (depth : Int) (p_n : Int) {r : AType × Int × Int} (hr : ex_check_B self0 v depth p_n = some r) : Con Tryd.prog 121 [.agg [cI v.Kind, cI v.N, cS v.S, .d (.sl (List.map AValue.cs v.L))], aI depth, .c (.loc 0 0)] [(0, .blk [cI p_n] 3)] (.tup [.agg [cI r.1.Kind, .d (.sl (List.map AType.cs r.1.Of))], aI r.2.1]) [(0, .blk [cI r.2.2] 3)] := by
  unfold ex_check_B at hr
  refine Con.of_ok 121 0 [.cell 6 130, .tmp 7] [(0, .s (.agg [cI v.Kind, cI v.N, cS v.S, .d (.sl (List.map AValue.cs v.L))])), (1, .s (aI depth)), (2, .s (.c (.loc 0 0)))] Tryd.func121 rfl rfl rfl rfl rfl rfl rfl rfl fun w g M ρ _ => (Ok.seq (Ok.region (OkOps.m 0 (triBox (j := 1) (cs := [cI v.Kind, cI v.N, cS v.S, .d (.sl (List.map AValue.cs v.L))]) rfl rfl rfl rfl rfl) (OkOps.m 0 (triAlloc (j := 2) (cs := [cI 0, .d (.v (.slice none 0 0))]) rfl rfl rfl rfl) (OkOps.y (aI 0) (OkOps.nil (Ok.seq (Ok.seq (Ok.region (OkOps.y (.c (.loc 1 0)) (OkOps.y (aI v.Kind) (OkOps.y (aB (v.Kind == 4)) (OkOps.y (aB (v.Kind == 4)) (OkOps.q (triQG (x := aI depth) rfl rfl trivial rfl) (OkOps.q (triQG (x := aB (decide (depth ≥ 16))) rfl rfl ⟨fun h => h, trivial⟩ rfl) ?_)))))))))))))))
  refine OkOps.q (triAnd rfl rfl (fun h => h) rfl) (OkOps.nil ?_)
  refine Ok.cond (b := (v.Kind == 4) && (decide (depth ≥ 16))) rfl (fun h1 => ?_) (fun h1 => ?_)
  have hr := selT h1 hr
  refine Ok.seq (Ok.region (OkOps.y (.agg [cI 0, .d (.v (.slice none 0 0))]) (OkOps.w (triStore (cs' := [cI 0, .d (.v (.slice none 0 0))]) rfl rfl rfl rfl rfl rfl rfl rfl rfl) (OkOps.y (aI 8) (OkOps.nil (Ok.ret ?_))))))
  obtain rfl := Option.some.inj hr
  exact ⟨_, rfl, .inr rfl, ⟨rfl, trivial⟩⟩
  have hr := selF h1 hr
  refine Ok.skip (Ok.seq (Ok.region (OkOps.y (.c (.loc 0 0)) (OkOps.y (.c (.loc 0 0)) (OkOps.y (aI p_n) (OkOps.y (aI (IntKind.i64.wrap (p_n + 1))) (OkOps.y (.c (.loc 0 0)) (OkOps.w (triStore (cs' := [cI (IntKind.i64.wrap (p_n + 1))]) rfl rfl rfl rfl rfl rfl rfl rfl rfl) (OkOps.nil (Ok.seq (Ok.block (Ok.seq (Ok.region (OkOps.y (.agg [cI v.Kind, cI v.N, cS v.S, .d (.sl (List.map AValue.cs v.L))]) ?_))))))))))))))
  obtain ⟨x2, hx2, hr⟩ := bind_some hr
  refine OkOps.q (triCl (tau []) (.s (aB x2)) [] (ex_fields_c _ hx2) rfl ⟨.inl rfl, trivial⟩ trivial entry130 trivial) (OkOps.y (aB (!x2)) (OkOps.y (aB (!x2)) (OkOps.nil ?_)))
  refine Ok.cond (b := !x2) rfl (fun h3 => ?_) (fun h3 => ?_)
  have hr := selT h3 hr
  refine Ok.seq (Ok.region (OkOps.y (.agg [cI 0, .d (.v (.slice none 0 0))]) (OkOps.w (triStore (cs' := [cI 0, .d (.v (.slice none 0 0))]) rfl rfl rfl rfl rfl rfl rfl rfl rfl) (OkOps.y (aI 9) (OkOps.nil (Ok.ret ?_))))))
  obtain rfl := Option.some.inj hr
  exact ⟨_, rfl, .inr rfl, ⟨rfl, trivial⟩⟩
  have hr := selF h3 hr
  obtain ⟨k5, hk5, hr⟩ := jn_some hr
  refine Ok.join (fun (s4 : Bool) => ⟨[(1, .s (aI depth)), (2, .s (.c (.loc 0 0))), (3, .s (.c (.loc 1 0))), (6, .s (.c (.loc 2 0))), (33, .s (aB s4))], [(0, .blk [cI (IntKind.i64.wrap (p_n + 1))] 3), (1, .blk [cI v.Kind, cI v.N, cS v.S, .d (.sl (List.map AValue.cs v.L))] 40), (2, .blk [cI 0, .d (.v (.slice none 0 0))] 130)], 0⟩) k5 r (fun s4 hr => ?_) ?_
  rw [hk5] at hr
  refine Ok.cond (b := s4) rfl (fun h6 => ?_) (fun h6 => ?_)
  have hr := selT h6 hr
  refine Ok.seq (Ok.region (OkOps.y (.agg [cI 0, .d (.v (.slice none 0 0))]) (OkOps.w (triStore (cs' := [cI 0, .d (.v (.slice none 0 0))]) rfl rfl rfl rfl rfl rfl rfl rfl rfl) (OkOps.y (aI 1) (OkOps.nil (Ok.ret ?_))))))
  obtain rfl := Option.some.inj hr
  exact ⟨_, rfl, .inr rfl, ⟨rfl, trivial⟩⟩
  have hr := selF h6 hr
  refine Ok.seq (Ok.region (OkOps.y (.c (.loc 1 2)) (OkOps.y (aS v.S) (OkOps.y (aI (v.S.size : Int)) (OkOps.y (aB (decide ((v.S.size : Int) > 2000))) (OkOps.y (aB (decide ((v.S.size : Int) > 2000))) (OkOps.q (triQG (x := .c (.loc 1 3)) rfl rfl trivial rfl) (OkOps.q (triQG (x := .c (.d (.sl (List.map AValue.cs v.L)))) rfl rfl ⟨fun h => h, trivial⟩ rfl) (OkOps.q (triLenG (enc := AValue.cs) v.L rfl rfl rfl ⟨fun h => h, trivial⟩ rfl) (OkOps.q (triQG (x := aB (decide ((v.L.length : Int) > 100))) rfl rfl ⟨fun h => h, trivial⟩ rfl) ?_))))))))))
  refine OkOps.q (triOr rfl rfl (fun h => by rw [h]; rfl) rfl) ?_
  refine OkOps.y (aB ((decide ((v.S.size : Int) > 2000)) || (decide ((v.L.length : Int) > 100)))) (OkOps.q (triQG (x := .c (.loc 0 0)) rfl rfl trivial rfl) (OkOps.q (triQG (x := .c (.loc 0 0)) rfl rfl ⟨fun h => h, trivial⟩ rfl) (OkOps.q (triQG (x := aI (IntKind.i64.wrap (p_n + 1))) rfl rfl ⟨fun h => h, trivial⟩ rfl) (OkOps.q (triQG (x := aB (decide ((IntKind.i64.wrap (p_n + 1)) > 1000))) rfl rfl ⟨fun h => h, trivial⟩ rfl) ?_))))
  refine OkOps.q (triOr rfl rfl (fun h => by rw [h]; rfl) rfl) ?_
  refine OkOps.y (aB (((decide ((v.S.size : Int) > 2000)) || (decide ((v.L.length : Int) > 100))) || (decide ((IntKind.i64.wrap (p_n + 1)) > 1000)))) (OkOps.nil ?_)
  refine Ok.cond (b := ((decide ((v.S.size : Int) > 2000)) || (decide ((v.L.length : Int) > 100))) || (decide ((IntKind.i64.wrap (p_n + 1)) > 1000))) rfl (fun h7 => ?_) (fun h7 => ?_)
  have hr := selT h7 hr
  refine Ok.seq (Ok.region (OkOps.y (.agg [cI 0, .d (.v (.slice none 0 0))]) (OkOps.w (triStore (cs' := [cI 0, .d (.v (.slice none 0 0))]) rfl rfl rfl rfl rfl rfl rfl rfl rfl) (OkOps.y (aI 2) (OkOps.nil (Ok.ret ?_))))))
  obtain rfl := Option.some.inj hr
  exact ⟨_, rfl, .inr rfl, ⟨rfl, trivial⟩⟩
  have hr := selF h7 hr
  refine Ok.seq (Ok.region (OkOps.y (.c (.loc 1 2)) (OkOps.y (aS v.S) ?_)))
  obtain ⟨x8, hx8, hr⟩ := bind_some hr
  refine OkOps.q (triCl (tau []) (.s (aB x8)) [] (unicode_utf8_ValidString_c _ hx8) rfl ⟨.inl rfl, trivial⟩ trivial entry132 trivial) (OkOps.y (aB (!x8)) (OkOps.y (aB (!x8)) (OkOps.nil ?_)))
  refine Ok.cond (b := !x8) rfl (fun h9 => ?_) (fun h9 => ?_)
  have hr := selT h9 hr
  refine Ok.seq (Ok.region (OkOps.y (.agg [cI 0, .d (.v (.slice none 0 0))]) (OkOps.w (triStore (cs' := [cI 0, .d (.v (.slice none 0 0))]) rfl rfl rfl rfl rfl rfl rfl rfl rfl) (OkOps.y (aI 3) (OkOps.nil (Ok.ret ?_))))))
  obtain rfl := Option.some.inj hr
  exact ⟨_, rfl, .inr rfl, ⟨rfl, trivial⟩⟩
  have hr := selF h9 hr
  refine Ok.seq (Ok.region (OkOps.y (.c (.loc 1 0)) (OkOps.y (aI v.Kind) (OkOps.y (aB (v.Kind != 4)) (OkOps.y (aB (v.Kind != 4)) (OkOps.nil ?_))))))
  refine Ok.cond (b := v.Kind != 4) rfl (fun h10 => ?_) (fun h10 => ?_)
  have hr := selT h10 hr
  refine Ok.seq (Ok.region (OkOps.y (.c (.loc 1 0)) (OkOps.y (aI v.Kind) (OkOps.y (.agg [cI v.Kind, .d (.v (.slice none 0 0))]) (OkOps.w (triStore (cs' := [cI v.Kind, .d (.v (.slice none 0 0))]) rfl rfl rfl rfl rfl rfl rfl rfl rfl) (OkOps.y (aI 0) (OkOps.nil (Ok.ret ?_))))))))
  obtain rfl := Option.some.inj hr
  exact ⟨_, rfl, .inr rfl, ⟨rfl, trivial⟩⟩
  have hr := selF h10 hr
  refine Ok.skip (Ok.seq (Ok.region (OkOps.y (.c (.d (.v (.slice none 0 0)))) (OkOps.nil ?_))))
  obtain ⟨k12, hk12, hr⟩ := jn_some hr
  refine Ok.join (fun (s11 : (List AType) × Int) => ⟨[(6, .s (.c (.loc 2 0))), (8, .s (.c (.tl 1004 (List.map AType.cs s11.1))))], [(0, .blk [cI s11.2] 3), (2, .blk [cI 0, .d (.v (.slice none 0 0))] 130), (1004, .tail 2)], 0⟩) k12 r (fun s11 hr => ?_) ?_
  rw [hk12] at hr
  refine Ok.seq (Ok.region (OkOps.y (.c (.tl 1004 (List.map AType.cs s11.1))) ?_))
  obtain ⟨x13, hx13, hr⟩ := bind_some hr
  refine OkOps.q (triCl (tau []) (.tup [.agg [cI x13.1.Kind, .d (.sl (List.map AType.cs x13.1.Of))], aB x13.2]) [] (ex_common_c _ hx13) rfl ⟨.inr rfl, trivial⟩ trivial entry133 trivial) (OkOps.q (triMv (v := .tup [.agg [cI x13.1.Kind, .d (.sl (List.map AType.cs x13.1.Of))], aB x13.2]) rfl rfl) (OkOps.y (.agg [cI x13.1.Kind, .d (.sl (List.map AType.cs x13.1.Of))]) (OkOps.y (aB x13.2) (OkOps.m 0 (triAlloc (j := 3) (cs := [cI 0, .d (.v (.slice none 0 0))]) rfl rfl rfl rfl) (OkOps.w (triStore (cs' := [cI x13.1.Kind, .d (.sl (List.map AType.cs x13.1.Of))]) rfl rfl rfl rfl rfl rfl rfl rfl rfl) (OkOps.y (aB x13.2) (OkOps.nil (Ok.seq (Ok.seq (Ok.region (OkOps.y (aB x13.2) (OkOps.y (aB (!x13.2)) (OkOps.nil ?_)))))))))))))
  refine Ok.cond (b := !x13.2) rfl (fun h14 => ?_) (fun h14 => ?_)
  have hr := selT h14 hr
  refine Ok.seq (Ok.region (OkOps.y (.agg [cI 0, .d (.v (.slice none 0 0))]) (OkOps.w (triStore (cs' := [cI 0, .d (.v (.slice none 0 0))]) rfl rfl rfl rfl rfl rfl rfl rfl rfl) (OkOps.y (aI 5) (OkOps.nil (Ok.ret ?_))))))
  obtain rfl := Option.some.inj hr
  exact ⟨_, rfl, .inr rfl, ⟨rfl, trivial⟩⟩
  have hr := selF h14 hr
  refine Ok.skip (Ok.seq (Ok.region (OkOps.y (.agg [cI x13.1.Kind, .d (.sl (List.map AType.cs x13.1.Of))]) (OkOps.w (triStore (cs' := [cI x13.1.Kind, .d (.sl (List.map AType.cs x13.1.Of))]) rfl rfl rfl rfl rfl rfl rfl rfl rfl) (OkOps.y (aI 0) (OkOps.nil (Ok.ret ?_)))))))
  obtain rfl := Option.some.inj hr
  exact ⟨_, rfl, .inl rfl, ⟨rfl, trivial⟩⟩
  clear hk12
  refine Ok.seq (Ok.region (OkOps.y (.c (.loc 1 3)) (OkOps.y (.c (.d (.sl (List.map AValue.cs v.L)))) (OkOps.q (triLen (enc := AValue.cs) v.L rfl rfl trivial rfl) (OkOps.y (aI 0) (OkOps.nil (Ok.block (Ok.loopK (fun (s15 : (List AType) × Int × Int) => ⟨[(1, .s (aI depth)), (2, .s (.c (.loc 0 0))), (6, .s (.c (.loc 2 0))), (8, .s (.c (.tl 1007 (List.map AType.cs s15.1)))), (89, .s (.c (.d (.sl (List.map AValue.cs v.L))))), (90, .s (aI (v.L.length : Int))), (91, .s (aI s15.2.1))], [(0, .blk [cI s15.2.2] 3), (2, .blk [cI 0, .d (.v (.slice none 0 0))] 130), (1007, .tail 2)], 0⟩) hr (Conv.trans (Conv.nil 8 1009 2 0 rfl rfl) (Conv.mk (tau [(1007, 1009)]) ⟨⟨_, rfl, .inl rfl⟩, ⟨_, rfl, .inl rfl⟩, ⟨_, rfl, .inl rfl⟩, ⟨_, rfl, .inl rfl⟩, ⟨_, rfl, .inl rfl⟩, ⟨_, rfl, .inl rfl⟩, ⟨_, rfl, .inl rfl⟩, trivial⟩ ⟨rfl, rfl, rfl, trivial⟩ rfl rfl rfl rfl)) ?_))))))))
  clear hr
  intro again16 s15 hr
  unfold ex_check_L1 at hr
  refine Ok.seq (Ok.region (OkOps.y (aB (decide (s15.2.1 < (v.L.length : Int)))) (OkOps.nil (Ok.seq ?_))))
  refine Ok.cond (b := decide (s15.2.1 < (v.L.length : Int))) rfl (fun h17 => ?_) (fun h17 => ?_)
  have hr := selT h17 hr
  refine Ok.skip (Ok.seq (Ok.block (Ok.seq (Ok.region ?_))))
  obtain ⟨x18, hx18, hr⟩ := bind_some hr
  refine OkOps.q (triIdx (enc := AValue.cs) (L := v.L) (row := [dI x18.Kind, dI x18.N, dS x18.S, .sl (List.map AValue.cs x18.L)]) hx18 (AValue.cs_eq _) rfl rfl rfl (fun x => by rw [AValue.cs_eq]; rfl) trivial rfl) ?_
  refine OkOps.y (.agg [cI x18.Kind, cI x18.N, cS x18.S, .d (.sl (List.map AValue.cs x18.L))]) (OkOps.m 0 (triAlloc (j := 4) (cs := [cI 0, cI 0, cS ByteArray.empty, .d (.v (.slice none 0 0))]) rfl rfl rfl rfl) (OkOps.w (triStore (cs' := [cI x18.Kind, cI x18.N, cS x18.S, .d (.sl (List.map AValue.cs x18.L))]) rfl rfl rfl rfl rfl rfl rfl rfl rfl) (OkOps.nil (Ok.seq (Ok.region (OkOps.y (.agg [cI x18.Kind, cI x18.N, cS x18.S, .d (.sl (List.map AValue.cs x18.L))]) (OkOps.y (aI depth) (OkOps.y (aI (IntKind.i64.wrap (depth + 1))) (OkOps.y (.c (.loc 0 0)) ?_)))))))))
  obtain ⟨x19, hx19, hr⟩ := bind_some hr
  refine OkOps.m 0 (triCl (tau [(0, 0)]) (.tup [.agg [cI x19.1.Kind, .d (.sl (List.map AType.cs x19.1.Of))], aI x19.2.1]) [(0, .blk [cI x19.2.2] 3)] (hself0 _ _ _ hx19) rfl ⟨.inl rfl, .inl rfl, .inl rfl, trivial⟩ trivial entry121 ⟨rfl, trivial⟩) (OkOps.q (triMv (v := .tup [.agg [cI x19.1.Kind, .d (.sl (List.map AType.cs x19.1.Of))], aI x19.2.1]) rfl rfl) (OkOps.y (.agg [cI x19.1.Kind, .d (.sl (List.map AType.cs x19.1.Of))]) (OkOps.y (aI x19.2.1) (OkOps.m 0 (triAlloc (j := 5) (cs := [cI 0, .d (.v (.slice none 0 0))]) rfl rfl rfl rfl) (OkOps.w (triStore (cs' := [cI x19.1.Kind, .d (.sl (List.map AType.cs x19.1.Of))]) rfl rfl rfl rfl rfl rfl rfl rfl rfl) (OkOps.y (aI x19.2.1) (OkOps.nil (Ok.seq (Ok.seq (Ok.region (OkOps.y (aI x19.2.1) (OkOps.y (aB (x19.2.1 != 0)) (OkOps.nil ?_)))))))))))))
  refine Ok.cond (b := x19.2.1 != 0) rfl (fun h20 => ?_) (fun h20 => ?_)
  have hr := selT h20 hr
  refine Ok.seq (Ok.region (OkOps.y (.agg [cI 0, .d (.v (.slice none 0 0))]) (OkOps.y (aI x19.2.1) (OkOps.w (triStore (cs' := [cI 0, .d (.v (.slice none 0 0))]) rfl rfl rfl rfl rfl rfl rfl rfl rfl) (OkOps.y (aI x19.2.1) (OkOps.nil (Ok.ret ?_)))))))
  obtain rfl := Option.some.inj hr
  exact ⟨_, rfl, .inr rfl, ⟨rfl, trivial⟩⟩
  have hr := selF h20 hr
  refine Ok.skip (Ok.region (OkOps.y (.c (.tl 1007 (List.map AType.cs s15.1))) (OkOps.y (.agg [cI x19.1.Kind, .d (.sl (List.map AType.cs x19.1.Of))]) ?_)))
  refine OkOps.m 0 (triBST (sz := 2) (enc := AType.cs) (j := 6) ([x19.1]) rfl rfl rfl rfl rfl (rows := [[dI x19.1.Kind, .sl (List.map AType.cs x19.1.Of)]]) (by simp only [List.map, AType.cs_eq]) rfl rfl (fun x => by rw [AType.cs_eq]; rfl) trivial rfl rfl) ?_
  obtain ⟨x21, hx21, hr⟩ := bind_some hr
  refine OkOps.m2 0 (triApp (enc := AType.cs) (L := s15.1) (X := [x19.1]) (j := 1007) (j' := 7) hx21 rfl rfl rfl rfl rfl rfl (fun x => by rw [AType.cs_eq]; rfl) (fun x => by rw [AType.cs_eq]; rfl) (by decide) trivial rfl rfl) ?_
  refine OkOps.y (.c (.tl 7 (List.map AType.cs x21))) (OkOps.nil (Ok.region (OkOps.y (aI (IntKind.i64.wrap (s15.2.1 + 1))) (OkOps.y (aI (IntKind.i64.wrap (s15.2.1 + 1))) (OkOps.nil ?_)))))
  exact ⟨(x21, IntKind.i64.wrap (s15.2.1 + 1), x19.2.2), hr, (Conv.mk (tau [(1007, 7)]) ⟨⟨_, rfl, .inl rfl⟩, ⟨_, rfl, .inl rfl⟩, ⟨_, rfl, .inl rfl⟩, ⟨_, rfl, .inl rfl⟩, ⟨_, rfl, .inl rfl⟩, ⟨_, rfl, .inl rfl⟩, ⟨_, rfl, .inl rfl⟩, trivial⟩ ⟨rfl, rfl, rfl, trivial⟩ rfl rfl rfl rfl)⟩
  have hr := selF h17 hr
  refine Ok.exit ?_
  exact ⟨(s15.1, s15.2.2), hr, (Conv.mk (tau [(1004, 1007)]) ⟨⟨_, rfl, .inl rfl⟩, ⟨_, rfl, .inl rfl⟩, trivial⟩ ⟨rfl, rfl, rfl, trivial⟩ rfl rfl rfl rfl)⟩
  clear hk5
  refine Ok.seq (Ok.region (OkOps.y (.c (.loc 1 0)) (OkOps.y (aI v.Kind) (OkOps.y (aB (v.Kind == 1)) (OkOps.y (aB (v.Kind == 1)) (OkOps.q (triQG (x := .c (.loc 1 1)) rfl rfl trivial rfl) (OkOps.q (triQG (x := aI v.N) rfl rfl ⟨fun h => h, trivial⟩ rfl) ?_)))))))
  obtain ⟨x22, hx22, hr⟩ := bind_some hr
  refine OkOps.q (triCallG (x := aB x22) (fun hg => ex_within_c _ (gO_t hx22 hg)) rfl rfl ⟨.inl rfl, trivial⟩ ⟨fun h => h, trivial⟩ entry131 rfl rfl rfl) (OkOps.q (triQG (x := aB (!x22)) rfl rfl ⟨fun h => h, trivial⟩ rfl) (OkOps.q (triAnd rfl rfl (fun h => h) rfl) (OkOps.y (aB ((v.Kind == 1) && (!x22))) (OkOps.nil ?_))))
  refine Ok.cond (b := (v.Kind == 1) && (!x22)) rfl (fun h23 => ?_) (fun h23 => ?_)
  have hr := selT h23 hr
  refine Ok.skip ?_
  exact ⟨(v.Kind == 1) && (!x22), hr, (Conv.mk (tau []) ⟨⟨_, rfl, .inl rfl⟩, ⟨_, rfl, .inl rfl⟩, ⟨_, rfl, .inl rfl⟩, ⟨_, rfl, .inl rfl⟩, ⟨_, rfl, .inl rfl⟩, trivial⟩ ⟨rfl, rfl, rfl, trivial⟩ rfl rfl rfl rfl)⟩
  have hr := selF h23 hr
  refine Ok.region (OkOps.y (.c (.loc 1 0)) (OkOps.y (aI v.Kind) (OkOps.y (aB (v.Kind == 2)) (OkOps.y (aB (v.Kind == 2)) (OkOps.q (triQG (x := .c (.loc 1 1)) rfl rfl trivial rfl) (OkOps.q (triQG (x := aI v.N) rfl rfl ⟨fun h => h, trivial⟩ rfl) (OkOps.q (triQG (x := aB (v.N != 0)) rfl rfl ⟨fun h => h, trivial⟩ rfl) (OkOps.q (triAnd rfl rfl (fun h => h) rfl) (OkOps.y (aB ((v.Kind == 2) && (v.N != 0))) (OkOps.q (triQG (x := .c (.loc 1 1)) rfl rfl trivial rfl) (OkOps.q (triQG (x := aI v.N) rfl rfl ⟨fun h => h, trivial⟩ rfl) (OkOps.q (triQG (x := aB (v.N != 1)) rfl rfl ⟨fun h => h, trivial⟩ rfl) (OkOps.q (triAnd rfl rfl (fun h => h) rfl) (OkOps.y (aB (((v.Kind == 2) && (v.N != 0)) && (v.N != 1))) (OkOps.nil ?_)))))))))))))))
  exact ⟨((v.Kind == 2) && (v.N != 0)) && (v.N != 1), hr, (Conv.mk (tau []) ⟨⟨_, rfl, .inl rfl⟩, ⟨_, rfl, .inl rfl⟩, ⟨_, rfl, .inl rfl⟩, ⟨_, rfl, .inl rfl⟩, ⟨_, rfl, .inl rfl⟩, trivial⟩ ⟨rfl, rfl, rfl, trivial⟩ rfl rfl rfl rfl)⟩
theorem ex_check_all : ∀ n : Nat, (∀ (v : AValue) (depth : Int) (p_n : Int) {r : AType × Int × Int}, ex_check n v depth p_n = some r → Con Tryd.prog 121 [.agg [cI v.Kind, cI v.N, cS v.S, .d (.sl (List.map AValue.cs v.L))], aI depth, .c (.loc 0 0)] [(0, .blk [cI p_n] 3)] (.tup [.agg [cI r.1.Kind, .d (.sl (List.map AType.cs r.1.Of))], aI r.2.1]) [(0, .blk [cI r.2.2] 3)]) ∧ True := by
  intro n
  induction n with
  | zero => exact ⟨(by intros; rename_i hr; cases hr), trivial⟩
  | succ n ih => exact ⟨(by intros; rename_i hr; exact ex_check_B_c _ ih.1 _ _ _ hr), trivial⟩
theorem ex_check_c (n : Nat) (v : AValue) (depth : Int) (p_n : Int) {r : AType × Int × Int} (hr : ex_check n v depth p_n = some r) : Con Tryd.prog 121 [.agg [cI v.Kind, cI v.N, cS v.S, .d (.sl (List.map AValue.cs v.L))], aI depth, .c (.loc 0 0)] [(0, .blk [cI p_n] 3)] (.tup [.agg [cI r.1.Kind, .d (.sl (List.map AType.cs r.1.Of))], aI r.2.1]) [(0, .blk [cI r.2.2] 3)] := (ex_check_all n).1 v depth p_n hr
theorem entry122 : Entry Tryd.prog 122 := ⟨_, Tryd.func122, by kernel_rfl, by kernel_rfl⟩
theorem ex_copyType_B_c (self0 : AType → Option AType) (hself0 : ∀ (t : AType) {r : AType}, self0 t = some r → Con Tryd.prog 122 [.agg [cI t.Kind, .d (.sl (List.map AType.cs t.Of))]] [] (.s (.agg [cI r.Kind, .d (.sl (List.map AType.cs r.Of))])) []) (t : AType) {r : AType} (hr : ex_copyType_B self0 t = some r) : Con Tryd.prog 122 [.agg [cI t.Kind, .d (.sl (List.map AType.cs t.Of))]] [] (.s (.agg [cI r.Kind, .d (.sl (List.map AType.cs r.Of))])) [] := by
  unfold ex_copyType_B at hr
  refine Con.of_ok 16 0 [.cell 2 130] [(0, .s (.agg [cI t.Kind, .d (.sl (List.map AType.cs t.Of))]))] Tryd.func122 rfl rfl rfl rfl rfl rfl rfl rfl fun w g M ρ _ => (Ok.seq (Ok.region (OkOps.m 0 (triBox (j := 0) (cs := [cI t.Kind, .d (.sl (List.map AType.cs t.Of))]) rfl rfl rfl rfl rfl) (OkOps.m 0 (triAlloc (j := 1) (cs := [cI 0, .d (.v (.slice none 0 0))]) rfl rfl rfl rfl) (OkOps.nil (Ok.seq (Ok.seq (Ok.region (OkOps.y (.c (.loc 0 1)) (OkOps.y (.c (.d (.sl (List.map AType.cs t.Of)))) (OkOps.q (triLen (enc := AType.cs) t.Of rfl rfl trivial rfl) (OkOps.y (aB ((t.Of.length : Int) == 0)) (OkOps.nil ?_)))))))))))))
  refine Ok.cond (b := (t.Of.length : Int) == 0) rfl (fun h1 => ?_) (fun h1 => ?_)
  have hr := selT h1 hr
  refine Ok.seq (Ok.region (OkOps.y (.c (.loc 0 0)) (OkOps.y (aI t.Kind) (OkOps.y (.agg [cI t.Kind, .d (.v (.slice none 0 0))]) (OkOps.w (triStore (cs' := [cI t.Kind, .d (.v (.slice none 0 0))]) rfl rfl rfl rfl rfl rfl rfl rfl rfl) (OkOps.nil (Ok.ret ?_)))))))
  obtain rfl := Option.some.inj hr
  exact ⟨_, rfl, .inr rfl, trivial⟩
  have hr := selF h1 hr
  refine Ok.skip (Ok.seq (Ok.region (OkOps.y (.c (.loc 0 1)) (OkOps.y (.c (.d (.sl (List.map AType.cs t.Of)))) ?_))))
  obtain ⟨x2, hx2, hr⟩ := bind_some hr
  refine OkOps.q (triIdx (enc := AType.cs) (L := t.Of) (row := [dI x2.Kind, .sl (List.map AType.cs x2.Of)]) hx2 (AType.cs_eq _) rfl rfl rfl (fun x => by rw [AType.cs_eq]; rfl) trivial rfl) ?_
  refine OkOps.y (.agg [cI x2.Kind, .d (.sl (List.map AType.cs x2.Of))]) ?_
  obtain ⟨x3, hx3, hr⟩ := bind_some hr
  refine OkOps.q (triCl (tau []) (.s (.agg [cI x3.Kind, .d (.sl (List.map AType.cs x3.Of))])) [] (hself0 _ hx3) rfl ⟨.inl rfl, trivial⟩ trivial entry122 trivial) ?_
  obtain ⟨x4, hx4, hr⟩ := bind_some hr
  refine OkOps.q (triCl (tau []) (.s (.agg [cI x4.Kind, .d (.sl (List.map AType.cs x4.Of))])) [] (ex_listOf_c _ hx4) rfl ⟨.inl rfl, trivial⟩ trivial entry134 trivial) (OkOps.w (triStore (cs' := [cI x4.Kind, .d (.sl (List.map AType.cs x4.Of))]) rfl rfl rfl rfl rfl rfl rfl rfl rfl) (OkOps.nil (Ok.ret ?_)))
  obtain rfl := Option.some.inj hr
  exact ⟨_, rfl, .inl rfl, trivial⟩
theorem ex_copyType_all : ∀ n : Nat, (∀ (t : AType) {r : AType}, ex_copyType n t = some r → Con Tryd.prog 122 [.agg [cI t.Kind, .d (.sl (List.map AType.cs t.Of))]] [] (.s (.agg [cI r.Kind, .d (.sl (List.map AType.cs r.Of))])) []) ∧ True := by
  intro n
  induction n with
  | zero => exact ⟨(by intros; rename_i hr; cases hr), trivial⟩
  | succ n ih => exact ⟨(by intros; rename_i hr; exact ex_copyType_B_c _ ih.1 _ hr), trivial⟩
theorem ex_copyType_c (n : Nat) (t : AType) {r : AType} (hr : ex_copyType n t = some r) : Con Tryd.prog 122 [.agg [cI t.Kind, .d (.sl (List.map AType.cs t.Of))]] [] (.s (.agg [cI r.Kind, .d (.sl (List.map AType.cs r.Of))])) [] := (ex_copyType_all n).1 t hr
theorem ex_TypeOf_c (v : AValue) {r : AType × Int} (hr : ex_TypeOf v = some r) : Con Tryd.prog 112 [.agg [cI v.Kind, cI v.N, cS v.S, .d (.sl (List.map AValue.cs v.L))]] [] (.tup [.agg [cI r.1.Kind, .d (.sl (List.map AType.cs r.1.Of))], aI r.2]) [] := by
  unfold ex_TypeOf at hr
  refine Con.of_ok 18 0 [.cell 2 130, .tmp 3] [(0, .s (.agg [cI v.Kind, cI v.N, cS v.S, .d (.sl (List.map AValue.cs v.L))]))] Tryd.func112 rfl rfl rfl rfl rfl rfl rfl rfl fun w g M ρ _ => (Ok.seq (Ok.region (OkOps.m 0 (triBox (j := 0) (cs := [cI v.Kind, cI v.N, cS v.S, .d (.sl (List.map AValue.cs v.L))]) rfl rfl rfl rfl rfl) (OkOps.m 0 (triAlloc (j := 1) (cs := [cI 0, .d (.v (.slice none 0 0))]) rfl rfl rfl rfl) (OkOps.y (aI 0) (OkOps.nil (Ok.seq (Ok.region (OkOps.m 0 (triAlloc (j := 2) (cs := [cI 0]) rfl rfl rfl rfl) (OkOps.w (triStore (cs' := [cI 0]) rfl rfl rfl rfl rfl rfl rfl rfl rfl) (OkOps.nil (Ok.seq (Ok.region (OkOps.y (.agg [cI v.Kind, cI v.N, cS v.S, .d (.sl (List.map AValue.cs v.L))]) ?_))))))))))))))
  obtain ⟨x1, hx1, hr⟩ := bind_some hr
  refine OkOps.m 0 (triCl (tau [(0, 2)]) (.tup [.agg [cI x1.1.Kind, .d (.sl (List.map AType.cs x1.1.Of))], aI x1.2.1]) [(2, .blk [cI x1.2.2] 3)] (ex_check_c _ _ _ _ hx1) rfl ⟨.inl rfl, .inl rfl, .inl rfl, trivial⟩ trivial entry121 ⟨rfl, trivial⟩) (OkOps.q (triMv (v := .tup [.agg [cI x1.1.Kind, .d (.sl (List.map AType.cs x1.1.Of))], aI x1.2.1]) rfl rfl) (OkOps.y (.agg [cI x1.1.Kind, .d (.sl (List.map AType.cs x1.1.Of))]) (OkOps.y (aI x1.2.1) (OkOps.m 0 (triAlloc (j := 3) (cs := [cI 0, .d (.v (.slice none 0 0))]) rfl rfl rfl rfl) (OkOps.w (triStore (cs' := [cI x1.1.Kind, .d (.sl (List.map AType.cs x1.1.Of))]) rfl rfl rfl rfl rfl rfl rfl rfl rfl) (OkOps.y (aI x1.2.1) (OkOps.nil (Ok.seq (Ok.seq (Ok.region (OkOps.y (aI x1.2.1) (OkOps.y (aB (x1.2.1 != 0)) (OkOps.nil ?_)))))))))))))
  refine Ok.cond (b := x1.2.1 != 0) rfl (fun h2 => ?_) (fun h2 => ?_)
  have hr := selT h2 hr
  refine Ok.seq (Ok.region (OkOps.y (.agg [cI 0, .d (.v (.slice none 0 0))]) (OkOps.y (aI x1.2.1) (OkOps.w (triStore (cs' := [cI 0, .d (.v (.slice none 0 0))]) rfl rfl rfl rfl rfl rfl rfl rfl rfl) (OkOps.y (aI x1.2.1) (OkOps.nil (Ok.ret ?_)))))))
  obtain rfl := Option.some.inj hr
  exact ⟨_, rfl, .inr rfl, trivial⟩
  have hr := selF h2 hr
  refine Ok.skip (Ok.seq (Ok.region (OkOps.y (.agg [cI x1.1.Kind, .d (.sl (List.map AType.cs x1.1.Of))]) ?_)))
  obtain ⟨x3, hx3, hr⟩ := bind_some hr
  refine OkOps.q (triCl (tau []) (.s (.agg [cI x3.Kind, .d (.sl (List.map AType.cs x3.Of))])) [] (ex_copyType_c _ _ hx3) rfl ⟨.inl rfl, trivial⟩ trivial entry122 trivial) (OkOps.w (triStore (cs' := [cI x3.Kind, .d (.sl (List.map AType.cs x3.Of))]) rfl rfl rfl rfl rfl rfl rfl rfl rfl) (OkOps.y (aI 0) (OkOps.nil (Ok.ret ?_))))
  obtain rfl := Option.some.inj hr
  exact ⟨_, rfl, .inl rfl, trivial⟩
theorem entry112 : Entry Tryd.prog 112 := ⟨_, Tryd.func112, by kernel_rfl, by kernel_rfl⟩
theorem ex_Check_c (v : AValue) {r : Int} (hr : ex_Check v = some r) : Con Tryd.prog 105 [.agg [cI v.Kind, cI v.N, cS v.S, .d (.sl (List.map AValue.cs v.L))]] [] (.s (aI r)) [] := by
  unfold ex_Check at hr
  refine Con.of_ok 11 0 [.tmp 2] [(0, .s (.agg [cI v.Kind, cI v.N, cS v.S, .d (.sl (List.map AValue.cs v.L))]))] Tryd.func105 rfl rfl rfl rfl rfl rfl rfl rfl fun w g M ρ _ => (Ok.seq (Ok.region (OkOps.m 0 (triBox (j := 0) (cs := [cI v.Kind, cI v.N, cS v.S, .d (.sl (List.map AValue.cs v.L))]) rfl rfl rfl rfl rfl) (OkOps.y (aI 0) (OkOps.nil (Ok.seq (Ok.region (OkOps.y (.agg [cI v.Kind, cI v.N, cS v.S, .d (.sl (List.map AValue.cs v.L))]) ?_))))))))
  obtain ⟨x1, hx1, hr⟩ := bind_some hr
  refine OkOps.q (triCl (tau []) (.tup [.agg [cI x1.1.Kind, .d (.sl (List.map AType.cs x1.1.Of))], aI x1.2]) [] (ex_TypeOf_c _ hx1) rfl ⟨.inl rfl, trivial⟩ trivial entry112 trivial) (OkOps.q (triMv (v := .tup [.agg [cI x1.1.Kind, .d (.sl (List.map AType.cs x1.1.Of))], aI x1.2]) rfl rfl) (OkOps.y (.agg [cI x1.1.Kind, .d (.sl (List.map AType.cs x1.1.Of))]) (OkOps.y (aI x1.2) (OkOps.m 0 (triAlloc (j := 1) (cs := [cI 0, .d (.v (.slice none 0 0))]) rfl rfl rfl rfl) (OkOps.w (triStore (cs' := [cI x1.1.Kind, .d (.sl (List.map AType.cs x1.1.Of))]) rfl rfl rfl rfl rfl rfl rfl rfl rfl) (OkOps.y (aI x1.2) (OkOps.nil (Ok.seq (Ok.region (OkOps.y (aI x1.2) (OkOps.y (aI x1.2) (OkOps.nil (Ok.ret ?_)))))))))))))
  obtain rfl := Option.some.inj hr
  exact ⟨_, rfl, .inl rfl, trivial⟩
theorem entry105 : Entry Tryd.prog 105 := ⟨_, Tryd.func105, by kernel_rfl, by kernel_rfl⟩
end Go.Proofs.YtcfegecdlbbeaaaDoor
end
section
set_option maxRecDepth 100000
namespace Go.Proofs.YtcfegecdlbbeaaaDoor
open Go Go.E2
theorem entry124 : Entry Tryd.prog 124 := ⟨_, Tryd.func124, by kernel_rfl, by kernel_rfl⟩
theorem r11_join_B_c (self0 : AType → AType → Option (AType × Bool)) (hself0 : ∀ (a : AType) (b : AType) {r : AType × Bool}, self0 a b = some r → Con Tryd.prog 124 [.agg [cI a.Kind, .d (.sl (List.map AType.cs a.Of))], .agg [cI b.Kind, .d (.sl (List.map AType.cs b.Of))]] [] (.tup [.agg [cI r.1.Kind, .d (.sl (List.map AType.cs r.1.Of))], aB r.2]) []) (a : AType) (b : AType) {r : AType × Bool} (hr : r11_join_B self0 a b = some r) : Con Tryd.prog 124 [.agg [cI a.Kind, .d (.sl (List.map AType.cs a.Of))], .agg [cI b.Kind, .d (.sl (List.map AType.cs b.Of))]] [] (.tup [.agg [cI r.1.Kind, .d (.sl (List.map AType.cs r.1.Of))], aB r.2]) [] := by
  unfold r11_join_B at hr
  refine Con.of_ok 44 0 [.cell 4 130, .tmp 5] [(0, .s (.agg [cI a.Kind, .d (.sl (List.map AType.cs a.Of))])), (1, .s (.agg [cI b.Kind, .d (.sl (List.map AType.cs b.Of))]))] Tryd.func124 rfl rfl rfl rfl rfl rfl rfl rfl fun w g M ρ _ => (Ok.seq (Ok.region (OkOps.m 0 (triBox (j := 0) (cs := [cI a.Kind, .d (.sl (List.map AType.cs a.Of))]) rfl rfl rfl rfl rfl) (OkOps.m 0 (triBox (j := 1) (cs := [cI b.Kind, .d (.sl (List.map AType.cs b.Of))]) rfl rfl rfl rfl rfl) (OkOps.m 0 (triAlloc (j := 2) (cs := [cI 0, .d (.v (.slice none 0 0))]) rfl rfl rfl rfl) (OkOps.y (aB false) (OkOps.nil (Ok.seq (Ok.seq (Ok.region (OkOps.y (.c (.loc 0 0)) (OkOps.y (aI a.Kind) (OkOps.y (.c (.loc 1 0)) (OkOps.y (aI b.Kind) (OkOps.y (aB (a.Kind != b.Kind)) ?_)))))))))))))))
  refine OkOps.nil ?_
  refine Ok.cond (b := a.Kind != b.Kind) rfl (fun h1 => ?_) (fun h1 => ?_)
  have hr := selT h1 hr
  refine Ok.seq (Ok.region (OkOps.y (.agg [cI 0, .d (.v (.slice none 0 0))]) (OkOps.w (triStore (cs' := [cI 0, .d (.v (.slice none 0 0))]) rfl rfl rfl rfl rfl rfl rfl rfl rfl) (OkOps.y (aB false) (OkOps.nil (Ok.ret ?_))))))
  obtain rfl := Option.some.inj hr
  exact ⟨_, rfl, .inr rfl, trivial⟩
  have hr := selF h1 hr
  refine Ok.skip (Ok.seq (Ok.seq (Ok.region (OkOps.y (.c (.loc 0 1)) (OkOps.y (.c (.d (.sl (List.map AType.cs a.Of)))) (OkOps.q (triLen (enc := AType.cs) a.Of rfl rfl trivial rfl) (OkOps.y (aB ((a.Of.length : Int) == 0)) (OkOps.nil ?_))))))))
  refine Ok.cond (b := (a.Of.length : Int) == 0) rfl (fun h2 => ?_) (fun h2 => ?_)
  have hr := selT h2 hr
  refine Ok.seq (Ok.region (OkOps.y (.agg [cI b.Kind, .d (.sl (List.map AType.cs b.Of))]) (OkOps.w (triStore (cs' := [cI b.Kind, .d (.sl (List.map AType.cs b.Of))]) rfl rfl rfl rfl rfl rfl rfl rfl rfl) (OkOps.y (aB true) (OkOps.nil (Ok.ret ?_))))))
  obtain rfl := Option.some.inj hr
  exact ⟨_, rfl, .inl rfl, trivial⟩
  have hr := selF h2 hr
  refine Ok.skip (Ok.seq (Ok.seq (Ok.region (OkOps.y (.c (.loc 1 1)) (OkOps.y (.c (.d (.sl (List.map AType.cs b.Of)))) (OkOps.q (triLen (enc := AType.cs) b.Of rfl rfl trivial rfl) (OkOps.y (aB ((b.Of.length : Int) == 0)) (OkOps.nil ?_))))))))
  refine Ok.cond (b := (b.Of.length : Int) == 0) rfl (fun h3 => ?_) (fun h3 => ?_)
  have hr := selT h3 hr
  refine Ok.seq (Ok.region (OkOps.y (.agg [cI a.Kind, .d (.sl (List.map AType.cs a.Of))]) (OkOps.w (triStore (cs' := [cI a.Kind, .d (.sl (List.map AType.cs a.Of))]) rfl rfl rfl rfl rfl rfl rfl rfl rfl) (OkOps.y (aB true) (OkOps.nil (Ok.ret ?_))))))
  obtain rfl := Option.some.inj hr
  exact ⟨_, rfl, .inl rfl, trivial⟩
  have hr := selF h3 hr
  refine Ok.skip (Ok.seq (Ok.regionD (by kernel_rfl) (OkD.x (.c (.loc 0 1)) rfl trivial rfl (OkD.x (.c (.d (.sl (List.map AType.cs a.Of)))) rfl trivial rfl ?_))))
  obtain ⟨x4, hx4, hr⟩ := bind_some hr
  refine OkD.q (triIdx (enc := AType.cs) (L := a.Of) (row := [dI x4.Kind, .sl (List.map AType.cs x4.Of)]) hx4 (AType.cs_eq _) rfl rfl rfl (fun x => by rw [AType.cs_eq]; rfl) trivial rfl) ?_
  refine OkD.x (.agg [cI x4.Kind, .d (.sl (List.map AType.cs x4.Of))]) rfl trivial rfl (OkD.x (.c (.loc 1 1)) rfl trivial rfl (OkD.x (.c (.d (.sl (List.map AType.cs b.Of)))) rfl trivial rfl ?_))
  obtain ⟨x5, hx5, hr⟩ := bind_some hr
  refine OkD.q (triIdx (enc := AType.cs) (L := b.Of) (row := [dI x5.Kind, .sl (List.map AType.cs x5.Of)]) hx5 (AType.cs_eq _) rfl rfl rfl (fun x => by rw [AType.cs_eq]; rfl) trivial rfl) ?_
  refine OkD.x (.agg [cI x5.Kind, .d (.sl (List.map AType.cs x5.Of))]) rfl trivial rfl ?_
  obtain ⟨x6, hx6, hr⟩ := bind_some hr
  refine OkD.q (triCl (tau []) (.tup [.agg [cI x6.1.Kind, .d (.sl (List.map AType.cs x6.1.Of))], aB x6.2]) [] (hself0 _ _ hx6) rfl ⟨.inl rfl, .inl rfl, trivial⟩ trivial entry124 trivial) (OkD.q (triMv (v := .tup [.agg [cI x6.1.Kind, .d (.sl (List.map AType.cs x6.1.Of))], aB x6.2]) rfl rfl) (OkD.x (.agg [cI x6.1.Kind, .d (.sl (List.map AType.cs x6.1.Of))]) rfl trivial rfl (OkD.x (aB x6.2) rfl trivial rfl (OkD.m 0 (triAlloc (j := 3) (cs := [cI 0, .d (.v (.slice none 0 0))]) rfl rfl rfl rfl) (OkD.w (triStore (cs' := [cI x6.1.Kind, .d (.sl (List.map AType.cs x6.1.Of))]) rfl rfl rfl rfl rfl rfl rfl rfl rfl) (OkD.x (aB x6.2) rfl trivial rfl (OkD.nil (by kernel_rfl) (Ok.seq (Ok.seq (Ok.region (OkOps.y (aB x6.2) (OkOps.y (aB (!x6.2)) (OkOps.nil ?_)))))))))))))
  refine Ok.cond (b := !x6.2) rfl (fun h7 => ?_) (fun h7 => ?_)
  have hr := selT h7 hr
  refine Ok.seq (Ok.region (OkOps.y (.agg [cI 0, .d (.v (.slice none 0 0))]) (OkOps.w (triStore (cs' := [cI 0, .d (.v (.slice none 0 0))]) rfl rfl rfl rfl rfl rfl rfl rfl rfl) (OkOps.y (aB false) (OkOps.nil (Ok.ret ?_))))))
  obtain rfl := Option.some.inj hr
  exact ⟨_, rfl, .inr rfl, trivial⟩
  have hr := selF h7 hr
  refine Ok.skip (Ok.seq (Ok.region (OkOps.y (.c (.loc 0 0)) (OkOps.y (aI a.Kind) (OkOps.y (.agg [cI x6.1.Kind, .d (.sl (List.map AType.cs x6.1.Of))]) ?_)))))
  refine OkOps.m 0 (triBST (sz := 2) (enc := AType.cs) (j := 4) ([x6.1]) rfl rfl rfl rfl rfl (rows := [[dI x6.1.Kind, .sl (List.map AType.cs x6.1.Of)]]) (by simp only [List.map, AType.cs_eq]) rfl rfl (fun x => by rw [AType.cs_eq]; rfl) trivial rfl rfl) ?_
  refine OkOps.y (.agg [cI a.Kind, .tl 4 (List.map AType.cs ([x6.1]))]) (OkOps.w (triStore (cs' := [cI a.Kind, .tl 4 (List.map AType.cs ([x6.1]))]) rfl rfl rfl rfl rfl rfl rfl rfl rfl) (OkOps.y (aB true) (OkOps.nil (Ok.ret ?_))))
  obtain rfl := Option.some.inj hr
  exact ⟨_, rfl, .inr rfl, trivial⟩
theorem r11_join_all : ∀ n : Nat, (∀ (a : AType) (b : AType) {r : AType × Bool}, r11_join n a b = some r → Con Tryd.prog 124 [.agg [cI a.Kind, .d (.sl (List.map AType.cs a.Of))], .agg [cI b.Kind, .d (.sl (List.map AType.cs b.Of))]] [] (.tup [.agg [cI r.1.Kind, .d (.sl (List.map AType.cs r.1.Of))], aB r.2]) []) ∧ True := by
  intro n
  induction n with
  | zero => exact ⟨(by intros; rename_i hr; cases hr), trivial⟩
  | succ n ih => exact ⟨(by intros; rename_i hr; exact r11_join_B_c _ ih.1 _ _ hr), trivial⟩
theorem r11_join_c (n : Nat) (a : AType) (b : AType) {r : AType × Bool} (hr : r11_join n a b = some r) : Con Tryd.prog 124 [.agg [cI a.Kind, .d (.sl (List.map AType.cs a.Of))], .agg [cI b.Kind, .d (.sl (List.map AType.cs b.Of))]] [] (.tup [.agg [cI r.1.Kind, .d (.sl (List.map AType.cs r.1.Of))], aB r.2]) [] := (r11_join_all n).1 a b hr
theorem entry113 : Entry Tryd.prog 113 := ⟨_, Tryd.func113, by kernel_rfl, by kernel_rfl⟩
theorem r11_check_B_c (self0 : AValue → Int → Int → Option (AType × Int × Int)) (hself0 : ∀ (v : AValue) (depth : Int) (met : Int) {r : AType × Int × Int}, self0 v depth met = some r → Con Tryd.prog 113 [.agg [cI v.Kind, cI v.N, cS v.S, .d (.sl (List.map AValue.cs v.L))], aI depth, aI met] [] (.tup [.agg [cI r.1.Kind, .d (.sl (List.map AType.cs r.1.Of))], aI r.2.1, aI r.2.2]) []) (v : AValue) (depth : Int) (met : Int) {r : AType × Int × Int} (hr : r11_check_B self0 v depth met = some r) : Con Tryd.prog 113 [.agg [cI v.Kind, cI v.N, cS v.S, .d (.sl (List.map AValue.cs v.L))], aI depth, aI met] [] (.tup [.agg [cI r.1.Kind, .d (.sl (List.map AType.cs r.1.Of))], aI r.2.1, aI r.2.2]) [] := by
  unfold r11_check_B at hr
  refine Con.of_ok 184 0 [.cell 6 130, .tmp 7, .tmp 8] [(0, .s (.agg [cI v.Kind, cI v.N, cS v.S, .d (.sl (List.map AValue.cs v.L))])), (1, .s (aI depth)), (2, .s (aI met))] Tryd.func113 rfl rfl rfl rfl rfl rfl rfl rfl fun w g M ρ _ => (Ok.seq (Ok.region (OkOps.m 0 (triBox (j := 0) (cs := [cI v.Kind, cI v.N, cS v.S, .d (.sl (List.map AValue.cs v.L))]) rfl rfl rfl rfl rfl) (OkOps.m 0 (triAlloc (j := 1) (cs := [cI 0, .d (.v (.slice none 0 0))]) rfl rfl rfl rfl) (OkOps.y (aI 0) (OkOps.y (aI 0) (OkOps.nil (Ok.seq (Ok.region (OkOps.y (aI met) (OkOps.y (aI (IntKind.i64.wrap (met + 1))) (OkOps.y (aI (IntKind.i64.wrap (met + 1))) (OkOps.nil (Ok.seq (Ok.region ?_)))))))))))))))
  refine OkOps.y (.c (.loc 0 0)) (OkOps.y (aI v.Kind) (OkOps.y (aB (v.Kind == 4)) (OkOps.y (aB (v.Kind == 4)) (OkOps.nil (Ok.seq (Ok.seq (Ok.region (OkOps.y (aB (v.Kind == 4)) (OkOps.y (aB (v.Kind == 4)) (OkOps.q (triQG (x := aI depth) rfl rfl trivial rfl) (OkOps.q (triQG (x := aB (decide (depth > 16))) rfl rfl ⟨fun h => h, trivial⟩ rfl) (OkOps.q (triAnd rfl rfl (fun h => h) rfl) (OkOps.nil ?_)))))))))))))
  refine Ok.cond (b := (v.Kind == 4) && (decide (depth > 16))) rfl (fun h1 => ?_) (fun h1 => ?_)
  have hr := selT h1 hr
  refine Ok.seq (Ok.region (OkOps.y (.agg [cI 0, .d (.v (.slice none 0 0))]) (OkOps.y (aI (IntKind.i64.wrap (met + 1))) (OkOps.w (triStore (cs' := [cI 0, .d (.v (.slice none 0 0))]) rfl rfl rfl rfl rfl rfl rfl rfl rfl) (OkOps.y (aI (IntKind.i64.wrap (met + 1))) (OkOps.y (aI 8) (OkOps.nil (Ok.ret ?_))))))))
  obtain rfl := Option.some.inj hr
  exact ⟨_, rfl, .inr rfl, trivial⟩
  have hr := selF h1 hr
  refine Ok.skip (Ok.seq (Ok.seq (Ok.region (OkOps.y (.c (.loc 0 0)) (OkOps.y (aI v.Kind) (OkOps.y (aB (decide (v.Kind < 1))) (OkOps.y (aB (decide (v.Kind < 1))) (OkOps.q (triQG (x := .c (.loc 0 0)) rfl rfl trivial rfl) (OkOps.q (triQG (x := aI v.Kind) rfl rfl ⟨fun h => h, trivial⟩ rfl) (OkOps.q (triQG (x := aB (decide (v.Kind > 4))) rfl rfl ⟨fun h => h, trivial⟩ rfl) ?_))))))))))
  refine OkOps.q (triOr rfl rfl (fun h => by rw [h]; rfl) rfl) ?_
  refine OkOps.y (aB ((decide (v.Kind < 1)) || (decide (v.Kind > 4)))) (OkOps.q (triQG (x := .c (.loc 0 1)) rfl rfl trivial rfl) (OkOps.q (triQG (x := aI v.N) rfl rfl ⟨fun h => h, trivial⟩ rfl) (OkOps.q (triQG (x := aB (v.N != 0)) rfl rfl ⟨fun h => h, trivial⟩ rfl) (OkOps.q (triQG (x := aB (v.N != 0)) rfl rfl ⟨fun h => h, trivial⟩ rfl) (OkOps.q (triQG (x := .c (.loc 0 0)) rfl rfl trivial rfl) (OkOps.q (triQG (x := aI v.Kind) rfl rfl ⟨fun h => h, trivial⟩ rfl) (OkOps.q (triQG (x := aB (v.Kind != 1)) rfl rfl ⟨fun h => h, trivial⟩ rfl) ?_)))))))
  refine OkOps.q (triAndG rfl rfl rfl (fun h => h) (fun h h2 => by rw [h, h2]; rfl) rfl) ?_
  refine OkOps.q (triQG (x := aB ((v.N != 0) && (v.Kind != 1))) rfl rfl ⟨fun h => h, trivial⟩ rfl) (OkOps.q (triQG (x := .c (.loc 0 0)) rfl rfl trivial rfl) (OkOps.q (triQG (x := aI v.Kind) rfl rfl ⟨fun h => h, trivial⟩ rfl) (OkOps.q (triQG (x := aB (v.Kind != 2)) rfl rfl ⟨fun h => h, trivial⟩ rfl) ?_)))
  refine OkOps.q (triAndG rfl rfl rfl (fun h => h) (fun h h2 => by rw [h, h2]; rfl) rfl) ?_
  refine OkOps.q (triOr rfl rfl (fun h => by rw [h]; rfl) rfl) ?_
  refine OkOps.y (aB (((decide (v.Kind < 1)) || (decide (v.Kind > 4))) || (((v.N != 0) && (v.Kind != 1)) && (v.Kind != 2)))) (OkOps.q (triQG (x := .c (.loc 0 2)) rfl rfl trivial rfl) (OkOps.q (triQG (x := aS v.S) rfl rfl ⟨fun h => h, trivial⟩ rfl) (OkOps.q (triQG (x := aB (!(v.S.toList == (ByteArray.mk #[]).toList))) rfl rfl ⟨fun h => h, trivial⟩ rfl) (OkOps.q (triQG (x := aB (!(v.S.toList == (ByteArray.mk #[]).toList))) rfl rfl ⟨fun h => h, trivial⟩ rfl) (OkOps.q (triQG (x := .c (.loc 0 0)) rfl rfl trivial rfl) (OkOps.q (triQG (x := aI v.Kind) rfl rfl ⟨fun h => h, trivial⟩ rfl) (OkOps.q (triQG (x := aB (v.Kind != 3)) rfl rfl ⟨fun h => h, trivial⟩ rfl) ?_)))))))
  refine OkOps.q (triAndG rfl rfl rfl (fun h => h) (fun h h2 => by rw [h, h2]; rfl) rfl) ?_
  refine OkOps.q (triOr rfl rfl (fun h => by rw [h]; rfl) rfl) ?_
  refine OkOps.y (aB ((((decide (v.Kind < 1)) || (decide (v.Kind > 4))) || (((v.N != 0) && (v.Kind != 1)) && (v.Kind != 2))) || ((!(v.S.toList == (ByteArray.mk #[]).toList)) && (v.Kind != 3)))) (OkOps.q (triQG (x := .c (.loc 0 3)) rfl rfl trivial rfl) (OkOps.q (triQG (x := .c (.d (.sl (List.map AValue.cs v.L)))) rfl rfl ⟨fun h => h, trivial⟩ rfl) (OkOps.q (triLenG (enc := AValue.cs) v.L rfl rfl rfl ⟨fun h => h, trivial⟩ rfl) (OkOps.q (triQG (x := aB (decide ((v.L.length : Int) > 0))) rfl rfl ⟨fun h => h, trivial⟩ rfl) (OkOps.q (triQG (x := aB (decide ((v.L.length : Int) > 0))) rfl rfl ⟨fun h => h, trivial⟩ rfl) (OkOps.q (triQG (x := aB (v.Kind == 4)) rfl rfl trivial rfl) (OkOps.q (triQG (x := aB (!(v.Kind == 4))) rfl rfl ⟨fun h => h, trivial⟩ rfl) ?_)))))))
  refine OkOps.q (triAndG rfl rfl rfl (fun h => h) (fun h h2 => by rw [h, h2]; rfl) rfl) ?_
  refine OkOps.q (triOr rfl rfl (fun h => by rw [h]; rfl) rfl) ?_
  refine OkOps.nil ?_
  refine Ok.cond (b := ((((decide (v.Kind < 1)) || (decide (v.Kind > 4))) || (((v.N != 0) && (v.Kind != 1)) && (v.Kind != 2))) || ((!(v.S.toList == (ByteArray.mk #[]).toList)) && (v.Kind != 3))) || ((decide ((v.L.length : Int) > 0)) && (!(v.Kind == 4)))) rfl (fun h2 => ?_) (fun h2 => ?_)
  have hr := selT h2 hr
  refine Ok.seq (Ok.region (OkOps.y (.agg [cI 0, .d (.v (.slice none 0 0))]) (OkOps.y (aI (IntKind.i64.wrap (met + 1))) (OkOps.w (triStore (cs' := [cI 0, .d (.v (.slice none 0 0))]) rfl rfl rfl rfl rfl rfl rfl rfl rfl) (OkOps.y (aI (IntKind.i64.wrap (met + 1))) (OkOps.y (aI 9) (OkOps.nil (Ok.ret ?_))))))))
  obtain rfl := Option.some.inj hr
  exact ⟨_, rfl, .inr rfl, trivial⟩
  have hr := selF h2 hr
  refine Ok.skip (Ok.seq (Ok.seq (Ok.region (OkOps.y (.c (.loc 0 0)) (OkOps.y (aI v.Kind) (OkOps.y (aB (v.Kind == 1)) (OkOps.y (aB (v.Kind == 1)) (OkOps.q (triQG (x := .c (.loc 0 1)) rfl rfl trivial rfl) (OkOps.q (triQG (x := aI v.N) rfl rfl ⟨fun h => h, trivial⟩ rfl) (OkOps.q (triQG (x := aB (decide (v.N < (-1099511627776)))) rfl rfl ⟨fun h => h, trivial⟩ rfl) (OkOps.q (triQG (x := aB (decide (v.N < (-1099511627776)))) rfl rfl ⟨fun h => h, trivial⟩ rfl) (OkOps.q (triQG (x := .c (.loc 0 1)) rfl rfl trivial rfl) (OkOps.q (triQG (x := aI v.N) rfl rfl ⟨fun h => h, trivial⟩ rfl) (OkOps.q (triQG (x := aB (decide (v.N > 1099511627776))) rfl rfl ⟨fun h => h, trivial⟩ rfl) ?_))))))))))))))
  refine OkOps.q (triOrG rfl rfl rfl (fun h => h) (fun h h2 => by rw [h, h2]; rfl) rfl) ?_
  refine OkOps.q (triAnd rfl rfl (fun h => h) rfl) (OkOps.y (aB ((v.Kind == 1) && ((decide (v.N < (-1099511627776))) || (decide (v.N > 1099511627776))))) (OkOps.q (triQG (x := .c (.loc 0 0)) rfl rfl trivial rfl) (OkOps.q (triQG (x := aI v.Kind) rfl rfl ⟨fun h => h, trivial⟩ rfl) (OkOps.q (triQG (x := aB (v.Kind == 2)) rfl rfl ⟨fun h => h, trivial⟩ rfl) (OkOps.q (triQG (x := aB (v.Kind == 2)) rfl rfl ⟨fun h => h, trivial⟩ rfl) (OkOps.q (triQG (x := .c (.loc 0 1)) rfl rfl trivial rfl) (OkOps.q (triQG (x := aI v.N) rfl rfl ⟨fun h => h, trivial⟩ rfl) (OkOps.q (triQG (x := aB (v.N != 0)) rfl rfl ⟨fun h => h, trivial⟩ rfl) ?_))))))))
  refine OkOps.q (triAndG rfl rfl rfl (fun h => h) (fun h h2 => by rw [h, h2]; rfl) rfl) ?_
  refine OkOps.q (triQG (x := aB ((v.Kind == 2) && (v.N != 0))) rfl rfl ⟨fun h => h, trivial⟩ rfl) (OkOps.q (triQG (x := .c (.loc 0 1)) rfl rfl trivial rfl) (OkOps.q (triQG (x := aI v.N) rfl rfl ⟨fun h => h, trivial⟩ rfl) (OkOps.q (triQG (x := aB (v.N != 1)) rfl rfl ⟨fun h => h, trivial⟩ rfl) ?_)))
  refine OkOps.q (triAndG rfl rfl rfl (fun h => h) (fun h h2 => by rw [h, h2]; rfl) rfl) ?_
  refine OkOps.q (triOr rfl rfl (fun h => by rw [h]; rfl) rfl) ?_
  refine OkOps.nil ?_
  refine Ok.cond (b := ((v.Kind == 1) && ((decide (v.N < (-1099511627776))) || (decide (v.N > 1099511627776)))) || (((v.Kind == 2) && (v.N != 0)) && (v.N != 1))) rfl (fun h3 => ?_) (fun h3 => ?_)
  have hr := selT h3 hr
  refine Ok.seq (Ok.region (OkOps.y (.agg [cI 0, .d (.v (.slice none 0 0))]) (OkOps.y (aI (IntKind.i64.wrap (met + 1))) (OkOps.w (triStore (cs' := [cI 0, .d (.v (.slice none 0 0))]) rfl rfl rfl rfl rfl rfl rfl rfl rfl) (OkOps.y (aI (IntKind.i64.wrap (met + 1))) (OkOps.y (aI 1) (OkOps.nil (Ok.ret ?_))))))))
  obtain rfl := Option.some.inj hr
  exact ⟨_, rfl, .inr rfl, trivial⟩
  have hr := selF h3 hr
  refine Ok.skip (Ok.seq (Ok.seq (Ok.region (OkOps.y (.c (.loc 0 2)) (OkOps.y (aS v.S) (OkOps.y (aI (v.S.size : Int)) (OkOps.y (aB (decide ((v.S.size : Int) > 2000))) (OkOps.y (aB (decide ((v.S.size : Int) > 2000))) (OkOps.q (triQG (x := .c (.loc 0 3)) rfl rfl trivial rfl) (OkOps.q (triQG (x := .c (.d (.sl (List.map AValue.cs v.L)))) rfl rfl ⟨fun h => h, trivial⟩ rfl) (OkOps.q (triLenG (enc := AValue.cs) v.L rfl rfl rfl ⟨fun h => h, trivial⟩ rfl) (OkOps.q (triQG (x := aB (decide ((v.L.length : Int) > 100))) rfl rfl ⟨fun h => h, trivial⟩ rfl) ?_))))))))))))
  refine OkOps.q (triOr rfl rfl (fun h => by rw [h]; rfl) rfl) ?_
  refine OkOps.y (aB ((decide ((v.S.size : Int) > 2000)) || (decide ((v.L.length : Int) > 100)))) (OkOps.q (triQG (x := aI (IntKind.i64.wrap (met + 1))) rfl rfl trivial rfl) (OkOps.q (triQG (x := aB (decide ((IntKind.i64.wrap (met + 1)) > 1000))) rfl rfl ⟨fun h => h, trivial⟩ rfl) ?_))
  refine OkOps.q (triOr rfl rfl (fun h => by rw [h]; rfl) rfl) ?_
  refine OkOps.nil ?_
  refine Ok.cond (b := ((decide ((v.S.size : Int) > 2000)) || (decide ((v.L.length : Int) > 100))) || (decide ((IntKind.i64.wrap (met + 1)) > 1000))) rfl (fun h4 => ?_) (fun h4 => ?_)
  have hr := selT h4 hr
  refine Ok.seq (Ok.region (OkOps.y (.agg [cI 0, .d (.v (.slice none 0 0))]) (OkOps.y (aI (IntKind.i64.wrap (met + 1))) (OkOps.w (triStore (cs' := [cI 0, .d (.v (.slice none 0 0))]) rfl rfl rfl rfl rfl rfl rfl rfl rfl) (OkOps.y (aI (IntKind.i64.wrap (met + 1))) (OkOps.y (aI 2) (OkOps.nil (Ok.ret ?_))))))))
  obtain rfl := Option.some.inj hr
  exact ⟨_, rfl, .inr rfl, trivial⟩
  have hr := selF h4 hr
  refine Ok.skip (Ok.seq (Ok.seq (Ok.region (OkOps.y (.c (.loc 0 2)) (OkOps.y (aS v.S) ?_)))))
  obtain ⟨x5, hx5, hr⟩ := bind_some hr
  refine OkOps.q (triCl (tau []) (.s (aB x5)) [] (r11_UTF8_c _ hx5) rfl ⟨.inl rfl, trivial⟩ trivial entry123 trivial) (OkOps.y (aB (!x5)) (OkOps.nil ?_))
  refine Ok.cond (b := !x5) rfl (fun h6 => ?_) (fun h6 => ?_)
  have hr := selT h6 hr
  refine Ok.seq (Ok.region (OkOps.y (.agg [cI 0, .d (.v (.slice none 0 0))]) (OkOps.y (aI (IntKind.i64.wrap (met + 1))) (OkOps.w (triStore (cs' := [cI 0, .d (.v (.slice none 0 0))]) rfl rfl rfl rfl rfl rfl rfl rfl rfl) (OkOps.y (aI (IntKind.i64.wrap (met + 1))) (OkOps.y (aI 3) (OkOps.nil (Ok.ret ?_))))))))
  obtain rfl := Option.some.inj hr
  exact ⟨_, rfl, .inr rfl, trivial⟩
  have hr := selF h6 hr
  refine Ok.skip (Ok.seq (Ok.region (OkOps.y (.c (.loc 0 0)) (OkOps.y (aI v.Kind) (OkOps.y (.agg [cI v.Kind, .d (.v (.slice none 0 0))]) (OkOps.m 0 (triAlloc (j := 2) (cs := [cI 0, .d (.v (.slice none 0 0))]) rfl rfl rfl rfl) (OkOps.w (triStore (cs' := [cI v.Kind, .d (.v (.slice none 0 0))]) rfl rfl rfl rfl rfl rfl rfl rfl rfl) (OkOps.nil (Ok.seq (Ok.region (OkOps.y (aB true) (OkOps.nil ?_))))))))))))
  obtain ⟨k8, hk8, hr⟩ := jn_some hr
  refine Ok.join (fun (s7 : Int × Bool × (List AType)) => ⟨[(2, .s (aI s7.1)), (6, .s (.c (.loc 1 0))), (10, .s (.c (.loc 2 0))), (11, .s (aB s7.2.1))], [(1, .blk [cI 0, .d (.v (.slice none 0 0))] 130), (2, .blk [cI v.Kind, .tl 1008 (List.map AType.cs s7.2.2)] 130), (1008, .tail 2)], 0⟩) k8 r (fun s7 hr => ?_) ?_
  rw [hk8] at hr
  refine Ok.seq (Ok.seq (Ok.region (OkOps.y (aB s7.2.1) (OkOps.y (aB (!s7.2.1)) (OkOps.nil ?_)))))
  refine Ok.cond (b := !s7.2.1) rfl (fun h9 => ?_) (fun h9 => ?_)
  have hr := selT h9 hr
  refine Ok.seq (Ok.region (OkOps.y (.agg [cI 0, .d (.v (.slice none 0 0))]) (OkOps.y (aI s7.1) (OkOps.w (triStore (cs' := [cI 0, .d (.v (.slice none 0 0))]) rfl rfl rfl rfl rfl rfl rfl rfl rfl) (OkOps.y (aI s7.1) (OkOps.y (aI 5) (OkOps.nil (Ok.ret ?_))))))))
  obtain rfl := Option.some.inj hr
  exact ⟨_, rfl, .inr rfl, trivial⟩
  have hr := selF h9 hr
  refine Ok.skip (Ok.seq (Ok.region (OkOps.y (.agg [cI v.Kind, .tl 1008 (List.map AType.cs s7.2.2)]) (OkOps.y (aI s7.1) (OkOps.w (triStore (cs' := [cI v.Kind, .tl 1008 (List.map AType.cs s7.2.2)]) rfl rfl rfl rfl rfl rfl rfl rfl rfl) (OkOps.y (aI s7.1) (OkOps.y (aI 0) (OkOps.nil (Ok.ret ?_)))))))))
  obtain rfl := Option.some.inj hr
  exact ⟨_, rfl, .inr rfl, trivial⟩
  clear hk8
  refine Ok.seq (Ok.region (OkOps.y (aI 0) (OkOps.nil (Ok.block (Ok.loopK (fun (s10 : Int × Bool × Int × (List AType)) => ⟨[(1, .s (aI depth)), (2, .s (aI s10.1)), (3, .s (.c (.loc 0 0))), (6, .s (.c (.loc 1 0))), (10, .s (.c (.loc 2 0))), (11, .s (aB s10.2.1)), (12, .s (aI s10.2.2.1))], [(0, .blk [cI v.Kind, cI v.N, cS v.S, .d (.sl (List.map AValue.cs v.L))] 40), (1, .blk [cI 0, .d (.v (.slice none 0 0))] 130), (2, .blk [cI v.Kind, .tl 1013 (List.map AType.cs s10.2.2.2)] 130), (1013, .tail 2)], 0⟩) hr (Conv.trans (Conv.nilO 2 1 1016 2 [cI v.Kind, .d (.v (.slice none 0 0))] [cI v.Kind, .tl 1016 (List.map AType.cs ([] : (List AType)))] 130 0 rfl rfl rfl rfl) (Conv.mk (tau [(1013, 1016)]) ⟨⟨_, rfl, .inl rfl⟩, ⟨_, rfl, .inl rfl⟩, ⟨_, rfl, .inl rfl⟩, ⟨_, rfl, .inl rfl⟩, ⟨_, rfl, .inl rfl⟩, ⟨_, rfl, .inl rfl⟩, ⟨_, rfl, .inl rfl⟩, trivial⟩ ⟨rfl, rfl, rfl, rfl, trivial⟩ rfl rfl rfl rfl)) ?_)))))
  clear hr
  intro again11 s10 hr
  unfold r11_check_L1 at hr
  refine Ok.seq (Ok.seq (Ok.region (OkOps.y (aI s10.2.2.1) (OkOps.y (.c (.loc 0 3)) (OkOps.y (.c (.d (.sl (List.map AValue.cs v.L)))) (OkOps.q (triLen (enc := AValue.cs) v.L rfl rfl trivial rfl) (OkOps.y (aB (decide (s10.2.2.1 < (v.L.length : Int)))) (OkOps.nil ?_))))))))
  refine Ok.cond (b := decide (s10.2.2.1 < (v.L.length : Int))) rfl (fun h12 => ?_) (fun h12 => ?_)
  have hr := selT h12 hr
  refine Ok.skip ?_
  obtain ⟨k14, hk14, hr⟩ := jn_some hr
  refine Ok.join (fun (s13 : Int × Bool × (List AType)) => ⟨[(1, .s (aI depth)), (2, .s (aI s13.1)), (3, .s (.c (.loc 0 0))), (6, .s (.c (.loc 1 0))), (10, .s (.c (.loc 2 0))), (11, .s (aB s13.2.1)), (12, .s (aI s10.2.2.1))], [(0, .blk [cI v.Kind, cI v.N, cS v.S, .d (.sl (List.map AValue.cs v.L))] 40), (1, .blk [cI 0, .d (.v (.slice none 0 0))] 130), (2, .blk [cI v.Kind, .tl 1017 (List.map AType.cs s13.2.2)] 130), (1017, .tail 2)], 0⟩) k14 r (fun s13 hr => ?_) ?_
  rw [hk14] at hr
  refine Ok.region (OkOps.y (aI s10.2.2.1) (OkOps.y (aI (IntKind.i64.wrap (s10.2.2.1 + 1))) (OkOps.y (aI (IntKind.i64.wrap (s10.2.2.1 + 1))) (OkOps.nil ?_))))
  exact ⟨(s13.1, s13.2.1, IntKind.i64.wrap (s10.2.2.1 + 1), s13.2.2), hr, (Conv.mk (tau [(1013, 1017)]) ⟨⟨_, rfl, .inl rfl⟩, ⟨_, rfl, .inl rfl⟩, ⟨_, rfl, .inl rfl⟩, ⟨_, rfl, .inl rfl⟩, ⟨_, rfl, .inl rfl⟩, ⟨_, rfl, .inl rfl⟩, ⟨_, rfl, .inl rfl⟩, trivial⟩ ⟨rfl, rfl, rfl, rfl, trivial⟩ rfl rfl rfl rfl)⟩
  clear hk14
  refine Ok.block (Ok.seq (Ok.region (OkOps.y (.c (.loc 0 3)) (OkOps.y (.c (.d (.sl (List.map AValue.cs v.L)))) (OkOps.y (aI s10.2.2.1) ?_)))))
  obtain ⟨x15, hx15, hr⟩ := bind_some hr
  refine OkOps.q (triIdx (enc := AValue.cs) (L := v.L) (row := [dI x15.Kind, dI x15.N, dS x15.S, .sl (List.map AValue.cs x15.L)]) hx15 (AValue.cs_eq _) rfl rfl rfl (fun x => by rw [AValue.cs_eq]; rfl) trivial rfl) ?_
  refine OkOps.y (.agg [cI x15.Kind, cI x15.N, cS x15.S, .d (.sl (List.map AValue.cs x15.L))]) (OkOps.y (aI depth) (OkOps.y (aI (IntKind.i64.wrap (depth + 1))) (OkOps.y (aI s10.1) ?_)))
  obtain ⟨x16, hx16, hr⟩ := bind_some hr
  refine OkOps.q (triCl (tau []) (.tup [.agg [cI x16.1.Kind, .d (.sl (List.map AType.cs x16.1.Of))], aI x16.2.1, aI x16.2.2]) [] (hself0 _ _ _ hx16) rfl ⟨.inl rfl, .inl rfl, .inl rfl, trivial⟩ trivial entry113 trivial) (OkOps.q (triMv (v := .tup [.agg [cI x16.1.Kind, .d (.sl (List.map AType.cs x16.1.Of))], aI x16.2.1, aI x16.2.2]) rfl rfl) (OkOps.y (.agg [cI x16.1.Kind, .d (.sl (List.map AType.cs x16.1.Of))]) (OkOps.y (aI x16.2.1) (OkOps.y (aI x16.2.2) (OkOps.m 0 (triAlloc (j := 3) (cs := [cI 0, .d (.v (.slice none 0 0))]) rfl rfl rfl rfl) (OkOps.w (triStore (cs' := [cI x16.1.Kind, .d (.sl (List.map AType.cs x16.1.Of))]) rfl rfl rfl rfl rfl rfl rfl rfl rfl) (OkOps.y (aI x16.2.1) (OkOps.y (aI x16.2.2) (OkOps.nil (Ok.seq (Ok.region (OkOps.y (aI x16.2.1) (OkOps.y (aI x16.2.1) (OkOps.nil (Ok.seq ?_)))))))))))))))
  refine Ok.seq (Ok.region (OkOps.y (aI x16.2.2) (OkOps.y (aB (x16.2.2 != 0)) (OkOps.nil ?_))))
  refine Ok.cond (b := x16.2.2 != 0) rfl (fun h17 => ?_) (fun h17 => ?_)
  have hr := selT h17 hr
  refine Ok.seq (Ok.region (OkOps.y (.agg [cI 0, .d (.v (.slice none 0 0))]) (OkOps.y (aI x16.2.1) (OkOps.y (aI x16.2.2) (OkOps.w (triStore (cs' := [cI 0, .d (.v (.slice none 0 0))]) rfl rfl rfl rfl rfl rfl rfl rfl rfl) (OkOps.y (aI x16.2.1) (OkOps.y (aI x16.2.2) (OkOps.nil (Ok.ret ?_)))))))))
  obtain rfl := Option.some.inj hr
  exact ⟨_, rfl, .inr rfl, trivial⟩
  have hr := selF h17 hr
  refine Ok.skip (Ok.seq (Ok.seq (Ok.region (OkOps.y (aB s10.2.1) (OkOps.y (aB (!s10.2.1)) (OkOps.nil ?_))))))
  refine Ok.cond (b := !s10.2.1) rfl (fun h18 => ?_) (fun h18 => ?_)
  have hr := selT h18 hr
  refine Ok.exit ?_
  exact ⟨(x16.2.1, s10.2.1, s10.2.2.2), hr, (Conv.mk (tau [(1017, 1013)]) ⟨⟨_, rfl, .inl rfl⟩, ⟨_, rfl, .inl rfl⟩, ⟨_, rfl, .inl rfl⟩, ⟨_, rfl, .inl rfl⟩, ⟨_, rfl, .inl rfl⟩, ⟨_, rfl, .inl rfl⟩, ⟨_, rfl, .inl rfl⟩, trivial⟩ ⟨rfl, rfl, rfl, rfl, trivial⟩ rfl rfl rfl rfl)⟩
  have hr := selF h18 hr
  refine Ok.skip (Ok.seq (Ok.seq (Ok.region (OkOps.y (.c (.loc 2 1)) (OkOps.y (.c (.tl 1013 (List.map AType.cs s10.2.2.2))) (OkOps.q (triLen (enc := AType.cs) s10.2.2.2 rfl rfl trivial rfl) (OkOps.y (aB ((s10.2.2.2.length : Int) == 0)) (OkOps.nil ?_))))))))
  refine Ok.cond (b := (s10.2.2.2.length : Int) == 0) rfl (fun h19 => ?_) (fun h19 => ?_)
  have hr := selT h19 hr
  refine Ok.seq (Ok.region (OkOps.y (.agg [cI x16.1.Kind, .d (.sl (List.map AType.cs x16.1.Of))]) ?_))
  refine OkOps.m 0 (triBST (sz := 2) (enc := AType.cs) (j := 4) ([x16.1]) rfl rfl rfl rfl rfl (rows := [[dI x16.1.Kind, .sl (List.map AType.cs x16.1.Of)]]) (by simp only [List.map, AType.cs_eq]) rfl rfl (fun x => by rw [AType.cs_eq]; rfl) trivial rfl rfl) ?_
  refine OkOps.y (.c (.loc 2 1)) (OkOps.w (triStore (cs' := [cI v.Kind, .tl 4 (List.map AType.cs ([x16.1]))]) rfl rfl rfl rfl rfl rfl rfl rfl rfl) (OkOps.nil (Ok.exit ?_)))
  exact ⟨(x16.2.1, s10.2.1, [x16.1]), hr, (Conv.mk (tau [(1017, 4)]) ⟨⟨_, rfl, .inl rfl⟩, ⟨_, rfl, .inl rfl⟩, ⟨_, rfl, .inl rfl⟩, ⟨_, rfl, .inl rfl⟩, ⟨_, rfl, .inl rfl⟩, ⟨_, rfl, .inl rfl⟩, ⟨_, rfl, .inl rfl⟩, trivial⟩ ⟨rfl, rfl, rfl, rfl, trivial⟩ rfl rfl rfl rfl)⟩
  have hr := selF h19 hr
  refine Ok.skip (Ok.seq (Ok.regionD (by kernel_rfl) (OkD.x (.c (.loc 2 1)) rfl trivial rfl (OkD.x (.c (.tl 1013 (List.map AType.cs s10.2.2.2))) rfl trivial rfl ?_))))
  obtain ⟨x20, hx20, hr⟩ := bind_some hr
  refine OkD.q (triIdx (enc := AType.cs) (L := s10.2.2.2) (row := [dI x20.Kind, .sl (List.map AType.cs x20.Of)]) hx20 (AType.cs_eq _) rfl rfl rfl (fun x => by rw [AType.cs_eq]; rfl) trivial rfl) ?_
  refine OkD.x (.agg [cI x20.Kind, .d (.sl (List.map AType.cs x20.Of))]) rfl trivial rfl (OkD.x (.agg [cI x16.1.Kind, .d (.sl (List.map AType.cs x16.1.Of))]) rfl trivial rfl ?_)
  obtain ⟨x21, hx21, hr⟩ := bind_some hr
  refine OkD.q (triCl (tau []) (.tup [.agg [cI x21.1.Kind, .d (.sl (List.map AType.cs x21.1.Of))], aB x21.2]) [] (r11_join_c _ _ _ hx21) rfl ⟨.inl rfl, .inl rfl, trivial⟩ trivial entry124 trivial) (OkD.q (triMv (v := .tup [.agg [cI x21.1.Kind, .d (.sl (List.map AType.cs x21.1.Of))], aB x21.2]) rfl rfl) (OkD.x (.agg [cI x21.1.Kind, .d (.sl (List.map AType.cs x21.1.Of))]) rfl trivial rfl (OkD.x (aB x21.2) rfl trivial rfl (OkD.m 0 (triAlloc (j := 5) (cs := [cI 0, .d (.v (.slice none 0 0))]) rfl rfl rfl rfl) (OkD.w (triStore (cs' := [cI x21.1.Kind, .d (.sl (List.map AType.cs x21.1.Of))]) rfl rfl rfl rfl rfl rfl rfl rfl rfl) (OkD.x (aB x21.2) rfl trivial rfl (OkD.nil (by kernel_rfl) (Ok.seq (Ok.region (OkOps.y (aB x21.2) (OkOps.y (aB x21.2) (OkOps.nil (Ok.region (OkOps.y (.agg [cI x21.1.Kind, .d (.sl (List.map AType.cs x21.1.Of))]) ?_))))))))))))))
  refine OkOps.m 0 (triBST (sz := 2) (enc := AType.cs) (j := 6) ([x21.1]) rfl rfl rfl rfl rfl (rows := [[dI x21.1.Kind, .sl (List.map AType.cs x21.1.Of)]]) (by simp only [List.map, AType.cs_eq]) rfl rfl (fun x => by rw [AType.cs_eq]; rfl) trivial rfl rfl) ?_
  refine OkOps.y (.c (.loc 2 1)) (OkOps.w (triStore (cs' := [cI v.Kind, .tl 6 (List.map AType.cs ([x21.1]))]) rfl rfl rfl rfl rfl rfl rfl rfl rfl) (OkOps.nil ?_))
  exact ⟨(x16.2.1, x21.2, [x21.1]), hr, (Conv.mk (tau [(1017, 6)]) ⟨⟨_, rfl, .inl rfl⟩, ⟨_, rfl, .inl rfl⟩, ⟨_, rfl, .inl rfl⟩, ⟨_, rfl, .inl rfl⟩, ⟨_, rfl, .inl rfl⟩, ⟨_, rfl, .inl rfl⟩, ⟨_, rfl, .inl rfl⟩, trivial⟩ ⟨rfl, rfl, rfl, rfl, trivial⟩ rfl rfl rfl rfl)⟩
  have hr := selF h12 hr
  refine Ok.exit ?_
  exact ⟨(s10.1, s10.2.1, s10.2.2.2), hr, (Conv.mk (tau [(1008, 1013)]) ⟨⟨_, rfl, .inl rfl⟩, ⟨_, rfl, .inl rfl⟩, ⟨_, rfl, .inl rfl⟩, ⟨_, rfl, .inl rfl⟩, trivial⟩ ⟨rfl, rfl, rfl, trivial⟩ rfl rfl rfl rfl)⟩
theorem r11_check_all : ∀ n : Nat, (∀ (v : AValue) (depth : Int) (met : Int) {r : AType × Int × Int}, r11_check n v depth met = some r → Con Tryd.prog 113 [.agg [cI v.Kind, cI v.N, cS v.S, .d (.sl (List.map AValue.cs v.L))], aI depth, aI met] [] (.tup [.agg [cI r.1.Kind, .d (.sl (List.map AType.cs r.1.Of))], aI r.2.1, aI r.2.2]) []) ∧ True := by
  intro n
  induction n with
  | zero => exact ⟨(by intros; rename_i hr; cases hr), trivial⟩
  | succ n ih => exact ⟨(by intros; rename_i hr; exact r11_check_B_c _ ih.1 _ _ _ hr), trivial⟩
theorem r11_check_c (n : Nat) (v : AValue) (depth : Int) (met : Int) {r : AType × Int × Int} (hr : r11_check n v depth met = some r) : Con Tryd.prog 113 [.agg [cI v.Kind, cI v.N, cS v.S, .d (.sl (List.map AValue.cs v.L))], aI depth, aI met] [] (.tup [.agg [cI r.1.Kind, .d (.sl (List.map AType.cs r.1.Of))], aI r.2.1, aI r.2.2]) [] := (r11_check_all n).1 v depth met hr
theorem r11_TypeOf_c (v : AValue) {r : AType × Int} (hr : r11_TypeOf v = some r) : Con Tryd.prog 107 [.agg [cI v.Kind, cI v.N, cS v.S, .d (.sl (List.map AValue.cs v.L))]] [] (.tup [.agg [cI r.1.Kind, .d (.sl (List.map AType.cs r.1.Of))], aI r.2]) [] := by
  unfold r11_TypeOf at hr
  refine Con.of_ok 15 0 [.cell 2 130, .tmp 3] [(0, .s (.agg [cI v.Kind, cI v.N, cS v.S, .d (.sl (List.map AValue.cs v.L))]))] Tryd.func107 rfl rfl rfl rfl rfl rfl rfl rfl fun w g M ρ _ => (Ok.seq (Ok.region (OkOps.m 0 (triBox (j := 0) (cs := [cI v.Kind, cI v.N, cS v.S, .d (.sl (List.map AValue.cs v.L))]) rfl rfl rfl rfl rfl) (OkOps.m 0 (triAlloc (j := 1) (cs := [cI 0, .d (.v (.slice none 0 0))]) rfl rfl rfl rfl) (OkOps.y (aI 0) (OkOps.nil (Ok.seq (Ok.region (OkOps.y (.agg [cI v.Kind, cI v.N, cS v.S, .d (.sl (List.map AValue.cs v.L))]) ?_)))))))))
  obtain ⟨x1, hx1, hr⟩ := bind_some hr
  refine OkOps.q (triCl (tau []) (.tup [.agg [cI x1.1.Kind, .d (.sl (List.map AType.cs x1.1.Of))], aI x1.2.1, aI x1.2.2]) [] (r11_check_c _ _ _ _ hx1) rfl ⟨.inl rfl, .inl rfl, .inl rfl, trivial⟩ trivial entry113 trivial) (OkOps.q (triMv (v := .tup [.agg [cI x1.1.Kind, .d (.sl (List.map AType.cs x1.1.Of))], aI x1.2.1, aI x1.2.2]) rfl rfl) (OkOps.y (.agg [cI x1.1.Kind, .d (.sl (List.map AType.cs x1.1.Of))]) (OkOps.y (aI x1.2.1) (OkOps.y (aI x1.2.2) (OkOps.m 0 (triAlloc (j := 2) (cs := [cI 0, .d (.v (.slice none 0 0))]) rfl rfl rfl rfl) (OkOps.w (triStore (cs' := [cI x1.1.Kind, .d (.sl (List.map AType.cs x1.1.Of))]) rfl rfl rfl rfl rfl rfl rfl rfl rfl) (OkOps.y (aI x1.2.1) (OkOps.y (aI x1.2.2) (OkOps.nil (Ok.seq (Ok.region (OkOps.y (.agg [cI x1.1.Kind, .d (.sl (List.map AType.cs x1.1.Of))]) (OkOps.y (aI x1.2.2) (OkOps.w (triStore (cs' := [cI x1.1.Kind, .d (.sl (List.map AType.cs x1.1.Of))]) rfl rfl rfl rfl rfl rfl rfl rfl rfl) (OkOps.y (aI x1.2.2) ?_)))))))))))))))
  refine OkOps.nil (Ok.ret ?_)
  obtain rfl := Option.some.inj hr
  exact ⟨_, rfl, .inl rfl, trivial⟩
theorem entry107 : Entry Tryd.prog 107 := ⟨_, Tryd.func107, by kernel_rfl, by kernel_rfl⟩
theorem r11_Check_c (v : AValue) {r : Int} (hr : r11_Check v = some r) : Con Tryd.prog 80 [.agg [cI v.Kind, cI v.N, cS v.S, .d (.sl (List.map AValue.cs v.L))]] [] (.s (aI r)) [] := by
  unfold r11_Check at hr
  refine Con.of_ok 11 0 [.tmp 2] [(0, .s (.agg [cI v.Kind, cI v.N, cS v.S, .d (.sl (List.map AValue.cs v.L))]))] Tryd.func80 rfl rfl rfl rfl rfl rfl rfl rfl fun w g M ρ _ => (Ok.seq (Ok.region (OkOps.m 0 (triBox (j := 0) (cs := [cI v.Kind, cI v.N, cS v.S, .d (.sl (List.map AValue.cs v.L))]) rfl rfl rfl rfl rfl) (OkOps.y (aI 0) (OkOps.nil (Ok.seq (Ok.region (OkOps.y (.agg [cI v.Kind, cI v.N, cS v.S, .d (.sl (List.map AValue.cs v.L))]) ?_))))))))
  obtain ⟨x1, hx1, hr⟩ := bind_some hr
  refine OkOps.q (triCl (tau []) (.tup [.agg [cI x1.1.Kind, .d (.sl (List.map AType.cs x1.1.Of))], aI x1.2]) [] (r11_TypeOf_c _ hx1) rfl ⟨.inl rfl, trivial⟩ trivial entry107 trivial) (OkOps.q (triMv (v := .tup [.agg [cI x1.1.Kind, .d (.sl (List.map AType.cs x1.1.Of))], aI x1.2]) rfl rfl) (OkOps.y (.agg [cI x1.1.Kind, .d (.sl (List.map AType.cs x1.1.Of))]) (OkOps.y (aI x1.2) (OkOps.m 0 (triAlloc (j := 1) (cs := [cI 0, .d (.v (.slice none 0 0))]) rfl rfl rfl rfl) (OkOps.w (triStore (cs' := [cI x1.1.Kind, .d (.sl (List.map AType.cs x1.1.Of))]) rfl rfl rfl rfl rfl rfl rfl rfl rfl) (OkOps.y (aI x1.2) (OkOps.nil (Ok.seq (Ok.region (OkOps.y (aI x1.2) (OkOps.y (aI x1.2) (OkOps.nil (Ok.ret ?_)))))))))))))
  obtain rfl := Option.some.inj hr
  exact ⟨_, rfl, .inl rfl, trivial⟩
theorem entry80 : Entry Tryd.prog 80 := ⟨_, Tryd.func80, by kernel_rfl, by kernel_rfl⟩
end Go.Proofs.YtcfegecdlbbeaaaDoor
end
section
set_option maxRecDepth 100000
namespace Go.Proofs.YtcfegecdlbbeaaaDoor
open Go Go.E2
theorem entry54 : Entry Tryd.prog 54 := ⟨_, Tryd.func54, by kernel_rfl, by kernel_rfl⟩
theorem r14_validate_B_c (self0 : View → Int → Int → Option (Int × Int)) (hself0 : ∀ (v : View) (depth : Int) (met : Int) {r : Int × Int}, self0 v depth met = some r → Con Tryd.prog 54 [.agg [cI v.Kind, cS v.Key, .d (.sl (List.map Attr.cs v.Attrs)), .d (.sl (List.map Action.cs v.Actions)), .d (.sl (List.map View.cs v.Kids))], aI depth, aI met] [] (.tup [aI r.1, aI r.2]) []) (v : View) (depth : Int) (met : Int) {r : Int × Int} (hr : r14_validate_B self0 v depth met = some r) : Con Tryd.prog 54 [.agg [cI v.Kind, cS v.Key, .d (.sl (List.map Attr.cs v.Attrs)), .d (.sl (List.map Action.cs v.Actions)), .d (.sl (List.map View.cs v.Kids))], aI depth, aI met] [] (.tup [aI r.1, aI r.2]) [] := by
  unfold r14_validate_B at hr
  refine Con.of_ok 230 0 [.tmp 6, .tmp 7] [(0, .s (.agg [cI v.Kind, cS v.Key, .d (.sl (List.map Attr.cs v.Attrs)), .d (.sl (List.map Action.cs v.Actions)), .d (.sl (List.map View.cs v.Kids))])), (1, .s (aI depth)), (2, .s (aI met))] Tryd.func54 rfl rfl rfl rfl rfl rfl rfl rfl fun w g M ρ _ => (Ok.seq (Ok.region (OkOps.m 0 (triBox (j := 0) (cs := [cI v.Kind, cS v.Key, .d (.sl (List.map Attr.cs v.Attrs)), .d (.sl (List.map Action.cs v.Actions)), .d (.sl (List.map View.cs v.Kids))]) rfl rfl rfl rfl rfl) (OkOps.y (aI 0) (OkOps.y (aI 0) (OkOps.nil (Ok.seq (Ok.region (OkOps.y (aI met) (OkOps.y (aI (IntKind.i64.wrap (met + 1))) (OkOps.y (aI (IntKind.i64.wrap (met + 1))) (OkOps.nil (Ok.seq (Ok.seq (Ok.region ?_)))))))))))))))
  refine OkOps.y (aI depth) (OkOps.y (aB (decide (depth > 16))) (OkOps.nil ?_))
  refine Ok.cond (b := decide (depth > 16)) rfl (fun h1 => ?_) (fun h1 => ?_)
  have hr := selT h1 hr
  refine Ok.seq (Ok.region (OkOps.y (aI (IntKind.i64.wrap (met + 1))) (OkOps.y (aI (IntKind.i64.wrap (met + 1))) (OkOps.y (aI 8) (OkOps.nil (Ok.ret ?_))))))
  obtain rfl := Option.some.inj hr
  exact ⟨_, rfl, .inl rfl, trivial⟩
  have hr := selF h1 hr
  refine Ok.skip (Ok.seq (Ok.seq (Ok.region (OkOps.y (aI (IntKind.i64.wrap (met + 1))) (OkOps.y (aB (decide ((IntKind.i64.wrap (met + 1)) > 400))) (OkOps.nil ?_))))))
  refine Ok.cond (b := decide ((IntKind.i64.wrap (met + 1)) > 400)) rfl (fun h2 => ?_) (fun h2 => ?_)
  have hr := selT h2 hr
  refine Ok.seq (Ok.region (OkOps.y (aI (IntKind.i64.wrap (met + 1))) (OkOps.y (aI (IntKind.i64.wrap (met + 1))) (OkOps.y (aI 2) (OkOps.nil (Ok.ret ?_))))))
  obtain rfl := Option.some.inj hr
  exact ⟨_, rfl, .inl rfl, trivial⟩
  have hr := selF h2 hr
  refine Ok.skip (Ok.seq (Ok.seq (Ok.region (OkOps.y (.c (.loc 0 0)) (OkOps.y (aI v.Kind) (OkOps.y (aB (decide (v.Kind < 1))) (OkOps.y (aB (decide (v.Kind < 1))) (OkOps.q (triQG (x := .c (.loc 0 0)) rfl rfl trivial rfl) (OkOps.q (triQG (x := aI v.Kind) rfl rfl ⟨fun h => h, trivial⟩ rfl) (OkOps.q (triQG (x := aB (decide (v.Kind > 13))) rfl rfl ⟨fun h => h, trivial⟩ rfl) ?_))))))))))
  refine OkOps.q (triOr rfl rfl (fun h => by rw [h]; rfl) rfl) ?_
  refine OkOps.nil ?_
  refine Ok.cond (b := (decide (v.Kind < 1)) || (decide (v.Kind > 13))) rfl (fun h3 => ?_) (fun h3 => ?_)
  have hr := selT h3 hr
  refine Ok.seq (Ok.region (OkOps.y (aI (IntKind.i64.wrap (met + 1))) (OkOps.y (aI (IntKind.i64.wrap (met + 1))) (OkOps.y (aI 9) (OkOps.nil (Ok.ret ?_))))))
  obtain rfl := Option.some.inj hr
  exact ⟨_, rfl, .inl rfl, trivial⟩
  have hr := selF h3 hr
  refine Ok.skip (Ok.seq (Ok.seq (Ok.region (OkOps.y (.c (.loc 0 1)) (OkOps.y (aS v.Key) ?_)))))
  obtain ⟨x4, hx4, hr⟩ := bind_some hr
  refine OkOps.q (triCl (tau []) (.s (aB x4)) [] (r14_Key_c _ hx4) rfl ⟨.inl rfl, trivial⟩ trivial entry13 trivial) (OkOps.y (aB (!x4)) (OkOps.nil ?_))
  refine Ok.cond (b := !x4) rfl (fun h5 => ?_) (fun h5 => ?_)
  have hr := selT h5 hr
  refine Ok.seq (Ok.region (OkOps.y (aI (IntKind.i64.wrap (met + 1))) (OkOps.y (aI (IntKind.i64.wrap (met + 1))) (OkOps.y (aI 4) (OkOps.nil (Ok.ret ?_))))))
  obtain rfl := Option.some.inj hr
  exact ⟨_, rfl, .inl rfl, trivial⟩
  have hr := selF h5 hr
  refine Ok.skip (Ok.seq (Ok.seq (Ok.region (OkOps.y (.c (.loc 0 2)) (OkOps.y (.c (.d (.sl (List.map Attr.cs v.Attrs)))) (OkOps.q (triLen (enc := Attr.cs) v.Attrs rfl rfl trivial rfl) (OkOps.y (aB (decide ((v.Attrs.length : Int) > 24))) (OkOps.y (aB (decide ((v.Attrs.length : Int) > 24))) (OkOps.q (triQG (x := .c (.loc 0 3)) rfl rfl trivial rfl) (OkOps.q (triQG (x := .c (.d (.sl (List.map Action.cs v.Actions)))) rfl rfl ⟨fun h => h, trivial⟩ rfl) (OkOps.q (triLenG (enc := Action.cs) v.Actions rfl rfl rfl ⟨fun h => h, trivial⟩ rfl) (OkOps.q (triQG (x := aB (decide ((v.Actions.length : Int) > 24))) rfl rfl ⟨fun h => h, trivial⟩ rfl) ?_))))))))))))
  refine OkOps.q (triOr rfl rfl (fun h => by rw [h]; rfl) rfl) ?_
  refine OkOps.y (aB ((decide ((v.Attrs.length : Int) > 24)) || (decide ((v.Actions.length : Int) > 24)))) (OkOps.q (triQG (x := .c (.loc 0 4)) rfl rfl trivial rfl) (OkOps.q (triQG (x := .c (.d (.sl (List.map View.cs v.Kids)))) rfl rfl ⟨fun h => h, trivial⟩ rfl) (OkOps.q (triLenG (enc := View.cs) v.Kids rfl rfl rfl ⟨fun h => h, trivial⟩ rfl) (OkOps.q (triQG (x := aB (decide ((v.Kids.length : Int) > 100))) rfl rfl ⟨fun h => h, trivial⟩ rfl) ?_))))
  refine OkOps.q (triOr rfl rfl (fun h => by rw [h]; rfl) rfl) ?_
  refine OkOps.nil ?_
  refine Ok.cond (b := ((decide ((v.Attrs.length : Int) > 24)) || (decide ((v.Actions.length : Int) > 24))) || (decide ((v.Kids.length : Int) > 100))) rfl (fun h6 => ?_) (fun h6 => ?_)
  have hr := selT h6 hr
  refine Ok.seq (Ok.region (OkOps.y (aI (IntKind.i64.wrap (met + 1))) (OkOps.y (aI (IntKind.i64.wrap (met + 1))) (OkOps.y (aI 2) (OkOps.nil (Ok.ret ?_))))))
  obtain rfl := Option.some.inj hr
  exact ⟨_, rfl, .inl rfl, trivial⟩
  have hr := selF h6 hr
  refine Ok.skip ?_
  obtain ⟨k8, hk8, hr⟩ := jn_some hr
  refine Ok.join (fun (s7 : Unit) => ⟨[(1, .s (aI depth)), (2, .s (aI (IntKind.i64.wrap (met + 1)))), (3, .s (.c (.loc 0 0)))], [(0, .blk [cI v.Kind, cS v.Key, .d (.sl (List.map Attr.cs v.Attrs)), .d (.sl (List.map Action.cs v.Actions)), .d (.sl (List.map View.cs v.Kids))] 31)], 0⟩) k8 r (fun s7 hr => ?_) ?_
  rw [hk8] at hr
  obtain ⟨k10, hk10, hr⟩ := jn_some hr
  refine Ok.join (fun (s9 : Unit) => ⟨[(1, .s (aI depth)), (2, .s (aI (IntKind.i64.wrap (met + 1)))), (3, .s (.c (.loc 0 0)))], [(0, .blk [cI v.Kind, cS v.Key, .d (.sl (List.map Attr.cs v.Attrs)), .d (.sl (List.map Action.cs v.Actions)), .d (.sl (List.map View.cs v.Kids))] 31)], 0⟩) k10 r (fun s9 hr => ?_) ?_
  rw [hk10] at hr
  obtain ⟨k12, hk12, hr⟩ := jn_some hr
  refine Ok.join (fun (s11 : Unit) => ⟨[(1, .s (aI depth)), (2, .s (aI (IntKind.i64.wrap (met + 1)))), (3, .s (.c (.loc 0 0)))], [(0, .blk [cI v.Kind, cS v.Key, .d (.sl (List.map Attr.cs v.Attrs)), .d (.sl (List.map Action.cs v.Actions)), .d (.sl (List.map View.cs v.Kids))] 31)], 0⟩) k12 r (fun s11 hr => ?_) ?_
  rw [hk12] at hr
  obtain ⟨k14, hk14, hr⟩ := jn_some hr
  refine Ok.join (fun (s13 : Int) => ⟨[(2, .s (aI s13))], [], 0⟩) k14 r (fun s13 hr => ?_) ?_
  rw [hk14] at hr
  refine Ok.seq (Ok.region (OkOps.y (aI s13) (OkOps.y (aI s13) (OkOps.y (aI 0) (OkOps.nil (Ok.ret ?_))))))
  obtain rfl := Option.some.inj hr
  exact ⟨_, rfl, .inl rfl, trivial⟩
  clear hk14
  refine Ok.seq (Ok.region (OkOps.y (aI 0) (OkOps.nil (Ok.block (Ok.loopK (fun (s15 : Int × Int) => ⟨[(1, .s (aI depth)), (2, .s (aI s15.1)), (3, .s (.c (.loc 0 0))), (16, .s (aI s15.2))], [(0, .blk [cI v.Kind, cS v.Key, .d (.sl (List.map Attr.cs v.Attrs)), .d (.sl (List.map Action.cs v.Actions)), .d (.sl (List.map View.cs v.Kids))] 31)], 0⟩) hr (Conv.mk (tau []) ⟨⟨_, rfl, .inl rfl⟩, ⟨_, rfl, .inl rfl⟩, ⟨_, rfl, .inl rfl⟩, ⟨_, rfl, .inl rfl⟩, trivial⟩ ⟨rfl, trivial⟩ rfl rfl rfl rfl) ?_)))))
  clear hr
  intro again16 s15 hr
  unfold r14_validate_L1 at hr
  refine Ok.seq (Ok.seq (Ok.region (OkOps.y (aI s15.2) (OkOps.y (.c (.loc 0 4)) (OkOps.y (.c (.d (.sl (List.map View.cs v.Kids)))) (OkOps.q (triLen (enc := View.cs) v.Kids rfl rfl trivial rfl) (OkOps.y (aB (decide (s15.2 < (v.Kids.length : Int)))) (OkOps.nil ?_))))))))
  refine Ok.cond (b := decide (s15.2 < (v.Kids.length : Int))) rfl (fun h17 => ?_) (fun h17 => ?_)
  have hr := selT h17 hr
  refine Ok.skip (Ok.seq (Ok.block (Ok.seq (Ok.region (OkOps.y (.c (.loc 0 4)) (OkOps.y (.c (.d (.sl (List.map View.cs v.Kids)))) (OkOps.y (aI s15.2) ?_)))))))
  obtain ⟨x18, hx18, hr⟩ := bind_some hr
  refine OkOps.q (triIdx (enc := View.cs) (L := v.Kids) (row := [dI x18.Kind, dS x18.Key, .sl (List.map Attr.cs x18.Attrs), .sl (List.map Action.cs x18.Actions), .sl (List.map View.cs x18.Kids)]) hx18 (View.cs_eq _) rfl rfl rfl (fun x => by rw [View.cs_eq]; rfl) trivial rfl) ?_
  refine OkOps.y (.agg [cI x18.Kind, cS x18.Key, .d (.sl (List.map Attr.cs x18.Attrs)), .d (.sl (List.map Action.cs x18.Actions)), .d (.sl (List.map View.cs x18.Kids))]) (OkOps.y (aI depth) (OkOps.y (aI (IntKind.i64.wrap (depth + 1))) (OkOps.y (aI s15.1) ?_)))
  obtain ⟨x19, hx19, hr⟩ := bind_some hr
  refine OkOps.q (triCl (tau []) (.tup [aI x19.1, aI x19.2]) [] (hself0 _ _ _ hx19) rfl ⟨.inl rfl, .inl rfl, .inl rfl, trivial⟩ trivial entry54 trivial) (OkOps.q (triMv (v := .tup [aI x19.1, aI x19.2]) rfl rfl) (OkOps.y (aI x19.1) (OkOps.y (aI x19.2) (OkOps.y (aI x19.1) (OkOps.y (aI x19.2) (OkOps.nil (Ok.seq (Ok.region (OkOps.y (aI x19.1) (OkOps.y (aI x19.1) (OkOps.nil (Ok.seq (Ok.region (OkOps.y (aI x19.2) (OkOps.y (aB (x19.2 != 0)) ?_)))))))))))))))
  refine OkOps.nil ?_
  refine Ok.cond (b := x19.2 != 0) rfl (fun h20 => ?_) (fun h20 => ?_)
  have hr := selT h20 hr
  refine Ok.seq (Ok.region (OkOps.y (aI x19.1) (OkOps.y (aI x19.2) (OkOps.y (aI x19.1) (OkOps.y (aI x19.2) (OkOps.nil (Ok.ret ?_)))))))
  obtain rfl := Option.some.inj hr
  exact ⟨_, rfl, .inl rfl, trivial⟩
  have hr := selF h20 hr
  refine Ok.skip (Ok.region (OkOps.y (aI s15.2) (OkOps.y (aI (IntKind.i64.wrap (s15.2 + 1))) (OkOps.y (aI (IntKind.i64.wrap (s15.2 + 1))) (OkOps.nil ?_)))))
  exact ⟨(x19.1, IntKind.i64.wrap (s15.2 + 1)), hr, (Conv.mk (tau []) ⟨⟨_, rfl, .inl rfl⟩, ⟨_, rfl, .inl rfl⟩, ⟨_, rfl, .inl rfl⟩, ⟨_, rfl, .inl rfl⟩, trivial⟩ ⟨rfl, trivial⟩ rfl rfl rfl rfl)⟩
  have hr := selF h17 hr
  refine Ok.exit ?_
  exact ⟨s15.1, hr, (Conv.mk (tau []) ⟨⟨_, rfl, .inl rfl⟩, trivial⟩ trivial rfl rfl rfl rfl)⟩
  clear hk12
  refine Ok.seq (Ok.region (OkOps.y (aI 0) (OkOps.nil (Ok.block (Ok.loopK (fun (s21 : Int) => ⟨[(1, .s (aI depth)), (2, .s (aI (IntKind.i64.wrap (met + 1)))), (3, .s (.c (.loc 0 0))), (14, .s (aI s21))], [(0, .blk [cI v.Kind, cS v.Key, .d (.sl (List.map Attr.cs v.Attrs)), .d (.sl (List.map Action.cs v.Actions)), .d (.sl (List.map View.cs v.Kids))] 31)], 0⟩) hr (Conv.mk (tau []) ⟨⟨_, rfl, .inl rfl⟩, ⟨_, rfl, .inl rfl⟩, ⟨_, rfl, .inl rfl⟩, ⟨_, rfl, .inl rfl⟩, trivial⟩ ⟨rfl, trivial⟩ rfl rfl rfl rfl) ?_)))))
  clear hr
  intro again22 s21 hr
  unfold r14_validate_L3 at hr
  refine Ok.seq (Ok.seq (Ok.region (OkOps.y (aI s21) (OkOps.y (.c (.loc 0 4)) (OkOps.y (.c (.d (.sl (List.map View.cs v.Kids)))) (OkOps.q (triLen (enc := View.cs) v.Kids rfl rfl trivial rfl) (OkOps.y (aB (decide (s21 < (v.Kids.length : Int)))) (OkOps.nil ?_))))))))
  refine Ok.cond (b := decide (s21 < (v.Kids.length : Int))) rfl (fun h23 => ?_) (fun h23 => ?_)
  have hr := selT h23 hr
  refine Ok.skip ?_
  obtain ⟨k25, hk25, hr⟩ := jn_some hr
  refine Ok.join (fun (s24 : Unit) => ⟨[(1, .s (aI depth)), (2, .s (aI (IntKind.i64.wrap (met + 1)))), (3, .s (.c (.loc 0 0))), (14, .s (aI s21))], [(0, .blk [cI v.Kind, cS v.Key, .d (.sl (List.map Attr.cs v.Attrs)), .d (.sl (List.map Action.cs v.Actions)), .d (.sl (List.map View.cs v.Kids))] 31)], 0⟩) k25 r (fun s24 hr => ?_) ?_
  rw [hk25] at hr
  refine Ok.region (OkOps.y (aI s21) (OkOps.y (aI (IntKind.i64.wrap (s21 + 1))) (OkOps.y (aI (IntKind.i64.wrap (s21 + 1))) (OkOps.nil ?_))))
  exact ⟨IntKind.i64.wrap (s21 + 1), hr, (Conv.mk (tau []) ⟨⟨_, rfl, .inl rfl⟩, ⟨_, rfl, .inl rfl⟩, ⟨_, rfl, .inl rfl⟩, ⟨_, rfl, .inl rfl⟩, trivial⟩ ⟨rfl, trivial⟩ rfl rfl rfl rfl)⟩
  clear hk25
  refine Ok.block (Ok.seq (Ok.region (OkOps.y (aI 0) (OkOps.nil ?_))))
  obtain ⟨k27, hk27, hr⟩ := jn_some hr
  refine Ok.joinEnd (fun (s26 : Unit) => ⟨[(1, .s (aI depth)), (2, .s (aI (IntKind.i64.wrap (met + 1)))), (3, .s (.c (.loc 0 0))), (14, .s (aI s21))], [(0, .blk [cI v.Kind, cS v.Key, .d (.sl (List.map Attr.cs v.Attrs)), .d (.sl (List.map Action.cs v.Actions)), .d (.sl (List.map View.cs v.Kids))] 31)], 0⟩) k27 r (fun s26 hr => ?_) ?_
  rw [hk27] at hr
  exact ⟨(), hr, (Conv.mk (tau []) ⟨⟨_, rfl, .inl rfl⟩, ⟨_, rfl, .inl rfl⟩, ⟨_, rfl, .inl rfl⟩, ⟨_, rfl, .inl rfl⟩, trivial⟩ ⟨rfl, trivial⟩ rfl rfl rfl rfl)⟩
  clear hk27
  refine Ok.block (Ok.loopK (fun (s28 : Int) => ⟨[(1, .s (aI depth)), (2, .s (aI (IntKind.i64.wrap (met + 1)))), (3, .s (.c (.loc 0 0))), (14, .s (aI s21)), (15, .s (aI s28))], [(0, .blk [cI v.Kind, cS v.Key, .d (.sl (List.map Attr.cs v.Attrs)), .d (.sl (List.map Action.cs v.Actions)), .d (.sl (List.map View.cs v.Kids))] 31)], 0⟩) hr (Conv.mk (tau []) ⟨⟨_, rfl, .inl rfl⟩, ⟨_, rfl, .inl rfl⟩, ⟨_, rfl, .inl rfl⟩, ⟨_, rfl, .inl rfl⟩, ⟨_, rfl, .inl rfl⟩, trivial⟩ ⟨rfl, trivial⟩ rfl rfl rfl rfl) ?_)
  clear hr
  intro again29 s28 hr
  unfold r14_validate_L2 at hr
  refine Ok.seq (Ok.seq (Ok.region (OkOps.y (aI s28) (OkOps.y (aI s21) (OkOps.y (aB (decide (s28 < s21))) (OkOps.nil ?_))))))
  refine Ok.cond (b := decide (s28 < s21)) rfl (fun h30 => ?_) (fun h30 => ?_)
  have hr := selT h30 hr
  refine Ok.skip (Ok.seq (Ok.block (Ok.seq (Ok.regionD (by kernel_rfl) (OkD.x (.c (.loc 0 4)) rfl trivial rfl (OkD.x (.c (.d (.sl (List.map View.cs v.Kids)))) rfl trivial rfl (OkD.x (aI s21) rfl trivial rfl ?_)))))))
  obtain ⟨x31, hx31, hr⟩ := bind_some hr
  refine OkD.q (triIdx (enc := View.cs) (L := v.Kids) (row := [dI x31.Kind, dS x31.Key, .sl (List.map Attr.cs x31.Attrs), .sl (List.map Action.cs x31.Actions), .sl (List.map View.cs x31.Kids)]) hx31 (View.cs_eq _) rfl rfl rfl (fun x => by rw [View.cs_eq]; rfl) trivial rfl) ?_
  refine OkD.x (.c (.pt [dS x31.Key, .sl (List.map Attr.cs x31.Attrs), .sl (List.map Action.cs x31.Actions), .sl (List.map View.cs x31.Kids)])) rfl trivial rfl (OkD.x (aS x31.Key) rfl trivial rfl (OkD.x (aB (!(x31.Key.toList == (ByteArray.mk #[]).toList))) rfl trivial rfl (OkD.x (aB (!(x31.Key.toList == (ByteArray.mk #[]).toList))) rfl trivial rfl (OkD.q (triQG (x := .c (.loc 0 4)) rfl rfl trivial rfl) (OkD.q (triQG (x := .c (.d (.sl (List.map View.cs v.Kids)))) rfl rfl ⟨fun h => h, trivial⟩ rfl) (OkD.q (triQG (x := aI s21) rfl rfl trivial rfl) ?_))))))
  obtain ⟨x32, hx32, hr⟩ := bind_some hr
  refine OkD.q (triIdxG (enc := View.cs) (L := v.Kids) (row := [dI x32.Kind, dS x32.Key, .sl (List.map Attr.cs x32.Attrs), .sl (List.map Action.cs x32.Actions), .sl (List.map View.cs x32.Kids)]) (gO_t hx32) (View.cs_eq _) rfl rfl rfl rfl (fun x => by rw [View.cs_eq]; rfl) ⟨fun h => h, ⟨fun h => h, trivial⟩⟩ rfl) ?_
  refine OkD.q (triQG (x := .c (.pt [dS x32.Key, .sl (List.map Attr.cs x32.Attrs), .sl (List.map Action.cs x32.Actions), .sl (List.map View.cs x32.Kids)])) rfl rfl ⟨fun h => h, trivial⟩ rfl) (OkD.q (triQG (x := aS x32.Key) rfl rfl ⟨fun h => h, trivial⟩ rfl) (OkD.q (triQG (x := .c (.loc 0 4)) rfl rfl trivial rfl) (OkD.q (triQG (x := .c (.d (.sl (List.map View.cs v.Kids)))) rfl rfl ⟨fun h => h, trivial⟩ rfl) (OkD.q (triQG (x := aI s28) rfl rfl trivial rfl) ?_))))
  obtain ⟨x33, hx33, hr⟩ := bind_some hr
  refine OkD.q (triIdxG (enc := View.cs) (L := v.Kids) (row := [dI x33.Kind, dS x33.Key, .sl (List.map Attr.cs x33.Attrs), .sl (List.map Action.cs x33.Actions), .sl (List.map View.cs x33.Kids)]) (gO_t hx33) (View.cs_eq _) rfl rfl rfl rfl (fun x => by rw [View.cs_eq]; rfl) ⟨fun h => h, ⟨fun h => h, trivial⟩⟩ rfl) ?_
  refine OkD.q (triQG (x := .c (.pt [dS x33.Key, .sl (List.map Attr.cs x33.Attrs), .sl (List.map Action.cs x33.Actions), .sl (List.map View.cs x33.Kids)])) rfl rfl ⟨fun h => h, trivial⟩ rfl) (OkD.q (triQG (x := aS x33.Key) rfl rfl ⟨fun h => h, trivial⟩ rfl) (OkD.q (triQG (x := aB (x32.Key.toList == x33.Key.toList)) rfl rfl ⟨fun h => h, ⟨fun h => h, trivial⟩⟩ rfl) (OkD.q (triAnd rfl rfl (fun h => h) rfl) (OkD.nil (by kernel_rfl) ?_))))
  refine Ok.cond (b := (!(x31.Key.toList == (ByteArray.mk #[]).toList)) && (x32.Key.toList == x33.Key.toList)) rfl (fun h34 => ?_) (fun h34 => ?_)
  have hr := selT h34 hr
  refine Ok.seq (Ok.region (OkOps.y (aI (IntKind.i64.wrap (met + 1))) (OkOps.y (aI (IntKind.i64.wrap (met + 1))) (OkOps.y (aI 6) (OkOps.nil (Ok.ret ?_))))))
  obtain rfl := Option.some.inj hr
  exact ⟨_, rfl, .inl rfl, trivial⟩
  have hr := selF h34 hr
  refine Ok.skip (Ok.region (OkOps.y (aI s28) (OkOps.y (aI (IntKind.i64.wrap (s28 + 1))) (OkOps.y (aI (IntKind.i64.wrap (s28 + 1))) (OkOps.nil ?_)))))
  exact ⟨IntKind.i64.wrap (s28 + 1), hr, (Conv.mk (tau []) ⟨⟨_, rfl, .inl rfl⟩, ⟨_, rfl, .inl rfl⟩, ⟨_, rfl, .inl rfl⟩, ⟨_, rfl, .inl rfl⟩, ⟨_, rfl, .inl rfl⟩, trivial⟩ ⟨rfl, trivial⟩ rfl rfl rfl rfl)⟩
  have hr := selF h30 hr
  refine Ok.exit ?_
  exact ⟨(), hr, (Conv.mk (tau []) ⟨⟨_, rfl, .inl rfl⟩, ⟨_, rfl, .inl rfl⟩, ⟨_, rfl, .inl rfl⟩, ⟨_, rfl, .inl rfl⟩, trivial⟩ ⟨rfl, trivial⟩ rfl rfl rfl rfl)⟩
  have hr := selF h23 hr
  refine Ok.exit ?_
  exact ⟨(), hr, (Conv.mk (tau []) ⟨⟨_, rfl, .inl rfl⟩, ⟨_, rfl, .inl rfl⟩, ⟨_, rfl, .inl rfl⟩, trivial⟩ ⟨rfl, trivial⟩ rfl rfl rfl rfl)⟩
  clear hk10
  refine Ok.seq (Ok.region (OkOps.y (aI 0) (OkOps.nil (Ok.block (Ok.loopK (fun (s35 : Int) => ⟨[(1, .s (aI depth)), (2, .s (aI (IntKind.i64.wrap (met + 1)))), (3, .s (.c (.loc 0 0))), (10, .s (aI s35))], [(0, .blk [cI v.Kind, cS v.Key, .d (.sl (List.map Attr.cs v.Attrs)), .d (.sl (List.map Action.cs v.Actions)), .d (.sl (List.map View.cs v.Kids))] 31)], 0⟩) hr (Conv.mk (tau []) ⟨⟨_, rfl, .inl rfl⟩, ⟨_, rfl, .inl rfl⟩, ⟨_, rfl, .inl rfl⟩, ⟨_, rfl, .inl rfl⟩, trivial⟩ ⟨rfl, trivial⟩ rfl rfl rfl rfl) ?_)))))
  clear hr
  intro again36 s35 hr
  unfold r14_validate_L5 at hr
  refine Ok.seq (Ok.seq (Ok.region (OkOps.y (aI s35) (OkOps.y (.c (.loc 0 3)) (OkOps.y (.c (.d (.sl (List.map Action.cs v.Actions)))) (OkOps.q (triLen (enc := Action.cs) v.Actions rfl rfl trivial rfl) (OkOps.y (aB (decide (s35 < (v.Actions.length : Int)))) (OkOps.nil ?_))))))))
  refine Ok.cond (b := decide (s35 < (v.Actions.length : Int))) rfl (fun h37 => ?_) (fun h37 => ?_)
  have hr := selT h37 hr
  refine Ok.skip ?_
  obtain ⟨k39, hk39, hr⟩ := jn_some hr
  refine Ok.join (fun (s38 : Unit) => ⟨[(1, .s (aI depth)), (2, .s (aI (IntKind.i64.wrap (met + 1)))), (3, .s (.c (.loc 0 0))), (10, .s (aI s35))], [(0, .blk [cI v.Kind, cS v.Key, .d (.sl (List.map Attr.cs v.Attrs)), .d (.sl (List.map Action.cs v.Actions)), .d (.sl (List.map View.cs v.Kids))] 31)], 0⟩) k39 r (fun s38 hr => ?_) ?_
  rw [hk39] at hr
  refine Ok.region (OkOps.y (aI s35) (OkOps.y (aI (IntKind.i64.wrap (s35 + 1))) (OkOps.y (aI (IntKind.i64.wrap (s35 + 1))) (OkOps.nil ?_))))
  exact ⟨IntKind.i64.wrap (s35 + 1), hr, (Conv.mk (tau []) ⟨⟨_, rfl, .inl rfl⟩, ⟨_, rfl, .inl rfl⟩, ⟨_, rfl, .inl rfl⟩, ⟨_, rfl, .inl rfl⟩, trivial⟩ ⟨rfl, trivial⟩ rfl rfl rfl rfl)⟩
  clear hk39
  refine Ok.block (Ok.seq (Ok.region (OkOps.y (.c (.loc 0 3)) (OkOps.y (.c (.d (.sl (List.map Action.cs v.Actions)))) (OkOps.y (aI s35) ?_)))))
  obtain ⟨x40, hx40, hr⟩ := bind_some hr
  refine OkOps.q (triIdx (enc := Action.cs) (L := v.Actions) (row := [dS x40.Event, dS x40.Instance, dS x40.Handler, .sl (List.map AValue.cs x40.Args)]) hx40 rfl rfl rfl rfl (fun _ => rfl) trivial rfl) (OkOps.y (.agg [cS x40.Event, cS x40.Instance, cS x40.Handler, .d (.sl (List.map AValue.cs x40.Args))]) (OkOps.m 0 (triAlloc (j := 1) (cs := [cS ByteArray.empty, cS ByteArray.empty, cS ByteArray.empty, .d (.v (.slice none 0 0))]) rfl rfl rfl rfl) (OkOps.w (triStore (cs' := [cS x40.Event, cS x40.Instance, cS x40.Handler, .d (.sl (List.map AValue.cs x40.Args))]) rfl rfl rfl rfl rfl rfl rfl rfl rfl) (OkOps.nil (Ok.seq (Ok.seq (Ok.region (OkOps.y (.c (.loc 1 0)) (OkOps.y (aS x40.Event) ?_)))))))))
  obtain ⟨x41, hx41, hr⟩ := bind_some hr
  refine OkOps.q (triCl (tau []) (.s (aB x41)) [] (r11_Name_c _ hx41) rfl ⟨.inl rfl, trivial⟩ trivial entry79 trivial) (OkOps.y (aB (!x41)) (OkOps.y (aB (!x41)) (OkOps.q (triQG (x := .c (.loc 1 2)) rfl rfl trivial rfl) (OkOps.q (triQG (x := aS x40.Handler) rfl rfl ⟨fun h => h, trivial⟩ rfl) ?_))))
  obtain ⟨x42, hx42, hr⟩ := bind_some hr
  refine OkOps.q (triCallG (x := aB x42) (fun hg => r11_Name_c _ (gO_t hx42 hg)) rfl rfl ⟨.inl rfl, trivial⟩ ⟨fun h => h, trivial⟩ entry79 rfl rfl rfl) (OkOps.q (triQG (x := aB (!x42)) rfl rfl ⟨fun h => h, trivial⟩ rfl) ?_)
  refine OkOps.q (triOr rfl rfl (fun h => by rw [h]; rfl) rfl) ?_
  refine OkOps.nil ?_
  refine Ok.cond (b := (!x41) || (!x42)) rfl (fun h43 => ?_) (fun h43 => ?_)
  have hr := selT h43 hr
  refine Ok.seq (Ok.region (OkOps.y (aI (IntKind.i64.wrap (met + 1))) (OkOps.y (aI (IntKind.i64.wrap (met + 1))) (OkOps.y (aI 4) (OkOps.nil (Ok.ret ?_))))))
  obtain rfl := Option.some.inj hr
  exact ⟨_, rfl, .inl rfl, trivial⟩
  have hr := selF h43 hr
  refine Ok.skip (Ok.seq (Ok.seq (Ok.regionD (by kernel_rfl) (OkD.x (aI s35) rfl trivial rfl (OkD.x (aB (decide (s35 > 0))) rfl trivial rfl (OkD.x (aB (decide (s35 > 0))) rfl trivial rfl (OkD.q (triQG (x := .c (.loc 1 0)) rfl rfl trivial rfl) (OkD.q (triQG (x := aS x40.Event) rfl rfl ⟨fun h => h, trivial⟩ rfl) (OkD.q (triQG (x := .c (.loc 0 3)) rfl rfl trivial rfl) (OkD.q (triQG (x := .c (.d (.sl (List.map Action.cs v.Actions)))) rfl rfl ⟨fun h => h, trivial⟩ rfl) (OkD.q (triQG (x := aI s35) rfl rfl trivial rfl) (OkD.q (triQG (x := aI (IntKind.i64.wrap (s35 - 1))) rfl rfl ⟨fun h => h, trivial⟩ rfl) ?_))))))))))))
  obtain ⟨x44, hx44, hr⟩ := bind_some hr
  refine OkD.q (triIdxG (enc := Action.cs) (L := v.Actions) (row := [dS x44.Event, dS x44.Instance, dS x44.Handler, .sl (List.map AValue.cs x44.Args)]) (gO_t hx44) rfl rfl rfl rfl rfl (fun _ => rfl) ⟨fun h => h, ⟨fun h => h, trivial⟩⟩ rfl) (OkD.q (triQG (x := .c (.pt [dS x44.Event, dS x44.Instance, dS x44.Handler, .sl (List.map AValue.cs x44.Args)])) rfl rfl ⟨fun h => h, trivial⟩ rfl) (OkD.q (triQG (x := aS x44.Event) rfl rfl ⟨fun h => h, trivial⟩ rfl) (OkD.q (triQG (x := aB (Op.bytesLess x40.Event.toList x44.Event.toList || x40.Event.toList == x44.Event.toList)) rfl rfl ⟨fun h => h, ⟨fun h => h, trivial⟩⟩ rfl) (OkD.q (triAnd rfl rfl (fun h => h) rfl) (OkD.nil (by kernel_rfl) ?_)))))
  refine Ok.cond (b := (decide (s35 > 0)) && (Op.bytesLess x40.Event.toList x44.Event.toList || x40.Event.toList == x44.Event.toList)) rfl (fun h45 => ?_) (fun h45 => ?_)
  have hr := selT h45 hr
  refine Ok.seq (Ok.region (OkOps.y (aI (IntKind.i64.wrap (met + 1))) (OkOps.y (aI (IntKind.i64.wrap (met + 1))) (OkOps.y (aI 10) (OkOps.nil (Ok.ret ?_))))))
  obtain rfl := Option.some.inj hr
  exact ⟨_, rfl, .inl rfl, trivial⟩
  have hr := selF h45 hr
  refine Ok.skip (Ok.seq (Ok.seq (Ok.region (OkOps.y (.c (.loc 1 1)) (OkOps.y (aS x40.Instance) (OkOps.y (aI (x40.Instance.size : Int)) (OkOps.y (aB (decide ((x40.Instance.size : Int) > 400))) (OkOps.y (aB (decide ((x40.Instance.size : Int) > 400))) (OkOps.q (triQG (x := .c (.loc 1 3)) rfl rfl trivial rfl) (OkOps.q (triQG (x := .c (.d (.sl (List.map AValue.cs x40.Args)))) rfl rfl ⟨fun h => h, trivial⟩ rfl) (OkOps.q (triLenG (enc := AValue.cs) x40.Args rfl rfl rfl ⟨fun h => h, trivial⟩ rfl) (OkOps.q (triQG (x := aB (decide ((x40.Args.length : Int) > 100))) rfl rfl ⟨fun h => h, trivial⟩ rfl) ?_))))))))))))
  refine OkOps.q (triOr rfl rfl (fun h => by rw [h]; rfl) rfl) ?_
  refine OkOps.nil ?_
  refine Ok.cond (b := (decide ((x40.Instance.size : Int) > 400)) || (decide ((x40.Args.length : Int) > 100))) rfl (fun h46 => ?_) (fun h46 => ?_)
  have hr := selT h46 hr
  refine Ok.seq (Ok.region (OkOps.y (aI (IntKind.i64.wrap (met + 1))) (OkOps.y (aI (IntKind.i64.wrap (met + 1))) (OkOps.y (aI 2) (OkOps.nil (Ok.ret ?_))))))
  obtain rfl := Option.some.inj hr
  exact ⟨_, rfl, .inl rfl, trivial⟩
  have hr := selF h46 hr
  refine Ok.skip (Ok.seq (Ok.region (OkOps.y (aI 0) (OkOps.nil ?_))))
  obtain ⟨k48, hk48, hr⟩ := jn_some hr
  refine Ok.joinEnd (fun (s47 : Unit) => ⟨[(1, .s (aI depth)), (2, .s (aI (IntKind.i64.wrap (met + 1)))), (3, .s (.c (.loc 0 0))), (10, .s (aI s35))], [(0, .blk [cI v.Kind, cS v.Key, .d (.sl (List.map Attr.cs v.Attrs)), .d (.sl (List.map Action.cs v.Actions)), .d (.sl (List.map View.cs v.Kids))] 31)], 0⟩) k48 r (fun s47 hr => ?_) ?_
  rw [hk48] at hr
  exact ⟨(), hr, (Conv.mk (tau []) ⟨⟨_, rfl, .inl rfl⟩, ⟨_, rfl, .inl rfl⟩, ⟨_, rfl, .inl rfl⟩, ⟨_, rfl, .inl rfl⟩, trivial⟩ ⟨rfl, trivial⟩ rfl rfl rfl rfl)⟩
  clear hk48
  refine Ok.block (Ok.loopK (fun (s49 : Int) => ⟨[(1, .s (aI depth)), (2, .s (aI (IntKind.i64.wrap (met + 1)))), (3, .s (.c (.loc 0 0))), (10, .s (aI s35)), (11, .s (.c (.loc 1 0))), (12, .s (aI s49))], [(0, .blk [cI v.Kind, cS v.Key, .d (.sl (List.map Attr.cs v.Attrs)), .d (.sl (List.map Action.cs v.Actions)), .d (.sl (List.map View.cs v.Kids))] 31), (1, .blk [cS x40.Event, cS x40.Instance, cS x40.Handler, .d (.sl (List.map AValue.cs x40.Args))] 45)], 0⟩) hr (Conv.mk (tau []) ⟨⟨_, rfl, .inl rfl⟩, ⟨_, rfl, .inl rfl⟩, ⟨_, rfl, .inl rfl⟩, ⟨_, rfl, .inl rfl⟩, ⟨_, rfl, .inl rfl⟩, ⟨_, rfl, .inl rfl⟩, trivial⟩ ⟨rfl, rfl, trivial⟩ rfl rfl rfl rfl) ?_)
  clear hr
  intro again50 s49 hr
  unfold r14_validate_L4 at hr
  refine Ok.seq (Ok.seq (Ok.region (OkOps.y (aI s49) (OkOps.y (.c (.loc 1 3)) (OkOps.y (.c (.d (.sl (List.map AValue.cs x40.Args)))) (OkOps.q (triLen (enc := AValue.cs) x40.Args rfl rfl trivial rfl) (OkOps.y (aB (decide (s49 < (x40.Args.length : Int)))) (OkOps.nil ?_))))))))
  refine Ok.cond (b := decide (s49 < (x40.Args.length : Int))) rfl (fun h51 => ?_) (fun h51 => ?_)
  have hr := selT h51 hr
  refine Ok.skip (Ok.seq (Ok.block (Ok.seq (Ok.region (OkOps.y (.c (.loc 1 3)) (OkOps.y (.c (.d (.sl (List.map AValue.cs x40.Args)))) (OkOps.y (aI s49) ?_)))))))
  obtain ⟨x52, hx52, hr⟩ := bind_some hr
  refine OkOps.q (triIdx (enc := AValue.cs) (L := x40.Args) (row := [dI x52.Kind, dI x52.N, dS x52.S, .sl (List.map AValue.cs x52.L)]) hx52 (AValue.cs_eq _) rfl rfl rfl (fun x => by rw [AValue.cs_eq]; rfl) trivial rfl) ?_
  refine OkOps.y (.agg [cI x52.Kind, cI x52.N, cS x52.S, .d (.sl (List.map AValue.cs x52.L))]) ?_
  obtain ⟨x53, hx53, hr⟩ := bind_some hr
  refine OkOps.q (triCl (tau []) (.s (aI x53)) [] (r11_Check_c _ hx53) rfl ⟨.inl rfl, trivial⟩ trivial entry80 trivial) (OkOps.y (aI x53) (OkOps.nil (Ok.seq (Ok.region (OkOps.y (aI x53) (OkOps.y (aB (x53 != 0)) (OkOps.nil ?_)))))))
  refine Ok.cond (b := x53 != 0) rfl (fun h54 => ?_) (fun h54 => ?_)
  have hr := selT h54 hr
  refine Ok.seq (Ok.region (OkOps.y (aI (IntKind.i64.wrap (met + 1))) (OkOps.y (aI x53) (OkOps.y (aI (IntKind.i64.wrap (met + 1))) (OkOps.y (aI x53) (OkOps.nil (Ok.ret ?_)))))))
  obtain rfl := Option.some.inj hr
  exact ⟨_, rfl, .inl rfl, trivial⟩
  have hr := selF h54 hr
  refine Ok.skip (Ok.region (OkOps.y (aI s49) (OkOps.y (aI (IntKind.i64.wrap (s49 + 1))) (OkOps.y (aI (IntKind.i64.wrap (s49 + 1))) (OkOps.nil ?_)))))
  exact ⟨IntKind.i64.wrap (s49 + 1), hr, (Conv.mk (tau []) ⟨⟨_, rfl, .inl rfl⟩, ⟨_, rfl, .inl rfl⟩, ⟨_, rfl, .inl rfl⟩, ⟨_, rfl, .inl rfl⟩, ⟨_, rfl, .inl rfl⟩, ⟨_, rfl, .inl rfl⟩, trivial⟩ ⟨rfl, rfl, trivial⟩ rfl rfl rfl rfl)⟩
  have hr := selF h51 hr
  refine Ok.exit ?_
  exact ⟨(), hr, (Conv.mk (tau []) ⟨⟨_, rfl, .inl rfl⟩, ⟨_, rfl, .inl rfl⟩, ⟨_, rfl, .inl rfl⟩, ⟨_, rfl, .inl rfl⟩, trivial⟩ ⟨rfl, trivial⟩ rfl rfl rfl rfl)⟩
  have hr := selF h37 hr
  refine Ok.exit ?_
  exact ⟨(), hr, (Conv.mk (tau []) ⟨⟨_, rfl, .inl rfl⟩, ⟨_, rfl, .inl rfl⟩, ⟨_, rfl, .inl rfl⟩, trivial⟩ ⟨rfl, trivial⟩ rfl rfl rfl rfl)⟩
  clear hk8
  refine Ok.seq (Ok.region (OkOps.y (aI 0) (OkOps.nil (Ok.block (Ok.loopK (fun (s55 : Int) => ⟨[(1, .s (aI depth)), (2, .s (aI (IntKind.i64.wrap (met + 1)))), (3, .s (.c (.loc 0 0))), (8, .s (aI s55))], [(0, .blk [cI v.Kind, cS v.Key, .d (.sl (List.map Attr.cs v.Attrs)), .d (.sl (List.map Action.cs v.Actions)), .d (.sl (List.map View.cs v.Kids))] 31)], 0⟩) hr (Conv.mk (tau []) ⟨⟨_, rfl, .inl rfl⟩, ⟨_, rfl, .inl rfl⟩, ⟨_, rfl, .inl rfl⟩, ⟨_, rfl, .inl rfl⟩, trivial⟩ ⟨rfl, trivial⟩ rfl rfl rfl rfl) ?_)))))
  clear hr
  intro again56 s55 hr
  unfold r14_validate_L6 at hr
  refine Ok.seq (Ok.seq (Ok.region (OkOps.y (aI s55) (OkOps.y (.c (.loc 0 2)) (OkOps.y (.c (.d (.sl (List.map Attr.cs v.Attrs)))) (OkOps.q (triLen (enc := Attr.cs) v.Attrs rfl rfl trivial rfl) (OkOps.y (aB (decide (s55 < (v.Attrs.length : Int)))) (OkOps.nil ?_))))))))
  refine Ok.cond (b := decide (s55 < (v.Attrs.length : Int))) rfl (fun h57 => ?_) (fun h57 => ?_)
  have hr := selT h57 hr
  refine Ok.skip (Ok.seq (Ok.block (Ok.seq (Ok.seq (Ok.region (OkOps.y (.c (.loc 0 2)) (OkOps.y (.c (.d (.sl (List.map Attr.cs v.Attrs)))) (OkOps.y (aI s55) ?_))))))))
  obtain ⟨x58, hx58, hr⟩ := bind_some hr
  refine OkOps.q (triIdx (enc := Attr.cs) (L := v.Attrs) (row := [dS x58.Name, dI x58.Value.Kind, dI x58.Value.N, dS x58.Value.S, .sl (List.map AValue.cs x58.Value.L)]) hx58 rfl rfl rfl rfl (fun _ => rfl) trivial rfl) (OkOps.y (.c (.pt [dS x58.Name, dI x58.Value.Kind, dI x58.Value.N, dS x58.Value.S, .sl (List.map AValue.cs x58.Value.L)])) (OkOps.y (aS x58.Name) ?_))
  obtain ⟨x59, hx59, hr⟩ := bind_some hr
  refine OkOps.q (triCl (tau []) (.s (aB x59)) [] (r11_Name_c _ hx59) rfl ⟨.inl rfl, trivial⟩ trivial entry79 trivial) (OkOps.y (aB (!x59)) (OkOps.nil ?_))
  refine Ok.cond (b := !x59) rfl (fun h60 => ?_) (fun h60 => ?_)
  have hr := selT h60 hr
  refine Ok.seq (Ok.region (OkOps.y (aI (IntKind.i64.wrap (met + 1))) (OkOps.y (aI (IntKind.i64.wrap (met + 1))) (OkOps.y (aI 4) (OkOps.nil (Ok.ret ?_))))))
  obtain rfl := Option.some.inj hr
  exact ⟨_, rfl, .inl rfl, trivial⟩
  have hr := selF h60 hr
  refine Ok.skip (Ok.seq (Ok.seq (Ok.regionD (by kernel_rfl) (OkD.x (aI s55) rfl trivial rfl (OkD.x (aB (decide (s55 > 0))) rfl trivial rfl (OkD.x (aB (decide (s55 > 0))) rfl trivial rfl (OkD.q (triQG (x := .c (.loc 0 2)) rfl rfl trivial rfl) (OkD.q (triQG (x := .c (.d (.sl (List.map Attr.cs v.Attrs)))) rfl rfl ⟨fun h => h, trivial⟩ rfl) (OkD.q (triQG (x := aI s55) rfl rfl trivial rfl) ?_)))))))))
  obtain ⟨x61, hx61, hr⟩ := bind_some hr
  refine OkD.q (triIdxG (enc := Attr.cs) (L := v.Attrs) (row := [dS x61.Name, dI x61.Value.Kind, dI x61.Value.N, dS x61.Value.S, .sl (List.map AValue.cs x61.Value.L)]) (gO_t hx61) rfl rfl rfl rfl rfl (fun _ => rfl) ⟨fun h => h, ⟨fun h => h, trivial⟩⟩ rfl) (OkD.q (triQG (x := .c (.pt [dS x61.Name, dI x61.Value.Kind, dI x61.Value.N, dS x61.Value.S, .sl (List.map AValue.cs x61.Value.L)])) rfl rfl ⟨fun h => h, trivial⟩ rfl) (OkD.q (triQG (x := aS x61.Name) rfl rfl ⟨fun h => h, trivial⟩ rfl) (OkD.q (triQG (x := .c (.loc 0 2)) rfl rfl trivial rfl) (OkD.q (triQG (x := .c (.d (.sl (List.map Attr.cs v.Attrs)))) rfl rfl ⟨fun h => h, trivial⟩ rfl) (OkD.q (triQG (x := aI s55) rfl rfl trivial rfl) (OkD.q (triQG (x := aI (IntKind.i64.wrap (s55 - 1))) rfl rfl ⟨fun h => h, trivial⟩ rfl) ?_))))))
  obtain ⟨x62, hx62, hr⟩ := bind_some hr
  refine OkD.q (triIdxG (enc := Attr.cs) (L := v.Attrs) (row := [dS x62.Name, dI x62.Value.Kind, dI x62.Value.N, dS x62.Value.S, .sl (List.map AValue.cs x62.Value.L)]) (gO_t hx62) rfl rfl rfl rfl rfl (fun _ => rfl) ⟨fun h => h, ⟨fun h => h, trivial⟩⟩ rfl) (OkD.q (triQG (x := .c (.pt [dS x62.Name, dI x62.Value.Kind, dI x62.Value.N, dS x62.Value.S, .sl (List.map AValue.cs x62.Value.L)])) rfl rfl ⟨fun h => h, trivial⟩ rfl) (OkD.q (triQG (x := aS x62.Name) rfl rfl ⟨fun h => h, trivial⟩ rfl) (OkD.q (triQG (x := aB (Op.bytesLess x61.Name.toList x62.Name.toList || x61.Name.toList == x62.Name.toList)) rfl rfl ⟨fun h => h, ⟨fun h => h, trivial⟩⟩ rfl) (OkD.q (triAnd rfl rfl (fun h => h) rfl) (OkD.nil (by kernel_rfl) ?_)))))
  refine Ok.cond (b := (decide (s55 > 0)) && (Op.bytesLess x61.Name.toList x62.Name.toList || x61.Name.toList == x62.Name.toList)) rfl (fun h63 => ?_) (fun h63 => ?_)
  have hr := selT h63 hr
  refine Ok.seq (Ok.region (OkOps.y (aI (IntKind.i64.wrap (met + 1))) (OkOps.y (aI (IntKind.i64.wrap (met + 1))) (OkOps.y (aI 10) (OkOps.nil (Ok.ret ?_))))))
  obtain rfl := Option.some.inj hr
  exact ⟨_, rfl, .inl rfl, trivial⟩
  have hr := selF h63 hr
  refine Ok.skip (Ok.seq (Ok.region (OkOps.y (.c (.loc 0 2)) (OkOps.y (.c (.d (.sl (List.map Attr.cs v.Attrs)))) (OkOps.y (aI s55) ?_)))))
  obtain ⟨x64, hx64, hr⟩ := bind_some hr
  refine OkOps.q (triIdx (enc := Attr.cs) (L := v.Attrs) (row := [dS x64.Name, dI x64.Value.Kind, dI x64.Value.N, dS x64.Value.S, .sl (List.map AValue.cs x64.Value.L)]) hx64 rfl rfl rfl rfl (fun _ => rfl) trivial rfl) (OkOps.y (.c (.pt [dI x64.Value.Kind, dI x64.Value.N, dS x64.Value.S, .sl (List.map AValue.cs x64.Value.L)])) (OkOps.y (.agg [cI x64.Value.Kind, cI x64.Value.N, cS x64.Value.S, .d (.sl (List.map AValue.cs x64.Value.L))]) ?_))
  obtain ⟨x65, hx65, hr⟩ := bind_some hr
  refine OkOps.q (triCl (tau []) (.s (aI x65)) [] (r11_Check_c _ hx65) rfl ⟨.inl rfl, trivial⟩ trivial entry80 trivial) (OkOps.y (aI x65) (OkOps.nil (Ok.seq (Ok.region (OkOps.y (aI x65) (OkOps.y (aB (x65 != 0)) (OkOps.nil ?_)))))))
  refine Ok.cond (b := x65 != 0) rfl (fun h66 => ?_) (fun h66 => ?_)
  have hr := selT h66 hr
  refine Ok.seq (Ok.region (OkOps.y (aI (IntKind.i64.wrap (met + 1))) (OkOps.y (aI x65) (OkOps.y (aI (IntKind.i64.wrap (met + 1))) (OkOps.y (aI x65) (OkOps.nil (Ok.ret ?_)))))))
  obtain rfl := Option.some.inj hr
  exact ⟨_, rfl, .inl rfl, trivial⟩
  have hr := selF h66 hr
  refine Ok.skip (Ok.region (OkOps.y (aI s55) (OkOps.y (aI (IntKind.i64.wrap (s55 + 1))) (OkOps.y (aI (IntKind.i64.wrap (s55 + 1))) (OkOps.nil ?_)))))
  exact ⟨IntKind.i64.wrap (s55 + 1), hr, (Conv.mk (tau []) ⟨⟨_, rfl, .inl rfl⟩, ⟨_, rfl, .inl rfl⟩, ⟨_, rfl, .inl rfl⟩, ⟨_, rfl, .inl rfl⟩, trivial⟩ ⟨rfl, trivial⟩ rfl rfl rfl rfl)⟩
  have hr := selF h57 hr
  refine Ok.exit ?_
  exact ⟨(), hr, (Conv.mk (tau []) ⟨⟨_, rfl, .inl rfl⟩, ⟨_, rfl, .inl rfl⟩, ⟨_, rfl, .inl rfl⟩, trivial⟩ ⟨rfl, trivial⟩ rfl rfl rfl rfl)⟩
theorem r14_validate_all : ∀ n : Nat, (∀ (v : View) (depth : Int) (met : Int) {r : Int × Int}, r14_validate n v depth met = some r → Con Tryd.prog 54 [.agg [cI v.Kind, cS v.Key, .d (.sl (List.map Attr.cs v.Attrs)), .d (.sl (List.map Action.cs v.Actions)), .d (.sl (List.map View.cs v.Kids))], aI depth, aI met] [] (.tup [aI r.1, aI r.2]) []) ∧ True := by
  intro n
  induction n with
  | zero => exact ⟨(by intros; rename_i hr; cases hr), trivial⟩
  | succ n ih => exact ⟨(by intros; rename_i hr; exact r14_validate_B_c _ ih.1 _ _ _ hr), trivial⟩
theorem r14_validate_c (n : Nat) (v : View) (depth : Int) (met : Int) {r : Int × Int} (hr : r14_validate n v depth met = some r) : Con Tryd.prog 54 [.agg [cI v.Kind, cS v.Key, .d (.sl (List.map Attr.cs v.Attrs)), .d (.sl (List.map Action.cs v.Actions)), .d (.sl (List.map View.cs v.Kids))], aI depth, aI met] [] (.tup [aI r.1, aI r.2]) [] := (r14_validate_all n).1 v depth met hr
theorem r14_Validate_c (v : View) {r : Int} (hr : r14_Validate v = some r) : Con Tryd.prog 23 [.agg [cI v.Kind, cS v.Key, .d (.sl (List.map Attr.cs v.Attrs)), .d (.sl (List.map Action.cs v.Actions)), .d (.sl (List.map View.cs v.Kids))]] [] (.s (aI r)) [] := by
  unfold r14_Validate at hr
  refine Con.of_ok 11 0 [.tmp 2] [(0, .s (.agg [cI v.Kind, cS v.Key, .d (.sl (List.map Attr.cs v.Attrs)), .d (.sl (List.map Action.cs v.Actions)), .d (.sl (List.map View.cs v.Kids))]))] Tryd.func23 rfl rfl rfl rfl rfl rfl rfl rfl fun w g M ρ _ => (Ok.seq (Ok.region (OkOps.m 0 (triBox (j := 0) (cs := [cI v.Kind, cS v.Key, .d (.sl (List.map Attr.cs v.Attrs)), .d (.sl (List.map Action.cs v.Actions)), .d (.sl (List.map View.cs v.Kids))]) rfl rfl rfl rfl rfl) (OkOps.y (aI 0) (OkOps.nil (Ok.seq (Ok.region (OkOps.y (.agg [cI v.Kind, cS v.Key, .d (.sl (List.map Attr.cs v.Attrs)), .d (.sl (List.map Action.cs v.Actions)), .d (.sl (List.map View.cs v.Kids))]) ?_))))))))
  obtain ⟨x1, hx1, hr⟩ := bind_some hr
  refine OkOps.q (triCl (tau []) (.tup [aI x1.1, aI x1.2]) [] (r14_validate_c _ _ _ _ hx1) rfl ⟨.inl rfl, .inl rfl, .inl rfl, trivial⟩ trivial entry54 trivial) (OkOps.q (triMv (v := .tup [aI x1.1, aI x1.2]) rfl rfl) (OkOps.y (aI x1.1) (OkOps.y (aI x1.2) (OkOps.y (aI x1.1) (OkOps.y (aI x1.2) (OkOps.nil (Ok.seq (Ok.region (OkOps.y (aI x1.2) (OkOps.y (aI x1.2) (OkOps.nil (Ok.ret ?_))))))))))))
  obtain rfl := Option.some.inj hr
  exact ⟨_, rfl, .inl rfl, trivial⟩
theorem entry23 : Entry Tryd.prog 23 := ⟨_, Tryd.func23, by kernel_rfl, by kernel_rfl⟩
end Go.Proofs.YtcfegecdlbbeaaaDoor
end

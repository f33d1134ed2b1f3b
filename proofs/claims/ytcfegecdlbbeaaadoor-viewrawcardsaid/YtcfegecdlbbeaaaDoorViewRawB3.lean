/-
  Part 3 of the texts under the law ViewRaw: the calculus, the plain functions, their walks, plain facts.
-/
import Derived.Test.YtcfegecdlbbeaaaDoorViewRawB2
import Derived.Test.YtcfegecdlbbeaaaDoorProg
import Derived.KernelRfl
section
set_option maxRecDepth 100000
namespace Go.Proofs.YtcfegecdlbbeaaaDoor
open Go Go.E2
theorem r11_letter_c (c : Int) {r : Bool} (hr : r11_letter c = some r) : Con Tryd.prog 106 [.c (.d (.v (.int .u8 c)))] [] (.s (aB r)) [] := by
  unfold r11_letter at hr
  refine Con.of_ok 17 0 [.tmp 2] [(0, .s (.c (.d (.v (.int .u8 c)))))] Tryd.func106 rfl rfl rfl rfl rfl rfl rfl rfl fun w g M ρ _ => (Ok.seq (Ok.region (OkOps.y (aB false) (OkOps.nil (Ok.seq (Ok.region (OkOps.y (.c (.d (.v (.int .u8 c)))) (OkOps.y (aB (decide (c ≥ 97))) (OkOps.y (aB (decide (c ≥ 97))) (OkOps.q (triQG (x := .c (.d (.v (.int .u8 c)))) rfl rfl trivial rfl) (OkOps.q (triQG (x := aB (decide (c ≤ 122))) rfl rfl ⟨fun h => h, trivial⟩ rfl) (OkOps.q (triAnd rfl rfl (fun h => h) rfl) (OkOps.y (aB ((decide (c ≥ 97)) && (decide (c ≤ 122)))) (OkOps.q (triQG (x := .c (.d (.v (.int .u8 c)))) rfl rfl trivial rfl) (OkOps.q (triQG (x := aB (decide (c ≥ 65))) rfl rfl ⟨fun h => h, trivial⟩ rfl) ?_)))))))))))))))
  refine OkOps.q (triQG (x := aB (decide (c ≥ 65))) rfl rfl ⟨fun h => h, trivial⟩ rfl) (OkOps.q (triQG (x := .c (.d (.v (.int .u8 c)))) rfl rfl trivial rfl) (OkOps.q (triQG (x := aB (decide (c ≤ 90))) rfl rfl ⟨fun h => h, trivial⟩ rfl) ?_))
  refine OkOps.q (triAndG rfl rfl rfl (fun h => h) (fun h h2 => by rw [h, h2]; rfl) rfl) ?_
  refine OkOps.q (triOr rfl rfl (fun h => by rw [h]; rfl) rfl) ?_
  refine OkOps.y (aB (((decide (c ≥ 97)) && (decide (c ≤ 122))) || ((decide (c ≥ 65)) && (decide (c ≤ 90))))) (OkOps.nil (Ok.ret ?_))
  obtain rfl := Option.some.inj hr
  exact ⟨_, rfl, .inl rfl, trivial⟩
theorem entry106 : Entry Tryd.prog 106 := ⟨_, Tryd.func106, by kernel_rfl, by kernel_rfl⟩
theorem r11_Name_c (p_s : Str) {r : Bool} (hr : r11_Name p_s = some r) : Con Tryd.prog 79 [aS p_s] [] (.s (aB r)) [] := by
  unfold r11_Name at hr
  refine Con.of_ok 53 0 [.tmp 2] [(0, .s (aS p_s))] Tryd.func79 rfl rfl rfl rfl rfl rfl rfl rfl fun w g M ρ _ => (Ok.seq (Ok.region (OkOps.y (aB false) (OkOps.nil (Ok.seq (Ok.seq (Ok.region (OkOps.y (aS p_s) (OkOps.y (aI (p_s.size : Int)) (OkOps.y (aB (decide ((p_s.size : Int) < 1))) (OkOps.y (aB (decide ((p_s.size : Int) < 1))) (OkOps.q (triQG (x := aS p_s) rfl rfl trivial rfl) (OkOps.q (triQG (x := aI (p_s.size : Int)) rfl rfl ⟨fun h => h, trivial⟩ rfl) (OkOps.q (triQG (x := aB (decide ((p_s.size : Int) > 24))) rfl rfl ⟨fun h => h, trivial⟩ rfl) ?_))))))))))))))
  refine OkOps.q (triOr rfl rfl (fun h => by rw [h]; rfl) rfl) ?_
  refine OkOps.y (aB ((decide ((p_s.size : Int) < 1)) || (decide ((p_s.size : Int) > 24)))) (OkOps.q (triQG (x := aS p_s) rfl rfl trivial rfl) ?_)
  obtain ⟨x1, hx1, hr⟩ := bind_some hr
  refine OkOps.q (triSIdxG (gO_t hx1) rfl rfl rfl rfl ⟨fun h => h, trivial⟩ rfl) ?_
  obtain ⟨x2, hx2, hr⟩ := bind_some hr
  refine OkOps.q (triCallG (x := aB x2) (fun hg => r11_letter_c _ (gO_t hx2 hg)) rfl rfl ⟨.inl rfl, trivial⟩ ⟨fun h => h, trivial⟩ entry106 rfl rfl rfl) (OkOps.q (triQG (x := aB (!x2)) rfl rfl ⟨fun h => h, trivial⟩ rfl) ?_)
  refine OkOps.q (triOr rfl rfl (fun h => by rw [h]; rfl) rfl) ?_
  refine OkOps.nil ?_
  refine Ok.cond (b := ((decide ((p_s.size : Int) < 1)) || (decide ((p_s.size : Int) > 24))) || (!x2)) rfl (fun h3 => ?_) (fun h3 => ?_)
  have hr := selT h3 hr
  refine Ok.seq (Ok.region (OkOps.y (aB false) (OkOps.nil (Ok.ret ?_))))
  obtain rfl := Option.some.inj hr
  exact ⟨_, rfl, .inl rfl, trivial⟩
  have hr := selF h3 hr
  refine Ok.skip ?_
  obtain ⟨k5, hk5, hr⟩ := jn_some hr
  refine Ok.join (fun (s4 : Unit) => ⟨[], [], 0⟩) k5 r (fun s4 hr => ?_) ?_
  rw [hk5] at hr
  refine Ok.seq (Ok.region (OkOps.y (aB true) (OkOps.nil (Ok.ret ?_))))
  obtain rfl := Option.some.inj hr
  exact ⟨_, rfl, .inl rfl, trivial⟩
  clear hk5
  refine Ok.seq (Ok.region (OkOps.y (aI 1) (OkOps.nil (Ok.block (Ok.loopK (fun (s6 : Int) => ⟨[(0, .s (aS p_s)), (3, .s (aI s6))], [], 0⟩) hr (Conv.mk (tau []) ⟨⟨_, rfl, .inl rfl⟩, ⟨_, rfl, .inl rfl⟩, trivial⟩ trivial rfl rfl rfl rfl) ?_)))))
  clear hr
  intro again7 s6 hr
  unfold r11_Name_L1 at hr
  refine Ok.seq (Ok.seq (Ok.region (OkOps.y (aI s6) (OkOps.y (aS p_s) (OkOps.y (aI (p_s.size : Int)) (OkOps.y (aB (decide (s6 < (p_s.size : Int)))) (OkOps.nil ?_)))))))
  refine Ok.cond (b := decide (s6 < (p_s.size : Int))) rfl (fun h8 => ?_) (fun h8 => ?_)
  have hr := selT h8 hr
  refine Ok.skip (Ok.seq (Ok.block (Ok.seq (Ok.region (OkOps.y (aS p_s) (OkOps.y (aI s6) ?_))))))
  obtain ⟨x9, hx9, hr⟩ := bind_some hr
  refine OkOps.q (triSIdx hx9 rfl rfl rfl trivial rfl) ?_
  obtain ⟨x10, hx10, hr⟩ := bind_some hr
  refine OkOps.q (triCl (tau []) (.s (aB x10)) [] (r11_letter_c _ hx10) rfl ⟨.inl rfl, trivial⟩ trivial entry106 trivial) (OkOps.y (aB (!x10)) (OkOps.y (aB (!x10)) (OkOps.q (triQG (x := aS p_s) rfl rfl trivial rfl) (OkOps.q (triQG (x := aI s6) rfl rfl trivial rfl) ?_))))
  obtain ⟨x11, hx11, hr⟩ := bind_some hr
  refine OkOps.q (triSIdxG (gO_t hx11) rfl rfl rfl rfl ⟨fun h => h, ⟨fun h => h, trivial⟩⟩ rfl) (OkOps.q (triQG (x := aB (decide (x11 < 48))) rfl rfl ⟨fun h => h, trivial⟩ rfl) (OkOps.q (triQG (x := aB (decide (x11 < 48))) rfl rfl ⟨fun h => h, trivial⟩ rfl) (OkOps.q (triQG (x := aS p_s) rfl rfl trivial rfl) (OkOps.q (triQG (x := aI s6) rfl rfl trivial rfl) ?_))))
  obtain ⟨x12, hx12, hr⟩ := bind_some hr
  refine OkOps.q (triSIdxG (gO_t hx12) rfl rfl rfl rfl ⟨fun h => h, ⟨fun h => h, trivial⟩⟩ rfl) (OkOps.q (triQG (x := aB (decide (x12 > 57))) rfl rfl ⟨fun h => h, trivial⟩ rfl) ?_)
  refine OkOps.q (triOrG rfl rfl rfl (fun h => h) (fun h h2 => by rw [h, h2]; rfl) rfl) ?_
  refine OkOps.q (triAnd rfl rfl (fun h => h) rfl) (OkOps.y (aB ((!x10) && ((decide (x11 < 48)) || (decide (x12 > 57))))) (OkOps.q (triQG (x := aS p_s) rfl rfl trivial rfl) (OkOps.q (triQG (x := aI s6) rfl rfl trivial rfl) ?_)))
  obtain ⟨x13, hx13, hr⟩ := bind_some hr
  refine OkOps.q (triSIdxG (gO_t hx13) rfl rfl rfl rfl ⟨fun h => h, ⟨fun h => h, trivial⟩⟩ rfl) (OkOps.q (triQG (x := aB (x13 != 45)) rfl rfl ⟨fun h => h, trivial⟩ rfl) (OkOps.q (triAnd rfl rfl (fun h => h) rfl) (OkOps.y (aB (((!x10) && ((decide (x11 < 48)) || (decide (x12 > 57)))) && (x13 != 45))) (OkOps.q (triQG (x := aS p_s) rfl rfl trivial rfl) (OkOps.q (triQG (x := aI s6) rfl rfl trivial rfl) ?_)))))
  obtain ⟨x14, hx14, hr⟩ := bind_some hr
  refine OkOps.q (triSIdxG (gO_t hx14) rfl rfl rfl rfl ⟨fun h => h, ⟨fun h => h, trivial⟩⟩ rfl) (OkOps.q (triQG (x := aB (x14 != 95)) rfl rfl ⟨fun h => h, trivial⟩ rfl) (OkOps.q (triAnd rfl rfl (fun h => h) rfl) (OkOps.nil ?_)))
  refine Ok.cond (b := (((!x10) && ((decide (x11 < 48)) || (decide (x12 > 57)))) && (x13 != 45)) && (x14 != 95)) rfl (fun h15 => ?_) (fun h15 => ?_)
  have hr := selT h15 hr
  refine Ok.seq (Ok.region (OkOps.y (aB false) (OkOps.nil (Ok.ret ?_))))
  obtain rfl := Option.some.inj hr
  exact ⟨_, rfl, .inl rfl, trivial⟩
  have hr := selF h15 hr
  refine Ok.skip (Ok.region (OkOps.y (aI s6) (OkOps.y (aI (IntKind.i64.wrap (s6 + 1))) (OkOps.y (aI (IntKind.i64.wrap (s6 + 1))) (OkOps.nil ?_)))))
  exact ⟨IntKind.i64.wrap (s6 + 1), hr, (Conv.mk (tau []) ⟨⟨_, rfl, .inl rfl⟩, ⟨_, rfl, .inl rfl⟩, trivial⟩ trivial rfl rfl rfl rfl)⟩
  have hr := selF h8 hr
  refine Ok.exit ?_
  exact ⟨(), hr, (Conv.mk (tau []) trivial trivial rfl rfl rfl rfl)⟩
theorem entry79 : Entry Tryd.prog 79 := ⟨_, Tryd.func79, by kernel_rfl, by kernel_rfl⟩
theorem ex_Name_c (p_s : Str) {r : Bool} (hr : ex_Name p_s = some r) : Con Tryd.prog 104 [aS p_s] [] (.s (aB r)) [] := by
  unfold ex_Name at hr
  refine Con.of_ok 59 0 [.tmp 2] [(0, .s (aS p_s))] Tryd.func104 rfl rfl rfl rfl rfl rfl rfl rfl fun w g M ρ _ => (Ok.seq (Ok.region (OkOps.y (aB false) (OkOps.nil (Ok.seq (Ok.seq (Ok.region (OkOps.y (aS p_s) (OkOps.y (aI (p_s.size : Int)) (OkOps.y (aB ((p_s.size : Int) == 0)) (OkOps.y (aB ((p_s.size : Int) == 0)) (OkOps.q (triQG (x := aS p_s) rfl rfl trivial rfl) (OkOps.q (triQG (x := aI (p_s.size : Int)) rfl rfl ⟨fun h => h, trivial⟩ rfl) (OkOps.q (triQG (x := aB (decide ((p_s.size : Int) > 24))) rfl rfl ⟨fun h => h, trivial⟩ rfl) ?_))))))))))))))
  refine OkOps.q (triOr rfl rfl (fun h => by rw [h]; rfl) rfl) ?_
  refine OkOps.nil ?_
  refine Ok.cond (b := ((p_s.size : Int) == 0) || (decide ((p_s.size : Int) > 24))) rfl (fun h1 => ?_) (fun h1 => ?_)
  have hr := selT h1 hr
  refine Ok.seq (Ok.region (OkOps.y (aB false) (OkOps.nil (Ok.ret ?_))))
  obtain rfl := Option.some.inj hr
  exact ⟨_, rfl, .inl rfl, trivial⟩
  have hr := selF h1 hr
  refine Ok.skip ?_
  obtain ⟨k3, hk3, hr⟩ := jn_some hr
  refine Ok.join (fun (s2 : Unit) => ⟨[], [], 0⟩) k3 r (fun s2 hr => ?_) ?_
  rw [hk3] at hr
  refine Ok.seq (Ok.region (OkOps.y (aB true) (OkOps.nil (Ok.ret ?_))))
  obtain rfl := Option.some.inj hr
  exact ⟨_, rfl, .inl rfl, trivial⟩
  clear hk3
  refine Ok.seq (Ok.region (OkOps.y (aS p_s) (OkOps.y (aI (p_s.size : Int)) (OkOps.y (aI 0) (OkOps.nil (Ok.block (Ok.loopK (fun (s4 : Int) => ⟨[(0, .s (aS p_s)), (15, .s (aI (p_s.size : Int))), (16, .s (aI s4))], [], 0⟩) hr (Conv.mk (tau []) ⟨⟨_, rfl, .inl rfl⟩, ⟨_, rfl, .inl rfl⟩, ⟨_, rfl, .inl rfl⟩, trivial⟩ trivial rfl rfl rfl rfl) ?_)))))))
  clear hr
  intro again5 s4 hr
  unfold ex_Name_L1 at hr
  refine Ok.seq (Ok.region (OkOps.y (aB (decide (s4 < (p_s.size : Int)))) (OkOps.nil (Ok.seq ?_))))
  refine Ok.cond (b := decide (s4 < (p_s.size : Int))) rfl (fun h6 => ?_) (fun h6 => ?_)
  have hr := selT h6 hr
  refine Ok.skip (Ok.seq (Ok.block (Ok.seq (Ok.region (OkOps.y (aI s4) (OkOps.y (aI s4) (OkOps.nil (Ok.seq (Ok.region (OkOps.y (aS p_s) (OkOps.y (aI s4) ?_)))))))))))
  obtain ⟨x7, hx7, hr⟩ := bind_some hr
  refine OkOps.q (triSIdx hx7 rfl rfl rfl trivial rfl) (OkOps.y (.c (.d (.v (.int .u8 x7)))) (OkOps.nil (Ok.seq (Ok.region (OkOps.y (.c (.d (.v (.int .u8 x7)))) (OkOps.y (aB (decide (x7 ≥ 97))) (OkOps.y (aB (decide (x7 ≥ 97))) (OkOps.q (triQG (x := .c (.d (.v (.int .u8 x7)))) rfl rfl trivial rfl) (OkOps.q (triQG (x := aB (decide (x7 ≤ 122))) rfl rfl ⟨fun h => h, trivial⟩ rfl) (OkOps.q (triAnd rfl rfl (fun h => h) rfl) (OkOps.y (aB ((decide (x7 ≥ 97)) && (decide (x7 ≤ 122)))) (OkOps.q (triQG (x := .c (.d (.v (.int .u8 x7)))) rfl rfl trivial rfl) (OkOps.q (triQG (x := aB (decide (x7 ≥ 65))) rfl rfl ⟨fun h => h, trivial⟩ rfl) (OkOps.q (triQG (x := aB (decide (x7 ≥ 65))) rfl rfl ⟨fun h => h, trivial⟩ rfl) (OkOps.q (triQG (x := .c (.d (.v (.int .u8 x7)))) rfl rfl trivial rfl) ?_)))))))))))))))
  refine OkOps.q (triQG (x := aB (decide (x7 ≤ 90))) rfl rfl ⟨fun h => h, trivial⟩ rfl) ?_
  refine OkOps.q (triAndG rfl rfl rfl (fun h => h) (fun h h2 => by rw [h, h2]; rfl) rfl) ?_
  refine OkOps.q (triOr rfl rfl (fun h => by rw [h]; rfl) rfl) ?_
  refine OkOps.y (aB (((decide (x7 ≥ 97)) && (decide (x7 ≤ 122))) || ((decide (x7 ≥ 65)) && (decide (x7 ≤ 90))))) (OkOps.nil (Ok.seq (Ok.region (OkOps.y (aB (((decide (x7 ≥ 97)) && (decide (x7 ≤ 122))) || ((decide (x7 ≥ 65)) && (decide (x7 ≤ 90))))) (OkOps.y (aB (!(((decide (x7 ≥ 97)) && (decide (x7 ≤ 122))) || ((decide (x7 ≥ 65)) && (decide (x7 ≤ 90)))))) (OkOps.y (aB (!(((decide (x7 ≥ 97)) && (decide (x7 ≤ 122))) || ((decide (x7 ≥ 65)) && (decide (x7 ≤ 90)))))) (OkOps.q (triQG (x := aI s4) rfl rfl trivial rfl) (OkOps.q (triQG (x := aB (s4 == 0)) rfl rfl ⟨fun h => h, trivial⟩ rfl) (OkOps.q (triQG (x := aB (s4 == 0)) rfl rfl ⟨fun h => h, trivial⟩ rfl) (OkOps.q (triQG (x := .c (.d (.v (.int .u8 x7)))) rfl rfl trivial rfl) (OkOps.q (triQG (x := aB (decide (x7 < 48))) rfl rfl ⟨fun h => h, trivial⟩ rfl) (OkOps.q (triQG (x := aB (decide (x7 < 48))) rfl rfl ⟨fun h => h, trivial⟩ rfl) (OkOps.q (triQG (x := .c (.d (.v (.int .u8 x7)))) rfl rfl trivial rfl) (OkOps.q (triQG (x := aB (decide (x7 > 57))) rfl rfl ⟨fun h => h, trivial⟩ rfl) ?_))))))))))))))
  refine OkOps.q (triOrG rfl rfl rfl (fun h => h) (fun h h2 => by rw [h, h2]; rfl) rfl) ?_
  refine OkOps.q (triQG (x := aB ((decide (x7 < 48)) || (decide (x7 > 57)))) rfl rfl ⟨fun h => h, trivial⟩ rfl) (OkOps.q (triQG (x := .c (.d (.v (.int .u8 x7)))) rfl rfl trivial rfl) (OkOps.q (triQG (x := aB (x7 != 45)) rfl rfl ⟨fun h => h, trivial⟩ rfl) ?_))
  refine OkOps.q (triAndG rfl rfl rfl (fun h => h) (fun h h2 => by rw [h, h2]; rfl) rfl) ?_
  refine OkOps.q (triQG (x := aB (((decide (x7 < 48)) || (decide (x7 > 57))) && (x7 != 45))) rfl rfl ⟨fun h => h, trivial⟩ rfl) (OkOps.q (triQG (x := .c (.d (.v (.int .u8 x7)))) rfl rfl trivial rfl) (OkOps.q (triQG (x := aB (x7 != 95)) rfl rfl ⟨fun h => h, trivial⟩ rfl) ?_))
  refine OkOps.q (triAndG rfl rfl rfl (fun h => h) (fun h h2 => by rw [h, h2]; rfl) rfl) ?_
  refine OkOps.q (triOrG rfl rfl rfl (fun h => h) (fun h h2 => by rw [h, h2]; rfl) rfl) ?_
  refine OkOps.q (triAnd rfl rfl (fun h => h) rfl) (OkOps.nil ?_)
  refine Ok.cond (b := (!(((decide (x7 ≥ 97)) && (decide (x7 ≤ 122))) || ((decide (x7 ≥ 65)) && (decide (x7 ≤ 90))))) && ((s4 == 0) || ((((decide (x7 < 48)) || (decide (x7 > 57))) && (x7 != 45)) && (x7 != 95)))) rfl (fun h8 => ?_) (fun h8 => ?_)
  have hr := selT h8 hr
  refine Ok.seq (Ok.region (OkOps.y (aB false) (OkOps.nil (Ok.ret ?_))))
  obtain rfl := Option.some.inj hr
  exact ⟨_, rfl, .inl rfl, trivial⟩
  have hr := selF h8 hr
  refine Ok.skip (Ok.region (OkOps.y (aI (IntKind.i64.wrap (s4 + 1))) (OkOps.y (aI (IntKind.i64.wrap (s4 + 1))) (OkOps.nil ?_))))
  exact ⟨IntKind.i64.wrap (s4 + 1), hr, (Conv.mk (tau []) ⟨⟨_, rfl, .inl rfl⟩, ⟨_, rfl, .inl rfl⟩, ⟨_, rfl, .inl rfl⟩, trivial⟩ trivial rfl rfl rfl rfl)⟩
  have hr := selF h6 hr
  refine Ok.exit ?_
  exact ⟨(), hr, (Conv.mk (tau []) trivial trivial rfl rfl rfl rfl)⟩
theorem entry104 : Entry Tryd.prog 104 := ⟨_, Tryd.func104, by kernel_rfl, by kernel_rfl⟩
theorem r13_Key_c (p_s : Str) {r : Bool} (hr : r13_Key p_s = some r) : Con Tryd.prog 50 [aS p_s] [] (.s (aB r)) [] := by
  unfold r13_Key at hr
  refine Con.of_ok 47 0 [.tmp 2] [(0, .s (aS p_s))] Tryd.func50 rfl rfl rfl rfl rfl rfl rfl rfl fun w g M ρ _ => (Ok.seq (Ok.region (OkOps.y (aB false) (OkOps.nil ?_))))
  obtain ⟨k2, hk2, hr⟩ := jn_some hr
  refine Ok.join (fun (s1 : Unit) => ⟨[(0, .s (aS p_s))], [], 0⟩) k2 r (fun s1 hr => ?_) ?_
  rw [hk2] at hr
  refine Ok.seq (Ok.region (OkOps.y (aS p_s) (OkOps.y (aI (p_s.size : Int)) (OkOps.y (aB (decide ((p_s.size : Int) ≤ 24))) (OkOps.y (aB (decide ((p_s.size : Int) ≤ 24))) (OkOps.nil (Ok.ret ?_)))))))
  obtain rfl := Option.some.inj hr
  exact ⟨_, rfl, .inl rfl, trivial⟩
  clear hk2
  refine Ok.seq (Ok.region (OkOps.y (aI 0) (OkOps.nil (Ok.block (Ok.loopK (fun (s3 : Int) => ⟨[(0, .s (aS p_s)), (3, .s (aI s3))], [], 0⟩) hr (Conv.mk (tau []) ⟨⟨_, rfl, .inl rfl⟩, ⟨_, rfl, .inl rfl⟩, trivial⟩ trivial rfl rfl rfl rfl) ?_)))))
  clear hr
  intro again4 s3 hr
  unfold r13_Key_L1 at hr
  refine Ok.seq (Ok.seq (Ok.region (OkOps.y (aI s3) (OkOps.y (aS p_s) (OkOps.y (aI (p_s.size : Int)) (OkOps.y (aB (decide (s3 < (p_s.size : Int)))) (OkOps.nil ?_)))))))
  refine Ok.cond (b := decide (s3 < (p_s.size : Int))) rfl (fun h5 => ?_) (fun h5 => ?_)
  have hr := selT h5 hr
  refine Ok.skip (Ok.seq (Ok.block (Ok.seq (Ok.region (OkOps.y (aS p_s) (OkOps.y (aI s3) ?_))))))
  obtain ⟨x6, hx6, hr⟩ := bind_some hr
  refine OkOps.q (triSIdx hx6 rfl rfl rfl trivial rfl) (OkOps.y (.c (.d (.v (.int .u8 x6)))) (OkOps.nil (Ok.seq (Ok.region (OkOps.y (.c (.d (.v (.int .u8 x6)))) (OkOps.y (aB (decide (x6 < 97))) (OkOps.y (aB (decide (x6 < 97))) (OkOps.q (triQG (x := .c (.d (.v (.int .u8 x6)))) rfl rfl trivial rfl) (OkOps.q (triQG (x := aB (decide (x6 > 122))) rfl rfl ⟨fun h => h, trivial⟩ rfl) ?_)))))))))
  refine OkOps.q (triOr rfl rfl (fun h => by rw [h]; rfl) rfl) ?_
  refine OkOps.y (aB ((decide (x6 < 97)) || (decide (x6 > 122)))) (OkOps.q (triQG (x := .c (.d (.v (.int .u8 x6)))) rfl rfl trivial rfl) (OkOps.q (triQG (x := aB (decide (x6 < 65))) rfl rfl ⟨fun h => h, trivial⟩ rfl) (OkOps.q (triQG (x := aB (decide (x6 < 65))) rfl rfl ⟨fun h => h, trivial⟩ rfl) (OkOps.q (triQG (x := .c (.d (.v (.int .u8 x6)))) rfl rfl trivial rfl) (OkOps.q (triQG (x := aB (decide (x6 > 90))) rfl rfl ⟨fun h => h, trivial⟩ rfl) ?_)))))
  refine OkOps.q (triOrG rfl rfl rfl (fun h => h) (fun h h2 => by rw [h, h2]; rfl) rfl) ?_
  refine OkOps.q (triAnd rfl rfl (fun h => h) rfl) (OkOps.y (aB (((decide (x6 < 97)) || (decide (x6 > 122))) && ((decide (x6 < 65)) || (decide (x6 > 90))))) (OkOps.q (triQG (x := .c (.d (.v (.int .u8 x6)))) rfl rfl trivial rfl) (OkOps.q (triQG (x := aB (decide (x6 < 48))) rfl rfl ⟨fun h => h, trivial⟩ rfl) (OkOps.q (triQG (x := aB (decide (x6 < 48))) rfl rfl ⟨fun h => h, trivial⟩ rfl) (OkOps.q (triQG (x := .c (.d (.v (.int .u8 x6)))) rfl rfl trivial rfl) (OkOps.q (triQG (x := aB (decide (x6 > 57))) rfl rfl ⟨fun h => h, trivial⟩ rfl) ?_))))))
  refine OkOps.q (triOrG rfl rfl rfl (fun h => h) (fun h h2 => by rw [h, h2]; rfl) rfl) ?_
  refine OkOps.q (triAnd rfl rfl (fun h => h) rfl) (OkOps.y (aB ((((decide (x6 < 97)) || (decide (x6 > 122))) && ((decide (x6 < 65)) || (decide (x6 > 90)))) && ((decide (x6 < 48)) || (decide (x6 > 57))))) (OkOps.q (triQG (x := .c (.d (.v (.int .u8 x6)))) rfl rfl trivial rfl) (OkOps.q (triQG (x := aB (x6 != 45)) rfl rfl ⟨fun h => h, trivial⟩ rfl) (OkOps.q (triAnd rfl rfl (fun h => h) rfl) (OkOps.y (aB (((((decide (x6 < 97)) || (decide (x6 > 122))) && ((decide (x6 < 65)) || (decide (x6 > 90)))) && ((decide (x6 < 48)) || (decide (x6 > 57)))) && (x6 != 45))) (OkOps.q (triQG (x := .c (.d (.v (.int .u8 x6)))) rfl rfl trivial rfl) (OkOps.q (triQG (x := aB (x6 != 95)) rfl rfl ⟨fun h => h, trivial⟩ rfl) (OkOps.q (triAnd rfl rfl (fun h => h) rfl) (OkOps.nil ?_)))))))))
  refine Ok.cond (b := (((((decide (x6 < 97)) || (decide (x6 > 122))) && ((decide (x6 < 65)) || (decide (x6 > 90)))) && ((decide (x6 < 48)) || (decide (x6 > 57)))) && (x6 != 45)) && (x6 != 95)) rfl (fun h7 => ?_) (fun h7 => ?_)
  have hr := selT h7 hr
  refine Ok.seq (Ok.region (OkOps.y (aB false) (OkOps.nil (Ok.ret ?_))))
  obtain rfl := Option.some.inj hr
  exact ⟨_, rfl, .inl rfl, trivial⟩
  have hr := selF h7 hr
  refine Ok.skip (Ok.region (OkOps.y (aI s3) (OkOps.y (aI (IntKind.i64.wrap (s3 + 1))) (OkOps.y (aI (IntKind.i64.wrap (s3 + 1))) (OkOps.nil ?_)))))
  exact ⟨IntKind.i64.wrap (s3 + 1), hr, (Conv.mk (tau []) ⟨⟨_, rfl, .inl rfl⟩, ⟨_, rfl, .inl rfl⟩, trivial⟩ trivial rfl rfl rfl rfl)⟩
  have hr := selF h5 hr
  refine Ok.exit ?_
  exact ⟨(), hr, (Conv.mk (tau []) ⟨⟨_, rfl, .inl rfl⟩, trivial⟩ trivial rfl rfl rfl rfl)⟩
theorem entry50 : Entry Tryd.prog 50 := ⟨_, Tryd.func50, by kernel_rfl, by kernel_rfl⟩
theorem r14_Key_c (p_s : Str) {r : Bool} (hr : r14_Key p_s = some r) : Con Tryd.prog 13 [aS p_s] [] (.s (aB r)) [] := by
  unfold r14_Key at hr
  refine Con.of_ok 5 0 [.tmp 2] [(0, .s (aS p_s))] Tryd.func13 rfl rfl rfl rfl rfl rfl rfl rfl fun w g M ρ _ => (Ok.seq (Ok.region (OkOps.y (aB false) (OkOps.nil (Ok.seq (Ok.region (OkOps.y (aS p_s) ?_)))))))
  obtain ⟨x1, hx1, hr⟩ := bind_some hr
  refine OkOps.q (triCl (tau []) (.s (aB x1)) [] (r13_Key_c _ hx1) rfl ⟨.inl rfl, trivial⟩ trivial entry50 trivial) (OkOps.y (aB x1) (OkOps.nil (Ok.ret ?_)))
  obtain rfl := Option.some.inj hr
  exact ⟨_, rfl, .inl rfl, trivial⟩
theorem entry13 : Entry Tryd.prog 13 := ⟨_, Tryd.func13, by kernel_rfl, by kernel_rfl⟩
theorem vw_Key_c (p_s : Str) {r : Bool} (hr : vw_Key p_s = some r) : Con Tryd.prog 12 [aS p_s] [] (.s (aB r)) [] := by
  unfold vw_Key at hr
  refine Con.of_ok 47 0 [.tmp 2] [(0, .s (aS p_s))] Tryd.func12 rfl rfl rfl rfl rfl rfl rfl rfl fun w g M ρ _ => (Ok.seq (Ok.region (OkOps.y (aB false) (OkOps.nil ?_))))
  obtain ⟨k2, hk2, hr⟩ := jn_some hr
  refine Ok.join (fun (s1 : Unit) => ⟨[(0, .s (aS p_s))], [], 0⟩) k2 r (fun s1 hr => ?_) ?_
  rw [hk2] at hr
  refine Ok.seq (Ok.region (OkOps.y (aS p_s) (OkOps.y (aI (p_s.size : Int)) (OkOps.y (aB (decide ((p_s.size : Int) ≤ 24))) (OkOps.y (aB (decide ((p_s.size : Int) ≤ 24))) (OkOps.nil (Ok.ret ?_)))))))
  obtain rfl := Option.some.inj hr
  exact ⟨_, rfl, .inl rfl, trivial⟩
  clear hk2
  refine Ok.seq (Ok.region (OkOps.y (aS p_s) (OkOps.y (aI (p_s.size : Int)) (OkOps.y (aI 0) (OkOps.nil (Ok.block (Ok.loopK (fun (s3 : Int) => ⟨[(0, .s (aS p_s)), (6, .s (aI (p_s.size : Int))), (7, .s (aI s3))], [], 0⟩) hr (Conv.mk (tau []) ⟨⟨_, rfl, .inl rfl⟩, ⟨_, rfl, .inl rfl⟩, ⟨_, rfl, .inl rfl⟩, trivial⟩ trivial rfl rfl rfl rfl) ?_)))))))
  clear hr
  intro again4 s3 hr
  unfold vw_Key_L1 at hr
  refine Ok.seq (Ok.region (OkOps.y (aB (decide (s3 < (p_s.size : Int)))) (OkOps.nil (Ok.seq ?_))))
  refine Ok.cond (b := decide (s3 < (p_s.size : Int))) rfl (fun h5 => ?_) (fun h5 => ?_)
  have hr := selT h5 hr
  refine Ok.skip (Ok.seq (Ok.block (Ok.seq (Ok.region (OkOps.y (aI s3) (OkOps.y (aI s3) (OkOps.nil (Ok.seq (Ok.region (OkOps.y (aS p_s) (OkOps.y (aI s3) ?_)))))))))))
  obtain ⟨x6, hx6, hr⟩ := bind_some hr
  refine OkOps.q (triSIdx hx6 rfl rfl rfl trivial rfl) (OkOps.y (.c (.d (.v (.int .u8 x6)))) (OkOps.nil (Ok.seq (Ok.region (OkOps.y (.c (.d (.v (.int .u8 x6)))) (OkOps.y (aB (decide (x6 < 97))) (OkOps.y (aB (decide (x6 < 97))) (OkOps.q (triQG (x := .c (.d (.v (.int .u8 x6)))) rfl rfl trivial rfl) (OkOps.q (triQG (x := aB (decide (x6 > 122))) rfl rfl ⟨fun h => h, trivial⟩ rfl) ?_)))))))))
  refine OkOps.q (triOr rfl rfl (fun h => by rw [h]; rfl) rfl) ?_
  refine OkOps.y (aB ((decide (x6 < 97)) || (decide (x6 > 122)))) (OkOps.q (triQG (x := .c (.d (.v (.int .u8 x6)))) rfl rfl trivial rfl) (OkOps.q (triQG (x := aB (decide (x6 < 65))) rfl rfl ⟨fun h => h, trivial⟩ rfl) (OkOps.q (triQG (x := aB (decide (x6 < 65))) rfl rfl ⟨fun h => h, trivial⟩ rfl) (OkOps.q (triQG (x := .c (.d (.v (.int .u8 x6)))) rfl rfl trivial rfl) (OkOps.q (triQG (x := aB (decide (x6 > 90))) rfl rfl ⟨fun h => h, trivial⟩ rfl) ?_)))))
  refine OkOps.q (triOrG rfl rfl rfl (fun h => h) (fun h h2 => by rw [h, h2]; rfl) rfl) ?_
  refine OkOps.q (triAnd rfl rfl (fun h => h) rfl) (OkOps.y (aB (((decide (x6 < 97)) || (decide (x6 > 122))) && ((decide (x6 < 65)) || (decide (x6 > 90))))) (OkOps.q (triQG (x := .c (.d (.v (.int .u8 x6)))) rfl rfl trivial rfl) (OkOps.q (triQG (x := aB (decide (x6 < 48))) rfl rfl ⟨fun h => h, trivial⟩ rfl) (OkOps.q (triQG (x := aB (decide (x6 < 48))) rfl rfl ⟨fun h => h, trivial⟩ rfl) (OkOps.q (triQG (x := .c (.d (.v (.int .u8 x6)))) rfl rfl trivial rfl) (OkOps.q (triQG (x := aB (decide (x6 > 57))) rfl rfl ⟨fun h => h, trivial⟩ rfl) ?_))))))
  refine OkOps.q (triOrG rfl rfl rfl (fun h => h) (fun h h2 => by rw [h, h2]; rfl) rfl) ?_
  refine OkOps.q (triAnd rfl rfl (fun h => h) rfl) (OkOps.y (aB ((((decide (x6 < 97)) || (decide (x6 > 122))) && ((decide (x6 < 65)) || (decide (x6 > 90)))) && ((decide (x6 < 48)) || (decide (x6 > 57))))) (OkOps.q (triQG (x := .c (.d (.v (.int .u8 x6)))) rfl rfl trivial rfl) (OkOps.q (triQG (x := aB (x6 != 45)) rfl rfl ⟨fun h => h, trivial⟩ rfl) (OkOps.q (triAnd rfl rfl (fun h => h) rfl) (OkOps.y (aB (((((decide (x6 < 97)) || (decide (x6 > 122))) && ((decide (x6 < 65)) || (decide (x6 > 90)))) && ((decide (x6 < 48)) || (decide (x6 > 57)))) && (x6 != 45))) (OkOps.q (triQG (x := .c (.d (.v (.int .u8 x6)))) rfl rfl trivial rfl) (OkOps.q (triQG (x := aB (x6 != 95)) rfl rfl ⟨fun h => h, trivial⟩ rfl) (OkOps.q (triAnd rfl rfl (fun h => h) rfl) (OkOps.nil ?_)))))))))
  refine Ok.cond (b := (((((decide (x6 < 97)) || (decide (x6 > 122))) && ((decide (x6 < 65)) || (decide (x6 > 90)))) && ((decide (x6 < 48)) || (decide (x6 > 57)))) && (x6 != 45)) && (x6 != 95)) rfl (fun h7 => ?_) (fun h7 => ?_)
  have hr := selT h7 hr
  refine Ok.seq (Ok.region (OkOps.y (aB false) (OkOps.nil (Ok.ret ?_))))
  obtain rfl := Option.some.inj hr
  exact ⟨_, rfl, .inl rfl, trivial⟩
  have hr := selF h7 hr
  refine Ok.skip (Ok.region (OkOps.y (aI (IntKind.i64.wrap (s3 + 1))) (OkOps.y (aI (IntKind.i64.wrap (s3 + 1))) (OkOps.nil ?_))))
  exact ⟨IntKind.i64.wrap (s3 + 1), hr, (Conv.mk (tau []) ⟨⟨_, rfl, .inl rfl⟩, ⟨_, rfl, .inl rfl⟩, ⟨_, rfl, .inl rfl⟩, trivial⟩ trivial rfl rfl rfl rfl)⟩
  have hr := selF h5 hr
  refine Ok.exit ?_
  exact ⟨(), hr, (Conv.mk (tau []) ⟨⟨_, rfl, .inl rfl⟩, trivial⟩ trivial rfl rfl rfl rfl)⟩
theorem entry12 : Entry Tryd.prog 12 := ⟨_, Tryd.func12, by kernel_rfl, by kernel_rfl⟩
theorem r11_UTF8_c (p_s : Str) {r : Bool} (hr : r11_UTF8 p_s = some r) : Con Tryd.prog 123 [aS p_s] [] (.s (aB r)) [] := by
  unfold r11_UTF8 at hr
  refine Con.of_ok 8 0 [.tmp 2] [(0, .s (aS p_s))] Tryd.func123 rfl rfl rfl rfl rfl rfl rfl rfl fun w g M ρ _ => (Ok.seq (Ok.region (OkOps.y (aB false) (OkOps.nil (Ok.seq (Ok.region (OkOps.y (aS p_s) (OkOps.q (triRunes rfl rfl trivial rfl) (OkOps.q (triOfRunes (L := runes p_s) rfl rfl trivial rfl) (OkOps.y (aS p_s) (OkOps.y (aB ((ofRunes (runes p_s)).toList == p_s.toList)) (OkOps.y (aB ((ofRunes (runes p_s)).toList == p_s.toList)) (OkOps.nil (Ok.ret ?_))))))))))))))
  obtain rfl := Option.some.inj hr
  exact ⟨_, rfl, .inl rfl, trivial⟩
theorem entry123 : Entry Tryd.prog 123 := ⟨_, Tryd.func123, by kernel_rfl, by kernel_rfl⟩
theorem ex_fields_c (v : AValue) {r : Bool} (hr : ex_fields v = some r) : Con Tryd.prog 130 [.agg [cI v.Kind, cI v.N, cS v.S, .d (.sl (List.map AValue.cs v.L))]] [] (.s (aB r)) [] := by
  unfold ex_fields at hr
  refine Con.of_ok 38 0 [.tmp 2] [(0, .s (.agg [cI v.Kind, cI v.N, cS v.S, .d (.sl (List.map AValue.cs v.L))]))] Tryd.func130 rfl rfl rfl rfl rfl rfl rfl rfl fun w g M ρ _ => (Ok.seq (Ok.region (OkOps.m 0 (triBox (j := 0) (cs := [cI v.Kind, cI v.N, cS v.S, .d (.sl (List.map AValue.cs v.L))]) rfl rfl rfl rfl rfl) (OkOps.y (aB false) (OkOps.nil (Ok.seq (Ok.seq (Ok.region (OkOps.y (.c (.loc 0 0)) (OkOps.y (aI v.Kind) (OkOps.nil (Ok.block ?_))))))))))))
  obtain ⟨k2, hk2, hr⟩ := jn_some hr
  refine Ok.join (fun (s1 : Bool) => ⟨[(1, .s (.c (.loc 0 0))), (4, .s (aI v.Kind)), (5, .s (aB s1))], [(0, .blk [cI v.Kind, cI v.N, cS v.S, .d (.sl (List.map AValue.cs v.L))] 40)], 0⟩) k2 r (fun s1 hr => ?_) ?_
  rw [hk2] at hr
  refine Ok.cond (b := s1) rfl (fun h3 => ?_) (fun h3 => ?_)
  have hr := selT h3 hr
  refine Ok.seq (Ok.region (OkOps.y (.c (.loc 0 2)) (OkOps.y (aS v.S) (OkOps.y (aB (v.S.toList == (ByteArray.mk #[]).toList)) (OkOps.y (aB (v.S.toList == (ByteArray.mk #[]).toList)) (OkOps.q (triQG (x := .c (.loc 0 3)) rfl rfl trivial rfl) (OkOps.q (triQG (x := .c (.d (.sl (List.map AValue.cs v.L)))) rfl rfl ⟨fun h => h, trivial⟩ rfl) (OkOps.q (triLenG (enc := AValue.cs) v.L rfl rfl rfl ⟨fun h => h, trivial⟩ rfl) (OkOps.q (triQG (x := aB ((v.L.length : Int) == 0)) rfl rfl ⟨fun h => h, trivial⟩ rfl) (OkOps.q (triAnd rfl rfl (fun h => h) rfl) (OkOps.y (aB ((v.S.toList == (ByteArray.mk #[]).toList) && ((v.L.length : Int) == 0))) (OkOps.nil (Ok.ret ?_)))))))))))))
  obtain rfl := Option.some.inj hr
  exact ⟨_, rfl, .inl rfl, trivial⟩
  have hr := selF h3 hr
  refine Ok.seq (Ok.region (OkOps.y (aB (v.Kind == 3)) (OkOps.y (aB (v.Kind == 3)) (OkOps.nil ?_))))
  refine Ok.cond (b := v.Kind == 3) rfl (fun h4 => ?_) (fun h4 => ?_)
  have hr := selT h4 hr
  refine Ok.seq (Ok.region (OkOps.y (.c (.loc 0 1)) (OkOps.y (aI v.N) (OkOps.y (aB (v.N == 0)) (OkOps.y (aB (v.N == 0)) (OkOps.q (triQG (x := .c (.loc 0 3)) rfl rfl trivial rfl) (OkOps.q (triQG (x := .c (.d (.sl (List.map AValue.cs v.L)))) rfl rfl ⟨fun h => h, trivial⟩ rfl) (OkOps.q (triLenG (enc := AValue.cs) v.L rfl rfl rfl ⟨fun h => h, trivial⟩ rfl) (OkOps.q (triQG (x := aB ((v.L.length : Int) == 0)) rfl rfl ⟨fun h => h, trivial⟩ rfl) (OkOps.q (triAnd rfl rfl (fun h => h) rfl) (OkOps.y (aB ((v.N == 0) && ((v.L.length : Int) == 0))) (OkOps.nil (Ok.ret ?_)))))))))))))
  obtain rfl := Option.some.inj hr
  exact ⟨_, rfl, .inl rfl, trivial⟩
  have hr := selF h4 hr
  refine Ok.seq (Ok.region (OkOps.y (aB (v.Kind == 4)) (OkOps.y (aB (v.Kind == 4)) (OkOps.nil ?_))))
  refine Ok.cond (b := v.Kind == 4) rfl (fun h5 => ?_) (fun h5 => ?_)
  have hr := selT h5 hr
  refine Ok.seq (Ok.region (OkOps.y (.c (.loc 0 1)) (OkOps.y (aI v.N) (OkOps.y (aB (v.N == 0)) (OkOps.y (aB (v.N == 0)) (OkOps.q (triQG (x := .c (.loc 0 2)) rfl rfl trivial rfl) (OkOps.q (triQG (x := aS v.S) rfl rfl ⟨fun h => h, trivial⟩ rfl) (OkOps.q (triQG (x := aB (v.S.toList == (ByteArray.mk #[]).toList)) rfl rfl ⟨fun h => h, trivial⟩ rfl) (OkOps.q (triAnd rfl rfl (fun h => h) rfl) (OkOps.y (aB ((v.N == 0) && (v.S.toList == (ByteArray.mk #[]).toList))) (OkOps.nil (Ok.ret ?_))))))))))))
  obtain rfl := Option.some.inj hr
  exact ⟨_, rfl, .inl rfl, trivial⟩
  have hr := selF h5 hr
  refine Ok.skip (Ok.seq (Ok.region (OkOps.y (aB false) (OkOps.nil (Ok.ret ?_)))))
  obtain rfl := Option.some.inj hr
  exact ⟨_, rfl, .inl rfl, trivial⟩
  clear hk2
  refine Ok.seq (Ok.region (OkOps.y (aB (v.Kind == 1)) (OkOps.y (aB (v.Kind == 1)) (OkOps.nil ?_))))
  refine Ok.cond (b := v.Kind == 1) rfl (fun h6 => ?_) (fun h6 => ?_)
  have hr := selT h6 hr
  refine Ok.skip ?_
  exact ⟨v.Kind == 1, hr, (Conv.mk (tau []) ⟨⟨_, rfl, .inl rfl⟩, ⟨_, rfl, .inl rfl⟩, ⟨_, rfl, .inl rfl⟩, trivial⟩ ⟨rfl, trivial⟩ rfl rfl rfl rfl)⟩
  have hr := selF h6 hr
  refine Ok.region (OkOps.y (aB (v.Kind == 2)) (OkOps.y (aB (v.Kind == 2)) (OkOps.nil ?_)))
  exact ⟨v.Kind == 2, hr, (Conv.mk (tau []) ⟨⟨_, rfl, .inl rfl⟩, ⟨_, rfl, .inl rfl⟩, ⟨_, rfl, .inl rfl⟩, trivial⟩ ⟨rfl, trivial⟩ rfl rfl rfl rfl)⟩
theorem entry130 : Entry Tryd.prog 130 := ⟨_, Tryd.func130, by kernel_rfl, by kernel_rfl⟩
theorem ex_within_c (p_n : Int) {r : Bool} (hr : ex_within p_n = some r) : Con Tryd.prog 131 [aI p_n] [] (.s (aB r)) [] := by
  unfold ex_within at hr
  refine Con.of_ok 9 0 [.tmp 2] [(0, .s (aI p_n))] Tryd.func131 rfl rfl rfl rfl rfl rfl rfl rfl fun w g M ρ _ => (Ok.seq (Ok.region (OkOps.y (aB false) (OkOps.nil (Ok.seq (Ok.region (OkOps.y (aI p_n) (OkOps.y (aB (decide (p_n ≥ (-1099511627776)))) (OkOps.y (aB (decide (p_n ≥ (-1099511627776)))) (OkOps.q (triQG (x := aI p_n) rfl rfl trivial rfl) (OkOps.q (triQG (x := aB (decide (p_n ≤ 1099511627776))) rfl rfl ⟨fun h => h, trivial⟩ rfl) (OkOps.q (triAnd rfl rfl (fun h => h) rfl) (OkOps.y (aB ((decide (p_n ≥ (-1099511627776))) && (decide (p_n ≤ 1099511627776)))) (OkOps.nil (Ok.ret ?_)))))))))))))))
  obtain rfl := Option.some.inj hr
  exact ⟨_, rfl, .inl rfl, trivial⟩
theorem entry131 : Entry Tryd.prog 131 := ⟨_, Tryd.func131, by kernel_rfl, by kernel_rfl⟩
theorem unicode_utf8_word_string_c (p_s : Str) {r : Int} (hr : unicode_utf8_word_string p_s = some r) : Con Tryd.prog 137 [aS p_s] [] (.s (.c (.d (.v (.int .u64 r))))) [] := by
  unfold unicode_utf8_word_string at hr
  refine Con.of_ok 59 0 [.tmp 2] [(0, .s (aS p_s))] Tryd.func137 rfl rfl rfl rfl rfl rfl rfl rfl fun w g M ρ _ => (Ok.seq (Ok.region (OkOps.y (.c (.d (.v (.int .u64 0)))) (OkOps.nil (Ok.seq ?_)))))
  refine Ok.cond (b := false) rfl (fun h1 => ?_) (fun h1 => ?_)
  have hr := selT h1 hr
  refine Ok.seq (Ok.regionD (by kernel_rfl) (OkD.x (aS p_s) rfl trivial rfl ?_))
  obtain ⟨x2, hx2, hr⟩ := bind_some hr
  refine OkD.q (triSIdx hx2 rfl rfl rfl trivial rfl) (OkD.x (.c (.d (.v (.int .u64 (IntKind.u64.wrap x2))))) rfl trivial rfl (OkD.x (aS p_s) rfl trivial rfl ?_))
  obtain ⟨x3, hx3, hr⟩ := bind_some hr
  refine OkD.q (triSIdx hx3 rfl rfl rfl trivial rfl) (OkD.x (.c (.d (.v (.int .u64 (IntKind.u64.wrap x3))))) rfl trivial rfl (OkD.x (.c (.d (.v (.int .u64 (bShl .u64 (IntKind.u64.wrap x3) 8))))) rfl trivial rfl (OkD.x (.c (.d (.v (.int .u64 (bOr .u64 (IntKind.u64.wrap x2) (bShl .u64 (IntKind.u64.wrap x3) 8)))))) rfl trivial rfl (OkD.x (aS p_s) rfl trivial rfl ?_))))
  obtain ⟨x4, hx4, hr⟩ := bind_some hr
  refine OkD.q (triSIdx hx4 rfl rfl rfl trivial rfl) (OkD.x (.c (.d (.v (.int .u64 (IntKind.u64.wrap x4))))) rfl trivial rfl (OkD.x (.c (.d (.v (.int .u64 (bShl .u64 (IntKind.u64.wrap x4) 16))))) rfl trivial rfl (OkD.x (.c (.d (.v (.int .u64 (bOr .u64 (bOr .u64 (IntKind.u64.wrap x2) (bShl .u64 (IntKind.u64.wrap x3) 8)) (bShl .u64 (IntKind.u64.wrap x4) 16)))))) rfl trivial rfl (OkD.x (aS p_s) rfl trivial rfl ?_))))
  obtain ⟨x5, hx5, hr⟩ := bind_some hr
  refine OkD.q (triSIdx hx5 rfl rfl rfl trivial rfl) (OkD.x (.c (.d (.v (.int .u64 (IntKind.u64.wrap x5))))) rfl trivial rfl (OkD.x (.c (.d (.v (.int .u64 (bShl .u64 (IntKind.u64.wrap x5) 24))))) rfl trivial rfl (OkD.x (.c (.d (.v (.int .u64 (bOr .u64 (bOr .u64 (bOr .u64 (IntKind.u64.wrap x2) (bShl .u64 (IntKind.u64.wrap x3) 8)) (bShl .u64 (IntKind.u64.wrap x4) 16)) (bShl .u64 (IntKind.u64.wrap x5) 24)))))) rfl trivial rfl (OkD.x (.c (.d (.v (.int .u64 (bOr .u64 (bOr .u64 (bOr .u64 (IntKind.u64.wrap x2) (bShl .u64 (IntKind.u64.wrap x3) 8)) (bShl .u64 (IntKind.u64.wrap x4) 16)) (bShl .u64 (IntKind.u64.wrap x5) 24)))))) rfl trivial rfl (OkD.nil (by kernel_rfl) (Ok.ret ?_))))))
  obtain rfl := Option.some.inj hr
  exact ⟨_, rfl, .inl rfl, trivial⟩
  have hr := selF h1 hr
  refine Ok.skip (Ok.seq (Ok.regionD (by kernel_rfl) (OkD.x (aS p_s) rfl trivial rfl ?_)))
  obtain ⟨x6, hx6, hr⟩ := bind_some hr
  refine OkD.q (triSIdx hx6 rfl rfl rfl trivial rfl) (OkD.x (.c (.d (.v (.int .u64 (IntKind.u64.wrap x6))))) rfl trivial rfl (OkD.x (aS p_s) rfl trivial rfl ?_))
  obtain ⟨x7, hx7, hr⟩ := bind_some hr
  refine OkD.q (triSIdx hx7 rfl rfl rfl trivial rfl) (OkD.x (.c (.d (.v (.int .u64 (IntKind.u64.wrap x7))))) rfl trivial rfl (OkD.x (.c (.d (.v (.int .u64 (bShl .u64 (IntKind.u64.wrap x7) 8))))) rfl trivial rfl (OkD.x (.c (.d (.v (.int .u64 (bOr .u64 (IntKind.u64.wrap x6) (bShl .u64 (IntKind.u64.wrap x7) 8)))))) rfl trivial rfl (OkD.x (aS p_s) rfl trivial rfl ?_))))
  obtain ⟨x8, hx8, hr⟩ := bind_some hr
  refine OkD.q (triSIdx hx8 rfl rfl rfl trivial rfl) (OkD.x (.c (.d (.v (.int .u64 (IntKind.u64.wrap x8))))) rfl trivial rfl (OkD.x (.c (.d (.v (.int .u64 (bShl .u64 (IntKind.u64.wrap x8) 16))))) rfl trivial rfl (OkD.x (.c (.d (.v (.int .u64 (bOr .u64 (bOr .u64 (IntKind.u64.wrap x6) (bShl .u64 (IntKind.u64.wrap x7) 8)) (bShl .u64 (IntKind.u64.wrap x8) 16)))))) rfl trivial rfl (OkD.x (aS p_s) rfl trivial rfl ?_))))
  obtain ⟨x9, hx9, hr⟩ := bind_some hr
  refine OkD.q (triSIdx hx9 rfl rfl rfl trivial rfl) (OkD.x (.c (.d (.v (.int .u64 (IntKind.u64.wrap x9))))) rfl trivial rfl (OkD.x (.c (.d (.v (.int .u64 (bShl .u64 (IntKind.u64.wrap x9) 24))))) rfl trivial rfl (OkD.x (.c (.d (.v (.int .u64 (bOr .u64 (bOr .u64 (bOr .u64 (IntKind.u64.wrap x6) (bShl .u64 (IntKind.u64.wrap x7) 8)) (bShl .u64 (IntKind.u64.wrap x8) 16)) (bShl .u64 (IntKind.u64.wrap x9) 24)))))) rfl trivial rfl (OkD.x (aS p_s) rfl trivial rfl ?_))))
  obtain ⟨x10, hx10, hr⟩ := bind_some hr
  refine OkD.q (triSIdx hx10 rfl rfl rfl trivial rfl) (OkD.x (.c (.d (.v (.int .u64 (IntKind.u64.wrap x10))))) rfl trivial rfl (OkD.x (.c (.d (.v (.int .u64 (bShl .u64 (IntKind.u64.wrap x10) 32))))) rfl trivial rfl (OkD.x (.c (.d (.v (.int .u64 (bOr .u64 (bOr .u64 (bOr .u64 (bOr .u64 (IntKind.u64.wrap x6) (bShl .u64 (IntKind.u64.wrap x7) 8)) (bShl .u64 (IntKind.u64.wrap x8) 16)) (bShl .u64 (IntKind.u64.wrap x9) 24)) (bShl .u64 (IntKind.u64.wrap x10) 32)))))) rfl trivial rfl (OkD.x (aS p_s) rfl trivial rfl ?_))))
  obtain ⟨x11, hx11, hr⟩ := bind_some hr
  refine OkD.q (triSIdx hx11 rfl rfl rfl trivial rfl) (OkD.x (.c (.d (.v (.int .u64 (IntKind.u64.wrap x11))))) rfl trivial rfl (OkD.x (.c (.d (.v (.int .u64 (bShl .u64 (IntKind.u64.wrap x11) 40))))) rfl trivial rfl (OkD.x (.c (.d (.v (.int .u64 (bOr .u64 (bOr .u64 (bOr .u64 (bOr .u64 (bOr .u64 (IntKind.u64.wrap x6) (bShl .u64 (IntKind.u64.wrap x7) 8)) (bShl .u64 (IntKind.u64.wrap x8) 16)) (bShl .u64 (IntKind.u64.wrap x9) 24)) (bShl .u64 (IntKind.u64.wrap x10) 32)) (bShl .u64 (IntKind.u64.wrap x11) 40)))))) rfl trivial rfl (OkD.x (aS p_s) rfl trivial rfl ?_))))
  obtain ⟨x12, hx12, hr⟩ := bind_some hr
  refine OkD.q (triSIdx hx12 rfl rfl rfl trivial rfl) (OkD.x (.c (.d (.v (.int .u64 (IntKind.u64.wrap x12))))) rfl trivial rfl (OkD.x (.c (.d (.v (.int .u64 (bShl .u64 (IntKind.u64.wrap x12) 48))))) rfl trivial rfl (OkD.x (.c (.d (.v (.int .u64 (bOr .u64 (bOr .u64 (bOr .u64 (bOr .u64 (bOr .u64 (bOr .u64 (IntKind.u64.wrap x6) (bShl .u64 (IntKind.u64.wrap x7) 8)) (bShl .u64 (IntKind.u64.wrap x8) 16)) (bShl .u64 (IntKind.u64.wrap x9) 24)) (bShl .u64 (IntKind.u64.wrap x10) 32)) (bShl .u64 (IntKind.u64.wrap x11) 40)) (bShl .u64 (IntKind.u64.wrap x12) 48)))))) rfl trivial rfl (OkD.x (aS p_s) rfl trivial rfl ?_))))
  obtain ⟨x13, hx13, hr⟩ := bind_some hr
  refine OkD.q (triSIdx hx13 rfl rfl rfl trivial rfl) (OkD.x (.c (.d (.v (.int .u64 (IntKind.u64.wrap x13))))) rfl trivial rfl (OkD.x (.c (.d (.v (.int .u64 (bShl .u64 (IntKind.u64.wrap x13) 56))))) rfl trivial rfl (OkD.x (.c (.d (.v (.int .u64 (bOr .u64 (bOr .u64 (bOr .u64 (bOr .u64 (bOr .u64 (bOr .u64 (bOr .u64 (IntKind.u64.wrap x6) (bShl .u64 (IntKind.u64.wrap x7) 8)) (bShl .u64 (IntKind.u64.wrap x8) 16)) (bShl .u64 (IntKind.u64.wrap x9) 24)) (bShl .u64 (IntKind.u64.wrap x10) 32)) (bShl .u64 (IntKind.u64.wrap x11) 40)) (bShl .u64 (IntKind.u64.wrap x12) 48)) (bShl .u64 (IntKind.u64.wrap x13) 56)))))) rfl trivial rfl (OkD.x (.c (.d (.v (.int .u64 (bOr .u64 (bOr .u64 (bOr .u64 (bOr .u64 (bOr .u64 (bOr .u64 (bOr .u64 (IntKind.u64.wrap x6) (bShl .u64 (IntKind.u64.wrap x7) 8)) (bShl .u64 (IntKind.u64.wrap x8) 16)) (bShl .u64 (IntKind.u64.wrap x9) 24)) (bShl .u64 (IntKind.u64.wrap x10) 32)) (bShl .u64 (IntKind.u64.wrap x11) 40)) (bShl .u64 (IntKind.u64.wrap x12) 48)) (bShl .u64 (IntKind.u64.wrap x13) 56)))))) rfl trivial rfl (OkD.nil (by kernel_rfl) (Ok.ret ?_))))))
  obtain rfl := Option.some.inj hr
  exact ⟨_, rfl, .inl rfl, trivial⟩
theorem entry137 : Entry Tryd.prog 137 := ⟨_, Tryd.func137, by kernel_rfl, by kernel_rfl⟩
theorem unicode_utf8_ValidString_c (p_s : Str) {r : Bool} (hr : unicode_utf8_ValidString p_s = some r) : Con Tryd.prog 132 [aS p_s] [] (.s (aB r)) [] := by
  unfold unicode_utf8_ValidString at hr
  refine Con.of_ok 169 0 [.tmp 2] [(0, .s (aS p_s))] Tryd.func132 rfl rfl rfl rfl rfl rfl rfl rfl fun w g M ρ _ => (Ok.seq (Ok.region (OkOps.y (aB false) (OkOps.nil ?_))))
  obtain ⟨k2, hk2, hr⟩ := jn_some hr
  refine Ok.join (fun (s1 : Unit) => ⟨[], [], 0⟩) k2 r (fun s1 hr => ?_) ?_
  rw [hk2] at hr
  refine Ok.seq (Ok.region (OkOps.y (aB true) (OkOps.nil (Ok.ret ?_))))
  obtain rfl := Option.some.inj hr
  exact ⟨_, rfl, .inl rfl, trivial⟩
  clear hk2
  refine Ok.block (Ok.loopK (fun (s3 : Str) => ⟨[(0, .s (aS s3))], [], 0⟩) hr (Conv.mk (tau []) ⟨⟨_, rfl, .inl rfl⟩, trivial⟩ trivial rfl rfl rfl rfl) ?_)
  clear hr
  intro again4 s3 hr
  unfold unicode_utf8_ValidString_L2 at hr
  refine Ok.seq (Ok.seq (Ok.region (OkOps.y (aS s3) (OkOps.y (aI (s3.size : Int)) (OkOps.y (aB (decide ((s3.size : Int) > 0))) (OkOps.nil ?_))))))
  refine Ok.cond (b := decide ((s3.size : Int) > 0)) rfl (fun h5 => ?_) (fun h5 => ?_)
  have hr := selT h5 hr
  refine Ok.skip ?_
  obtain ⟨k7, hk7, hr⟩ := jn_some hr
  refine Ok.joinEnd (fun (s6 : Str) => ⟨[(0, .s (aS s6))], [], 0⟩) k7 r (fun s6 hr => ?_) ?_
  rw [hk7] at hr
  exact ⟨s6, hr, (Conv.mk (tau []) ⟨⟨_, rfl, .inl rfl⟩, trivial⟩ trivial rfl rfl rfl rfl)⟩
  clear hk7
  refine Ok.block (Ok.seq (Ok.region (OkOps.y (aS s3) ?_)))
  obtain ⟨x8, hx8, hr⟩ := bind_some hr
  refine OkOps.q (triSIdx hx8 rfl rfl rfl trivial rfl) (OkOps.y (.c (.d (.v (.int .u8 x8)))) (OkOps.nil (Ok.seq (Ok.seq (Ok.region (OkOps.y (.c (.d (.v (.int .u8 x8)))) (OkOps.y (aB (decide (x8 < 128))) (OkOps.nil ?_))))))))
  refine Ok.cond (b := decide (x8 < 128)) rfl (fun h9 => ?_) (fun h9 => ?_)
  have hr := selT h9 hr
  refine Ok.seq (Ok.region (OkOps.y (aS s3) ?_))
  obtain ⟨x10, hx10, hr⟩ := bind_some hr
  refine OkOps.q (triSSlc hx10 rfl rfl rfl (.inr ⟨_, rfl⟩) (.inl ⟨rfl, rfl⟩) rfl trivial rfl) (OkOps.y (aS x10) (OkOps.nil ?_))
  obtain ⟨k12, hk12, hr⟩ := jn_some hr
  refine Ok.join (fun (s11 : Str) => ⟨[(0, .s (aS s11))], [], 0⟩) k12 r (fun s11 hr => ?_) ?_
  rw [hk12] at hr
  refine Ok.exit ?_
  exact ⟨s11, hr, (Conv.mk (tau []) ⟨⟨_, rfl, .inl rfl⟩, trivial⟩ trivial rfl rfl rfl rfl)⟩
  clear hk12
  refine Ok.seq (Ok.region (OkOps.y (aS x10) (OkOps.y (aI (x10.size : Int)) (OkOps.y (aB (decide ((x10.size : Int) > 8))) (OkOps.y (aB (decide ((x10.size : Int) > 8))) (OkOps.q (triQG (x := aS x10) rfl rfl trivial rfl) ?_))))))
  obtain ⟨x13, hx13, hr⟩ := bind_some hr
  refine OkOps.q (triCallG (x := .c (.d (.v (.int .u64 x13)))) (fun hg => unicode_utf8_word_string_c _ (gO_t hx13 hg)) rfl rfl ⟨.inl rfl, trivial⟩ ⟨fun h => h, trivial⟩ entry137 rfl rfl rfl) (OkOps.q (triQG (x := .c (.d (.v (.int .u64 (bAnd .u64 x13 9259542123273814144))))) rfl rfl ⟨fun h => h, trivial⟩ rfl) (OkOps.q (triQG (x := aB ((bAnd .u64 x13 9259542123273814144) == 0)) rfl rfl ⟨fun h => h, trivial⟩ rfl) (OkOps.q (triAnd rfl rfl (fun h => h) rfl) (OkOps.nil ?_))))
  refine Ok.cond (b := (decide ((x10.size : Int) > 8)) && ((bAnd .u64 x13 9259542123273814144) == 0)) rfl (fun h14 => ?_) (fun h14 => ?_)
  have hr := selT h14 hr
  refine Ok.seq (Ok.region (OkOps.y (aS x10) ?_))
  obtain ⟨x15, hx15, hr⟩ := bind_some hr
  refine OkOps.q (triSSlc hx15 rfl rfl rfl (.inr ⟨_, rfl⟩) (.inl ⟨rfl, rfl⟩) rfl trivial rfl) (OkOps.y (aS x15) (OkOps.nil (Ok.seq (Ok.regionD (by kernel_rfl) (OkD.x (aS x15) rfl trivial rfl (OkD.x (aI (x15.size : Int)) rfl trivial rfl (OkD.x (aB (decide ((x15.size : Int) > 16))) rfl trivial rfl (OkD.x (aB (decide ((x15.size : Int) > 16))) rfl trivial rfl (OkD.q (triQG (x := aS x15) rfl rfl trivial rfl) ?_)))))))))
  obtain ⟨x16, hx16, hr⟩ := bind_some hr
  refine OkD.q (triCallG (x := .c (.d (.v (.int .u64 x16)))) (fun hg => unicode_utf8_word_string_c _ (gO_t hx16 hg)) rfl rfl ⟨.inl rfl, trivial⟩ ⟨fun h => h, trivial⟩ entry137 rfl rfl rfl) (OkD.q (triQG (x := aS x15) rfl rfl trivial rfl) ?_)
  obtain ⟨x17, hx17, hr⟩ := bind_some hr
  refine OkD.q (triSSlcG (gO_t hx17) rfl rfl rfl rfl (.inr ⟨_, rfl⟩) (.inl ⟨rfl, rfl⟩) rfl ⟨fun h => h, trivial⟩ rfl) ?_
  obtain ⟨x18, hx18, hr⟩ := bind_some hr
  refine OkD.q (triCallG (x := .c (.d (.v (.int .u64 x18)))) (fun hg => unicode_utf8_word_string_c _ (gO_t hx18 hg)) rfl rfl ⟨.inl rfl, trivial⟩ ⟨fun h => h, trivial⟩ entry137 rfl rfl rfl) (OkD.q (triQG (x := .c (.d (.v (.int .u64 (bOr .u64 x16 x18))))) rfl rfl ⟨fun h => h, ⟨fun h => h, trivial⟩⟩ rfl) (OkD.q (triQG (x := .c (.d (.v (.int .u64 (bAnd .u64 (bOr .u64 x16 x18) 9259542123273814144))))) rfl rfl ⟨fun h => h, trivial⟩ rfl) (OkD.q (triQG (x := aB ((bAnd .u64 (bOr .u64 x16 x18) 9259542123273814144) == 0)) rfl rfl ⟨fun h => h, trivial⟩ rfl) (OkD.q (triAnd rfl rfl (fun h => h) rfl) (OkD.nil (by kernel_rfl) ?_)))))
  refine Ok.cond (b := (decide ((x15.size : Int) > 16)) && ((bAnd .u64 (bOr .u64 x16 x18) 9259542123273814144) == 0)) rfl (fun h19 => ?_) (fun h19 => ?_)
  have hr := selT h19 hr
  refine Ok.seq (Ok.region (OkOps.y (aS x15) ?_))
  obtain ⟨x20, hx20, hr⟩ := bind_some hr
  refine OkOps.q (triSSlc hx20 rfl rfl rfl (.inr ⟨_, rfl⟩) (.inl ⟨rfl, rfl⟩) rfl trivial rfl) (OkOps.y (aS x20) (OkOps.nil (Ok.block (Ok.loopK (fun (s21 : Str) => ⟨[(0, .s (aS s21))], [], 0⟩) hr (Conv.mk (tau []) ⟨⟨_, rfl, .inl rfl⟩, trivial⟩ trivial rfl rfl rfl rfl) ?_))))
  clear hr
  intro again22 s21 hr
  unfold unicode_utf8_ValidString_L1 at hr
  refine Ok.seq (Ok.seq (Ok.regionD (by kernel_rfl) (OkD.x (aS s21) rfl trivial rfl (OkD.x (aI (s21.size : Int)) rfl trivial rfl (OkD.x (aB (decide ((s21.size : Int) > 32))) rfl trivial rfl (OkD.x (aB (decide ((s21.size : Int) > 32))) rfl trivial rfl (OkD.q (triQG (x := aS s21) rfl rfl trivial rfl) ?_)))))))
  obtain ⟨x23, hx23, hr⟩ := bind_some hr
  refine OkD.q (triCallG (x := .c (.d (.v (.int .u64 x23)))) (fun hg => unicode_utf8_word_string_c _ (gO_t hx23 hg)) rfl rfl ⟨.inl rfl, trivial⟩ ⟨fun h => h, trivial⟩ entry137 rfl rfl rfl) (OkD.q (triQG (x := aS s21) rfl rfl trivial rfl) ?_)
  obtain ⟨x24, hx24, hr⟩ := bind_some hr
  refine OkD.q (triSSlcG (gO_t hx24) rfl rfl rfl rfl (.inr ⟨_, rfl⟩) (.inl ⟨rfl, rfl⟩) rfl ⟨fun h => h, trivial⟩ rfl) ?_
  obtain ⟨x25, hx25, hr⟩ := bind_some hr
  refine OkD.q (triCallG (x := .c (.d (.v (.int .u64 x25)))) (fun hg => unicode_utf8_word_string_c _ (gO_t hx25 hg)) rfl rfl ⟨.inl rfl, trivial⟩ ⟨fun h => h, trivial⟩ entry137 rfl rfl rfl) (OkD.q (triQG (x := .c (.d (.v (.int .u64 (bOr .u64 x23 x25))))) rfl rfl ⟨fun h => h, ⟨fun h => h, trivial⟩⟩ rfl) (OkD.q (triQG (x := aS s21) rfl rfl trivial rfl) ?_))
  obtain ⟨x26, hx26, hr⟩ := bind_some hr
  refine OkD.q (triSSlcG (gO_t hx26) rfl rfl rfl rfl (.inr ⟨_, rfl⟩) (.inl ⟨rfl, rfl⟩) rfl ⟨fun h => h, trivial⟩ rfl) ?_
  obtain ⟨x27, hx27, hr⟩ := bind_some hr
  refine OkD.q (triCallG (x := .c (.d (.v (.int .u64 x27)))) (fun hg => unicode_utf8_word_string_c _ (gO_t hx27 hg)) rfl rfl ⟨.inl rfl, trivial⟩ ⟨fun h => h, trivial⟩ entry137 rfl rfl rfl) (OkD.q (triQG (x := aS s21) rfl rfl trivial rfl) ?_)
  obtain ⟨x28, hx28, hr⟩ := bind_some hr
  refine OkD.q (triSSlcG (gO_t hx28) rfl rfl rfl rfl (.inr ⟨_, rfl⟩) (.inl ⟨rfl, rfl⟩) rfl ⟨fun h => h, trivial⟩ rfl) ?_
  obtain ⟨x29, hx29, hr⟩ := bind_some hr
  refine OkD.q (triCallG (x := .c (.d (.v (.int .u64 x29)))) (fun hg => unicode_utf8_word_string_c _ (gO_t hx29 hg)) rfl rfl ⟨.inl rfl, trivial⟩ ⟨fun h => h, trivial⟩ entry137 rfl rfl rfl) (OkD.q (triQG (x := .c (.d (.v (.int .u64 (bOr .u64 x27 x29))))) rfl rfl ⟨fun h => h, ⟨fun h => h, trivial⟩⟩ rfl) (OkD.q (triQG (x := .c (.d (.v (.int .u64 (bOr .u64 (bOr .u64 x23 x25) (bOr .u64 x27 x29)))))) rfl rfl ⟨fun h => h, ⟨fun h => h, trivial⟩⟩ rfl) (OkD.q (triQG (x := .c (.d (.v (.int .u64 (bAnd .u64 (bOr .u64 (bOr .u64 x23 x25) (bOr .u64 x27 x29)) 9259542123273814144))))) rfl rfl ⟨fun h => h, trivial⟩ rfl) (OkD.q (triQG (x := aB ((bAnd .u64 (bOr .u64 (bOr .u64 x23 x25) (bOr .u64 x27 x29)) 9259542123273814144) == 0)) rfl rfl ⟨fun h => h, trivial⟩ rfl) (OkD.q (triAnd rfl rfl (fun h => h) rfl) (OkD.nil (by kernel_rfl) ?_))))))
  refine Ok.cond (b := (decide ((s21.size : Int) > 32)) && ((bAnd .u64 (bOr .u64 (bOr .u64 x23 x25) (bOr .u64 x27 x29)) 9259542123273814144) == 0)) rfl (fun h30 => ?_) (fun h30 => ?_)
  have hr := selT h30 hr
  refine Ok.skip (Ok.block (Ok.region (OkOps.y (aS s21) ?_)))
  obtain ⟨x31, hx31, hr⟩ := bind_some hr
  refine OkOps.q (triSSlc hx31 rfl rfl rfl (.inr ⟨_, rfl⟩) (.inl ⟨rfl, rfl⟩) rfl trivial rfl) (OkOps.y (aS x31) (OkOps.nil ?_))
  exact ⟨x31, hr, (Conv.mk (tau []) ⟨⟨_, rfl, .inl rfl⟩, trivial⟩ trivial rfl rfl rfl rfl)⟩
  have hr := selF h30 hr
  refine Ok.exit ?_
  exact ⟨s21, hr, (Conv.mk (tau []) ⟨⟨_, rfl, .inl rfl⟩, trivial⟩ trivial rfl rfl rfl rfl)⟩
  have hr := selF h19 hr
  refine Ok.skip ?_
  exact ⟨x15, hr, (Conv.mk (tau []) ⟨⟨_, rfl, .inl rfl⟩, trivial⟩ trivial rfl rfl rfl rfl)⟩
  have hr := selF h14 hr
  refine Ok.skip ?_
  exact ⟨x10, hr, (Conv.mk (tau []) ⟨⟨_, rfl, .inl rfl⟩, trivial⟩ trivial rfl rfl rfl rfl)⟩
  have hr := selF h9 hr
  refine Ok.skip (Ok.seq (Ok.region (OkOps.y (.c (.d (.v (.int .u8 x8)))) ?_)))
  obtain ⟨x32, hx32, hr⟩ := bind_some hr
  refine OkOps.q (triFirst (y := x32) hx32 (by kernel_rfl) rfl rfl trivial rfl) (OkOps.y (.c (.d (.v (.int .u8 x32)))) (OkOps.y (.c (.d (.v (.int .u8 x32)))) (OkOps.nil (Ok.seq (Ok.region (OkOps.y (.c (.d (.v (.int .u8 x32)))) (OkOps.y (.c (.d (.v (.int .u8 (bAnd .u8 x32 7))))) (OkOps.y (aI (IntKind.i64.wrap (bAnd .u8 x32 7))) (OkOps.y (aI (IntKind.i64.wrap (bAnd .u8 x32 7))) (OkOps.nil (Ok.seq (Ok.region (OkOps.y (.c (.d (.v (.int .u8 x32)))) (OkOps.y (.c (.d (.v (.int .u8 (bShr .u8 x32 4))))) ?_))))))))))))))
  obtain ⟨x33, hx33, hr⟩ := bind_some hr
  refine OkOps.q (triAccept (y := x33) hx33 (by kernel_rfl) rfl rfl trivial rfl) (OkOps.y (.agg [.d (.v (.int .u8 x33.1)), .d (.v (.int .u8 x33.2))]) (OkOps.m 0 (triAlloc (j := 0) (cs := [.d (.v (.int .u8 0)), .d (.v (.int .u8 0))]) rfl rfl rfl rfl) (OkOps.w (triStore (cs' := [.d (.v (.int .u8 x33.1)), .d (.v (.int .u8 x33.2))]) rfl rfl rfl rfl rfl rfl rfl rfl rfl) (OkOps.nil (Ok.seq (Ok.region (OkOps.y (aI (IntKind.i64.wrap (bAnd .u8 x32 7))) (OkOps.nil (Ok.block (Ok.seq (Ok.region (OkOps.y (aB ((IntKind.i64.wrap (bAnd .u8 x32 7)) == 2)) (OkOps.y (aB ((IntKind.i64.wrap (bAnd .u8 x32 7)) == 2)) (OkOps.nil ?_))))))))))))))
  refine Ok.cond (b := (IntKind.i64.wrap (bAnd .u8 x32 7)) == 2) rfl (fun h34 => ?_) (fun h34 => ?_)
  have hr := selT h34 hr
  refine Ok.seq (Ok.seq (Ok.regionD (by kernel_rfl) (OkD.x (aS s3) rfl trivial rfl (OkD.x (aI (s3.size : Int)) rfl trivial rfl (OkD.x (aB (decide ((s3.size : Int) < 2))) rfl trivial rfl (OkD.x (aB (decide ((s3.size : Int) < 2))) rfl trivial rfl (OkD.q (triQG (x := aS s3) rfl rfl trivial rfl) ?_)))))))
  obtain ⟨x35, hx35, hr⟩ := bind_some hr
  refine OkD.q (triSIdxG (gO_t hx35) rfl rfl rfl rfl ⟨fun h => h, trivial⟩ rfl) (OkD.q (triQG (x := .c (.loc 0 0)) rfl rfl trivial rfl) (OkD.q (triQG (x := .c (.d (.v (.int .u8 x33.1)))) rfl rfl ⟨fun h => h, trivial⟩ rfl) (OkD.q (triQG (x := aB (decide (x35 < x33.1))) rfl rfl ⟨fun h => h, ⟨fun h => h, trivial⟩⟩ rfl) ?_)))
  refine OkD.q (triOr rfl rfl (fun h => by rw [h]; rfl) rfl) ?_
  refine OkD.x (aB ((decide ((s3.size : Int) < 2)) || (decide (x35 < x33.1)))) rfl trivial rfl (OkD.q (triQG (x := .c (.loc 0 1)) rfl rfl trivial rfl) (OkD.q (triQG (x := .c (.d (.v (.int .u8 x33.2)))) rfl rfl ⟨fun h => h, trivial⟩ rfl) (OkD.q (triQG (x := aS s3) rfl rfl trivial rfl) ?_)))
  obtain ⟨x36, hx36, hr⟩ := bind_some hr
  refine OkD.q (triSIdxG (gO_t hx36) rfl rfl rfl rfl ⟨fun h => h, trivial⟩ rfl) (OkD.q (triQG (x := aB (decide (x33.2 < x36))) rfl rfl ⟨fun h => h, ⟨fun h => h, trivial⟩⟩ rfl) ?_)
  refine OkD.q (triOr rfl rfl (fun h => by rw [h]; rfl) rfl) ?_
  refine OkD.nil (by kernel_rfl) ?_
  refine Ok.cond (b := ((decide ((s3.size : Int) < 2)) || (decide (x35 < x33.1))) || (decide (x33.2 < x36))) rfl (fun h37 => ?_) (fun h37 => ?_)
  have hr := selT h37 hr
  refine Ok.seq (Ok.region (OkOps.y (aB false) (OkOps.nil (Ok.ret ?_))))
  obtain rfl := Option.some.inj hr
  exact ⟨_, rfl, .inl rfl, trivial⟩
  have hr := selF h37 hr
  refine Ok.skip (Ok.region (OkOps.y (aS s3) ?_))
  obtain ⟨x38, hx38, hr⟩ := bind_some hr
  refine OkOps.q (triSSlc hx38 rfl rfl rfl (.inr ⟨_, rfl⟩) (.inl ⟨rfl, rfl⟩) rfl trivial rfl) (OkOps.y (aS x38) (OkOps.nil ?_))
  exact ⟨x38, hr, (Conv.mk (tau []) ⟨⟨_, rfl, .inl rfl⟩, trivial⟩ trivial rfl rfl rfl rfl)⟩
  have hr := selF h34 hr
  refine Ok.seq (Ok.region (OkOps.y (aB ((IntKind.i64.wrap (bAnd .u8 x32 7)) == 3)) (OkOps.y (aB ((IntKind.i64.wrap (bAnd .u8 x32 7)) == 3)) (OkOps.nil ?_))))
  refine Ok.cond (b := (IntKind.i64.wrap (bAnd .u8 x32 7)) == 3) rfl (fun h39 => ?_) (fun h39 => ?_)
  have hr := selT h39 hr
  refine Ok.seq (Ok.seq (Ok.regionD (by kernel_rfl) (OkD.x (aS s3) rfl trivial rfl (OkD.x (aI (s3.size : Int)) rfl trivial rfl (OkD.x (aB (decide ((s3.size : Int) < 3))) rfl trivial rfl (OkD.x (aB (decide ((s3.size : Int) < 3))) rfl trivial rfl (OkD.q (triQG (x := aS s3) rfl rfl trivial rfl) ?_)))))))
  obtain ⟨x40, hx40, hr⟩ := bind_some hr
  refine OkD.q (triSIdxG (gO_t hx40) rfl rfl rfl rfl ⟨fun h => h, trivial⟩ rfl) (OkD.q (triQG (x := .c (.loc 0 0)) rfl rfl trivial rfl) (OkD.q (triQG (x := .c (.d (.v (.int .u8 x33.1)))) rfl rfl ⟨fun h => h, trivial⟩ rfl) (OkD.q (triQG (x := aB (decide (x40 < x33.1))) rfl rfl ⟨fun h => h, ⟨fun h => h, trivial⟩⟩ rfl) ?_)))
  refine OkD.q (triOr rfl rfl (fun h => by rw [h]; rfl) rfl) ?_
  refine OkD.x (aB ((decide ((s3.size : Int) < 3)) || (decide (x40 < x33.1)))) rfl trivial rfl (OkD.q (triQG (x := .c (.loc 0 1)) rfl rfl trivial rfl) (OkD.q (triQG (x := .c (.d (.v (.int .u8 x33.2)))) rfl rfl ⟨fun h => h, trivial⟩ rfl) (OkD.q (triQG (x := aS s3) rfl rfl trivial rfl) ?_)))
  obtain ⟨x41, hx41, hr⟩ := bind_some hr
  refine OkD.q (triSIdxG (gO_t hx41) rfl rfl rfl rfl ⟨fun h => h, trivial⟩ rfl) (OkD.q (triQG (x := aB (decide (x33.2 < x41))) rfl rfl ⟨fun h => h, ⟨fun h => h, trivial⟩⟩ rfl) ?_)
  refine OkD.q (triOr rfl rfl (fun h => by rw [h]; rfl) rfl) ?_
  refine OkD.x (aB (((decide ((s3.size : Int) < 3)) || (decide (x40 < x33.1))) || (decide (x33.2 < x41)))) rfl trivial rfl (OkD.q (triQG (x := aS s3) rfl rfl trivial rfl) ?_)
  obtain ⟨x42, hx42, hr⟩ := bind_some hr
  refine OkD.q (triSIdxG (gO_t hx42) rfl rfl rfl rfl ⟨fun h => h, trivial⟩ rfl) (OkD.q (triQG (x := aB (decide (x42 < 128))) rfl rfl ⟨fun h => h, trivial⟩ rfl) ?_)
  refine OkD.q (triOr rfl rfl (fun h => by rw [h]; rfl) rfl) ?_
  refine OkD.x (aB ((((decide ((s3.size : Int) < 3)) || (decide (x40 < x33.1))) || (decide (x33.2 < x41))) || (decide (x42 < 128)))) rfl trivial rfl (OkD.q (triQG (x := aS s3) rfl rfl trivial rfl) ?_)
  obtain ⟨x43, hx43, hr⟩ := bind_some hr
  refine OkD.q (triSIdxG (gO_t hx43) rfl rfl rfl rfl ⟨fun h => h, trivial⟩ rfl) (OkD.q (triQG (x := aB (decide (191 < x43))) rfl rfl ⟨fun h => h, trivial⟩ rfl) ?_)
  refine OkD.q (triOr rfl rfl (fun h => by rw [h]; rfl) rfl) ?_
  refine OkD.nil (by kernel_rfl) ?_
  refine Ok.cond (b := ((((decide ((s3.size : Int) < 3)) || (decide (x40 < x33.1))) || (decide (x33.2 < x41))) || (decide (x42 < 128))) || (decide (191 < x43))) rfl (fun h44 => ?_) (fun h44 => ?_)
  have hr := selT h44 hr
  refine Ok.seq (Ok.region (OkOps.y (aB false) (OkOps.nil (Ok.ret ?_))))
  obtain rfl := Option.some.inj hr
  exact ⟨_, rfl, .inl rfl, trivial⟩
  have hr := selF h44 hr
  refine Ok.skip (Ok.region (OkOps.y (aS s3) ?_))
  obtain ⟨x45, hx45, hr⟩ := bind_some hr
  refine OkOps.q (triSSlc hx45 rfl rfl rfl (.inr ⟨_, rfl⟩) (.inl ⟨rfl, rfl⟩) rfl trivial rfl) (OkOps.y (aS x45) (OkOps.nil ?_))
  exact ⟨x45, hr, (Conv.mk (tau []) ⟨⟨_, rfl, .inl rfl⟩, trivial⟩ trivial rfl rfl rfl rfl)⟩
  have hr := selF h39 hr
  refine Ok.seq (Ok.region (OkOps.y (aB ((IntKind.i64.wrap (bAnd .u8 x32 7)) == 4)) (OkOps.y (aB ((IntKind.i64.wrap (bAnd .u8 x32 7)) == 4)) (OkOps.nil ?_))))
  refine Ok.cond (b := (IntKind.i64.wrap (bAnd .u8 x32 7)) == 4) rfl (fun h46 => ?_) (fun h46 => ?_)
  have hr := selT h46 hr
  refine Ok.seq (Ok.seq (Ok.regionD (by kernel_rfl) (OkD.x (aS s3) rfl trivial rfl (OkD.x (aI (s3.size : Int)) rfl trivial rfl (OkD.x (aB (decide ((s3.size : Int) < 4))) rfl trivial rfl (OkD.x (aB (decide ((s3.size : Int) < 4))) rfl trivial rfl (OkD.q (triQG (x := aS s3) rfl rfl trivial rfl) ?_)))))))
  obtain ⟨x47, hx47, hr⟩ := bind_some hr
  refine OkD.q (triSIdxG (gO_t hx47) rfl rfl rfl rfl ⟨fun h => h, trivial⟩ rfl) (OkD.q (triQG (x := .c (.loc 0 0)) rfl rfl trivial rfl) (OkD.q (triQG (x := .c (.d (.v (.int .u8 x33.1)))) rfl rfl ⟨fun h => h, trivial⟩ rfl) (OkD.q (triQG (x := aB (decide (x47 < x33.1))) rfl rfl ⟨fun h => h, ⟨fun h => h, trivial⟩⟩ rfl) ?_)))
  refine OkD.q (triOr rfl rfl (fun h => by rw [h]; rfl) rfl) ?_
  refine OkD.x (aB ((decide ((s3.size : Int) < 4)) || (decide (x47 < x33.1)))) rfl trivial rfl (OkD.q (triQG (x := .c (.loc 0 1)) rfl rfl trivial rfl) (OkD.q (triQG (x := .c (.d (.v (.int .u8 x33.2)))) rfl rfl ⟨fun h => h, trivial⟩ rfl) (OkD.q (triQG (x := aS s3) rfl rfl trivial rfl) ?_)))
  obtain ⟨x48, hx48, hr⟩ := bind_some hr
  refine OkD.q (triSIdxG (gO_t hx48) rfl rfl rfl rfl ⟨fun h => h, trivial⟩ rfl) (OkD.q (triQG (x := aB (decide (x33.2 < x48))) rfl rfl ⟨fun h => h, ⟨fun h => h, trivial⟩⟩ rfl) ?_)
  refine OkD.q (triOr rfl rfl (fun h => by rw [h]; rfl) rfl) ?_
  refine OkD.x (aB (((decide ((s3.size : Int) < 4)) || (decide (x47 < x33.1))) || (decide (x33.2 < x48)))) rfl trivial rfl (OkD.q (triQG (x := aS s3) rfl rfl trivial rfl) ?_)
  obtain ⟨x49, hx49, hr⟩ := bind_some hr
  refine OkD.q (triSIdxG (gO_t hx49) rfl rfl rfl rfl ⟨fun h => h, trivial⟩ rfl) (OkD.q (triQG (x := aB (decide (x49 < 128))) rfl rfl ⟨fun h => h, trivial⟩ rfl) ?_)
  refine OkD.q (triOr rfl rfl (fun h => by rw [h]; rfl) rfl) ?_
  refine OkD.x (aB ((((decide ((s3.size : Int) < 4)) || (decide (x47 < x33.1))) || (decide (x33.2 < x48))) || (decide (x49 < 128)))) rfl trivial rfl (OkD.q (triQG (x := aS s3) rfl rfl trivial rfl) ?_)
  obtain ⟨x50, hx50, hr⟩ := bind_some hr
  refine OkD.q (triSIdxG (gO_t hx50) rfl rfl rfl rfl ⟨fun h => h, trivial⟩ rfl) (OkD.q (triQG (x := aB (decide (191 < x50))) rfl rfl ⟨fun h => h, trivial⟩ rfl) ?_)
  refine OkD.q (triOr rfl rfl (fun h => by rw [h]; rfl) rfl) ?_
  refine OkD.x (aB (((((decide ((s3.size : Int) < 4)) || (decide (x47 < x33.1))) || (decide (x33.2 < x48))) || (decide (x49 < 128))) || (decide (191 < x50)))) rfl trivial rfl (OkD.q (triQG (x := aS s3) rfl rfl trivial rfl) ?_)
  obtain ⟨x51, hx51, hr⟩ := bind_some hr
  refine OkD.q (triSIdxG (gO_t hx51) rfl rfl rfl rfl ⟨fun h => h, trivial⟩ rfl) (OkD.q (triQG (x := aB (decide (x51 < 128))) rfl rfl ⟨fun h => h, trivial⟩ rfl) ?_)
  refine OkD.q (triOr rfl rfl (fun h => by rw [h]; rfl) rfl) ?_
  refine OkD.x (aB ((((((decide ((s3.size : Int) < 4)) || (decide (x47 < x33.1))) || (decide (x33.2 < x48))) || (decide (x49 < 128))) || (decide (191 < x50))) || (decide (x51 < 128)))) rfl trivial rfl (OkD.q (triQG (x := aS s3) rfl rfl trivial rfl) ?_)
  obtain ⟨x52, hx52, hr⟩ := bind_some hr
  refine OkD.q (triSIdxG (gO_t hx52) rfl rfl rfl rfl ⟨fun h => h, trivial⟩ rfl) (OkD.q (triQG (x := aB (decide (191 < x52))) rfl rfl ⟨fun h => h, trivial⟩ rfl) ?_)
  refine OkD.q (triOr rfl rfl (fun h => by rw [h]; rfl) rfl) ?_
  refine OkD.nil (by kernel_rfl) ?_
  refine Ok.cond (b := ((((((decide ((s3.size : Int) < 4)) || (decide (x47 < x33.1))) || (decide (x33.2 < x48))) || (decide (x49 < 128))) || (decide (191 < x50))) || (decide (x51 < 128))) || (decide (191 < x52))) rfl (fun h53 => ?_) (fun h53 => ?_)
  have hr := selT h53 hr
  refine Ok.seq (Ok.region (OkOps.y (aB false) (OkOps.nil (Ok.ret ?_))))
  obtain rfl := Option.some.inj hr
  exact ⟨_, rfl, .inl rfl, trivial⟩
  have hr := selF h53 hr
  refine Ok.skip (Ok.region (OkOps.y (aS s3) ?_))
  obtain ⟨x54, hx54, hr⟩ := bind_some hr
  refine OkOps.q (triSSlc hx54 rfl rfl rfl (.inr ⟨_, rfl⟩) (.inl ⟨rfl, rfl⟩) rfl trivial rfl) (OkOps.y (aS x54) (OkOps.nil ?_))
  exact ⟨x54, hr, (Conv.mk (tau []) ⟨⟨_, rfl, .inl rfl⟩, trivial⟩ trivial rfl rfl rfl rfl)⟩
  have hr := selF h46 hr
  refine Ok.seq (Ok.region (OkOps.y (aB false) (OkOps.nil (Ok.ret ?_))))
  obtain rfl := Option.some.inj hr
  exact ⟨_, rfl, .inl rfl, trivial⟩
  have hr := selF h5 hr
  refine Ok.exit ?_
  exact ⟨(), hr, (Conv.mk (tau []) trivial trivial rfl rfl rfl rfl)⟩
theorem entry132 : Entry Tryd.prog 132 := ⟨_, Tryd.func132, by kernel_rfl, by kernel_rfl⟩
theorem ex_listOf_c (t : AType) {r : AType} (hr : ex_listOf t = some r) : Con Tryd.prog 134 [.agg [cI t.Kind, .d (.sl (List.map AType.cs t.Of))]] [] (.s (.agg [cI r.Kind, .d (.sl (List.map AType.cs r.Of))])) [] := by
  unfold ex_listOf at hr
  refine Con.of_ok 6 0 [.cell 2 130] [(0, .s (.agg [cI t.Kind, .d (.sl (List.map AType.cs t.Of))]))] Tryd.func134 rfl rfl rfl rfl rfl rfl rfl rfl fun w g M ρ _ => (Ok.seq (Ok.region (OkOps.m 0 (triBox (j := 0) (cs := [cI t.Kind, .d (.sl (List.map AType.cs t.Of))]) rfl rfl rfl rfl rfl) (OkOps.m 0 (triAlloc (j := 1) (cs := [cI 0, .d (.v (.slice none 0 0))]) rfl rfl rfl rfl) (OkOps.nil (Ok.seq (Ok.region (OkOps.y (.agg [cI t.Kind, .d (.sl (List.map AType.cs t.Of))]) ?_))))))))
  refine OkOps.m 0 (triBST (sz := 2) (enc := AType.cs) (j := 2) ([t]) rfl rfl rfl rfl rfl (rows := [[dI t.Kind, .sl (List.map AType.cs t.Of)]]) (by simp only [List.map, AType.cs_eq]) rfl rfl (fun x => by rw [AType.cs_eq]; rfl) trivial rfl rfl) ?_
  refine OkOps.y (.agg [cI 4, .tl 2 (List.map AType.cs ([t]))]) (OkOps.w (triStore (cs' := [cI 4, .tl 2 (List.map AType.cs ([t]))]) rfl rfl rfl rfl rfl rfl rfl rfl rfl) (OkOps.nil (Ok.ret ?_)))
  obtain rfl := Option.some.inj hr
  exact ⟨_, rfl, .inr rfl, trivial⟩
theorem entry134 : Entry Tryd.prog 134 := ⟨_, Tryd.func134, by kernel_rfl, by kernel_rfl⟩
theorem entry138 : Entry Tryd.prog 138 := ⟨_, Tryd.func138, by kernel_rfl, by kernel_rfl⟩
theorem ex_join_B_c (self0 : AType → AType → Option (AType × Bool)) (hself0 : ∀ (a : AType) (b : AType) {r : AType × Bool}, self0 a b = some r → Con Tryd.prog 138 [.agg [cI a.Kind, .d (.sl (List.map AType.cs a.Of))], .agg [cI b.Kind, .d (.sl (List.map AType.cs b.Of))]] [] (.tup [.agg [cI r.1.Kind, .d (.sl (List.map AType.cs r.1.Of))], aB r.2]) []) (a : AType) (b : AType) {r : AType × Bool} (hr : ex_join_B self0 a b = some r) : Con Tryd.prog 138 [.agg [cI a.Kind, .d (.sl (List.map AType.cs a.Of))], .agg [cI b.Kind, .d (.sl (List.map AType.cs b.Of))]] [] (.tup [.agg [cI r.1.Kind, .d (.sl (List.map AType.cs r.1.Of))], aB r.2]) [] := by
  unfold ex_join_B at hr
  refine Con.of_ok 44 0 [.cell 4 130, .tmp 5] [(0, .s (.agg [cI a.Kind, .d (.sl (List.map AType.cs a.Of))])), (1, .s (.agg [cI b.Kind, .d (.sl (List.map AType.cs b.Of))]))] Tryd.func138 rfl rfl rfl rfl rfl rfl rfl rfl fun w g M ρ _ => (Ok.seq (Ok.region (OkOps.m 0 (triBox (j := 0) (cs := [cI a.Kind, .d (.sl (List.map AType.cs a.Of))]) rfl rfl rfl rfl rfl) (OkOps.m 0 (triBox (j := 1) (cs := [cI b.Kind, .d (.sl (List.map AType.cs b.Of))]) rfl rfl rfl rfl rfl) (OkOps.m 0 (triAlloc (j := 2) (cs := [cI 0, .d (.v (.slice none 0 0))]) rfl rfl rfl rfl) (OkOps.y (aB false) (OkOps.nil (Ok.seq (Ok.block (Ok.seq (Ok.region (OkOps.y (.c (.loc 0 0)) (OkOps.y (aI a.Kind) (OkOps.y (.c (.loc 1 0)) (OkOps.y (aI b.Kind) ?_)))))))))))))))
  refine OkOps.y (aB (a.Kind != b.Kind)) (OkOps.y (aB (a.Kind != b.Kind)) (OkOps.nil ?_))
  refine Ok.cond (b := a.Kind != b.Kind) rfl (fun h1 => ?_) (fun h1 => ?_)
  have hr := selT h1 hr
  refine Ok.seq (Ok.region (OkOps.y (.agg [cI 0, .d (.v (.slice none 0 0))]) (OkOps.w (triStore (cs' := [cI 0, .d (.v (.slice none 0 0))]) rfl rfl rfl rfl rfl rfl rfl rfl rfl) (OkOps.y (aB false) (OkOps.nil (Ok.ret ?_))))))
  obtain rfl := Option.some.inj hr
  exact ⟨_, rfl, .inr rfl, trivial⟩
  have hr := selF h1 hr
  refine Ok.seq (Ok.region (OkOps.y (.c (.loc 0 1)) (OkOps.y (.c (.d (.sl (List.map AType.cs a.Of)))) (OkOps.q (triLen (enc := AType.cs) a.Of rfl rfl trivial rfl) (OkOps.y (aB ((a.Of.length : Int) == 0)) (OkOps.y (aB ((a.Of.length : Int) == 0)) (OkOps.nil ?_)))))))
  refine Ok.cond (b := (a.Of.length : Int) == 0) rfl (fun h2 => ?_) (fun h2 => ?_)
  have hr := selT h2 hr
  refine Ok.seq (Ok.region (OkOps.y (.agg [cI b.Kind, .d (.sl (List.map AType.cs b.Of))]) (OkOps.w (triStore (cs' := [cI b.Kind, .d (.sl (List.map AType.cs b.Of))]) rfl rfl rfl rfl rfl rfl rfl rfl rfl) (OkOps.y (aB true) (OkOps.nil (Ok.ret ?_))))))
  obtain rfl := Option.some.inj hr
  exact ⟨_, rfl, .inl rfl, trivial⟩
  have hr := selF h2 hr
  refine Ok.seq (Ok.region (OkOps.y (.c (.loc 1 1)) (OkOps.y (.c (.d (.sl (List.map AType.cs b.Of)))) (OkOps.q (triLen (enc := AType.cs) b.Of rfl rfl trivial rfl) (OkOps.y (aB ((b.Of.length : Int) == 0)) (OkOps.y (aB ((b.Of.length : Int) == 0)) (OkOps.nil ?_)))))))
  refine Ok.cond (b := (b.Of.length : Int) == 0) rfl (fun h3 => ?_) (fun h3 => ?_)
  have hr := selT h3 hr
  refine Ok.seq (Ok.region (OkOps.y (.agg [cI a.Kind, .d (.sl (List.map AType.cs a.Of))]) (OkOps.w (triStore (cs' := [cI a.Kind, .d (.sl (List.map AType.cs a.Of))]) rfl rfl rfl rfl rfl rfl rfl rfl rfl) (OkOps.y (aB true) (OkOps.nil (Ok.ret ?_))))))
  obtain rfl := Option.some.inj hr
  exact ⟨_, rfl, .inl rfl, trivial⟩
  have hr := selF h3 hr
  refine Ok.skip (Ok.seq (Ok.regionD (by kernel_rfl) (OkD.x (.c (.loc 0 1)) rfl trivial rfl (OkD.x (.c (.d (.sl (List.map AType.cs a.Of)))) rfl trivial rfl ?_))))
  obtain ⟨x4, hx4, hr⟩ := bind_some hr
  refine OkD.q (triIdx (enc := AType.cs) (L := a.Of) (row := [dI x4.Kind, .sl (List.map AType.cs x4.Of)]) hx4 (AType.cs_eq _) rfl rfl rfl (fun x => by rw [AType.cs_eq]; rfl) trivial rfl) ?_
  refine OkD.x (.agg [cI x4.Kind, .d (.sl (List.map AType.cs x4.Of))]) rfl trivial rfl (OkD.x (.c (.loc 1 1)) rfl trivial rfl (OkD.x (.c (.d (.sl (List.map AType.cs b.Of)))) rfl trivial rfl ?_))
  obtain ⟨x5, hx5, hr⟩ := bind_some hr
  refine OkD.q (triIdx (enc := AType.cs) (L := b.Of) (row := [dI x5.Kind, .sl (List.map AType.cs x5.Of)]) hx5 (AType.cs_eq _) rfl rfl rfl (fun x => by rw [AType.cs_eq]; rfl) trivial rfl) ?_
  refine OkD.x (.agg [cI x5.Kind, .d (.sl (List.map AType.cs x5.Of))]) rfl trivial rfl ?_
  obtain ⟨x6, hx6, hr⟩ := bind_some hr
  refine OkD.q (triCl (tau []) (.tup [.agg [cI x6.1.Kind, .d (.sl (List.map AType.cs x6.1.Of))], aB x6.2]) [] (hself0 _ _ hx6) rfl ⟨.inl rfl, .inl rfl, trivial⟩ trivial entry138 trivial) (OkD.q (triMv (v := .tup [.agg [cI x6.1.Kind, .d (.sl (List.map AType.cs x6.1.Of))], aB x6.2]) rfl rfl) (OkD.x (.agg [cI x6.1.Kind, .d (.sl (List.map AType.cs x6.1.Of))]) rfl trivial rfl (OkD.x (aB x6.2) rfl trivial rfl (OkD.m 0 (triAlloc (j := 3) (cs := [cI 0, .d (.v (.slice none 0 0))]) rfl rfl rfl rfl) (OkD.w (triStore (cs' := [cI x6.1.Kind, .d (.sl (List.map AType.cs x6.1.Of))]) rfl rfl rfl rfl rfl rfl rfl rfl rfl) (OkD.x (aB x6.2) rfl trivial rfl (OkD.nil (by kernel_rfl) (Ok.seq (Ok.seq (Ok.region (OkOps.y (aB x6.2) (OkOps.y (aB (!x6.2)) (OkOps.nil ?_)))))))))))))
  refine Ok.cond (b := !x6.2) rfl (fun h7 => ?_) (fun h7 => ?_)
  have hr := selT h7 hr
  refine Ok.seq (Ok.region (OkOps.y (.agg [cI 0, .d (.v (.slice none 0 0))]) (OkOps.w (triStore (cs' := [cI 0, .d (.v (.slice none 0 0))]) rfl rfl rfl rfl rfl rfl rfl rfl rfl) (OkOps.y (aB false) (OkOps.nil (Ok.ret ?_))))))
  obtain rfl := Option.some.inj hr
  exact ⟨_, rfl, .inr rfl, trivial⟩
  have hr := selF h7 hr
  refine Ok.skip (Ok.seq (Ok.region (OkOps.y (.agg [cI x6.1.Kind, .d (.sl (List.map AType.cs x6.1.Of))]) ?_)))
  obtain ⟨x8, hx8, hr⟩ := bind_some hr
  refine OkOps.q (triCl (tau []) (.s (.agg [cI x8.Kind, .d (.sl (List.map AType.cs x8.Of))])) [] (ex_listOf_c _ hx8) rfl ⟨.inl rfl, trivial⟩ trivial entry134 trivial) (OkOps.w (triStore (cs' := [cI x8.Kind, .d (.sl (List.map AType.cs x8.Of))]) rfl rfl rfl rfl rfl rfl rfl rfl rfl) (OkOps.y (aB true) (OkOps.nil (Ok.ret ?_))))
  obtain rfl := Option.some.inj hr
  exact ⟨_, rfl, .inl rfl, trivial⟩
theorem ex_join_all : ∀ n : Nat, (∀ (a : AType) (b : AType) {r : AType × Bool}, ex_join n a b = some r → Con Tryd.prog 138 [.agg [cI a.Kind, .d (.sl (List.map AType.cs a.Of))], .agg [cI b.Kind, .d (.sl (List.map AType.cs b.Of))]] [] (.tup [.agg [cI r.1.Kind, .d (.sl (List.map AType.cs r.1.Of))], aB r.2]) []) ∧ True := by
  intro n
  induction n with
  | zero => exact ⟨(by intros; rename_i hr; cases hr), trivial⟩
  | succ n ih => exact ⟨(by intros; rename_i hr; exact ex_join_B_c _ ih.1 _ _ hr), trivial⟩
theorem ex_join_c (n : Nat) (a : AType) (b : AType) {r : AType × Bool} (hr : ex_join n a b = some r) : Con Tryd.prog 138 [.agg [cI a.Kind, .d (.sl (List.map AType.cs a.Of))], .agg [cI b.Kind, .d (.sl (List.map AType.cs b.Of))]] [] (.tup [.agg [cI r.1.Kind, .d (.sl (List.map AType.cs r.1.Of))], aB r.2]) [] := (ex_join_all n).1 a b hr
theorem ex_common_c (l : (List AType)) {r : AType × Bool} (hr : ex_common l = some r) : Con Tryd.prog 133 [.c (.d (.sl (List.map AType.cs l)))] [] (.tup [.agg [cI r.1.Kind, .d (.sl (List.map AType.cs r.1.Of))], aB r.2]) [] := by
  unfold ex_common at hr
  refine Con.of_ok 34 0 [.cell 2 130, .tmp 3] [(0, .s (.c (.d (.sl (List.map AType.cs l)))))] Tryd.func133 rfl rfl rfl rfl rfl rfl rfl rfl fun w g M ρ _ => (Ok.seq (Ok.region (OkOps.m 0 (triAlloc (j := 0) (cs := [cI 0, .d (.v (.slice none 0 0))]) rfl rfl rfl rfl) (OkOps.y (aB false) (OkOps.nil (Ok.seq (Ok.seq (Ok.region (OkOps.y (.c (.d (.sl (List.map AType.cs l)))) (OkOps.q (triLen (enc := AType.cs) l rfl rfl trivial rfl) (OkOps.y (aB ((l.length : Int) == 0)) (OkOps.nil ?_))))))))))))
  refine Ok.cond (b := (l.length : Int) == 0) rfl (fun h1 => ?_) (fun h1 => ?_)
  have hr := selT h1 hr
  refine Ok.seq (Ok.region (OkOps.y (.agg [cI 4, .d (.v (.slice none 0 0))]) (OkOps.w (triStore (cs' := [cI 4, .d (.v (.slice none 0 0))]) rfl rfl rfl rfl rfl rfl rfl rfl rfl) (OkOps.y (aB true) (OkOps.nil (Ok.ret ?_))))))
  obtain rfl := Option.some.inj hr
  exact ⟨_, rfl, .inr rfl, trivial⟩
  have hr := selF h1 hr
  refine Ok.skip (Ok.seq (Ok.region (OkOps.y (.c (.d (.sl (List.map AType.cs l)))) ?_)))
  obtain ⟨x2, hx2, hr⟩ := bind_some hr
  refine OkOps.q (triIdx (enc := AType.cs) (L := l) (row := [dI x2.Kind, .sl (List.map AType.cs x2.Of)]) hx2 (AType.cs_eq _) rfl rfl rfl (fun x => by rw [AType.cs_eq]; rfl) trivial rfl) ?_
  refine OkOps.y (.agg [cI x2.Kind, .d (.sl (List.map AType.cs x2.Of))]) (OkOps.m 0 (triAlloc (j := 1) (cs := [cI 0, .d (.v (.slice none 0 0))]) rfl rfl rfl rfl) (OkOps.w (triStore (cs' := [cI x2.Kind, .d (.sl (List.map AType.cs x2.Of))]) rfl rfl rfl rfl rfl rfl rfl rfl rfl) (OkOps.nil ?_)))
  obtain ⟨k4, hk4, hr⟩ := jn_some hr
  refine Ok.join (fun (s3 : Int × (List AType)) => ⟨[(2, .s (.c (.loc 0 0))), (4, .s (.c (.loc 1 0)))], [(0, .blk [cI 0, .d (.v (.slice none 0 0))] 130), (1, .blk [cI s3.1, .d (.sl (List.map AType.cs s3.2))] 130)], 0⟩) k4 r (fun s3 hr => ?_) ?_
  rw [hk4] at hr
  refine Ok.seq (Ok.region (OkOps.y (.agg [cI s3.1, .d (.sl (List.map AType.cs s3.2))]) ?_))
  obtain ⟨x5, hx5, hr⟩ := bind_some hr
  refine OkOps.q (triCl (tau []) (.s (.agg [cI x5.Kind, .d (.sl (List.map AType.cs x5.Of))])) [] (ex_listOf_c _ hx5) rfl ⟨.inl rfl, trivial⟩ trivial entry134 trivial) (OkOps.w (triStore (cs' := [cI x5.Kind, .d (.sl (List.map AType.cs x5.Of))]) rfl rfl rfl rfl rfl rfl rfl rfl rfl) (OkOps.y (aB true) (OkOps.nil (Ok.ret ?_))))
  obtain rfl := Option.some.inj hr
  exact ⟨_, rfl, .inl rfl, trivial⟩
  clear hk4
  refine Ok.seq (Ok.region (OkOps.y (.c (.d (.sl (List.map AType.cs l)))) ?_))
  obtain ⟨x6, hx6, hr⟩ := bind_some hr
  refine OkOps.q (triSlc (enc := AType.cs) (L := l) hx6 rfl rfl rfl (.inr ⟨_, rfl⟩) (.inl ⟨rfl, rfl⟩) rfl (fun x => by rw [AType.cs_eq]; rfl) trivial rfl) ?_
  refine OkOps.q (triLen (enc := AType.cs) x6 rfl rfl trivial rfl) (OkOps.y (aI 0) (OkOps.nil (Ok.block (Ok.loopK (fun (s7 : Int × Int × (List AType)) => ⟨[(2, .s (.c (.loc 0 0))), (4, .s (.c (.loc 1 0))), (16, .s (.c (.d (.sl (List.map AType.cs x6))))), (17, .s (aI (x6.length : Int))), (18, .s (aI s7.1))], [(0, .blk [cI 0, .d (.v (.slice none 0 0))] 130), (1, .blk [cI s7.2.1, .d (.sl (List.map AType.cs s7.2.2))] 130)], 0⟩) hr (Conv.mk (tau []) ⟨⟨_, rfl, .inl rfl⟩, ⟨_, rfl, .inl rfl⟩, ⟨_, rfl, .inl rfl⟩, ⟨_, rfl, .inl rfl⟩, ⟨_, rfl, .inl rfl⟩, trivial⟩ ⟨rfl, rfl, trivial⟩ rfl rfl rfl rfl) ?_))))
  clear hr
  intro again8 s7 hr
  unfold ex_common_L1 at hr
  refine Ok.seq (Ok.region (OkOps.y (aB (decide (s7.1 < (x6.length : Int)))) (OkOps.nil (Ok.seq ?_))))
  refine Ok.cond (b := decide (s7.1 < (x6.length : Int))) rfl (fun h9 => ?_) (fun h9 => ?_)
  have hr := selT h9 hr
  refine Ok.skip (Ok.seq (Ok.block (Ok.seq (Ok.region ?_))))
  obtain ⟨x10, hx10, hr⟩ := bind_some hr
  refine OkOps.q (triIdx (enc := AType.cs) (L := x6) (row := [dI x10.Kind, .sl (List.map AType.cs x10.Of)]) hx10 (AType.cs_eq _) rfl rfl rfl (fun x => by rw [AType.cs_eq]; rfl) trivial rfl) ?_
  refine OkOps.y (.agg [cI x10.Kind, .d (.sl (List.map AType.cs x10.Of))]) (OkOps.m 0 (triAlloc (j := 2) (cs := [cI 0, .d (.v (.slice none 0 0))]) rfl rfl rfl rfl) (OkOps.w (triStore (cs' := [cI x10.Kind, .d (.sl (List.map AType.cs x10.Of))]) rfl rfl rfl rfl rfl rfl rfl rfl rfl) (OkOps.nil (Ok.seq (Ok.region (OkOps.y (aB false) (OkOps.nil (Ok.seq (Ok.region (OkOps.y (.agg [cI s7.2.1, .d (.sl (List.map AType.cs s7.2.2))]) (OkOps.y (.agg [cI x10.Kind, .d (.sl (List.map AType.cs x10.Of))]) ?_)))))))))))
  obtain ⟨x11, hx11, hr⟩ := bind_some hr
  refine OkOps.q (triCl (tau []) (.tup [.agg [cI x11.1.Kind, .d (.sl (List.map AType.cs x11.1.Of))], aB x11.2]) [] (ex_join_c _ _ _ hx11) rfl ⟨.inl rfl, .inl rfl, trivial⟩ trivial entry138 trivial) (OkOps.q (triMv (v := .tup [.agg [cI x11.1.Kind, .d (.sl (List.map AType.cs x11.1.Of))], aB x11.2]) rfl rfl) (OkOps.y (.agg [cI x11.1.Kind, .d (.sl (List.map AType.cs x11.1.Of))]) (OkOps.y (aB x11.2) (OkOps.w (triStore (cs' := [cI x11.1.Kind, .d (.sl (List.map AType.cs x11.1.Of))]) rfl rfl rfl rfl rfl rfl rfl rfl rfl) (OkOps.y (aB x11.2) (OkOps.nil (Ok.seq (Ok.region (OkOps.y (aB x11.2) (OkOps.y (aB (!x11.2)) (OkOps.nil ?_)))))))))))
  refine Ok.cond (b := !x11.2) rfl (fun h12 => ?_) (fun h12 => ?_)
  have hr := selT h12 hr
  refine Ok.seq (Ok.region (OkOps.y (.agg [cI 0, .d (.v (.slice none 0 0))]) (OkOps.w (triStore (cs' := [cI 0, .d (.v (.slice none 0 0))]) rfl rfl rfl rfl rfl rfl rfl rfl rfl) (OkOps.y (aB false) (OkOps.nil (Ok.ret ?_))))))
  obtain rfl := Option.some.inj hr
  exact ⟨_, rfl, .inr rfl, trivial⟩
  have hr := selF h12 hr
  refine Ok.skip (Ok.region (OkOps.y (aI (IntKind.i64.wrap (s7.1 + 1))) (OkOps.y (aI (IntKind.i64.wrap (s7.1 + 1))) (OkOps.nil ?_))))
  exact ⟨(IntKind.i64.wrap (s7.1 + 1), x11.1.Kind, x11.1.Of), hr, (Conv.mk (tau []) ⟨⟨_, rfl, .inl rfl⟩, ⟨_, rfl, .inl rfl⟩, ⟨_, rfl, .inl rfl⟩, ⟨_, rfl, .inl rfl⟩, ⟨_, rfl, .inl rfl⟩, trivial⟩ ⟨rfl, rfl, trivial⟩ rfl rfl rfl rfl)⟩
  have hr := selF h9 hr
  refine Ok.exit ?_
  exact ⟨(s7.2.1, s7.2.2), hr, (Conv.mk (tau []) ⟨⟨_, rfl, .inl rfl⟩, ⟨_, rfl, .inl rfl⟩, trivial⟩ ⟨rfl, rfl, trivial⟩ rfl rfl rfl rfl)⟩
theorem entry133 : Entry Tryd.prog 133 := ⟨_, Tryd.func133, by kernel_rfl, by kernel_rfl⟩
theorem entry121 : Entry Tryd.prog 121 := ⟨_, Tryd.func121, by kernel_rfl, by kernel_rfl⟩
theorem ex_check_B_c (self0 : AValue → Int → Int → Option (AType × Int × Int)) (hself0 : ∀ (v : AValue) (depth : Int) (p_n : Int) {r : AType × Int × Int}, self0 v depth p_n = some r → Con Tryd.prog 121 [.agg [cI v.Kind, cI v.N, cS v.S, .d (.sl (List.map AValue.cs v.L))], aI depth, .c (.loc 0 0)] [(0, .blk [cI p_n] 3)] (.tup [.agg [cI r.1.Kind, .d (.sl (List.map AType.cs r.1.Of))], aI r.2.1]) [(0, .blk [cI r.2.2] 3)]) (v : AValue) (depth : Int) (p_n : Int) {r : AType × Int × Int} (hr : ex_check_B self0 v depth p_n = some r) : Con Tryd.prog 121 [.agg [cI v.Kind, cI v.N, cS v.S, .d (.sl (List.map AValue.cs v.L))], aI depth, .c (.loc 0 0)] [(0, .blk [cI p_n] 3)] (.tup [.agg [cI r.1.Kind, .d (.sl (List.map AType.cs r.1.Of))], aI r.2.1]) [(0, .blk [cI r.2.2] 3)] := by
  unfold ex_check_B at hr
  refine Con.of_ok 121 0 [.cell 6 130, .tmp 7] [(0, .s (.agg [cI v.Kind, cI v.N, cS v.S, .d (.sl (List.map AValue.cs v.L))])), (1, .s (aI depth)), (2, .s (.c (.loc 0 0)))] Tryd.func121 rfl rfl rfl rfl rfl rfl rfl rfl fun w g M ρ _ => (Ok.seq (Ok.region (OkOps.m 0 (triBox (j := 1) (cs := [cI v.Kind, cI v.N, cS v.S, .d (.sl (List.map AValue.cs v.L))]) rfl rfl rfl rfl rfl) (OkOps.m 0 (triAlloc (j := 2) (cs := [cI 0, .d (.v (.slice none 0 0))]) rfl rfl rfl rfl) (OkOps.y (aI 0) (OkOps.nil (Ok.seq (Ok.seq (Ok.region (OkOps.y (.c (.loc 1 0)) (OkOps.y (aI v.Kind) (OkOps.y (aB (v.Kind == 4)) (OkOps.y (aB (v.Kind == 4)) (OkOps.q (triQG (x := aI depth) rfl rfl trivial rfl) (OkOps.q (triQG (x := aB (decide (depth ≥ 16))) rfl rfl ⟨fun h => h, trivial⟩ rfl) ?_)))))))))))))))
  refine OkOps.q (triAnd rfl rfl (fun h => h) rfl) (OkOps.nil ?_)
  refine Ok.cond (b := (v.Kind == 4) && (decide (depth ≥ 16))) rfl (fun h1 => ?_) (fun h1 => ?_)
  have hr := selT h1 hr
  refine Ok.seq (Ok.region (OkOps.y (.agg [cI 0, .d (.v (.slice none 0 0))]) (OkOps.w (triStore (cs' := [cI 0, .d (.v (.slice none 0 0))]) rfl rfl rfl rfl rfl rfl rfl rfl rfl) (OkOps.y (aI 8) (OkOps.nil (Ok.ret ?_))))))
  obtain rfl := Option.some.inj hr
  exact ⟨_, rfl, .inr rfl, ⟨rfl, trivial⟩⟩
  have hr := selF h1 hr
  refine Ok.skip (Ok.seq (Ok.region (OkOps.y (.c (.loc 0 0)) (OkOps.y (.c (.loc 0 0)) (OkOps.y (aI p_n) (OkOps.y (aI (IntKind.i64.wrap (p_n + 1))) (OkOps.y (.c (.loc 0 0)) (OkOps.w (triStore (cs' := [cI (IntKind.i64.wrap (p_n + 1))]) rfl rfl rfl rfl rfl rfl rfl rfl rfl) (OkOps.nil (Ok.seq (Ok.block (Ok.seq (Ok.region (OkOps.y (.agg [cI v.Kind, cI v.N, cS v.S, .d (.sl (List.map AValue.cs v.L))]) ?_))))))))))))))
  obtain ⟨x2, hx2, hr⟩ := bind_some hr
  refine OkOps.q (triCl (tau []) (.s (aB x2)) [] (ex_fields_c _ hx2) rfl ⟨.inl rfl, trivial⟩ trivial entry130 trivial) (OkOps.y (aB (!x2)) (OkOps.y (aB (!x2)) (OkOps.nil ?_)))
  refine Ok.cond (b := !x2) rfl (fun h3 => ?_) (fun h3 => ?_)
  have hr := selT h3 hr
  refine Ok.seq (Ok.region (OkOps.y (.agg [cI 0, .d (.v (.slice none 0 0))]) (OkOps.w (triStore (cs' := [cI 0, .d (.v (.slice none 0 0))]) rfl rfl rfl rfl rfl rfl rfl rfl rfl) (OkOps.y (aI 9) (OkOps.nil (Ok.ret ?_))))))
  obtain rfl := Option.some.inj hr
  exact ⟨_, rfl, .inr rfl, ⟨rfl, trivial⟩⟩
  have hr := selF h3 hr
  obtain ⟨k5, hk5, hr⟩ := jn_some hr
  refine Ok.join (fun (s4 : Bool) => ⟨[(1, .s (aI depth)), (2, .s (.c (.loc 0 0))), (3, .s (.c (.loc 1 0))), (6, .s (.c (.loc 2 0))), (33, .s (aB s4))], [(0, .blk [cI (IntKind.i64.wrap (p_n + 1))] 3), (1, .blk [cI v.Kind, cI v.N, cS v.S, .d (.sl (List.map AValue.cs v.L))] 40), (2, .blk [cI 0, .d (.v (.slice none 0 0))] 130)], 0⟩) k5 r (fun s4 hr => ?_) ?_
  rw [hk5] at hr
  refine Ok.cond (b := s4) rfl (fun h6 => ?_) (fun h6 => ?_)
  have hr := selT h6 hr
  refine Ok.seq (Ok.region (OkOps.y (.agg [cI 0, .d (.v (.slice none 0 0))]) (OkOps.w (triStore (cs' := [cI 0, .d (.v (.slice none 0 0))]) rfl rfl rfl rfl rfl rfl rfl rfl rfl) (OkOps.y (aI 1) (OkOps.nil (Ok.ret ?_))))))
  obtain rfl := Option.some.inj hr
  exact ⟨_, rfl, .inr rfl, ⟨rfl, trivial⟩⟩
  have hr := selF h6 hr
  refine Ok.seq (Ok.region (OkOps.y (.c (.loc 1 2)) (OkOps.y (aS v.S) (OkOps.y (aI (v.S.size : Int)) (OkOps.y (aB (decide ((v.S.size : Int) > 2000))) (OkOps.y (aB (decide ((v.S.size : Int) > 2000))) (OkOps.q (triQG (x := .c (.loc 1 3)) rfl rfl trivial rfl) (OkOps.q (triQG (x := .c (.d (.sl (List.map AValue.cs v.L)))) rfl rfl ⟨fun h => h, trivial⟩ rfl) (OkOps.q (triLenG (enc := AValue.cs) v.L rfl rfl rfl ⟨fun h => h, trivial⟩ rfl) (OkOps.q (triQG (x := aB (decide ((v.L.length : Int) > 100))) rfl rfl ⟨fun h => h, trivial⟩ rfl) ?_))))))))))
  refine OkOps.q (triOr rfl rfl (fun h => by rw [h]; rfl) rfl) ?_
  refine OkOps.y (aB ((decide ((v.S.size : Int) > 2000)) || (decide ((v.L.length : Int) > 100)))) (OkOps.q (triQG (x := .c (.loc 0 0)) rfl rfl trivial rfl) (OkOps.q (triQG (x := .c (.loc 0 0)) rfl rfl ⟨fun h => h, trivial⟩ rfl) (OkOps.q (triQG (x := aI (IntKind.i64.wrap (p_n + 1))) rfl rfl ⟨fun h => h, trivial⟩ rfl) (OkOps.q (triQG (x := aB (decide ((IntKind.i64.wrap (p_n + 1)) > 1000))) rfl rfl ⟨fun h => h, trivial⟩ rfl) ?_))))
  refine OkOps.q (triOr rfl rfl (fun h => by rw [h]; rfl) rfl) ?_
  refine OkOps.y (aB (((decide ((v.S.size : Int) > 2000)) || (decide ((v.L.length : Int) > 100))) || (decide ((IntKind.i64.wrap (p_n + 1)) > 1000)))) (OkOps.nil ?_)
  refine Ok.cond (b := ((decide ((v.S.size : Int) > 2000)) || (decide ((v.L.length : Int) > 100))) || (decide ((IntKind.i64.wrap (p_n + 1)) > 1000))) rfl (fun h7 => ?_) (fun h7 => ?_)
  have hr := selT h7 hr
  refine Ok.seq (Ok.region (OkOps.y (.agg [cI 0, .d (.v (.slice none 0 0))]) (OkOps.w (triStore (cs' := [cI 0, .d (.v (.slice none 0 0))]) rfl rfl rfl rfl rfl rfl rfl rfl rfl) (OkOps.y (aI 2) (OkOps.nil (Ok.ret ?_))))))
  obtain rfl := Option.some.inj hr
  exact ⟨_, rfl, .inr rfl, ⟨rfl, trivial⟩⟩
  have hr := selF h7 hr
  refine Ok.seq (Ok.region (OkOps.y (.c (.loc 1 2)) (OkOps.y (aS v.S) ?_)))
  obtain ⟨x8, hx8, hr⟩ := bind_some hr
  refine OkOps.q (triCl (tau []) (.s (aB x8)) [] (unicode_utf8_ValidString_c _ hx8) rfl ⟨.inl rfl, trivial⟩ trivial entry132 trivial) (OkOps.y (aB (!x8)) (OkOps.y (aB (!x8)) (OkOps.nil ?_)))
  refine Ok.cond (b := !x8) rfl (fun h9 => ?_) (fun h9 => ?_)
  have hr := selT h9 hr
  refine Ok.seq (Ok.region (OkOps.y (.agg [cI 0, .d (.v (.slice none 0 0))]) (OkOps.w (triStore (cs' := [cI 0, .d (.v (.slice none 0 0))]) rfl rfl rfl rfl rfl rfl rfl rfl rfl) (OkOps.y (aI 3) (OkOps.nil (Ok.ret ?_))))))
  obtain rfl := Option.some.inj hr
  exact ⟨_, rfl, .inr rfl, ⟨rfl, trivial⟩⟩
  have hr := selF h9 hr
  refine Ok.seq (Ok.region (OkOps.y (.c (.loc 1 0)) (OkOps.y (aI v.Kind) (OkOps.y (aB (v.Kind != 4)) (OkOps.y (aB (v.Kind != 4)) (OkOps.nil ?_))))))
  refine Ok.cond (b := v.Kind != 4) rfl (fun h10 => ?_) (fun h10 => ?_)
  have hr := selT h10 hr
  refine Ok.seq (Ok.region (OkOps.y (.c (.loc 1 0)) (OkOps.y (aI v.Kind) (OkOps.y (.agg [cI v.Kind, .d (.v (.slice none 0 0))]) (OkOps.w (triStore (cs' := [cI v.Kind, .d (.v (.slice none 0 0))]) rfl rfl rfl rfl rfl rfl rfl rfl rfl) (OkOps.y (aI 0) (OkOps.nil (Ok.ret ?_))))))))
  obtain rfl := Option.some.inj hr
  exact ⟨_, rfl, .inr rfl, ⟨rfl, trivial⟩⟩
  have hr := selF h10 hr
  refine Ok.skip (Ok.seq (Ok.region (OkOps.y (.c (.d (.v (.slice none 0 0)))) (OkOps.nil ?_))))
  obtain ⟨k12, hk12, hr⟩ := jn_some hr
  refine Ok.join (fun (s11 : (List AType) × Int) => ⟨[(6, .s (.c (.loc 2 0))), (8, .s (.c (.tl 1004 (List.map AType.cs s11.1))))], [(0, .blk [cI s11.2] 3), (2, .blk [cI 0, .d (.v (.slice none 0 0))] 130), (1004, .tail 2)], 0⟩) k12 r (fun s11 hr => ?_) ?_
  rw [hk12] at hr
  refine Ok.seq (Ok.region (OkOps.y (.c (.tl 1004 (List.map AType.cs s11.1))) ?_))
  obtain ⟨x13, hx13, hr⟩ := bind_some hr
  refine OkOps.q (triCl (tau []) (.tup [.agg [cI x13.1.Kind, .d (.sl (List.map AType.cs x13.1.Of))], aB x13.2]) [] (ex_common_c _ hx13) rfl ⟨.inr rfl, trivial⟩ trivial entry133 trivial) (OkOps.q (triMv (v := .tup [.agg [cI x13.1.Kind, .d (.sl (List.map AType.cs x13.1.Of))], aB x13.2]) rfl rfl) (OkOps.y (.agg [cI x13.1.Kind, .d (.sl (List.map AType.cs x13.1.Of))]) (OkOps.y (aB x13.2) (OkOps.m 0 (triAlloc (j := 3) (cs := [cI 0, .d (.v (.slice none 0 0))]) rfl rfl rfl rfl) (OkOps.w (triStore (cs' := [cI x13.1.Kind, .d (.sl (List.map AType.cs x13.1.Of))]) rfl rfl rfl rfl rfl rfl rfl rfl rfl) (OkOps.y (aB x13.2) (OkOps.nil (Ok.seq (Ok.seq (Ok.region (OkOps.y (aB x13.2) (OkOps.y (aB (!x13.2)) (OkOps.nil ?_)))))))))))))
  refine Ok.cond (b := !x13.2) rfl (fun h14 => ?_) (fun h14 => ?_)
  have hr := selT h14 hr
  refine Ok.seq (Ok.region (OkOps.y (.agg [cI 0, .d (.v (.slice none 0 0))]) (OkOps.w (triStore (cs' := [cI 0, .d (.v (.slice none 0 0))]) rfl rfl rfl rfl rfl rfl rfl rfl rfl) (OkOps.y (aI 5) (OkOps.nil (Ok.ret ?_))))))
  obtain rfl := Option.some.inj hr
  exact ⟨_, rfl, .inr rfl, ⟨rfl, trivial⟩⟩
  have hr := selF h14 hr
  refine Ok.skip (Ok.seq (Ok.region (OkOps.y (.agg [cI x13.1.Kind, .d (.sl (List.map AType.cs x13.1.Of))]) (OkOps.w (triStore (cs' := [cI x13.1.Kind, .d (.sl (List.map AType.cs x13.1.Of))]) rfl rfl rfl rfl rfl rfl rfl rfl rfl) (OkOps.y (aI 0) (OkOps.nil (Ok.ret ?_)))))))
  obtain rfl := Option.some.inj hr
  exact ⟨_, rfl, .inl rfl, ⟨rfl, trivial⟩⟩
  clear hk12
  refine Ok.seq (Ok.region (OkOps.y (.c (.loc 1 3)) (OkOps.y (.c (.d (.sl (List.map AValue.cs v.L)))) (OkOps.q (triLen (enc := AValue.cs) v.L rfl rfl trivial rfl) (OkOps.y (aI 0) (OkOps.nil (Ok.block (Ok.loopK (fun (s15 : (List AType) × Int × Int) => ⟨[(1, .s (aI depth)), (2, .s (.c (.loc 0 0))), (6, .s (.c (.loc 2 0))), (8, .s (.c (.tl 1007 (List.map AType.cs s15.1)))), (89, .s (.c (.d (.sl (List.map AValue.cs v.L))))), (90, .s (aI (v.L.length : Int))), (91, .s (aI s15.2.1))], [(0, .blk [cI s15.2.2] 3), (2, .blk [cI 0, .d (.v (.slice none 0 0))] 130), (1007, .tail 2)], 0⟩) hr (Conv.trans (Conv.nil 8 1009 2 0 rfl rfl) (Conv.mk (tau [(1007, 1009)]) ⟨⟨_, rfl, .inl rfl⟩, ⟨_, rfl, .inl rfl⟩, ⟨_, rfl, .inl rfl⟩, ⟨_, rfl, .inl rfl⟩, ⟨_, rfl, .inl rfl⟩, ⟨_, rfl, .inl rfl⟩, ⟨_, rfl, .inl rfl⟩, trivial⟩ ⟨rfl, rfl, rfl, trivial⟩ rfl rfl rfl rfl)) ?_))))))))
  clear hr
  intro again16 s15 hr
  unfold ex_check_L1 at hr
  refine Ok.seq (Ok.region (OkOps.y (aB (decide (s15.2.1 < (v.L.length : Int)))) (OkOps.nil (Ok.seq ?_))))
  refine Ok.cond (b := decide (s15.2.1 < (v.L.length : Int))) rfl (fun h17 => ?_) (fun h17 => ?_)
  have hr := selT h17 hr
  refine Ok.skip (Ok.seq (Ok.block (Ok.seq (Ok.region ?_))))
  obtain ⟨x18, hx18, hr⟩ := bind_some hr
  refine OkOps.q (triIdx (enc := AValue.cs) (L := v.L) (row := [dI x18.Kind, dI x18.N, dS x18.S, .sl (List.map AValue.cs x18.L)]) hx18 (AValue.cs_eq _) rfl rfl rfl (fun x => by rw [AValue.cs_eq]; rfl) trivial rfl) ?_
  refine OkOps.y (.agg [cI x18.Kind, cI x18.N, cS x18.S, .d (.sl (List.map AValue.cs x18.L))]) (OkOps.m 0 (triAlloc (j := 4) (cs := [cI 0, cI 0, cS ByteArray.empty, .d (.v (.slice none 0 0))]) rfl rfl rfl rfl) (OkOps.w (triStore (cs' := [cI x18.Kind, cI x18.N, cS x18.S, .d (.sl (List.map AValue.cs x18.L))]) rfl rfl rfl rfl rfl rfl rfl rfl rfl) (OkOps.nil (Ok.seq (Ok.region (OkOps.y (.agg [cI x18.Kind, cI x18.N, cS x18.S, .d (.sl (List.map AValue.cs x18.L))]) (OkOps.y (aI depth) (OkOps.y (aI (IntKind.i64.wrap (depth + 1))) (OkOps.y (.c (.loc 0 0)) ?_)))))))))
  obtain ⟨x19, hx19, hr⟩ := bind_some hr
  refine OkOps.m 0 (triCl (tau [(0, 0)]) (.tup [.agg [cI x19.1.Kind, .d (.sl (List.map AType.cs x19.1.Of))], aI x19.2.1]) [(0, .blk [cI x19.2.2] 3)] (hself0 _ _ _ hx19) rfl ⟨.inl rfl, .inl rfl, .inl rfl, trivial⟩ trivial entry121 ⟨rfl, trivial⟩) (OkOps.q (triMv (v := .tup [.agg [cI x19.1.Kind, .d (.sl (List.map AType.cs x19.1.Of))], aI x19.2.1]) rfl rfl) (OkOps.y (.agg [cI x19.1.Kind, .d (.sl (List.map AType.cs x19.1.Of))]) (OkOps.y (aI x19.2.1) (OkOps.m 0 (triAlloc (j := 5) (cs := [cI 0, .d (.v (.slice none 0 0))]) rfl rfl rfl rfl) (OkOps.w (triStore (cs' := [cI x19.1.Kind, .d (.sl (List.map AType.cs x19.1.Of))]) rfl rfl rfl rfl rfl rfl rfl rfl rfl) (OkOps.y (aI x19.2.1) (OkOps.nil (Ok.seq (Ok.seq (Ok.region (OkOps.y (aI x19.2.1) (OkOps.y (aB (x19.2.1 != 0)) (OkOps.nil ?_)))))))))))))
  refine Ok.cond (b := x19.2.1 != 0) rfl (fun h20 => ?_) (fun h20 => ?_)
  have hr := selT h20 hr
  refine Ok.seq (Ok.region (OkOps.y (.agg [cI 0, .d (.v (.slice none 0 0))]) (OkOps.y (aI x19.2.1) (OkOps.w (triStore (cs' := [cI 0, .d (.v (.slice none 0 0))]) rfl rfl rfl rfl rfl rfl rfl rfl rfl) (OkOps.y (aI x19.2.1) (OkOps.nil (Ok.ret ?_)))))))
  obtain rfl := Option.some.inj hr
  exact ⟨_, rfl, .inr rfl, ⟨rfl, trivial⟩⟩
  have hr := selF h20 hr
  refine Ok.skip (Ok.region (OkOps.y (.c (.tl 1007 (List.map AType.cs s15.1))) (OkOps.y (.agg [cI x19.1.Kind, .d (.sl (List.map AType.cs x19.1.Of))]) ?_)))
  refine OkOps.m 0 (triBST (sz := 2) (enc := AType.cs) (j := 6) ([x19.1]) rfl rfl rfl rfl rfl (rows := [[dI x19.1.Kind, .sl (List.map AType.cs x19.1.Of)]]) (by simp only [List.map, AType.cs_eq]) rfl rfl (fun x => by rw [AType.cs_eq]; rfl) trivial rfl rfl) ?_
  obtain ⟨x21, hx21, hr⟩ := bind_some hr
  refine OkOps.m2 0 (triApp (enc := AType.cs) (L := s15.1) (X := [x19.1]) (j := 1007) (j' := 7) hx21 rfl rfl rfl rfl rfl rfl (fun x => by rw [AType.cs_eq]; rfl) (fun x => by rw [AType.cs_eq]; rfl) (by decide) trivial rfl rfl) ?_
  refine OkOps.y (.c (.tl 7 (List.map AType.cs x21))) (OkOps.nil (Ok.region (OkOps.y (aI (IntKind.i64.wrap (s15.2.1 + 1))) (OkOps.y (aI (IntKind.i64.wrap (s15.2.1 + 1))) (OkOps.nil ?_)))))
  exact ⟨(x21, IntKind.i64.wrap (s15.2.1 + 1), x19.2.2), hr, (Conv.mk (tau [(1007, 7)]) ⟨⟨_, rfl, .inl rfl⟩, ⟨_, rfl, .inl rfl⟩, ⟨_, rfl, .inl rfl⟩, ⟨_, rfl, .inl rfl⟩, ⟨_, rfl, .inl rfl⟩, ⟨_, rfl, .inl rfl⟩, ⟨_, rfl, .inl rfl⟩, trivial⟩ ⟨rfl, rfl, rfl, trivial⟩ rfl rfl rfl rfl)⟩
  have hr := selF h17 hr
  refine Ok.exit ?_
  exact ⟨(s15.1, s15.2.2), hr, (Conv.mk (tau [(1004, 1007)]) ⟨⟨_, rfl, .inl rfl⟩, ⟨_, rfl, .inl rfl⟩, trivial⟩ ⟨rfl, rfl, rfl, trivial⟩ rfl rfl rfl rfl)⟩
  clear hk5
  refine Ok.seq (Ok.region (OkOps.y (.c (.loc 1 0)) (OkOps.y (aI v.Kind) (OkOps.y (aB (v.Kind == 1)) (OkOps.y (aB (v.Kind == 1)) (OkOps.q (triQG (x := .c (.loc 1 1)) rfl rfl trivial rfl) (OkOps.q (triQG (x := aI v.N) rfl rfl ⟨fun h => h, trivial⟩ rfl) ?_)))))))
  obtain ⟨x22, hx22, hr⟩ := bind_some hr
  refine OkOps.q (triCallG (x := aB x22) (fun hg => ex_within_c _ (gO_t hx22 hg)) rfl rfl ⟨.inl rfl, trivial⟩ ⟨fun h => h, trivial⟩ entry131 rfl rfl rfl) (OkOps.q (triQG (x := aB (!x22)) rfl rfl ⟨fun h => h, trivial⟩ rfl) (OkOps.q (triAnd rfl rfl (fun h => h) rfl) (OkOps.y (aB ((v.Kind == 1) && (!x22))) (OkOps.nil ?_))))
  refine Ok.cond (b := (v.Kind == 1) && (!x22)) rfl (fun h23 => ?_) (fun h23 => ?_)
  have hr := selT h23 hr
  refine Ok.skip ?_
  exact ⟨(v.Kind == 1) && (!x22), hr, (Conv.mk (tau []) ⟨⟨_, rfl, .inl rfl⟩, ⟨_, rfl, .inl rfl⟩, ⟨_, rfl, .inl rfl⟩, ⟨_, rfl, .inl rfl⟩, ⟨_, rfl, .inl rfl⟩, trivial⟩ ⟨rfl, rfl, rfl, trivial⟩ rfl rfl rfl rfl)⟩
  have hr := selF h23 hr
  refine Ok.region (OkOps.y (.c (.loc 1 0)) (OkOps.y (aI v.Kind) (OkOps.y (aB (v.Kind == 2)) (OkOps.y (aB (v.Kind == 2)) (OkOps.q (triQG (x := .c (.loc 1 1)) rfl rfl trivial rfl) (OkOps.q (triQG (x := aI v.N) rfl rfl ⟨fun h => h, trivial⟩ rfl) (OkOps.q (triQG (x := aB (v.N != 0)) rfl rfl ⟨fun h => h, trivial⟩ rfl) (OkOps.q (triAnd rfl rfl (fun h => h) rfl) (OkOps.y (aB ((v.Kind == 2) && (v.N != 0))) (OkOps.q (triQG (x := .c (.loc 1 1)) rfl rfl trivial rfl) (OkOps.q (triQG (x := aI v.N) rfl rfl ⟨fun h => h, trivial⟩ rfl) (OkOps.q (triQG (x := aB (v.N != 1)) rfl rfl ⟨fun h => h, trivial⟩ rfl) (OkOps.q (triAnd rfl rfl (fun h => h) rfl) (OkOps.y (aB (((v.Kind == 2) && (v.N != 0)) && (v.N != 1))) (OkOps.nil ?_)))))))))))))))
  exact ⟨((v.Kind == 2) && (v.N != 0)) && (v.N != 1), hr, (Conv.mk (tau []) ⟨⟨_, rfl, .inl rfl⟩, ⟨_, rfl, .inl rfl⟩, ⟨_, rfl, .inl rfl⟩, ⟨_, rfl, .inl rfl⟩, ⟨_, rfl, .inl rfl⟩, trivial⟩ ⟨rfl, rfl, rfl, trivial⟩ rfl rfl rfl rfl)⟩
theorem ex_check_all : ∀ n : Nat, (∀ (v : AValue) (depth : Int) (p_n : Int) {r : AType × Int × Int}, ex_check n v depth p_n = some r → Con Tryd.prog 121 [.agg [cI v.Kind, cI v.N, cS v.S, .d (.sl (List.map AValue.cs v.L))], aI depth, .c (.loc 0 0)] [(0, .blk [cI p_n] 3)] (.tup [.agg [cI r.1.Kind, .d (.sl (List.map AType.cs r.1.Of))], aI r.2.1]) [(0, .blk [cI r.2.2] 3)]) ∧ True := by
  intro n
  induction n with
  | zero => exact ⟨(by intros; rename_i hr; cases hr), trivial⟩
  | succ n ih => exact ⟨(by intros; rename_i hr; exact ex_check_B_c _ ih.1 _ _ _ hr), trivial⟩
theorem ex_check_c (n : Nat) (v : AValue) (depth : Int) (p_n : Int) {r : AType × Int × Int} (hr : ex_check n v depth p_n = some r) : Con Tryd.prog 121 [.agg [cI v.Kind, cI v.N, cS v.S, .d (.sl (List.map AValue.cs v.L))], aI depth, .c (.loc 0 0)] [(0, .blk [cI p_n] 3)] (.tup [.agg [cI r.1.Kind, .d (.sl (List.map AType.cs r.1.Of))], aI r.2.1]) [(0, .blk [cI r.2.2] 3)] := (ex_check_all n).1 v depth p_n hr
theorem entry122 : Entry Tryd.prog 122 := ⟨_, Tryd.func122, by kernel_rfl, by kernel_rfl⟩
theorem ex_copyType_B_c (self0 : AType → Option AType) (hself0 : ∀ (t : AType) {r : AType}, self0 t = some r → Con Tryd.prog 122 [.agg [cI t.Kind, .d (.sl (List.map AType.cs t.Of))]] [] (.s (.agg [cI r.Kind, .d (.sl (List.map AType.cs r.Of))])) []) (t : AType) {r : AType} (hr : ex_copyType_B self0 t = some r) : Con Tryd.prog 122 [.agg [cI t.Kind, .d (.sl (List.map AType.cs t.Of))]] [] (.s (.agg [cI r.Kind, .d (.sl (List.map AType.cs r.Of))])) [] := by
  unfold ex_copyType_B at hr
  refine Con.of_ok 16 0 [.cell 2 130] [(0, .s (.agg [cI t.Kind, .d (.sl (List.map AType.cs t.Of))]))] Tryd.func122 rfl rfl rfl rfl rfl rfl rfl rfl fun w g M ρ _ => (Ok.seq (Ok.region (OkOps.m 0 (triBox (j := 0) (cs := [cI t.Kind, .d (.sl (List.map AType.cs t.Of))]) rfl rfl rfl rfl rfl) (OkOps.m 0 (triAlloc (j := 1) (cs := [cI 0, .d (.v (.slice none 0 0))]) rfl rfl rfl rfl) (OkOps.nil (Ok.seq (Ok.seq (Ok.region (OkOps.y (.c (.loc 0 1)) (OkOps.y (.c (.d (.sl (List.map AType.cs t.Of)))) (OkOps.q (triLen (enc := AType.cs) t.Of rfl rfl trivial rfl) (OkOps.y (aB ((t.Of.length : Int) == 0)) (OkOps.nil ?_)))))))))))))
  refine Ok.cond (b := (t.Of.length : Int) == 0) rfl (fun h1 => ?_) (fun h1 => ?_)
  have hr := selT h1 hr
  refine Ok.seq (Ok.region (OkOps.y (.c (.loc 0 0)) (OkOps.y (aI t.Kind) (OkOps.y (.agg [cI t.Kind, .d (.v (.slice none 0 0))]) (OkOps.w (triStore (cs' := [cI t.Kind, .d (.v (.slice none 0 0))]) rfl rfl rfl rfl rfl rfl rfl rfl rfl) (OkOps.nil (Ok.ret ?_)))))))
  obtain rfl := Option.some.inj hr
  exact ⟨_, rfl, .inr rfl, trivial⟩
  have hr := selF h1 hr
  refine Ok.skip (Ok.seq (Ok.region (OkOps.y (.c (.loc 0 1)) (OkOps.y (.c (.d (.sl (List.map AType.cs t.Of)))) ?_))))
  obtain ⟨x2, hx2, hr⟩ := bind_some hr
  refine OkOps.q (triIdx (enc := AType.cs) (L := t.Of) (row := [dI x2.Kind, .sl (List.map AType.cs x2.Of)]) hx2 (AType.cs_eq _) rfl rfl rfl (fun x => by rw [AType.cs_eq]; rfl) trivial rfl) ?_
  refine OkOps.y (.agg [cI x2.Kind, .d (.sl (List.map AType.cs x2.Of))]) ?_
  obtain ⟨x3, hx3, hr⟩ := bind_some hr
  refine OkOps.q (triCl (tau []) (.s (.agg [cI x3.Kind, .d (.sl (List.map AType.cs x3.Of))])) [] (hself0 _ hx3) rfl ⟨.inl rfl, trivial⟩ trivial entry122 trivial) ?_
  obtain ⟨x4, hx4, hr⟩ := bind_some hr
  refine OkOps.q (triCl (tau []) (.s (.agg [cI x4.Kind, .d (.sl (List.map AType.cs x4.Of))])) [] (ex_listOf_c _ hx4) rfl ⟨.inl rfl, trivial⟩ trivial entry134 trivial) (OkOps.w (triStore (cs' := [cI x4.Kind, .d (.sl (List.map AType.cs x4.Of))]) rfl rfl rfl rfl rfl rfl rfl rfl rfl) (OkOps.nil (Ok.ret ?_)))
  obtain rfl := Option.some.inj hr
  exact ⟨_, rfl, .inl rfl, trivial⟩
theorem ex_copyType_all : ∀ n : Nat, (∀ (t : AType) {r : AType}, ex_copyType n t = some r → Con Tryd.prog 122 [.agg [cI t.Kind, .d (.sl (List.map AType.cs t.Of))]] [] (.s (.agg [cI r.Kind, .d (.sl (List.map AType.cs r.Of))])) []) ∧ True := by
  intro n
  induction n with
  | zero => exact ⟨(by intros; rename_i hr; cases hr), trivial⟩
  | succ n ih => exact ⟨(by intros; rename_i hr; exact ex_copyType_B_c _ ih.1 _ hr), trivial⟩
theorem ex_copyType_c (n : Nat) (t : AType) {r : AType} (hr : ex_copyType n t = some r) : Con Tryd.prog 122 [.agg [cI t.Kind, .d (.sl (List.map AType.cs t.Of))]] [] (.s (.agg [cI r.Kind, .d (.sl (List.map AType.cs r.Of))])) [] := (ex_copyType_all n).1 t hr
theorem ex_TypeOf_c (v : AValue) {r : AType × Int} (hr : ex_TypeOf v = some r) : Con Tryd.prog 112 [.agg [cI v.Kind, cI v.N, cS v.S, .d (.sl (List.map AValue.cs v.L))]] [] (.tup [.agg [cI r.1.Kind, .d (.sl (List.map AType.cs r.1.Of))], aI r.2]) [] := by
  unfold ex_TypeOf at hr
  refine Con.of_ok 18 0 [.cell 2 130, .tmp 3] [(0, .s (.agg [cI v.Kind, cI v.N, cS v.S, .d (.sl (List.map AValue.cs v.L))]))] Tryd.func112 rfl rfl rfl rfl rfl rfl rfl rfl fun w g M ρ _ => (Ok.seq (Ok.region (OkOps.m 0 (triBox (j := 0) (cs := [cI v.Kind, cI v.N, cS v.S, .d (.sl (List.map AValue.cs v.L))]) rfl rfl rfl rfl rfl) (OkOps.m 0 (triAlloc (j := 1) (cs := [cI 0, .d (.v (.slice none 0 0))]) rfl rfl rfl rfl) (OkOps.y (aI 0) (OkOps.nil (Ok.seq (Ok.region (OkOps.m 0 (triAlloc (j := 2) (cs := [cI 0]) rfl rfl rfl rfl) (OkOps.w (triStore (cs' := [cI 0]) rfl rfl rfl rfl rfl rfl rfl rfl rfl) (OkOps.nil (Ok.seq (Ok.region (OkOps.y (.agg [cI v.Kind, cI v.N, cS v.S, .d (.sl (List.map AValue.cs v.L))]) ?_))))))))))))))
  obtain ⟨x1, hx1, hr⟩ := bind_some hr
  refine OkOps.m 0 (triCl (tau [(0, 2)]) (.tup [.agg [cI x1.1.Kind, .d (.sl (List.map AType.cs x1.1.Of))], aI x1.2.1]) [(2, .blk [cI x1.2.2] 3)] (ex_check_c _ _ _ _ hx1) rfl ⟨.inl rfl, .inl rfl, .inl rfl, trivial⟩ trivial entry121 ⟨rfl, trivial⟩) (OkOps.q (triMv (v := .tup [.agg [cI x1.1.Kind, .d (.sl (List.map AType.cs x1.1.Of))], aI x1.2.1]) rfl rfl) (OkOps.y (.agg [cI x1.1.Kind, .d (.sl (List.map AType.cs x1.1.Of))]) (OkOps.y (aI x1.2.1) (OkOps.m 0 (triAlloc (j := 3) (cs := [cI 0, .d (.v (.slice none 0 0))]) rfl rfl rfl rfl) (OkOps.w (triStore (cs' := [cI x1.1.Kind, .d (.sl (List.map AType.cs x1.1.Of))]) rfl rfl rfl rfl rfl rfl rfl rfl rfl) (OkOps.y (aI x1.2.1) (OkOps.nil (Ok.seq (Ok.seq (Ok.region (OkOps.y (aI x1.2.1) (OkOps.y (aB (x1.2.1 != 0)) (OkOps.nil ?_)))))))))))))
  refine Ok.cond (b := x1.2.1 != 0) rfl (fun h2 => ?_) (fun h2 => ?_)
  have hr := selT h2 hr
  refine Ok.seq (Ok.region (OkOps.y (.agg [cI 0, .d (.v (.slice none 0 0))]) (OkOps.y (aI x1.2.1) (OkOps.w (triStore (cs' := [cI 0, .d (.v (.slice none 0 0))]) rfl rfl rfl rfl rfl rfl rfl rfl rfl) (OkOps.y (aI x1.2.1) (OkOps.nil (Ok.ret ?_)))))))
  obtain rfl := Option.some.inj hr
  exact ⟨_, rfl, .inr rfl, trivial⟩
  have hr := selF h2 hr
  refine Ok.skip (Ok.seq (Ok.region (OkOps.y (.agg [cI x1.1.Kind, .d (.sl (List.map AType.cs x1.1.Of))]) ?_)))
  obtain ⟨x3, hx3, hr⟩ := bind_some hr
  refine OkOps.q (triCl (tau []) (.s (.agg [cI x3.Kind, .d (.sl (List.map AType.cs x3.Of))])) [] (ex_copyType_c _ _ hx3) rfl ⟨.inl rfl, trivial⟩ trivial entry122 trivial) (OkOps.w (triStore (cs' := [cI x3.Kind, .d (.sl (List.map AType.cs x3.Of))]) rfl rfl rfl rfl rfl rfl rfl rfl rfl) (OkOps.y (aI 0) (OkOps.nil (Ok.ret ?_))))
  obtain rfl := Option.some.inj hr
  exact ⟨_, rfl, .inl rfl, trivial⟩
theorem entry112 : Entry Tryd.prog 112 := ⟨_, Tryd.func112, by kernel_rfl, by kernel_rfl⟩
theorem ex_Check_c (v : AValue) {r : Int} (hr : ex_Check v = some r) : Con Tryd.prog 105 [.agg [cI v.Kind, cI v.N, cS v.S, .d (.sl (List.map AValue.cs v.L))]] [] (.s (aI r)) [] := by
  unfold ex_Check at hr
  refine Con.of_ok 11 0 [.tmp 2] [(0, .s (.agg [cI v.Kind, cI v.N, cS v.S, .d (.sl (List.map AValue.cs v.L))]))] Tryd.func105 rfl rfl rfl rfl rfl rfl rfl rfl fun w g M ρ _ => (Ok.seq (Ok.region (OkOps.m 0 (triBox (j := 0) (cs := [cI v.Kind, cI v.N, cS v.S, .d (.sl (List.map AValue.cs v.L))]) rfl rfl rfl rfl rfl) (OkOps.y (aI 0) (OkOps.nil (Ok.seq (Ok.region (OkOps.y (.agg [cI v.Kind, cI v.N, cS v.S, .d (.sl (List.map AValue.cs v.L))]) ?_))))))))
  obtain ⟨x1, hx1, hr⟩ := bind_some hr
  refine OkOps.q (triCl (tau []) (.tup [.agg [cI x1.1.Kind, .d (.sl (List.map AType.cs x1.1.Of))], aI x1.2]) [] (ex_TypeOf_c _ hx1) rfl ⟨.inl rfl, trivial⟩ trivial entry112 trivial) (OkOps.q (triMv (v := .tup [.agg [cI x1.1.Kind, .d (.sl (List.map AType.cs x1.1.Of))], aI x1.2]) rfl rfl) (OkOps.y (.agg [cI x1.1.Kind, .d (.sl (List.map AType.cs x1.1.Of))]) (OkOps.y (aI x1.2) (OkOps.m 0 (triAlloc (j := 1) (cs := [cI 0, .d (.v (.slice none 0 0))]) rfl rfl rfl rfl) (OkOps.w (triStore (cs' := [cI x1.1.Kind, .d (.sl (List.map AType.cs x1.1.Of))]) rfl rfl rfl rfl rfl rfl rfl rfl rfl) (OkOps.y (aI x1.2) (OkOps.nil (Ok.seq (Ok.region (OkOps.y (aI x1.2) (OkOps.y (aI x1.2) (OkOps.nil (Ok.ret ?_)))))))))))))
  obtain rfl := Option.some.inj hr
  exact ⟨_, rfl, .inl rfl, trivial⟩
theorem entry105 : Entry Tryd.prog 105 := ⟨_, Tryd.func105, by kernel_rfl, by kernel_rfl⟩
end Go.Proofs.YtcfegecdlbbeaaaDoor
end
section
set_option maxRecDepth 100000
namespace Go.Proofs.YtcfegecdlbbeaaaDoor
open Go Go.E2
theorem vw_attributes_c (l : (List Attr)) {r : Int} (hr : vw_attributes l = some r) : Con Tryd.prog 77 [.c (.d (.sl (List.map Attr.cs l)))] [] (.s (aI r)) [] := by
  unfold vw_attributes at hr
  refine Con.of_ok 39 0 [.tmp 2] [(0, .s (.c (.d (.sl (List.map Attr.cs l)))))] Tryd.func77 rfl rfl rfl rfl rfl rfl rfl rfl fun w g M ρ _ => (Ok.seq (Ok.region (OkOps.y (aI 0) (OkOps.nil ?_))))
  obtain ⟨k2, hk2, hr⟩ := jn_some hr
  refine Ok.join (fun (s1 : Unit) => ⟨[], [], 0⟩) k2 r (fun s1 hr => ?_) ?_
  rw [hk2] at hr
  refine Ok.seq (Ok.region (OkOps.y (aI 0) (OkOps.nil (Ok.ret ?_))))
  obtain rfl := Option.some.inj hr
  exact ⟨_, rfl, .inl rfl, trivial⟩
  clear hk2
  refine Ok.seq (Ok.region (OkOps.y (.c (.d (.sl (List.map Attr.cs l)))) (OkOps.q (triLen (enc := Attr.cs) l rfl rfl trivial rfl) (OkOps.y (aI 0) (OkOps.nil (Ok.block (Ok.loopK (fun (s3 : Int) => ⟨[(0, .s (.c (.d (.sl (List.map Attr.cs l))))), (6, .s (.c (.d (.sl (List.map Attr.cs l))))), (7, .s (aI (l.length : Int))), (8, .s (aI s3))], [], 0⟩) hr (Conv.mk (tau []) ⟨⟨_, rfl, .inl rfl⟩, ⟨_, rfl, .inl rfl⟩, ⟨_, rfl, .inl rfl⟩, ⟨_, rfl, .inl rfl⟩, trivial⟩ trivial rfl rfl rfl rfl) ?_)))))))
  clear hr
  intro again4 s3 hr
  unfold vw_attributes_L1 at hr
  refine Ok.seq (Ok.region (OkOps.y (aB (decide (s3 < (l.length : Int)))) (OkOps.nil (Ok.seq ?_))))
  refine Ok.cond (b := decide (s3 < (l.length : Int))) rfl (fun h5 => ?_) (fun h5 => ?_)
  have hr := selT h5 hr
  refine Ok.skip (Ok.seq (Ok.block (Ok.seq (Ok.region (OkOps.y (aI s3) ?_)))))
  obtain ⟨x6, hx6, hr⟩ := bind_some hr
  refine OkOps.q (triIdx (enc := Attr.cs) (L := l) (row := [dS x6.Name, dI x6.Value.Kind, dI x6.Value.N, dS x6.Value.S, .sl (List.map AValue.cs x6.Value.L)]) hx6 rfl rfl rfl rfl (fun _ => rfl) trivial rfl) (OkOps.y (.agg [cS x6.Name, cI x6.Value.Kind, cI x6.Value.N, cS x6.Value.S, .d (.sl (List.map AValue.cs x6.Value.L))]) (OkOps.m 0 (triAlloc (j := 0) (cs := [cS ByteArray.empty, cI 0, cI 0, cS ByteArray.empty, .d (.v (.slice none 0 0))]) rfl rfl rfl rfl) (OkOps.y (aI s3) (OkOps.w (triStore (cs' := [cS x6.Name, cI x6.Value.Kind, cI x6.Value.N, cS x6.Value.S, .d (.sl (List.map AValue.cs x6.Value.L))]) rfl rfl rfl rfl rfl rfl rfl rfl rfl) (OkOps.nil (Ok.seq (Ok.block (Ok.seq (Ok.region (OkOps.y (.c (.loc 0 0)) (OkOps.y (aS x6.Name) ?_)))))))))))
  obtain ⟨x7, hx7, hr⟩ := bind_some hr
  refine OkOps.q (triCl (tau []) (.s (aB x7)) [] (ex_Name_c _ hx7) rfl ⟨.inl rfl, trivial⟩ trivial entry104 trivial) (OkOps.y (aB (!x7)) (OkOps.y (aB (!x7)) (OkOps.nil ?_)))
  refine Ok.cond (b := !x7) rfl (fun h8 => ?_) (fun h8 => ?_)
  have hr := selT h8 hr
  refine Ok.seq (Ok.region (OkOps.y (aI 4) (OkOps.nil (Ok.ret ?_))))
  obtain rfl := Option.some.inj hr
  exact ⟨_, rfl, .inl rfl, trivial⟩
  have hr := selF h8 hr
  refine Ok.seq (Ok.regionD (by kernel_rfl) (OkD.x (aI s3) rfl trivial rfl (OkD.x (aB (decide (s3 > 0))) rfl trivial rfl (OkD.x (aB (decide (s3 > 0))) rfl trivial rfl (OkD.q (triQG (x := .c (.d (.sl (List.map Attr.cs l)))) rfl rfl trivial rfl) (OkD.q (triQG (x := aI s3) rfl rfl trivial rfl) (OkD.q (triQG (x := aI (IntKind.i64.wrap (s3 - 1))) rfl rfl ⟨fun h => h, trivial⟩ rfl) ?_)))))))
  obtain ⟨x9, hx9, hr⟩ := bind_some hr
  refine OkD.q (triIdxG (enc := Attr.cs) (L := l) (row := [dS x9.Name, dI x9.Value.Kind, dI x9.Value.N, dS x9.Value.S, .sl (List.map AValue.cs x9.Value.L)]) (gO_t hx9) rfl rfl rfl rfl rfl (fun _ => rfl) ⟨fun h => h, ⟨fun h => h, trivial⟩⟩ rfl) (OkD.q (triQG (x := .c (.pt [dS x9.Name, dI x9.Value.Kind, dI x9.Value.N, dS x9.Value.S, .sl (List.map AValue.cs x9.Value.L)])) rfl rfl ⟨fun h => h, trivial⟩ rfl) (OkD.q (triQG (x := aS x9.Name) rfl rfl ⟨fun h => h, trivial⟩ rfl) (OkD.q (triQG (x := .c (.loc 0 0)) rfl rfl trivial rfl) (OkD.q (triQG (x := aS x6.Name) rfl rfl ⟨fun h => h, trivial⟩ rfl) (OkD.q (triQG (x := aB (!(Op.bytesLess x9.Name.toList x6.Name.toList))) rfl rfl ⟨fun h => h, ⟨fun h => h, trivial⟩⟩ rfl) (OkD.q (triAnd rfl rfl (fun h => h) rfl) (OkD.x (aB ((decide (s3 > 0)) && (!(Op.bytesLess x9.Name.toList x6.Name.toList)))) rfl trivial rfl (OkD.nil (by kernel_rfl) ?_))))))))
  refine Ok.cond (b := (decide (s3 > 0)) && (!(Op.bytesLess x9.Name.toList x6.Name.toList))) rfl (fun h10 => ?_) (fun h10 => ?_)
  have hr := selT h10 hr
  refine Ok.seq (Ok.region (OkOps.y (aI 10) (OkOps.nil (Ok.ret ?_))))
  obtain rfl := Option.some.inj hr
  exact ⟨_, rfl, .inl rfl, trivial⟩
  have hr := selF h10 hr
  refine Ok.skip (Ok.seq (Ok.region (OkOps.y (.c (.loc 0 1)) (OkOps.y (.agg [cI x6.Value.Kind, cI x6.Value.N, cS x6.Value.S, .d (.sl (List.map AValue.cs x6.Value.L))]) ?_))))
  obtain ⟨x11, hx11, hr⟩ := bind_some hr
  refine OkOps.q (triCl (tau []) (.s (aI x11)) [] (ex_Check_c _ hx11) rfl ⟨.inl rfl, trivial⟩ trivial entry105 trivial) (OkOps.y (aI x11) (OkOps.nil (Ok.seq (Ok.region (OkOps.y (aI x11) (OkOps.y (aB (x11 != 0)) (OkOps.nil ?_)))))))
  refine Ok.cond (b := x11 != 0) rfl (fun h12 => ?_) (fun h12 => ?_)
  have hr := selT h12 hr
  refine Ok.seq (Ok.region (OkOps.y (aI x11) (OkOps.y (aI x11) (OkOps.nil (Ok.ret ?_)))))
  obtain rfl := Option.some.inj hr
  exact ⟨_, rfl, .inl rfl, trivial⟩
  have hr := selF h12 hr
  refine Ok.skip (Ok.region (OkOps.y (aI (IntKind.i64.wrap (s3 + 1))) (OkOps.y (aI (IntKind.i64.wrap (s3 + 1))) (OkOps.nil ?_))))
  exact ⟨IntKind.i64.wrap (s3 + 1), hr, (Conv.mk (tau []) ⟨⟨_, rfl, .inl rfl⟩, ⟨_, rfl, .inl rfl⟩, ⟨_, rfl, .inl rfl⟩, ⟨_, rfl, .inl rfl⟩, trivial⟩ trivial rfl rfl rfl rfl)⟩
  have hr := selF h5 hr
  refine Ok.exit ?_
  exact ⟨(), hr, (Conv.mk (tau []) trivial trivial rfl rfl rfl rfl)⟩
theorem entry77 : Entry Tryd.prog 77 := ⟨_, Tryd.func77, by kernel_rfl, by kernel_rfl⟩
theorem vw_actions_c (l : (List Action)) {r : Int} (hr : vw_actions l = some r) : Con Tryd.prog 78 [.c (.d (.sl (List.map Action.cs l)))] [] (.s (aI r)) [] := by
  unfold vw_actions at hr
  refine Con.of_ok 65 0 [.tmp 2] [(0, .s (.c (.d (.sl (List.map Action.cs l)))))] Tryd.func78 rfl rfl rfl rfl rfl rfl rfl rfl fun w g M ρ _ => (Ok.seq (Ok.region (OkOps.y (aI 0) (OkOps.nil ?_))))
  obtain ⟨k2, hk2, hr⟩ := jn_some hr
  refine Ok.join (fun (s1 : Unit) => ⟨[], [], 0⟩) k2 r (fun s1 hr => ?_) ?_
  rw [hk2] at hr
  refine Ok.seq (Ok.region (OkOps.y (aI 0) (OkOps.nil (Ok.ret ?_))))
  obtain rfl := Option.some.inj hr
  exact ⟨_, rfl, .inl rfl, trivial⟩
  clear hk2
  refine Ok.seq (Ok.region (OkOps.y (.c (.d (.sl (List.map Action.cs l)))) (OkOps.q (triLen (enc := Action.cs) l rfl rfl trivial rfl) (OkOps.y (aI 0) (OkOps.nil (Ok.block (Ok.loopK (fun (s3 : Int) => ⟨[(0, .s (.c (.d (.sl (List.map Action.cs l))))), (8, .s (.c (.d (.sl (List.map Action.cs l))))), (9, .s (aI (l.length : Int))), (10, .s (aI s3))], [], 0⟩) hr (Conv.mk (tau []) ⟨⟨_, rfl, .inl rfl⟩, ⟨_, rfl, .inl rfl⟩, ⟨_, rfl, .inl rfl⟩, ⟨_, rfl, .inl rfl⟩, trivial⟩ trivial rfl rfl rfl rfl) ?_)))))))
  clear hr
  intro again4 s3 hr
  unfold vw_actions_L2 at hr
  refine Ok.seq (Ok.region (OkOps.y (aB (decide (s3 < (l.length : Int)))) (OkOps.nil (Ok.seq ?_))))
  refine Ok.cond (b := decide (s3 < (l.length : Int))) rfl (fun h5 => ?_) (fun h5 => ?_)
  have hr := selT h5 hr
  refine Ok.skip ?_
  obtain ⟨k7, hk7, hr⟩ := jn_some hr
  refine Ok.join (fun (s6 : Unit) => ⟨[(0, .s (.c (.d (.sl (List.map Action.cs l))))), (8, .s (.c (.d (.sl (List.map Action.cs l))))), (9, .s (aI (l.length : Int))), (10, .s (aI s3))], [], 0⟩) k7 r (fun s6 hr => ?_) ?_
  rw [hk7] at hr
  refine Ok.region (OkOps.y (aI (IntKind.i64.wrap (s3 + 1))) (OkOps.y (aI (IntKind.i64.wrap (s3 + 1))) (OkOps.nil ?_)))
  exact ⟨IntKind.i64.wrap (s3 + 1), hr, (Conv.mk (tau []) ⟨⟨_, rfl, .inl rfl⟩, ⟨_, rfl, .inl rfl⟩, ⟨_, rfl, .inl rfl⟩, ⟨_, rfl, .inl rfl⟩, trivial⟩ trivial rfl rfl rfl rfl)⟩
  clear hk7
  refine Ok.block (Ok.seq (Ok.region (OkOps.y (aI s3) ?_)))
  obtain ⟨x8, hx8, hr⟩ := bind_some hr
  refine OkOps.q (triIdx (enc := Action.cs) (L := l) (row := [dS x8.Event, dS x8.Instance, dS x8.Handler, .sl (List.map AValue.cs x8.Args)]) hx8 rfl rfl rfl rfl (fun _ => rfl) trivial rfl) (OkOps.y (.agg [cS x8.Event, cS x8.Instance, cS x8.Handler, .d (.sl (List.map AValue.cs x8.Args))]) (OkOps.m 0 (triAlloc (j := 0) (cs := [cS ByteArray.empty, cS ByteArray.empty, cS ByteArray.empty, .d (.v (.slice none 0 0))]) rfl rfl rfl rfl) (OkOps.y (aI s3) (OkOps.w (triStore (cs' := [cS x8.Event, cS x8.Instance, cS x8.Handler, .d (.sl (List.map AValue.cs x8.Args))]) rfl rfl rfl rfl rfl rfl rfl rfl rfl) (OkOps.nil (Ok.seq (Ok.block (Ok.seq (Ok.region (OkOps.y (.c (.loc 0 0)) (OkOps.y (aS x8.Event) ?_)))))))))))
  obtain ⟨x9, hx9, hr⟩ := bind_some hr
  refine OkOps.q (triCl (tau []) (.s (aB x9)) [] (ex_Name_c _ hx9) rfl ⟨.inl rfl, trivial⟩ trivial entry104 trivial) (OkOps.y (aB (!x9)) (OkOps.y (aB (!x9)) (OkOps.q (triQG (x := .c (.loc 0 2)) rfl rfl trivial rfl) (OkOps.q (triQG (x := aS x8.Handler) rfl rfl ⟨fun h => h, trivial⟩ rfl) ?_))))
  obtain ⟨x10, hx10, hr⟩ := bind_some hr
  refine OkOps.q (triCallG (x := aB x10) (fun hg => ex_Name_c _ (gO_t hx10 hg)) rfl rfl ⟨.inl rfl, trivial⟩ ⟨fun h => h, trivial⟩ entry104 rfl rfl rfl) (OkOps.q (triQG (x := aB (!x10)) rfl rfl ⟨fun h => h, trivial⟩ rfl) ?_)
  refine OkOps.q (triOr rfl rfl (fun h => by rw [h]; rfl) rfl) ?_
  refine OkOps.y (aB ((!x9) || (!x10))) (OkOps.nil ?_)
  refine Ok.cond (b := (!x9) || (!x10)) rfl (fun h11 => ?_) (fun h11 => ?_)
  have hr := selT h11 hr
  refine Ok.seq (Ok.region (OkOps.y (aI 4) (OkOps.nil (Ok.ret ?_))))
  obtain rfl := Option.some.inj hr
  exact ⟨_, rfl, .inl rfl, trivial⟩
  have hr := selF h11 hr
  refine Ok.seq (Ok.regionD (by kernel_rfl) (OkD.x (aI s3) rfl trivial rfl (OkD.x (aB (decide (s3 > 0))) rfl trivial rfl (OkD.x (aB (decide (s3 > 0))) rfl trivial rfl (OkD.q (triQG (x := .c (.d (.sl (List.map Action.cs l)))) rfl rfl trivial rfl) (OkD.q (triQG (x := aI s3) rfl rfl trivial rfl) (OkD.q (triQG (x := aI (IntKind.i64.wrap (s3 - 1))) rfl rfl ⟨fun h => h, trivial⟩ rfl) ?_)))))))
  obtain ⟨x12, hx12, hr⟩ := bind_some hr
  refine OkD.q (triIdxG (enc := Action.cs) (L := l) (row := [dS x12.Event, dS x12.Instance, dS x12.Handler, .sl (List.map AValue.cs x12.Args)]) (gO_t hx12) rfl rfl rfl rfl rfl (fun _ => rfl) ⟨fun h => h, ⟨fun h => h, trivial⟩⟩ rfl) (OkD.q (triQG (x := .c (.pt [dS x12.Event, dS x12.Instance, dS x12.Handler, .sl (List.map AValue.cs x12.Args)])) rfl rfl ⟨fun h => h, trivial⟩ rfl) (OkD.q (triQG (x := aS x12.Event) rfl rfl ⟨fun h => h, trivial⟩ rfl) (OkD.q (triQG (x := .c (.loc 0 0)) rfl rfl trivial rfl) (OkD.q (triQG (x := aS x8.Event) rfl rfl ⟨fun h => h, trivial⟩ rfl) (OkD.q (triQG (x := aB (!(Op.bytesLess x12.Event.toList x8.Event.toList))) rfl rfl ⟨fun h => h, ⟨fun h => h, trivial⟩⟩ rfl) (OkD.q (triAnd rfl rfl (fun h => h) rfl) (OkD.x (aB ((decide (s3 > 0)) && (!(Op.bytesLess x12.Event.toList x8.Event.toList)))) rfl trivial rfl (OkD.nil (by kernel_rfl) ?_))))))))
  refine Ok.cond (b := (decide (s3 > 0)) && (!(Op.bytesLess x12.Event.toList x8.Event.toList))) rfl (fun h13 => ?_) (fun h13 => ?_)
  have hr := selT h13 hr
  refine Ok.seq (Ok.region (OkOps.y (aI 10) (OkOps.nil (Ok.ret ?_))))
  obtain rfl := Option.some.inj hr
  exact ⟨_, rfl, .inl rfl, trivial⟩
  have hr := selF h13 hr
  refine Ok.seq (Ok.region (OkOps.y (.c (.loc 0 1)) (OkOps.y (aS x8.Instance) (OkOps.y (aI (x8.Instance.size : Int)) (OkOps.y (aB (decide ((x8.Instance.size : Int) > 400))) (OkOps.y (aB (decide ((x8.Instance.size : Int) > 400))) (OkOps.q (triQG (x := .c (.loc 0 3)) rfl rfl trivial rfl) (OkOps.q (triQG (x := .c (.d (.sl (List.map AValue.cs x8.Args)))) rfl rfl ⟨fun h => h, trivial⟩ rfl) (OkOps.q (triLenG (enc := AValue.cs) x8.Args rfl rfl rfl ⟨fun h => h, trivial⟩ rfl) (OkOps.q (triQG (x := aB (decide ((x8.Args.length : Int) > 100))) rfl rfl ⟨fun h => h, trivial⟩ rfl) ?_))))))))))
  refine OkOps.q (triOr rfl rfl (fun h => by rw [h]; rfl) rfl) ?_
  refine OkOps.y (aB ((decide ((x8.Instance.size : Int) > 400)) || (decide ((x8.Args.length : Int) > 100)))) (OkOps.nil ?_)
  refine Ok.cond (b := (decide ((x8.Instance.size : Int) > 400)) || (decide ((x8.Args.length : Int) > 100))) rfl (fun h14 => ?_) (fun h14 => ?_)
  have hr := selT h14 hr
  refine Ok.seq (Ok.region (OkOps.y (aI 2) (OkOps.nil (Ok.ret ?_))))
  obtain rfl := Option.some.inj hr
  exact ⟨_, rfl, .inl rfl, trivial⟩
  have hr := selF h14 hr
  refine Ok.skip (Ok.seq (Ok.region (OkOps.y (.c (.loc 0 3)) (OkOps.y (.c (.d (.sl (List.map AValue.cs x8.Args)))) (OkOps.q (triLen (enc := AValue.cs) x8.Args rfl rfl trivial rfl) (OkOps.y (aI 0) (OkOps.nil ?_)))))))
  obtain ⟨k16, hk16, hr⟩ := jn_some hr
  refine Ok.joinEnd (fun (s15 : Unit) => ⟨[(0, .s (.c (.d (.sl (List.map Action.cs l))))), (8, .s (.c (.d (.sl (List.map Action.cs l))))), (9, .s (aI (l.length : Int))), (10, .s (aI s3))], [], 0⟩) k16 r (fun s15 hr => ?_) ?_
  rw [hk16] at hr
  exact ⟨(), hr, (Conv.mk (tau []) ⟨⟨_, rfl, .inl rfl⟩, ⟨_, rfl, .inl rfl⟩, ⟨_, rfl, .inl rfl⟩, ⟨_, rfl, .inl rfl⟩, trivial⟩ trivial rfl rfl rfl rfl)⟩
  clear hk16
  refine Ok.block (Ok.loopK (fun (s17 : Int) => ⟨[(0, .s (.c (.d (.sl (List.map Action.cs l))))), (8, .s (.c (.d (.sl (List.map Action.cs l))))), (9, .s (aI (l.length : Int))), (10, .s (aI s3)), (52, .s (.c (.d (.sl (List.map AValue.cs x8.Args))))), (53, .s (aI (x8.Args.length : Int))), (54, .s (aI s17))], [], 0⟩) hr (Conv.mk (tau []) ⟨⟨_, rfl, .inl rfl⟩, ⟨_, rfl, .inl rfl⟩, ⟨_, rfl, .inl rfl⟩, ⟨_, rfl, .inl rfl⟩, ⟨_, rfl, .inl rfl⟩, ⟨_, rfl, .inl rfl⟩, ⟨_, rfl, .inl rfl⟩, trivial⟩ trivial rfl rfl rfl rfl) ?_)
  clear hr
  intro again18 s17 hr
  unfold vw_actions_L1 at hr
  refine Ok.seq (Ok.region (OkOps.y (aB (decide (s17 < (x8.Args.length : Int)))) (OkOps.nil (Ok.seq ?_))))
  refine Ok.cond (b := decide (s17 < (x8.Args.length : Int))) rfl (fun h19 => ?_) (fun h19 => ?_)
  have hr := selT h19 hr
  refine Ok.skip (Ok.seq (Ok.block (Ok.seq (Ok.region ?_))))
  obtain ⟨x20, hx20, hr⟩ := bind_some hr
  refine OkOps.q (triIdx (enc := AValue.cs) (L := x8.Args) (row := [dI x20.Kind, dI x20.N, dS x20.S, .sl (List.map AValue.cs x20.L)]) hx20 (AValue.cs_eq _) rfl rfl rfl (fun x => by rw [AValue.cs_eq]; rfl) trivial rfl) ?_
  refine OkOps.y (.agg [cI x20.Kind, cI x20.N, cS x20.S, .d (.sl (List.map AValue.cs x20.L))]) (OkOps.m 0 (triAlloc (j := 1) (cs := [cI 0, cI 0, cS ByteArray.empty, .d (.v (.slice none 0 0))]) rfl rfl rfl rfl) (OkOps.w (triStore (cs' := [cI x20.Kind, cI x20.N, cS x20.S, .d (.sl (List.map AValue.cs x20.L))]) rfl rfl rfl rfl rfl rfl rfl rfl rfl) (OkOps.nil (Ok.seq (Ok.region (OkOps.y (.agg [cI x20.Kind, cI x20.N, cS x20.S, .d (.sl (List.map AValue.cs x20.L))]) ?_))))))
  obtain ⟨x21, hx21, hr⟩ := bind_some hr
  refine OkOps.q (triCl (tau []) (.s (aI x21)) [] (ex_Check_c _ hx21) rfl ⟨.inl rfl, trivial⟩ trivial entry105 trivial) (OkOps.y (aI x21) (OkOps.nil (Ok.seq (Ok.region (OkOps.y (aI x21) (OkOps.y (aB (x21 != 0)) (OkOps.nil ?_)))))))
  refine Ok.cond (b := x21 != 0) rfl (fun h22 => ?_) (fun h22 => ?_)
  have hr := selT h22 hr
  refine Ok.seq (Ok.region (OkOps.y (aI x21) (OkOps.y (aI x21) (OkOps.nil (Ok.ret ?_)))))
  obtain rfl := Option.some.inj hr
  exact ⟨_, rfl, .inl rfl, trivial⟩
  have hr := selF h22 hr
  refine Ok.skip (Ok.region (OkOps.y (aI (IntKind.i64.wrap (s17 + 1))) (OkOps.y (aI (IntKind.i64.wrap (s17 + 1))) (OkOps.nil ?_))))
  exact ⟨IntKind.i64.wrap (s17 + 1), hr, (Conv.mk (tau []) ⟨⟨_, rfl, .inl rfl⟩, ⟨_, rfl, .inl rfl⟩, ⟨_, rfl, .inl rfl⟩, ⟨_, rfl, .inl rfl⟩, ⟨_, rfl, .inl rfl⟩, ⟨_, rfl, .inl rfl⟩, ⟨_, rfl, .inl rfl⟩, trivial⟩ trivial rfl rfl rfl rfl)⟩
  have hr := selF h19 hr
  refine Ok.exit ?_
  exact ⟨(), hr, (Conv.mk (tau []) ⟨⟨_, rfl, .inl rfl⟩, ⟨_, rfl, .inl rfl⟩, ⟨_, rfl, .inl rfl⟩, ⟨_, rfl, .inl rfl⟩, trivial⟩ trivial rfl rfl rfl rfl)⟩
  have hr := selF h5 hr
  refine Ok.exit ?_
  exact ⟨(), hr, (Conv.mk (tau []) trivial trivial rfl rfl rfl rfl)⟩
theorem entry78 : Entry Tryd.prog 78 := ⟨_, Tryd.func78, by kernel_rfl, by kernel_rfl⟩
theorem entry52 : Entry Tryd.prog 52 := ⟨_, Tryd.func52, by kernel_rfl, by kernel_rfl⟩
theorem vw_validate_B_c (self0 : View → Int → Int → Option (Int × Int)) (hself0 : ∀ (v : View) (depth : Int) (p_n : Int) {r : Int × Int}, self0 v depth p_n = some r → Con Tryd.prog 52 [.agg [cI v.Kind, cS v.Key, .d (.sl (List.map Attr.cs v.Attrs)), .d (.sl (List.map Action.cs v.Actions)), .d (.sl (List.map View.cs v.Kids))], aI depth, .c (.loc 0 0)] [(0, .blk [cI p_n] 3)] (.s (aI r.1)) [(0, .blk [cI r.2] 3)]) (v : View) (depth : Int) (p_n : Int) {r : Int × Int} (hr : vw_validate_B self0 v depth p_n = some r) : Con Tryd.prog 52 [.agg [cI v.Kind, cS v.Key, .d (.sl (List.map Attr.cs v.Attrs)), .d (.sl (List.map Action.cs v.Actions)), .d (.sl (List.map View.cs v.Kids))], aI depth, .c (.loc 0 0)] [(0, .blk [cI p_n] 3)] (.s (aI r.1)) [(0, .blk [cI r.2] 3)] := by
  unfold vw_validate_B at hr
  refine Con.of_ok 108 0 [.tmp 6] [(0, .s (.agg [cI v.Kind, cS v.Key, .d (.sl (List.map Attr.cs v.Attrs)), .d (.sl (List.map Action.cs v.Actions)), .d (.sl (List.map View.cs v.Kids))])), (1, .s (aI depth)), (2, .s (.c (.loc 0 0)))] Tryd.func52 rfl rfl rfl rfl rfl rfl rfl rfl fun w g M ρ _ => (Ok.seq (Ok.region (OkOps.m 0 (triBox (j := 1) (cs := [cI v.Kind, cS v.Key, .d (.sl (List.map Attr.cs v.Attrs)), .d (.sl (List.map Action.cs v.Actions)), .d (.sl (List.map View.cs v.Kids))]) rfl rfl rfl rfl rfl) (OkOps.y (aI 0) (OkOps.nil (Ok.seq (Ok.region (OkOps.y (.c (.loc 0 0)) (OkOps.y (.c (.loc 0 0)) (OkOps.y (aI p_n) (OkOps.y (aI (IntKind.i64.wrap (p_n + 1))) (OkOps.y (.c (.loc 0 0)) (OkOps.w (triStore (cs' := [cI (IntKind.i64.wrap (p_n + 1))]) rfl rfl rfl rfl rfl rfl rfl rfl rfl) (OkOps.nil (Ok.seq ?_)))))))))))))))
  refine Ok.block (Ok.seq (Ok.region (OkOps.y (aI depth) (OkOps.y (aB (decide (depth > 16))) (OkOps.y (aB (decide (depth > 16))) (OkOps.nil ?_))))))
  refine Ok.cond (b := decide (depth > 16)) rfl (fun h1 => ?_) (fun h1 => ?_)
  have hr := selT h1 hr
  refine Ok.seq (Ok.region (OkOps.y (aI 8) (OkOps.nil (Ok.ret ?_))))
  obtain rfl := Option.some.inj hr
  exact ⟨_, rfl, .inl rfl, ⟨rfl, trivial⟩⟩
  have hr := selF h1 hr
  refine Ok.seq (Ok.region (OkOps.y (.c (.loc 0 0)) (OkOps.y (.c (.loc 0 0)) (OkOps.y (aI (IntKind.i64.wrap (p_n + 1))) (OkOps.y (aB (decide ((IntKind.i64.wrap (p_n + 1)) > 400))) (OkOps.y (aB (decide ((IntKind.i64.wrap (p_n + 1)) > 400))) (OkOps.nil ?_)))))))
  refine Ok.cond (b := decide ((IntKind.i64.wrap (p_n + 1)) > 400)) rfl (fun h2 => ?_) (fun h2 => ?_)
  have hr := selT h2 hr
  refine Ok.seq (Ok.region (OkOps.y (aI 2) (OkOps.nil (Ok.ret ?_))))
  obtain rfl := Option.some.inj hr
  exact ⟨_, rfl, .inl rfl, ⟨rfl, trivial⟩⟩
  have hr := selF h2 hr
  refine Ok.seq (Ok.region (OkOps.y (.c (.loc 1 0)) (OkOps.y (aI v.Kind) (OkOps.y (aB (decide (v.Kind < 1))) (OkOps.y (aB (decide (v.Kind < 1))) (OkOps.q (triQG (x := .c (.loc 1 0)) rfl rfl trivial rfl) (OkOps.q (triQG (x := aI v.Kind) rfl rfl ⟨fun h => h, trivial⟩ rfl) (OkOps.q (triQG (x := aB (decide (v.Kind > 13))) rfl rfl ⟨fun h => h, trivial⟩ rfl) ?_))))))))
  refine OkOps.q (triOr rfl rfl (fun h => by rw [h]; rfl) rfl) ?_
  refine OkOps.y (aB ((decide (v.Kind < 1)) || (decide (v.Kind > 13)))) (OkOps.nil ?_)
  refine Ok.cond (b := (decide (v.Kind < 1)) || (decide (v.Kind > 13))) rfl (fun h3 => ?_) (fun h3 => ?_)
  have hr := selT h3 hr
  refine Ok.seq (Ok.region (OkOps.y (aI 9) (OkOps.nil (Ok.ret ?_))))
  obtain rfl := Option.some.inj hr
  exact ⟨_, rfl, .inl rfl, ⟨rfl, trivial⟩⟩
  have hr := selF h3 hr
  refine Ok.seq (Ok.region (OkOps.y (.c (.loc 1 1)) (OkOps.y (aS v.Key) ?_)))
  obtain ⟨x4, hx4, hr⟩ := bind_some hr
  refine OkOps.q (triCl (tau []) (.s (aB x4)) [] (vw_Key_c _ hx4) rfl ⟨.inl rfl, trivial⟩ trivial entry12 trivial) (OkOps.y (aB (!x4)) (OkOps.y (aB (!x4)) (OkOps.nil ?_)))
  refine Ok.cond (b := !x4) rfl (fun h5 => ?_) (fun h5 => ?_)
  have hr := selT h5 hr
  refine Ok.seq (Ok.region (OkOps.y (aI 4) (OkOps.nil (Ok.ret ?_))))
  obtain rfl := Option.some.inj hr
  exact ⟨_, rfl, .inl rfl, ⟨rfl, trivial⟩⟩
  have hr := selF h5 hr
  refine Ok.seq (Ok.region (OkOps.y (.c (.loc 1 2)) (OkOps.y (.c (.d (.sl (List.map Attr.cs v.Attrs)))) (OkOps.q (triLen (enc := Attr.cs) v.Attrs rfl rfl trivial rfl) (OkOps.y (aB (decide ((v.Attrs.length : Int) > 24))) (OkOps.y (aB (decide ((v.Attrs.length : Int) > 24))) (OkOps.q (triQG (x := .c (.loc 1 3)) rfl rfl trivial rfl) (OkOps.q (triQG (x := .c (.d (.sl (List.map Action.cs v.Actions)))) rfl rfl ⟨fun h => h, trivial⟩ rfl) (OkOps.q (triLenG (enc := Action.cs) v.Actions rfl rfl rfl ⟨fun h => h, trivial⟩ rfl) (OkOps.q (triQG (x := aB (decide ((v.Actions.length : Int) > 24))) rfl rfl ⟨fun h => h, trivial⟩ rfl) ?_))))))))))
  refine OkOps.q (triOr rfl rfl (fun h => by rw [h]; rfl) rfl) ?_
  refine OkOps.y (aB ((decide ((v.Attrs.length : Int) > 24)) || (decide ((v.Actions.length : Int) > 24)))) (OkOps.q (triQG (x := .c (.loc 1 4)) rfl rfl trivial rfl) (OkOps.q (triQG (x := .c (.d (.sl (List.map View.cs v.Kids)))) rfl rfl ⟨fun h => h, trivial⟩ rfl) (OkOps.q (triLenG (enc := View.cs) v.Kids rfl rfl rfl ⟨fun h => h, trivial⟩ rfl) (OkOps.q (triQG (x := aB (decide ((v.Kids.length : Int) > 100))) rfl rfl ⟨fun h => h, trivial⟩ rfl) ?_))))
  refine OkOps.q (triOr rfl rfl (fun h => by rw [h]; rfl) rfl) ?_
  refine OkOps.y (aB (((decide ((v.Attrs.length : Int) > 24)) || (decide ((v.Actions.length : Int) > 24))) || (decide ((v.Kids.length : Int) > 100)))) (OkOps.nil ?_)
  refine Ok.cond (b := ((decide ((v.Attrs.length : Int) > 24)) || (decide ((v.Actions.length : Int) > 24))) || (decide ((v.Kids.length : Int) > 100))) rfl (fun h6 => ?_) (fun h6 => ?_)
  have hr := selT h6 hr
  refine Ok.seq (Ok.region (OkOps.y (aI 2) (OkOps.nil (Ok.ret ?_))))
  obtain rfl := Option.some.inj hr
  exact ⟨_, rfl, .inl rfl, ⟨rfl, trivial⟩⟩
  have hr := selF h6 hr
  refine Ok.skip (Ok.seq (Ok.seq (Ok.region (OkOps.y (.c (.loc 1 2)) (OkOps.y (.c (.d (.sl (List.map Attr.cs v.Attrs)))) ?_)))))
  obtain ⟨x7, hx7, hr⟩ := bind_some hr
  refine OkOps.q (triCl (tau []) (.s (aI x7)) [] (vw_attributes_c _ hx7) rfl ⟨.inl rfl, trivial⟩ trivial entry77 trivial) (OkOps.y (aI x7) (OkOps.nil (Ok.seq (Ok.region (OkOps.y (aI x7) (OkOps.y (aB (x7 != 0)) (OkOps.nil ?_)))))))
  refine Ok.cond (b := x7 != 0) rfl (fun h8 => ?_) (fun h8 => ?_)
  have hr := selT h8 hr
  refine Ok.seq (Ok.region (OkOps.y (aI x7) (OkOps.y (aI x7) (OkOps.nil (Ok.ret ?_)))))
  obtain rfl := Option.some.inj hr
  exact ⟨_, rfl, .inl rfl, ⟨rfl, trivial⟩⟩
  have hr := selF h8 hr
  refine Ok.skip (Ok.seq (Ok.seq (Ok.region (OkOps.y (.c (.loc 1 3)) (OkOps.y (.c (.d (.sl (List.map Action.cs v.Actions)))) ?_)))))
  obtain ⟨x9, hx9, hr⟩ := bind_some hr
  refine OkOps.q (triCl (tau []) (.s (aI x9)) [] (vw_actions_c _ hx9) rfl ⟨.inl rfl, trivial⟩ trivial entry78 trivial) (OkOps.y (aI x9) (OkOps.nil (Ok.seq (Ok.region (OkOps.y (aI x9) (OkOps.y (aB (x9 != 0)) (OkOps.nil ?_)))))))
  refine Ok.cond (b := x9 != 0) rfl (fun h10 => ?_) (fun h10 => ?_)
  have hr := selT h10 hr
  refine Ok.seq (Ok.region (OkOps.y (aI x9) (OkOps.y (aI x9) (OkOps.nil (Ok.ret ?_)))))
  obtain rfl := Option.some.inj hr
  exact ⟨_, rfl, .inl rfl, ⟨rfl, trivial⟩⟩
  have hr := selF h10 hr
  refine Ok.skip (Ok.seq (Ok.region (OkOps.m 0 (triMkM (j := 2) false rfl rfl) (OkOps.y (.c (.own 2)) (OkOps.nil ?_)))))
  obtain ⟨k12, hk12, hr⟩ := jn_some hr
  refine Ok.join (fun (s11 : Unit) => ⟨[(1, .s (aI depth)), (2, .s (.c (.loc 0 0))), (3, .s (.c (.loc 1 0)))], [(0, .blk [cI (IntKind.i64.wrap (p_n + 1))] 3), (1, .blk [cI v.Kind, cS v.Key, .d (.sl (List.map Attr.cs v.Attrs)), .d (.sl (List.map Action.cs v.Actions)), .d (.sl (List.map View.cs v.Kids))] 31)], 0⟩) k12 r (fun s11 hr => ?_) ?_
  rw [hk12] at hr
  obtain ⟨k14, hk14, hr⟩ := jn_some hr
  refine Ok.join (fun (s13 : Int) => ⟨[], [(0, .blk [cI s13] 3)], 0⟩) k14 r (fun s13 hr => ?_) ?_
  rw [hk14] at hr
  refine Ok.seq (Ok.region (OkOps.y (aI 0) (OkOps.nil (Ok.ret ?_))))
  obtain rfl := Option.some.inj hr
  exact ⟨_, rfl, .inl rfl, ⟨rfl, trivial⟩⟩
  clear hk14
  refine Ok.seq (Ok.region (OkOps.y (.c (.loc 1 4)) (OkOps.y (.c (.d (.sl (List.map View.cs v.Kids)))) (OkOps.q (triLen (enc := View.cs) v.Kids rfl rfl trivial rfl) (OkOps.y (aI 0) (OkOps.nil (Ok.block (Ok.loopK (fun (s15 : Int × Int) => ⟨[(1, .s (aI depth)), (2, .s (.c (.loc 0 0))), (93, .s (.c (.d (.sl (List.map View.cs v.Kids))))), (94, .s (aI (v.Kids.length : Int))), (95, .s (aI s15.1))], [(0, .blk [cI s15.2] 3)], 0⟩) hr (Conv.mk (tau []) ⟨⟨_, rfl, .inl rfl⟩, ⟨_, rfl, .inl rfl⟩, ⟨_, rfl, .inl rfl⟩, ⟨_, rfl, .inl rfl⟩, ⟨_, rfl, .inl rfl⟩, trivial⟩ ⟨rfl, trivial⟩ rfl rfl rfl rfl) ?_))))))))
  clear hr
  intro again16 s15 hr
  unfold vw_validate_L1 at hr
  refine Ok.seq (Ok.region (OkOps.y (aB (decide (s15.1 < (v.Kids.length : Int)))) (OkOps.nil (Ok.seq ?_))))
  refine Ok.cond (b := decide (s15.1 < (v.Kids.length : Int))) rfl (fun h17 => ?_) (fun h17 => ?_)
  have hr := selT h17 hr
  refine Ok.skip (Ok.seq (Ok.block (Ok.seq (Ok.region ?_))))
  obtain ⟨x18, hx18, hr⟩ := bind_some hr
  refine OkOps.q (triIdx (enc := View.cs) (L := v.Kids) (row := [dI x18.Kind, dS x18.Key, .sl (List.map Attr.cs x18.Attrs), .sl (List.map Action.cs x18.Actions), .sl (List.map View.cs x18.Kids)]) hx18 (View.cs_eq _) rfl rfl rfl (fun x => by rw [View.cs_eq]; rfl) trivial rfl) ?_
  refine OkOps.y (.agg [cI x18.Kind, cS x18.Key, .d (.sl (List.map Attr.cs x18.Attrs)), .d (.sl (List.map Action.cs x18.Actions)), .d (.sl (List.map View.cs x18.Kids))]) (OkOps.m 0 (triAlloc (j := 3) (cs := [cI 0, cS ByteArray.empty, .d (.v (.slice none 0 0)), .d (.v (.slice none 0 0)), .d (.v (.slice none 0 0))]) rfl rfl rfl rfl) (OkOps.w (triStore (cs' := [cI x18.Kind, cS x18.Key, .d (.sl (List.map Attr.cs x18.Attrs)), .d (.sl (List.map Action.cs x18.Actions)), .d (.sl (List.map View.cs x18.Kids))]) rfl rfl rfl rfl rfl rfl rfl rfl rfl) (OkOps.nil (Ok.seq (Ok.region (OkOps.y (.agg [cI x18.Kind, cS x18.Key, .d (.sl (List.map Attr.cs x18.Attrs)), .d (.sl (List.map Action.cs x18.Actions)), .d (.sl (List.map View.cs x18.Kids))]) (OkOps.y (aI depth) (OkOps.y (aI (IntKind.i64.wrap (depth + 1))) (OkOps.y (.c (.loc 0 0)) ?_)))))))))
  obtain ⟨x19, hx19, hr⟩ := bind_some hr
  refine OkOps.m 0 (triCl (tau [(0, 0)]) (.s (aI x19.1)) [(0, .blk [cI x19.2] 3)] (hself0 _ _ _ hx19) rfl ⟨.inl rfl, .inl rfl, .inl rfl, trivial⟩ trivial entry52 ⟨rfl, trivial⟩) (OkOps.y (aI x19.1) (OkOps.nil (Ok.seq (Ok.region (OkOps.y (aI x19.1) (OkOps.y (aB (x19.1 != 0)) (OkOps.nil ?_)))))))
  refine Ok.cond (b := x19.1 != 0) rfl (fun h20 => ?_) (fun h20 => ?_)
  have hr := selT h20 hr
  refine Ok.seq (Ok.region (OkOps.y (aI x19.1) (OkOps.y (aI x19.1) (OkOps.nil (Ok.ret ?_)))))
  obtain rfl := Option.some.inj hr
  exact ⟨_, rfl, .inl rfl, ⟨rfl, trivial⟩⟩
  have hr := selF h20 hr
  refine Ok.skip (Ok.region (OkOps.y (aI (IntKind.i64.wrap (s15.1 + 1))) (OkOps.y (aI (IntKind.i64.wrap (s15.1 + 1))) (OkOps.nil ?_))))
  exact ⟨(IntKind.i64.wrap (s15.1 + 1), x19.2), hr, (Conv.mk (tau []) ⟨⟨_, rfl, .inl rfl⟩, ⟨_, rfl, .inl rfl⟩, ⟨_, rfl, .inl rfl⟩, ⟨_, rfl, .inl rfl⟩, ⟨_, rfl, .inl rfl⟩, trivial⟩ ⟨rfl, trivial⟩ rfl rfl rfl rfl)⟩
  have hr := selF h17 hr
  refine Ok.exit ?_
  exact ⟨s15.2, hr, (Conv.mk (tau []) trivial ⟨rfl, trivial⟩ rfl rfl rfl rfl)⟩
  clear hk12
  refine Ok.seq (Ok.region (OkOps.y (.c (.loc 1 4)) (OkOps.y (.c (.d (.sl (List.map View.cs v.Kids)))) (OkOps.q (triLen (enc := View.cs) v.Kids rfl rfl trivial rfl) (OkOps.y (aI 0) (OkOps.nil (Ok.block (Ok.loopK (fun (s21 : Int × (List (Str × Bool))) => ⟨[(1, .s (aI depth)), (2, .s (.c (.loc 0 0))), (3, .s (.c (.loc 1 0))), (9, .s (.c (.own 2))), (73, .s (.c (.d (.sl (List.map View.cs v.Kids))))), (74, .s (aI (v.Kids.length : Int))), (75, .s (aI s21.1))], [(0, .blk [cI (IntKind.i64.wrap (p_n + 1))] 3), (1, .blk [cI v.Kind, cS v.Key, .d (.sl (List.map Attr.cs v.Attrs)), .d (.sl (List.map Action.cs v.Actions)), .d (.sl (List.map View.cs v.Kids))] 31), (2, .mp false (encM kStr eBool s21.2))], 0⟩) hr (Conv.mk (tau []) ⟨⟨_, rfl, .inl rfl⟩, ⟨_, rfl, .inl rfl⟩, ⟨_, rfl, .inl rfl⟩, ⟨_, rfl, .inl rfl⟩, ⟨_, rfl, .inl rfl⟩, ⟨_, rfl, .inl rfl⟩, ⟨_, rfl, .inl rfl⟩, trivial⟩ ⟨rfl, rfl, rfl, trivial⟩ rfl rfl rfl rfl) ?_))))))))
  clear hr
  intro again22 s21 hr
  unfold vw_validate_L2 at hr
  refine Ok.seq (Ok.region (OkOps.y (aB (decide (s21.1 < (v.Kids.length : Int)))) (OkOps.nil (Ok.seq ?_))))
  refine Ok.cond (b := decide (s21.1 < (v.Kids.length : Int))) rfl (fun h23 => ?_) (fun h23 => ?_)
  have hr := selT h23 hr
  refine Ok.skip (Ok.seq (Ok.block (Ok.seq (Ok.region ?_))))
  obtain ⟨x24, hx24, hr⟩ := bind_some hr
  refine OkOps.q (triIdx (enc := View.cs) (L := v.Kids) (row := [dI x24.Kind, dS x24.Key, .sl (List.map Attr.cs x24.Attrs), .sl (List.map Action.cs x24.Actions), .sl (List.map View.cs x24.Kids)]) hx24 (View.cs_eq _) rfl rfl rfl (fun x => by rw [View.cs_eq]; rfl) trivial rfl) ?_
  refine OkOps.y (.agg [cI x24.Kind, cS x24.Key, .d (.sl (List.map Attr.cs x24.Attrs)), .d (.sl (List.map Action.cs x24.Actions)), .d (.sl (List.map View.cs x24.Kids))]) (OkOps.m 0 (triAlloc (j := 4) (cs := [cI 0, cS ByteArray.empty, .d (.v (.slice none 0 0)), .d (.v (.slice none 0 0)), .d (.v (.slice none 0 0))]) rfl rfl rfl rfl) (OkOps.w (triStore (cs' := [cI x24.Kind, cS x24.Key, .d (.sl (List.map Attr.cs x24.Attrs)), .d (.sl (List.map Action.cs x24.Actions)), .d (.sl (List.map View.cs x24.Kids))]) rfl rfl rfl rfl rfl rfl rfl rfl rfl) (OkOps.nil (Ok.seq (Ok.seq (Ok.region (OkOps.y (.c (.loc 4 1)) (OkOps.y (aS x24.Key) (OkOps.y (aB (!(x24.Key.toList == (ByteArray.mk #[]).toList))) (OkOps.y (aB (!(x24.Key.toList == (ByteArray.mk #[]).toList))) (OkOps.q (triQG (x := .c (.own 2)) rfl rfl trivial rfl) (OkOps.q (triQG (x := .c (.loc 4 1)) rfl rfl trivial rfl) (OkOps.q (triQG (x := aS x24.Key) rfl rfl ⟨fun h => h, trivial⟩ rfl) ?_)))))))))))))
  obtain ⟨x25, hx25, hr⟩ := bind_some hr
  refine OkOps.q (triLookG (agg := false) (ek := kStr) (ev := eBool) (L := s21.2) (r := aB x25.1) (gO_t hx25) rfl rfl rfl rfl (keyStr Tryd.underlying9) rfl rfl (fun _ _ => rfl) rfl ⟨fun h => h, ⟨fun h => h, trivial⟩⟩ rfl) (OkOps.q (triAnd rfl rfl (fun h => h) rfl) (OkOps.nil ?_))
  refine Ok.cond (b := (!(x24.Key.toList == (ByteArray.mk #[]).toList)) && x25.1) rfl (fun h26 => ?_) (fun h26 => ?_)
  have hr := selT h26 hr
  refine Ok.seq (Ok.region (OkOps.y (aI 6) (OkOps.nil (Ok.ret ?_))))
  obtain rfl := Option.some.inj hr
  exact ⟨_, rfl, .inl rfl, ⟨rfl, trivial⟩⟩
  have hr := selF h26 hr
  refine Ok.skip (Ok.region (OkOps.y (.c (.own 2)) (OkOps.y (.c (.loc 4 1)) (OkOps.y (aS x24.Key) (OkOps.w (triMapUp (ek := kStr) (ev := eBool) (L := s21.2) (z := true) rfl rfl rfl rfl rfl rfl (keyStr Tryd.underlying9) (fun _ _ => rfl) rfl trivial) (OkOps.nil (Ok.region (OkOps.y (aI (IntKind.i64.wrap (s21.1 + 1))) (OkOps.y (aI (IntKind.i64.wrap (s21.1 + 1))) (OkOps.nil ?_))))))))))
  exact ⟨(IntKind.i64.wrap (s21.1 + 1), msetL s21.2 x24.Key true), hr, (Conv.mk (tau []) ⟨⟨_, rfl, .inl rfl⟩, ⟨_, rfl, .inl rfl⟩, ⟨_, rfl, .inl rfl⟩, ⟨_, rfl, .inl rfl⟩, ⟨_, rfl, .inl rfl⟩, ⟨_, rfl, .inl rfl⟩, ⟨_, rfl, .inl rfl⟩, trivial⟩ ⟨rfl, rfl, rfl, trivial⟩ rfl rfl rfl rfl)⟩
  have hr := selF h23 hr
  refine Ok.exit ?_
  exact ⟨(), hr, (Conv.mk (tau []) ⟨⟨_, rfl, .inl rfl⟩, ⟨_, rfl, .inl rfl⟩, ⟨_, rfl, .inl rfl⟩, trivial⟩ ⟨rfl, rfl, trivial⟩ rfl rfl rfl rfl)⟩
theorem vw_validate_all : ∀ n : Nat, (∀ (v : View) (depth : Int) (p_n : Int) {r : Int × Int}, vw_validate n v depth p_n = some r → Con Tryd.prog 52 [.agg [cI v.Kind, cS v.Key, .d (.sl (List.map Attr.cs v.Attrs)), .d (.sl (List.map Action.cs v.Actions)), .d (.sl (List.map View.cs v.Kids))], aI depth, .c (.loc 0 0)] [(0, .blk [cI p_n] 3)] (.s (aI r.1)) [(0, .blk [cI r.2] 3)]) ∧ True := by
  intro n
  induction n with
  | zero => exact ⟨(by intros; rename_i hr; cases hr), trivial⟩
  | succ n ih => exact ⟨(by intros; rename_i hr; exact vw_validate_B_c _ ih.1 _ _ _ hr), trivial⟩
theorem vw_validate_c (n : Nat) (v : View) (depth : Int) (p_n : Int) {r : Int × Int} (hr : vw_validate n v depth p_n = some r) : Con Tryd.prog 52 [.agg [cI v.Kind, cS v.Key, .d (.sl (List.map Attr.cs v.Attrs)), .d (.sl (List.map Action.cs v.Actions)), .d (.sl (List.map View.cs v.Kids))], aI depth, .c (.loc 0 0)] [(0, .blk [cI p_n] 3)] (.s (aI r.1)) [(0, .blk [cI r.2] 3)] := (vw_validate_all n).1 v depth p_n hr
theorem vw_Validate_c (v : View) {r : Int} (hr : vw_Validate v = some r) : Con Tryd.prog 17 [.agg [cI v.Kind, cS v.Key, .d (.sl (List.map Attr.cs v.Attrs)), .d (.sl (List.map Action.cs v.Actions)), .d (.sl (List.map View.cs v.Kids))]] [] (.s (aI r)) [] := by
  unfold vw_Validate at hr
  refine Con.of_ok 6 0 [.tmp 2] [(0, .s (.agg [cI v.Kind, cS v.Key, .d (.sl (List.map Attr.cs v.Attrs)), .d (.sl (List.map Action.cs v.Actions)), .d (.sl (List.map View.cs v.Kids))]))] Tryd.func17 rfl rfl rfl rfl rfl rfl rfl rfl fun w g M ρ _ => (Ok.seq (Ok.region (OkOps.m 0 (triBox (j := 0) (cs := [cI v.Kind, cS v.Key, .d (.sl (List.map Attr.cs v.Attrs)), .d (.sl (List.map Action.cs v.Actions)), .d (.sl (List.map View.cs v.Kids))]) rfl rfl rfl rfl rfl) (OkOps.y (aI 0) (OkOps.nil (Ok.seq (Ok.region (OkOps.m 0 (triAlloc (j := 1) (cs := [cI 0]) rfl rfl rfl rfl) (OkOps.w (triStore (cs' := [cI 0]) rfl rfl rfl rfl rfl rfl rfl rfl rfl) (OkOps.nil (Ok.seq (Ok.region (OkOps.y (.agg [cI v.Kind, cS v.Key, .d (.sl (List.map Attr.cs v.Attrs)), .d (.sl (List.map Action.cs v.Actions)), .d (.sl (List.map View.cs v.Kids))]) ?_)))))))))))))
  obtain ⟨x1, hx1, hr⟩ := bind_some hr
  refine OkOps.m 0 (triCl (tau [(0, 1)]) (.s (aI x1.1)) [(1, .blk [cI x1.2] 3)] (vw_validate_c _ _ _ _ hx1) rfl ⟨.inl rfl, .inl rfl, .inl rfl, trivial⟩ trivial entry52 ⟨rfl, trivial⟩) (OkOps.y (aI x1.1) (OkOps.nil (Ok.ret ?_)))
  obtain rfl := Option.some.inj hr
  exact ⟨_, rfl, .inl rfl, trivial⟩
theorem entry17 : Entry Tryd.prog 17 := ⟨_, Tryd.func17, by kernel_rfl, by kernel_rfl⟩
theorem entry60 : Entry Tryd.prog 60 := ⟨_, Tryd.func60, by kernel_rfl, by kernel_rfl⟩
theorem entry83 : Entry Tryd.prog 83 := ⟨_, Tryd.func83, by kernel_rfl, by kernel_rfl⟩
theorem vw_value_B_c (self0 : AValue → Option AValue) (self1 : (List AValue) → Option (List AValue)) (_hself0 : ∀ (v : AValue) {r : AValue}, self0 v = some r → Con Tryd.prog 60 [.agg [cI v.Kind, cI v.N, cS v.S, .d (.sl (List.map AValue.cs v.L))]] [] (.s (.agg [cI r.Kind, cI r.N, cS r.S, .d (.sl (List.map AValue.cs r.L))])) []) (hself1 : ∀ (l : (List AValue)) {r : (List AValue)}, self1 l = some r → Con Tryd.prog 83 [.c (.d (.sl (List.map AValue.cs l)))] [] (.s (.c (.d (.sl (List.map AValue.cs r))))) []) (v : AValue) {r : AValue} (hr : vw_value_B self0 self1 v = some r) : Con Tryd.prog 60 [.agg [cI v.Kind, cI v.N, cS v.S, .d (.sl (List.map AValue.cs v.L))]] [] (.s (.agg [cI r.Kind, cI r.N, cS r.S, .d (.sl (List.map AValue.cs r.L))])) [] := by
  unfold vw_value_B at hr
  refine Con.of_ok 8 0 [.cell 2 40] [(0, .s (.agg [cI v.Kind, cI v.N, cS v.S, .d (.sl (List.map AValue.cs v.L))]))] Tryd.func60 rfl rfl rfl rfl rfl rfl rfl rfl fun w g M ρ _ => (Ok.seq (Ok.region (OkOps.m 0 (triBox (j := 0) (cs := [cI v.Kind, cI v.N, cS v.S, .d (.sl (List.map AValue.cs v.L))]) rfl rfl rfl rfl rfl) (OkOps.m 0 (triAlloc (j := 1) (cs := [cI 0, cI 0, cS ByteArray.empty, .d (.v (.slice none 0 0))]) rfl rfl rfl rfl) (OkOps.nil (Ok.seq (Ok.region (OkOps.y (.c (.loc 0 3)) (OkOps.y (.c (.d (.sl (List.map AValue.cs v.L)))) ?_)))))))))
  obtain ⟨x1, hx1, hr⟩ := bind_some hr
  refine OkOps.q (triCl (tau []) (.s (.c (.d (.sl (List.map AValue.cs x1))))) [] (hself1 _ hx1) rfl ⟨.inl rfl, trivial⟩ trivial entry83 trivial) (OkOps.y (.c (.loc 0 3)) (OkOps.w (triStore (cs' := [cI v.Kind, cI v.N, cS v.S, .d (.sl (List.map AValue.cs x1))]) rfl rfl rfl rfl rfl rfl rfl rfl rfl) (OkOps.nil (Ok.seq (Ok.region (OkOps.y (.agg [cI v.Kind, cI v.N, cS v.S, .d (.sl (List.map AValue.cs x1))]) (OkOps.w (triStore (cs' := [cI v.Kind, cI v.N, cS v.S, .d (.sl (List.map AValue.cs x1))]) rfl rfl rfl rfl rfl rfl rfl rfl rfl) (OkOps.nil (Ok.ret ?_)))))))))
  obtain rfl := Option.some.inj hr
  exact ⟨_, rfl, .inl rfl, trivial⟩
theorem vw_values_B_c (self0 : AValue → Option AValue) (self1 : (List AValue) → Option (List AValue)) (hself0 : ∀ (v : AValue) {r : AValue}, self0 v = some r → Con Tryd.prog 60 [.agg [cI v.Kind, cI v.N, cS v.S, .d (.sl (List.map AValue.cs v.L))]] [] (.s (.agg [cI r.Kind, cI r.N, cS r.S, .d (.sl (List.map AValue.cs r.L))])) []) (_hself1 : ∀ (l : (List AValue)) {r : (List AValue)}, self1 l = some r → Con Tryd.prog 83 [.c (.d (.sl (List.map AValue.cs l)))] [] (.s (.c (.d (.sl (List.map AValue.cs r))))) []) (l : (List AValue)) {r : (List AValue)} (hr : vw_values_B self0 self1 l = some r) : Con Tryd.prog 83 [.c (.d (.sl (List.map AValue.cs l)))] [] (.s (.c (.d (.sl (List.map AValue.cs r))))) [] := by
  unfold vw_values_B at hr
  refine Con.of_ok 19 0 [.tmp 2] [(0, .s (.c (.d (.sl (List.map AValue.cs l)))))] Tryd.func83 rfl rfl rfl rfl rfl rfl rfl rfl fun w g M ρ _ => (Ok.seq (Ok.region (OkOps.y (.c (.d (.v (.slice none 0 0)))) (OkOps.nil (Ok.seq (Ok.region (OkOps.y (.c (.d (.v (.slice none 0 0)))) (OkOps.nil ?_))))))))
  obtain ⟨k2, hk2, hr⟩ := jn_some hr
  refine Ok.join (fun (s1 : (List AValue)) => ⟨[(3, .s (.c (.tl 1004 (List.map AValue.cs s1))))], [(1004, .tail 4)], 0⟩) k2 r (fun s1 hr => ?_) ?_
  rw [hk2] at hr
  refine Ok.seq (Ok.region (OkOps.y (.c (.tl 1004 (List.map AValue.cs s1))) (OkOps.y (.c (.tl 1004 (List.map AValue.cs s1))) (OkOps.nil (Ok.ret ?_)))))
  obtain rfl := Option.some.inj hr
  exact ⟨_, rfl, .inr rfl, trivial⟩
  clear hk2
  refine Ok.seq (Ok.region (OkOps.y (.c (.d (.sl (List.map AValue.cs l)))) (OkOps.q (triLen (enc := AValue.cs) l rfl rfl trivial rfl) (OkOps.y (aI 0) (OkOps.nil (Ok.block (Ok.loopK (fun (s3 : (List AValue) × Int) => ⟨[(3, .s (.c (.tl 1007 (List.map AValue.cs s3.1)))), (6, .s (.c (.d (.sl (List.map AValue.cs l))))), (7, .s (aI (l.length : Int))), (8, .s (aI s3.2))], [(1007, .tail 4)], 0⟩) hr (Conv.trans (Conv.nil 3 1009 4 0 rfl rfl) (Conv.mk (tau [(1007, 1009)]) ⟨⟨_, rfl, .inl rfl⟩, ⟨_, rfl, .inl rfl⟩, ⟨_, rfl, .inl rfl⟩, ⟨_, rfl, .inl rfl⟩, trivial⟩ ⟨rfl, trivial⟩ rfl rfl rfl rfl)) ?_)))))))
  clear hr
  intro again4 s3 hr
  unfold vw_values_L1 at hr
  refine Ok.seq (Ok.region (OkOps.y (aB (decide (s3.2 < (l.length : Int)))) (OkOps.nil (Ok.seq ?_))))
  refine Ok.cond (b := decide (s3.2 < (l.length : Int))) rfl (fun h5 => ?_) (fun h5 => ?_)
  have hr := selT h5 hr
  refine Ok.skip (Ok.seq (Ok.block (Ok.seq (Ok.region ?_))))
  obtain ⟨x6, hx6, hr⟩ := bind_some hr
  refine OkOps.q (triIdx (enc := AValue.cs) (L := l) (row := [dI x6.Kind, dI x6.N, dS x6.S, .sl (List.map AValue.cs x6.L)]) hx6 (AValue.cs_eq _) rfl rfl rfl (fun x => by rw [AValue.cs_eq]; rfl) trivial rfl) ?_
  refine OkOps.y (.agg [cI x6.Kind, cI x6.N, cS x6.S, .d (.sl (List.map AValue.cs x6.L))]) (OkOps.m 0 (triAlloc (j := 0) (cs := [cI 0, cI 0, cS ByteArray.empty, .d (.v (.slice none 0 0))]) rfl rfl rfl rfl) (OkOps.w (triStore (cs' := [cI x6.Kind, cI x6.N, cS x6.S, .d (.sl (List.map AValue.cs x6.L))]) rfl rfl rfl rfl rfl rfl rfl rfl rfl) (OkOps.nil (Ok.region (OkOps.y (.c (.tl 1007 (List.map AValue.cs s3.1))) (OkOps.y (.agg [cI x6.Kind, cI x6.N, cS x6.S, .d (.sl (List.map AValue.cs x6.L))]) ?_))))))
  obtain ⟨x7, hx7, hr⟩ := bind_some hr
  refine OkOps.q (triCl (tau []) (.s (.agg [cI x7.Kind, cI x7.N, cS x7.S, .d (.sl (List.map AValue.cs x7.L))])) [] (hself0 _ hx7) rfl ⟨.inl rfl, trivial⟩ trivial entry60 trivial) ?_
  refine OkOps.m 0 (triBST (sz := 4) (enc := AValue.cs) (j := 1) ([x7]) rfl rfl rfl rfl rfl (rows := [[dI x7.Kind, dI x7.N, dS x7.S, .sl (List.map AValue.cs x7.L)]]) (by simp only [List.map, AValue.cs_eq]) rfl rfl (fun x => by rw [AValue.cs_eq]; rfl) trivial rfl rfl) ?_
  obtain ⟨x8, hx8, hr⟩ := bind_some hr
  refine OkOps.m2 0 (triApp (enc := AValue.cs) (L := s3.1) (X := [x7]) (j := 1007) (j' := 2) hx8 rfl rfl rfl rfl rfl rfl (fun x => by rw [AValue.cs_eq]; rfl) (fun x => by rw [AValue.cs_eq]; rfl) (by decide) trivial rfl rfl) ?_
  refine OkOps.y (.c (.tl 2 (List.map AValue.cs x8))) (OkOps.nil (Ok.region (OkOps.y (aI (IntKind.i64.wrap (s3.2 + 1))) (OkOps.y (aI (IntKind.i64.wrap (s3.2 + 1))) (OkOps.nil ?_)))))
  exact ⟨(x8, IntKind.i64.wrap (s3.2 + 1)), hr, (Conv.mk (tau [(1007, 2)]) ⟨⟨_, rfl, .inl rfl⟩, ⟨_, rfl, .inl rfl⟩, ⟨_, rfl, .inl rfl⟩, ⟨_, rfl, .inl rfl⟩, trivial⟩ ⟨rfl, trivial⟩ rfl rfl rfl rfl)⟩
  have hr := selF h5 hr
  refine Ok.exit ?_
  exact ⟨s3.1, hr, (Conv.mk (tau [(1004, 1007)]) ⟨⟨_, rfl, .inl rfl⟩, trivial⟩ ⟨rfl, trivial⟩ rfl rfl rfl rfl)⟩
theorem vw_value_all : ∀ n : Nat, (∀ (v : AValue) {r : AValue}, vw_value n v = some r → Con Tryd.prog 60 [.agg [cI v.Kind, cI v.N, cS v.S, .d (.sl (List.map AValue.cs v.L))]] [] (.s (.agg [cI r.Kind, cI r.N, cS r.S, .d (.sl (List.map AValue.cs r.L))])) []) ∧ (∀ (l : (List AValue)) {r : (List AValue)}, vw_values n l = some r → Con Tryd.prog 83 [.c (.d (.sl (List.map AValue.cs l)))] [] (.s (.c (.d (.sl (List.map AValue.cs r))))) []) ∧ True := by
  intro n
  induction n with
  | zero => exact ⟨(by intros; rename_i hr; cases hr), (by intros; rename_i hr; cases hr), trivial⟩
  | succ n ih => exact ⟨(by intros; rename_i hr; exact vw_value_B_c _ _ ih.1 ih.2.1 _ hr), (by intros; rename_i hr; exact vw_values_B_c _ _ ih.1 ih.2.1 _ hr), trivial⟩
theorem vw_value_c (n : Nat) (v : AValue) {r : AValue} (hr : vw_value n v = some r) : Con Tryd.prog 60 [.agg [cI v.Kind, cI v.N, cS v.S, .d (.sl (List.map AValue.cs v.L))]] [] (.s (.agg [cI r.Kind, cI r.N, cS r.S, .d (.sl (List.map AValue.cs r.L))])) [] := (vw_value_all n).1 v hr
theorem vw_values_c (n : Nat) (l : (List AValue)) {r : (List AValue)} (hr : vw_values n l = some r) : Con Tryd.prog 83 [.c (.d (.sl (List.map AValue.cs l)))] [] (.s (.c (.d (.sl (List.map AValue.cs r))))) [] := (vw_value_all n).2.1 l hr
theorem vw_copied_c (attrs : (List Attr)) (acts : (List Action)) {r : (List Attr) × (List Action)} (hr : vw_copied attrs acts = some r) : Con Tryd.prog 59 [.c (.d (.sl (List.map Attr.cs attrs))), .c (.d (.sl (List.map Action.cs acts)))] [] (.tup [.c (.d (.sl (List.map Attr.cs r.1))), .c (.d (.sl (List.map Action.cs r.2)))]) [] := by
  unfold vw_copied at hr
  refine Con.of_ok 45 0 [.tmp 4, .tmp 5] [(0, .s (.c (.d (.sl (List.map Attr.cs attrs))))), (1, .s (.c (.d (.sl (List.map Action.cs acts)))))] Tryd.func59 rfl rfl rfl rfl rfl rfl rfl rfl fun w g M ρ _ => (Ok.seq (Ok.region (OkOps.y (.c (.d (.v (.slice none 0 0)))) (OkOps.y (.c (.d (.v (.slice none 0 0)))) (OkOps.nil (Ok.seq (Ok.region (OkOps.y (.c (.d (.v (.slice none 0 0)))) (OkOps.nil ?_)))))))))
  obtain ⟨k2, hk2, hr⟩ := jn_some hr
  refine Ok.join (fun (s1 : (List Attr)) => ⟨[(1, .s (.c (.d (.sl (List.map Action.cs acts))))), (6, .s (.c (.tl 1004 (List.map Attr.cs s1))))], [(1004, .tail 5)], 0⟩) k2 r (fun s1 hr => ?_) ?_
  rw [hk2] at hr
  refine Ok.seq (Ok.region (OkOps.y (.c (.d (.v (.slice none 0 0)))) (OkOps.nil ?_)))
  obtain ⟨k4, hk4, hr⟩ := jn_some hr
  refine Ok.join (fun (s3 : (List Action)) => ⟨[(6, .s (.c (.tl 1004 (List.map Attr.cs s1)))), (9, .s (.c (.tl 1009 (List.map Action.cs s3))))], [(1004, .tail 5), (1009, .tail 4)], 0⟩) k4 r (fun s3 hr => ?_) ?_
  rw [hk4] at hr
  refine Ok.seq (Ok.region (OkOps.y (.c (.tl 1004 (List.map Attr.cs s1))) (OkOps.y (.c (.tl 1009 (List.map Action.cs s3))) (OkOps.y (.c (.tl 1004 (List.map Attr.cs s1))) (OkOps.y (.c (.tl 1009 (List.map Action.cs s3))) (OkOps.nil (Ok.ret ?_)))))))
  obtain rfl := Option.some.inj hr
  exact ⟨_, rfl, .inr rfl, trivial⟩
  clear hk4
  refine Ok.seq (Ok.region (OkOps.y (.c (.d (.sl (List.map Action.cs acts)))) (OkOps.q (triLen (enc := Action.cs) acts rfl rfl trivial rfl) (OkOps.y (aI 0) (OkOps.nil (Ok.block (Ok.loopK (fun (s5 : (List Action) × Int) => ⟨[(6, .s (.c (.tl 1004 (List.map Attr.cs s1)))), (9, .s (.c (.tl 1012 (List.map Action.cs s5.1)))), (28, .s (.c (.d (.sl (List.map Action.cs acts))))), (29, .s (aI (acts.length : Int))), (30, .s (aI s5.2))], [(1004, .tail 5), (1012, .tail 4)], 0⟩) hr (Conv.trans (Conv.nil 9 1014 4 0 rfl rfl) (Conv.mk (tau [(1012, 1014)]) ⟨⟨_, rfl, .inl rfl⟩, ⟨_, rfl, .inl rfl⟩, ⟨_, rfl, .inl rfl⟩, ⟨_, rfl, .inl rfl⟩, ⟨_, rfl, .inl rfl⟩, trivial⟩ ⟨rfl, rfl, trivial⟩ rfl rfl rfl rfl)) ?_)))))))
  clear hr
  intro again6 s5 hr
  unfold vw_copied_L1 at hr
  refine Ok.seq (Ok.region (OkOps.y (aB (decide (s5.2 < (acts.length : Int)))) (OkOps.nil (Ok.seq ?_))))
  refine Ok.cond (b := decide (s5.2 < (acts.length : Int))) rfl (fun h7 => ?_) (fun h7 => ?_)
  have hr := selT h7 hr
  refine Ok.skip (Ok.seq (Ok.block (Ok.seq (Ok.region ?_))))
  obtain ⟨x8, hx8, hr⟩ := bind_some hr
  refine OkOps.q (triIdx (enc := Action.cs) (L := acts) (row := [dS x8.Event, dS x8.Instance, dS x8.Handler, .sl (List.map AValue.cs x8.Args)]) hx8 rfl rfl rfl rfl (fun _ => rfl) trivial rfl) (OkOps.y (.agg [cS x8.Event, cS x8.Instance, cS x8.Handler, .d (.sl (List.map AValue.cs x8.Args))]) (OkOps.m 0 (triAlloc (j := 0) (cs := [cS ByteArray.empty, cS ByteArray.empty, cS ByteArray.empty, .d (.v (.slice none 0 0))]) rfl rfl rfl rfl) (OkOps.w (triStore (cs' := [cS x8.Event, cS x8.Instance, cS x8.Handler, .d (.sl (List.map AValue.cs x8.Args))]) rfl rfl rfl rfl rfl rfl rfl rfl rfl) (OkOps.nil (Ok.seq (Ok.region (OkOps.y (.c (.loc 0 3)) (OkOps.y (.c (.d (.sl (List.map AValue.cs x8.Args)))) ?_))))))))
  obtain ⟨x9, hx9, hr⟩ := bind_some hr
  refine OkOps.q (triCl (tau []) (.s (.c (.d (.sl (List.map AValue.cs x9))))) [] (vw_values_c _ _ hx9) rfl ⟨.inl rfl, trivial⟩ trivial entry83 trivial) (OkOps.y (.c (.loc 0 3)) (OkOps.w (triStore (cs' := [cS x8.Event, cS x8.Instance, cS x8.Handler, .d (.sl (List.map AValue.cs x9))]) rfl rfl rfl rfl rfl rfl rfl rfl rfl) (OkOps.nil (Ok.region (OkOps.y (.c (.tl 1012 (List.map Action.cs s5.1))) (OkOps.y (.agg [cS x8.Event, cS x8.Instance, cS x8.Handler, .d (.sl (List.map AValue.cs x9))]) (OkOps.m 0 (triBST (sz := 4) (enc := Action.cs) (j := 1) ([(Action.mk x8.Event x8.Instance x8.Handler x9)]) rfl rfl rfl rfl rfl rfl rfl rfl (fun _ => rfl) trivial rfl rfl) ?_)))))))
  obtain ⟨x10, hx10, hr⟩ := bind_some hr
  refine OkOps.m2 0 (triApp (enc := Action.cs) (L := s5.1) (X := [(Action.mk x8.Event x8.Instance x8.Handler x9)]) (j := 1012) (j' := 2) hx10 rfl rfl rfl rfl rfl rfl (fun _ => rfl) (fun _ => rfl) (by decide) trivial rfl rfl) (OkOps.y (.c (.tl 2 (List.map Action.cs x10))) (OkOps.nil (Ok.region (OkOps.y (aI (IntKind.i64.wrap (s5.2 + 1))) (OkOps.y (aI (IntKind.i64.wrap (s5.2 + 1))) (OkOps.nil ?_))))))
  exact ⟨(x10, IntKind.i64.wrap (s5.2 + 1)), hr, (Conv.mk (tau [(1012, 2)]) ⟨⟨_, rfl, .inl rfl⟩, ⟨_, rfl, .inl rfl⟩, ⟨_, rfl, .inl rfl⟩, ⟨_, rfl, .inl rfl⟩, ⟨_, rfl, .inl rfl⟩, trivial⟩ ⟨rfl, rfl, trivial⟩ rfl rfl rfl rfl)⟩
  have hr := selF h7 hr
  refine Ok.exit ?_
  exact ⟨s5.1, hr, (Conv.mk (tau [(1009, 1012)]) ⟨⟨_, rfl, .inl rfl⟩, ⟨_, rfl, .inl rfl⟩, trivial⟩ ⟨rfl, rfl, trivial⟩ rfl rfl rfl rfl)⟩
  clear hk2
  refine Ok.seq (Ok.region (OkOps.y (.c (.d (.sl (List.map Attr.cs attrs)))) (OkOps.q (triLen (enc := Attr.cs) attrs rfl rfl trivial rfl) (OkOps.y (aI 0) (OkOps.nil (Ok.block (Ok.loopK (fun (s11 : (List Attr) × Int) => ⟨[(1, .s (.c (.d (.sl (List.map Action.cs acts))))), (6, .s (.c (.tl 1017 (List.map Attr.cs s11.1)))), (12, .s (.c (.d (.sl (List.map Attr.cs attrs))))), (13, .s (aI (attrs.length : Int))), (14, .s (aI s11.2))], [(1017, .tail 5)], 0⟩) hr (Conv.trans (Conv.nil 6 1019 5 0 rfl rfl) (Conv.mk (tau [(1017, 1019)]) ⟨⟨_, rfl, .inl rfl⟩, ⟨_, rfl, .inl rfl⟩, ⟨_, rfl, .inl rfl⟩, ⟨_, rfl, .inl rfl⟩, ⟨_, rfl, .inl rfl⟩, trivial⟩ ⟨rfl, trivial⟩ rfl rfl rfl rfl)) ?_)))))))
  clear hr
  intro again12 s11 hr
  unfold vw_copied_L2 at hr
  refine Ok.seq (Ok.region (OkOps.y (aB (decide (s11.2 < (attrs.length : Int)))) (OkOps.nil (Ok.seq ?_))))
  refine Ok.cond (b := decide (s11.2 < (attrs.length : Int))) rfl (fun h13 => ?_) (fun h13 => ?_)
  have hr := selT h13 hr
  refine Ok.skip (Ok.seq (Ok.block (Ok.seq (Ok.region ?_))))
  obtain ⟨x14, hx14, hr⟩ := bind_some hr
  refine OkOps.q (triIdx (enc := Attr.cs) (L := attrs) (row := [dS x14.Name, dI x14.Value.Kind, dI x14.Value.N, dS x14.Value.S, .sl (List.map AValue.cs x14.Value.L)]) hx14 rfl rfl rfl rfl (fun _ => rfl) trivial rfl) (OkOps.y (.agg [cS x14.Name, cI x14.Value.Kind, cI x14.Value.N, cS x14.Value.S, .d (.sl (List.map AValue.cs x14.Value.L))]) (OkOps.m 0 (triAlloc (j := 3) (cs := [cS ByteArray.empty, cI 0, cI 0, cS ByteArray.empty, .d (.v (.slice none 0 0))]) rfl rfl rfl rfl) (OkOps.w (triStore (cs' := [cS x14.Name, cI x14.Value.Kind, cI x14.Value.N, cS x14.Value.S, .d (.sl (List.map AValue.cs x14.Value.L))]) rfl rfl rfl rfl rfl rfl rfl rfl rfl) (OkOps.nil (Ok.regionD (by kernel_rfl) (OkD.x (.c (.tl 1017 (List.map Attr.cs s11.1))) rfl trivial rfl (OkD.x (.c (.loc 3 0)) rfl trivial rfl (OkD.x (aS x14.Name) rfl trivial rfl (OkD.x (.c (.loc 3 1)) rfl trivial rfl (OkD.x (.agg [cI x14.Value.Kind, cI x14.Value.N, cS x14.Value.S, .d (.sl (List.map AValue.cs x14.Value.L))]) rfl trivial rfl ?_))))))))))
  obtain ⟨x15, hx15, hr⟩ := bind_some hr
  refine OkD.q (triCl (tau []) (.s (.agg [cI x15.Kind, cI x15.N, cS x15.S, .d (.sl (List.map AValue.cs x15.L))])) [] (vw_value_c _ _ hx15) rfl ⟨.inl rfl, trivial⟩ trivial entry60 trivial) (OkD.x (.agg [cS x14.Name, cI x15.Kind, cI x15.N, cS x15.S, .d (.sl (List.map AValue.cs x15.L))]) rfl trivial rfl (OkD.m 0 (triBST (sz := 5) (enc := Attr.cs) (j := 4) ([(Attr.mk x14.Name x15)]) rfl rfl rfl rfl rfl rfl rfl rfl (fun _ => rfl) trivial rfl rfl) ?_))
  obtain ⟨x16, hx16, hr⟩ := bind_some hr
  refine OkD.m2 0 (triApp (enc := Attr.cs) (L := s11.1) (X := [(Attr.mk x14.Name x15)]) (j := 1017) (j' := 5) hx16 rfl rfl rfl rfl rfl rfl (fun _ => rfl) (fun _ => rfl) (by decide) trivial rfl rfl) (OkD.x (.c (.tl 5 (List.map Attr.cs x16))) rfl trivial rfl (OkD.nil (by kernel_rfl) (Ok.region (OkOps.y (aI (IntKind.i64.wrap (s11.2 + 1))) (OkOps.y (aI (IntKind.i64.wrap (s11.2 + 1))) (OkOps.nil ?_))))))
  exact ⟨(x16, IntKind.i64.wrap (s11.2 + 1)), hr, (Conv.mk (tau [(1017, 5)]) ⟨⟨_, rfl, .inl rfl⟩, ⟨_, rfl, .inl rfl⟩, ⟨_, rfl, .inl rfl⟩, ⟨_, rfl, .inl rfl⟩, ⟨_, rfl, .inl rfl⟩, trivial⟩ ⟨rfl, trivial⟩ rfl rfl rfl rfl)⟩
  have hr := selF h13 hr
  refine Ok.exit ?_
  exact ⟨s11.1, hr, (Conv.mk (tau [(1004, 1017)]) ⟨⟨_, rfl, .inl rfl⟩, ⟨_, rfl, .inl rfl⟩, trivial⟩ ⟨rfl, trivial⟩ rfl rfl rfl rfl)⟩
theorem entry59 : Entry Tryd.prog 59 := ⟨_, Tryd.func59, by kernel_rfl, by kernel_rfl⟩
theorem entry67 : Entry Tryd.prog 67 := ⟨_, Tryd.func67, by kernel_rfl, by kernel_rfl⟩
theorem vw_preorder_B_c (self0 : (List (Int × Node)) → Int → Option (List Int)) (hself0 : ∀ (nodes : (List (Int × Node))) (id : Int) {r : (List Int)}, self0 nodes id = some r → Con Tryd.prog 67 [.c (.d (.mp true (encM (kInt .i64) Node.cs nodes))), aI id] [] (.s (.c (.d (.sl (List.map (eInt .i64) r))))) []) (nodes : (List (Int × Node))) (id : Int) {r : (List Int)} (hr : vw_preorder_B self0 nodes id = some r) : Con Tryd.prog 67 [.c (.d (.mp true (encM (kInt .i64) Node.cs nodes))), aI id] [] (.s (.c (.d (.sl (List.map (eInt .i64) r))))) [] := by
  unfold vw_preorder_B at hr
  refine Con.of_ok 26 0 [.tmp 4] [(0, .s (.c (.d (.mp true (encM (kInt .i64) Node.cs nodes))))), (1, .s (aI id))] Tryd.func67 rfl rfl rfl rfl rfl rfl rfl rfl fun w g M ρ _ => (Ok.seq (Ok.region (OkOps.y (.c (.d (.v (.slice none 0 0)))) (OkOps.nil (Ok.seq (Ok.region (OkOps.y (aI id) (OkOps.m 0 (triBST (sz := 1) (enc := (eInt .i64)) (j := 0) ([id]) rfl rfl rfl rfl rfl rfl rfl rfl (fun _ => rfl) trivial rfl rfl) (OkOps.y (.c (.tl 0 (List.map (eInt .i64) ([id])))) (OkOps.nil ?_))))))))))
  obtain ⟨k2, hk2, hr⟩ := jn_some hr
  refine Ok.join (fun (s1 : (List Int)) => ⟨[(5, .s (.c (.tl 1003 (List.map (eInt .i64) s1))))], [(1003, .tail 1)], 0⟩) k2 r (fun s1 hr => ?_) ?_
  rw [hk2] at hr
  refine Ok.seq (Ok.region (OkOps.y (.c (.tl 1003 (List.map (eInt .i64) s1))) (OkOps.y (.c (.tl 1003 (List.map (eInt .i64) s1))) (OkOps.nil (Ok.ret ?_)))))
  obtain rfl := Option.some.inj hr
  exact ⟨_, rfl, .inr rfl, trivial⟩
  clear hk2
  refine Ok.seq (Ok.region (OkOps.y (.c (.d (.mp true (encM (kInt .i64) Node.cs nodes)))) (OkOps.y (aI id) ?_)))
  obtain ⟨x3, hx3, hr⟩ := bind_some hr
  refine OkOps.q (triLook (agg := true) (ek := (kInt .i64)) (ev := Node.cs) (L := nodes) (r := .agg [cI x3.1.ID, cI x3.1.Parent, cI x3.1.Kind, cS x3.1.Key, .d (.sl (List.map Attr.cs x3.1.Attrs)), .d (.sl (List.map Action.cs x3.1.Actions)), .d (.sl (List.map (eInt .i64) x3.1.Kids))]) hx3 rfl rfl rfl (keyInt Tryd.underlying3) rfl rfl (fun h => by cases h) rfl trivial rfl) ?_
  refine OkOps.y (.c (.d (.sl (List.map (eInt .i64) x3.1.Kids)))) (OkOps.q (triLen (enc := (eInt .i64)) x3.1.Kids rfl rfl trivial rfl) (OkOps.y (aI 0) (OkOps.nil (Ok.block (Ok.loopK (fun (s4 : (List Int) × Int) => ⟨[(0, .s (.c (.d (.mp true (encM (kInt .i64) Node.cs nodes))))), (5, .s (.c (.tl 1005 (List.map (eInt .i64) s4.1)))), (13, .s (.c (.d (.sl (List.map (eInt .i64) x3.1.Kids))))), (14, .s (aI (x3.1.Kids.length : Int))), (15, .s (aI s4.2))], [(1005, .tail 1)], 0⟩) hr (Conv.mk (tau [(1005, 0)]) ⟨⟨_, rfl, .inl rfl⟩, ⟨_, rfl, .inl rfl⟩, ⟨_, rfl, .inl rfl⟩, ⟨_, rfl, .inl rfl⟩, ⟨_, rfl, .inl rfl⟩, trivial⟩ ⟨rfl, trivial⟩ rfl rfl rfl rfl) ?_)))))
  clear hr
  intro again5 s4 hr
  unfold vw_preorder_L1 at hr
  refine Ok.seq (Ok.region (OkOps.y (aB (decide (s4.2 < (x3.1.Kids.length : Int)))) (OkOps.nil (Ok.seq ?_))))
  refine Ok.cond (b := decide (s4.2 < (x3.1.Kids.length : Int))) rfl (fun h6 => ?_) (fun h6 => ?_)
  have hr := selT h6 hr
  refine Ok.skip (Ok.seq (Ok.block (Ok.seq (Ok.region ?_))))
  obtain ⟨x7, hx7, hr⟩ := bind_some hr
  refine OkOps.q (triIdx (enc := (eInt .i64)) (L := x3.1.Kids) (row := [dI x7]) hx7 rfl rfl rfl rfl (fun _ => rfl) trivial rfl) (OkOps.y (aI x7) (OkOps.y (aI x7) (OkOps.nil (Ok.region (OkOps.y (.c (.tl 1005 (List.map (eInt .i64) s4.1))) (OkOps.y (.c (.d (.mp true (encM (kInt .i64) Node.cs nodes)))) (OkOps.y (aI x7) ?_)))))))
  obtain ⟨x8, hx8, hr⟩ := bind_some hr
  refine OkOps.q (triCl (tau []) (.s (.c (.d (.sl (List.map (eInt .i64) x8))))) [] (hself0 _ _ hx8) rfl ⟨.inl rfl, .inl rfl, trivial⟩ trivial entry67 trivial) ?_
  obtain ⟨x9, hx9, hr⟩ := bind_some hr
  refine OkOps.m2 0 (triApp (enc := (eInt .i64)) (L := s4.1) (X := x8) (j := 1005) (j' := 1) hx9 rfl rfl rfl rfl rfl rfl (fun _ => rfl) (fun _ => rfl) (by decide) trivial rfl rfl) (OkOps.y (.c (.tl 1 (List.map (eInt .i64) x9))) (OkOps.nil (Ok.region (OkOps.y (aI (IntKind.i64.wrap (s4.2 + 1))) (OkOps.y (aI (IntKind.i64.wrap (s4.2 + 1))) (OkOps.nil ?_))))))
  exact ⟨(x9, IntKind.i64.wrap (s4.2 + 1)), hr, (Conv.mk (tau [(1005, 1)]) ⟨⟨_, rfl, .inl rfl⟩, ⟨_, rfl, .inl rfl⟩, ⟨_, rfl, .inl rfl⟩, ⟨_, rfl, .inl rfl⟩, ⟨_, rfl, .inl rfl⟩, trivial⟩ ⟨rfl, trivial⟩ rfl rfl rfl rfl)⟩
  have hr := selF h6 hr
  refine Ok.exit ?_
  exact ⟨s4.1, hr, (Conv.mk (tau [(1003, 1005)]) ⟨⟨_, rfl, .inl rfl⟩, trivial⟩ ⟨rfl, trivial⟩ rfl rfl rfl rfl)⟩
theorem vw_preorder_all : ∀ n : Nat, (∀ (nodes : (List (Int × Node))) (id : Int) {r : (List Int)}, vw_preorder n nodes id = some r → Con Tryd.prog 67 [.c (.d (.mp true (encM (kInt .i64) Node.cs nodes))), aI id] [] (.s (.c (.d (.sl (List.map (eInt .i64) r))))) []) ∧ True := by
  intro n
  induction n with
  | zero => exact ⟨(by intros; rename_i hr; cases hr), trivial⟩
  | succ n ih => exact ⟨(by intros; rename_i hr; exact vw_preorder_B_c _ ih.1 _ _ hr), trivial⟩
theorem vw_preorder_c (n : Nat) (nodes : (List (Int × Node))) (id : Int) {r : (List Int)} (hr : vw_preorder n nodes id = some r) : Con Tryd.prog 67 [.c (.d (.mp true (encM (kInt .i64) Node.cs nodes))), aI id] [] (.s (.c (.d (.sl (List.map (eInt .i64) r))))) [] := (vw_preorder_all n).1 nodes id hr
theorem vw_graph_c (t : Tree) {r : (List (Int × Node)) × Bool} (hr : vw_graph t = some r) : Con Tryd.prog 90 [.agg [cI t.Root, cI t.Next, .d (.sl (List.map Node.cs t.Nodes))]] [] (.tup [.c (.d (.mp true (encM (kInt .i64) Node.cs r.1))), aB r.2]) [] := by
  unfold vw_graph at hr
  refine Con.of_ok 139 0 [.tmp 2, .tmp 3] [(0, .s (.agg [cI t.Root, cI t.Next, .d (.sl (List.map Node.cs t.Nodes))]))] Tryd.func90 rfl rfl rfl rfl rfl rfl rfl rfl fun w g M ρ _ => (Ok.seq (Ok.region (OkOps.m 0 (triBox (j := 0) (cs := [cI t.Root, cI t.Next, .d (.sl (List.map Node.cs t.Nodes))]) rfl rfl rfl rfl rfl) (OkOps.y (.c (.d (.v (.map none)))) (OkOps.y (aB false) (OkOps.nil (Ok.seq (Ok.seq (Ok.region (OkOps.y (.c (.loc 0 1)) (OkOps.y (aI t.Next) (OkOps.y (aB (decide (t.Next < 2))) (OkOps.y (aB (decide (t.Next < 2))) (OkOps.q (triQG (x := .c (.loc 0 1)) rfl rfl trivial rfl) (OkOps.q (triQG (x := aI t.Next) rfl rfl ⟨fun h => h, trivial⟩ rfl) ?_)))))))))))))))
  refine OkOps.q (triQG (x := aB (decide (t.Next > 1099511627776))) rfl rfl ⟨fun h => h, trivial⟩ rfl) ?_
  refine OkOps.q (triOr rfl rfl (fun h => by rw [h]; rfl) rfl) ?_
  refine OkOps.y (aB ((decide (t.Next < 2)) || (decide (t.Next > 1099511627776)))) (OkOps.q (triQG (x := .c (.loc 0 2)) rfl rfl trivial rfl) (OkOps.q (triQG (x := .c (.d (.sl (List.map Node.cs t.Nodes)))) rfl rfl ⟨fun h => h, trivial⟩ rfl) (OkOps.q (triLenG (enc := Node.cs) t.Nodes rfl rfl rfl ⟨fun h => h, trivial⟩ rfl) (OkOps.q (triQG (x := aB (decide ((t.Nodes.length : Int) < 1))) rfl rfl ⟨fun h => h, trivial⟩ rfl) ?_))))
  refine OkOps.q (triOr rfl rfl (fun h => by rw [h]; rfl) rfl) ?_
  refine OkOps.y (aB (((decide (t.Next < 2)) || (decide (t.Next > 1099511627776))) || (decide ((t.Nodes.length : Int) < 1)))) (OkOps.q (triQG (x := .c (.loc 0 2)) rfl rfl trivial rfl) (OkOps.q (triQG (x := .c (.d (.sl (List.map Node.cs t.Nodes)))) rfl rfl ⟨fun h => h, trivial⟩ rfl) (OkOps.q (triLenG (enc := Node.cs) t.Nodes rfl rfl rfl ⟨fun h => h, trivial⟩ rfl) (OkOps.q (triQG (x := aB (decide ((t.Nodes.length : Int) > 400))) rfl rfl ⟨fun h => h, trivial⟩ rfl) ?_))))
  refine OkOps.q (triOr rfl rfl (fun h => by rw [h]; rfl) rfl) ?_
  refine OkOps.nil ?_
  refine Ok.cond (b := (((decide (t.Next < 2)) || (decide (t.Next > 1099511627776))) || (decide ((t.Nodes.length : Int) < 1))) || (decide ((t.Nodes.length : Int) > 400))) rfl (fun h1 => ?_) (fun h1 => ?_)
  have hr := selT h1 hr
  refine Ok.seq (Ok.region (OkOps.y (.c (.d (.v (.map none)))) (OkOps.y (aB false) (OkOps.nil (Ok.conv (Conv.nilM 2 true rfl) (Ok.ret ?_))))))
  obtain rfl := Option.some.inj hr
  exact ⟨_, rfl, .inl rfl, trivial⟩
  have hr := selF h1 hr
  refine Ok.skip (Ok.seq (Ok.region (OkOps.m 0 (triMkM (j := 1) true rfl rfl) (OkOps.y (.c (.own 1)) (OkOps.nil (Ok.seq (Ok.region (OkOps.y (aI 0) (OkOps.nil ?_)))))))))
  obtain ⟨k3, hk3, hr⟩ := jn_some hr
  refine Ok.join (fun (s2 : (List (Int × Node))) => ⟨[(1, .s (.c (.loc 0 0))), (4, .s (.c (.own 1)))], [(0, .blk [cI t.Root, cI t.Next, .d (.sl (List.map Node.cs t.Nodes))] 51), (1, .mp true (encM (kInt .i64) Node.cs s2))], 0⟩) k3 r (fun s2 hr => ?_) ?_
  rw [hk3] at hr
  refine Ok.seq (Ok.seq (Ok.region (OkOps.y (.c (.own 1)) (OkOps.y (.c (.loc 0 0)) (OkOps.y (aI t.Root) ?_)))))
  obtain ⟨x4, hx4, hr⟩ := bind_some hr
  refine OkOps.q (triLookT (agg := true) (ek := (kInt .i64)) (ev := Node.cs) (L := s2) (r := .agg [cI x4.1.ID, cI x4.1.Parent, cI x4.1.Kind, cS x4.1.Key, .d (.sl (List.map Attr.cs x4.1.Attrs)), .d (.sl (List.map Action.cs x4.1.Actions)), .d (.sl (List.map (eInt .i64) x4.1.Kids))]) hx4 rfl rfl rfl (keyInt Tryd.underlying3) rfl rfl (fun h => by cases h) rfl trivial rfl) ?_
  refine OkOps.q (triMv (v := .tup [.agg [cI x4.1.ID, cI x4.1.Parent, cI x4.1.Kind, cS x4.1.Key, .d (.sl (List.map Attr.cs x4.1.Attrs)), .d (.sl (List.map Action.cs x4.1.Actions)), .d (.sl (List.map (eInt .i64) x4.1.Kids))], aB x4.2]) rfl rfl) (OkOps.y (.agg [cI x4.1.ID, cI x4.1.Parent, cI x4.1.Kind, cS x4.1.Key, .d (.sl (List.map Attr.cs x4.1.Attrs)), .d (.sl (List.map Action.cs x4.1.Actions)), .d (.sl (List.map (eInt .i64) x4.1.Kids))]) (OkOps.y (aB x4.2) (OkOps.m 0 (triAlloc (j := 2) (cs := [cI 0, cI 0, cI 0, cS ByteArray.empty, .d (.v (.slice none 0 0)), .d (.v (.slice none 0 0)), .d (.v (.slice none 0 0))]) rfl rfl rfl rfl) (OkOps.w (triStore (cs' := [cI x4.1.ID, cI x4.1.Parent, cI x4.1.Kind, cS x4.1.Key, .d (.sl (List.map Attr.cs x4.1.Attrs)), .d (.sl (List.map Action.cs x4.1.Actions)), .d (.sl (List.map (eInt .i64) x4.1.Kids))]) rfl rfl rfl rfl rfl rfl rfl rfl rfl) (OkOps.y (aB x4.2) (OkOps.nil (Ok.seq (Ok.region (OkOps.y (aB x4.2) (OkOps.y (aB (!x4.2)) (OkOps.nil ?_)))))))))))
  refine Ok.cond (b := !x4.2) rfl (fun h5 => ?_) (fun h5 => ?_)
  have hr := selT h5 hr
  refine Ok.seq (Ok.region (OkOps.y (.c (.d (.v (.map none)))) (OkOps.y (aB false) (OkOps.nil (Ok.conv (Conv.nilM 2 true rfl) (Ok.ret ?_))))))
  obtain rfl := Option.some.inj hr
  exact ⟨_, rfl, .inl rfl, trivial⟩
  have hr := selF h5 hr
  refine Ok.skip (Ok.seq (Ok.region (OkOps.m 0 (triMkM (j := 3) false rfl rfl) (OkOps.y (.c (.loc 0 0)) (OkOps.y (aI t.Root) (OkOps.w (triMapIns (ek := (kInt .i64)) (ev := eBool) (L := ([] : (List (Int × Bool)))) (z := true) rfl rfl rfl rfl rfl rfl (keyInt Tryd.underlying3) (fun _ _ => rfl) rfl trivial) (OkOps.y (.c (.own 3)) (OkOps.y (.c (.own 3)) (OkOps.nil ?_)))))))))
  obtain ⟨k7, hk7, hr⟩ := jn_some hr
  refine Ok.join (fun (s6 : (List (Int × Bool))) => ⟨[(1, .s (.c (.loc 0 0))), (4, .s (.c (.own 1))), (10, .s (.c (.own 3)))], [(0, .blk [cI t.Root, cI t.Next, .d (.sl (List.map Node.cs t.Nodes))] 51), (1, .mp true (encM (kInt .i64) Node.cs s2)), (3, .mp false (encM (kInt .i64) eBool s6))], 0⟩) k7 r (fun s6 hr => ?_) ?_
  rw [hk7] at hr
  refine Ok.seq (Ok.seq (Ok.region (OkOps.y (.c (.own 3)) (OkOps.q (triLenM (ek := (kInt .i64)) (ev := eBool) s6 rfl rfl trivial rfl) (OkOps.y (.c (.own 1)) (OkOps.q (triLenM (ek := (kInt .i64)) (ev := Node.cs) s2 rfl rfl trivial rfl) (OkOps.y (aB ((s6.length : Int) != (s2.length : Int))) (OkOps.nil ?_))))))))
  refine Ok.cond (b := (s6.length : Int) != (s2.length : Int)) rfl (fun h8 => ?_) (fun h8 => ?_)
  have hr := selT h8 hr
  refine Ok.seq (Ok.region (OkOps.y (.c (.d (.v (.map none)))) (OkOps.y (aB false) (OkOps.nil (Ok.conv (Conv.nilM 2 true rfl) (Ok.ret ?_))))))
  obtain rfl := Option.some.inj hr
  exact ⟨_, rfl, .inl rfl, trivial⟩
  have hr := selF h8 hr
  refine Ok.skip (Ok.seq (Ok.region (OkOps.y (.c (.own 1)) (OkOps.y (.c (.own 1)) (OkOps.y (.c (.loc 0 0)) (OkOps.y (aI t.Root) (OkOps.conv (Conv.freezeM [(4, .s (.c (.d (.mp true (encM (kInt .i64) Node.cs s2))))), (127, .s (.c (.d (.mp true (encM (kInt .i64) Node.cs s2))))), (130, .s (.c (.d (.mp true (encM (kInt .i64) Node.cs s2))))), (131, .s (.c (.d (.mp true (encM (kInt .i64) Node.cs s2)))))] [] 1 0 rfl ⟨⟨_, rfl, rfl⟩, ⟨_, rfl, rfl⟩, ⟨_, rfl, rfl⟩, ⟨_, rfl, rfl⟩, trivial⟩ trivial) ?_)))))))
  obtain ⟨x9, hx9, hr⟩ := bind_some hr
  refine OkOps.q (triCl (tau []) (.s (.c (.d (.sl (List.map (eInt .i64) x9))))) [] (vw_preorder_c _ _ _ hx9) rfl ⟨.inl rfl, .inl rfl, trivial⟩ trivial entry67 trivial) (OkOps.q (triLen (enc := (eInt .i64)) x9 rfl rfl trivial rfl) (OkOps.y (.c (.d (.mp true (encM (kInt .i64) Node.cs s2)))) (OkOps.q (triLenM (ek := (kInt .i64)) (ev := Node.cs) s2 rfl rfl trivial rfl) (OkOps.y (aB ((x9.length : Int) == (s2.length : Int))) (OkOps.y (.c (.d (.mp true (encM (kInt .i64) Node.cs s2)))) (OkOps.y (aB ((x9.length : Int) == (s2.length : Int))) (OkOps.nil (Ok.ret ?_))))))))
  obtain rfl := Option.some.inj hr
  exact ⟨_, rfl, .inl rfl, trivial⟩
  clear hk7
  refine Ok.seq (Ok.region (OkOps.y (.c (.loc 0 2)) (OkOps.y (.c (.d (.sl (List.map Node.cs t.Nodes)))) (OkOps.q (triLen (enc := Node.cs) t.Nodes rfl rfl trivial rfl) (OkOps.y (aI 0) (OkOps.nil (Ok.block (Ok.loopK (fun (s10 : Int × (List (Int × Bool))) => ⟨[(1, .s (.c (.loc 0 0))), (4, .s (.c (.own 1))), (10, .s (.c (.own 3))), (88, .s (.c (.d (.sl (List.map Node.cs t.Nodes))))), (89, .s (aI (t.Nodes.length : Int))), (90, .s (aI s10.1))], [(0, .blk [cI t.Root, cI t.Next, .d (.sl (List.map Node.cs t.Nodes))] 51), (1, .mp true (encM (kInt .i64) Node.cs s2)), (3, .mp false (encM (kInt .i64) eBool s10.2))], 0⟩) hr (Conv.mk (tau []) ⟨⟨_, rfl, .inl rfl⟩, ⟨_, rfl, .inl rfl⟩, ⟨_, rfl, .inl rfl⟩, ⟨_, rfl, .inl rfl⟩, ⟨_, rfl, .inl rfl⟩, ⟨_, rfl, .inl rfl⟩, trivial⟩ ⟨rfl, rfl, rfl, trivial⟩ rfl rfl rfl rfl) ?_))))))))
  clear hr
  intro again11 s10 hr
  unfold vw_graph_L2 at hr
  refine Ok.seq (Ok.region (OkOps.y (aB (decide (s10.1 < (t.Nodes.length : Int)))) (OkOps.nil (Ok.seq ?_))))
  refine Ok.cond (b := decide (s10.1 < (t.Nodes.length : Int))) rfl (fun h12 => ?_) (fun h12 => ?_)
  have hr := selT h12 hr
  refine Ok.skip ?_
  obtain ⟨k14, hk14, hr⟩ := jn_some hr
  refine Ok.join (fun (s13 : (List (Int × Bool))) => ⟨[(1, .s (.c (.loc 0 0))), (4, .s (.c (.own 1))), (10, .s (.c (.own 3))), (88, .s (.c (.d (.sl (List.map Node.cs t.Nodes))))), (89, .s (aI (t.Nodes.length : Int))), (90, .s (aI s10.1))], [(0, .blk [cI t.Root, cI t.Next, .d (.sl (List.map Node.cs t.Nodes))] 51), (1, .mp true (encM (kInt .i64) Node.cs s2)), (3, .mp false (encM (kInt .i64) eBool s13))], 0⟩) k14 r (fun s13 hr => ?_) ?_
  rw [hk14] at hr
  refine Ok.region (OkOps.y (aI (IntKind.i64.wrap (s10.1 + 1))) (OkOps.y (aI (IntKind.i64.wrap (s10.1 + 1))) (OkOps.nil ?_)))
  exact ⟨(IntKind.i64.wrap (s10.1 + 1), s13), hr, (Conv.mk (tau []) ⟨⟨_, rfl, .inl rfl⟩, ⟨_, rfl, .inl rfl⟩, ⟨_, rfl, .inl rfl⟩, ⟨_, rfl, .inl rfl⟩, ⟨_, rfl, .inl rfl⟩, ⟨_, rfl, .inl rfl⟩, trivial⟩ ⟨rfl, rfl, rfl, trivial⟩ rfl rfl rfl rfl)⟩
  clear hk14
  refine Ok.block (Ok.seq (Ok.region ?_))
  obtain ⟨x15, hx15, hr⟩ := bind_some hr
  refine OkOps.q (triIdx (enc := Node.cs) (L := t.Nodes) (row := [dI x15.ID, dI x15.Parent, dI x15.Kind, dS x15.Key, .sl (List.map Attr.cs x15.Attrs), .sl (List.map Action.cs x15.Actions), .sl (List.map (eInt .i64) x15.Kids)]) hx15 rfl rfl rfl rfl (fun _ => rfl) trivial rfl) (OkOps.y (.agg [cI x15.ID, cI x15.Parent, cI x15.Kind, cS x15.Key, .d (.sl (List.map Attr.cs x15.Attrs)), .d (.sl (List.map Action.cs x15.Actions)), .d (.sl (List.map (eInt .i64) x15.Kids))]) (OkOps.m 0 (triAlloc (j := 4) (cs := [cI 0, cI 0, cI 0, cS ByteArray.empty, .d (.v (.slice none 0 0)), .d (.v (.slice none 0 0)), .d (.v (.slice none 0 0))]) rfl rfl rfl rfl) (OkOps.w (triStore (cs' := [cI x15.ID, cI x15.Parent, cI x15.Kind, cS x15.Key, .d (.sl (List.map Attr.cs x15.Attrs)), .d (.sl (List.map Action.cs x15.Actions)), .d (.sl (List.map (eInt .i64) x15.Kids))]) rfl rfl rfl rfl rfl rfl rfl rfl rfl) (OkOps.nil (Ok.seq (Ok.region (OkOps.y (.c (.loc 4 6)) (OkOps.y (.c (.d (.sl (List.map (eInt .i64) x15.Kids)))) (OkOps.q (triLen (enc := (eInt .i64)) x15.Kids rfl rfl trivial rfl) (OkOps.y (aI 0) (OkOps.nil ?_)))))))))))
  obtain ⟨k17, hk17, hr⟩ := jn_some hr
  refine Ok.joinEnd (fun (s16 : (List (Int × Bool))) => ⟨[(1, .s (.c (.loc 0 0))), (4, .s (.c (.own 1))), (10, .s (.c (.own 3))), (88, .s (.c (.d (.sl (List.map Node.cs t.Nodes))))), (89, .s (aI (t.Nodes.length : Int))), (90, .s (aI s10.1))], [(0, .blk [cI t.Root, cI t.Next, .d (.sl (List.map Node.cs t.Nodes))] 51), (1, .mp true (encM (kInt .i64) Node.cs s2)), (3, .mp false (encM (kInt .i64) eBool s16))], 0⟩) k17 r (fun s16 hr => ?_) ?_
  rw [hk17] at hr
  exact ⟨s16, hr, (Conv.mk (tau []) ⟨⟨_, rfl, .inl rfl⟩, ⟨_, rfl, .inl rfl⟩, ⟨_, rfl, .inl rfl⟩, ⟨_, rfl, .inl rfl⟩, ⟨_, rfl, .inl rfl⟩, ⟨_, rfl, .inl rfl⟩, trivial⟩ ⟨rfl, rfl, rfl, trivial⟩ rfl rfl rfl rfl)⟩
  clear hk17
  refine Ok.block (Ok.loopK (fun (s18 : Int × (List (Int × Bool))) => ⟨[(1, .s (.c (.loc 0 0))), (4, .s (.c (.own 1))), (10, .s (.c (.own 3))), (12, .s (.c (.loc 4 0))), (88, .s (.c (.d (.sl (List.map Node.cs t.Nodes))))), (89, .s (aI (t.Nodes.length : Int))), (90, .s (aI s10.1)), (95, .s (.c (.d (.sl (List.map (eInt .i64) x15.Kids))))), (96, .s (aI (x15.Kids.length : Int))), (97, .s (aI s18.1))], [(0, .blk [cI t.Root, cI t.Next, .d (.sl (List.map Node.cs t.Nodes))] 51), (1, .mp true (encM (kInt .i64) Node.cs s2)), (3, .mp false (encM (kInt .i64) eBool s18.2)), (4, .blk [cI x15.ID, cI x15.Parent, cI x15.Kind, cS x15.Key, .d (.sl (List.map Attr.cs x15.Attrs)), .d (.sl (List.map Action.cs x15.Actions)), .d (.sl (List.map (eInt .i64) x15.Kids))] 55)], 0⟩) hr (Conv.mk (tau []) ⟨⟨_, rfl, .inl rfl⟩, ⟨_, rfl, .inl rfl⟩, ⟨_, rfl, .inl rfl⟩, ⟨_, rfl, .inl rfl⟩, ⟨_, rfl, .inl rfl⟩, ⟨_, rfl, .inl rfl⟩, ⟨_, rfl, .inl rfl⟩, ⟨_, rfl, .inl rfl⟩, ⟨_, rfl, .inl rfl⟩, ⟨_, rfl, .inl rfl⟩, trivial⟩ ⟨rfl, rfl, rfl, rfl, trivial⟩ rfl rfl rfl rfl) ?_)
  clear hr
  intro again19 s18 hr
  unfold vw_graph_L1 at hr
  refine Ok.seq (Ok.region (OkOps.y (aB (decide (s18.1 < (x15.Kids.length : Int)))) (OkOps.nil (Ok.seq ?_))))
  refine Ok.cond (b := decide (s18.1 < (x15.Kids.length : Int))) rfl (fun h20 => ?_) (fun h20 => ?_)
  have hr := selT h20 hr
  refine Ok.skip (Ok.seq (Ok.block (Ok.seq (Ok.region ?_))))
  obtain ⟨x21, hx21, hr⟩ := bind_some hr
  refine OkOps.q (triIdx (enc := (eInt .i64)) (L := x15.Kids) (row := [dI x21]) hx21 rfl rfl rfl rfl (fun _ => rfl) trivial rfl) (OkOps.y (aI x21) (OkOps.y (aI x21) (OkOps.nil (Ok.seq (Ok.seq (Ok.region (OkOps.y (.c (.own 1)) (OkOps.y (aI x21) ?_))))))))
  obtain ⟨x22, hx22, hr⟩ := bind_some hr
  refine OkOps.q (triLookT (agg := true) (ek := (kInt .i64)) (ev := Node.cs) (L := s2) (r := .agg [cI x22.1.ID, cI x22.1.Parent, cI x22.1.Kind, cS x22.1.Key, .d (.sl (List.map Attr.cs x22.1.Attrs)), .d (.sl (List.map Action.cs x22.1.Actions)), .d (.sl (List.map (eInt .i64) x22.1.Kids))]) hx22 rfl rfl rfl (keyInt Tryd.underlying3) rfl rfl (fun h => by cases h) rfl trivial rfl) ?_
  refine OkOps.q (triMv (v := .tup [.agg [cI x22.1.ID, cI x22.1.Parent, cI x22.1.Kind, cS x22.1.Key, .d (.sl (List.map Attr.cs x22.1.Attrs)), .d (.sl (List.map Action.cs x22.1.Actions)), .d (.sl (List.map (eInt .i64) x22.1.Kids))], aB x22.2]) rfl rfl) (OkOps.y (.agg [cI x22.1.ID, cI x22.1.Parent, cI x22.1.Kind, cS x22.1.Key, .d (.sl (List.map Attr.cs x22.1.Attrs)), .d (.sl (List.map Action.cs x22.1.Actions)), .d (.sl (List.map (eInt .i64) x22.1.Kids))]) (OkOps.y (aB x22.2) (OkOps.m 0 (triAlloc (j := 5) (cs := [cI 0, cI 0, cI 0, cS ByteArray.empty, .d (.v (.slice none 0 0)), .d (.v (.slice none 0 0)), .d (.v (.slice none 0 0))]) rfl rfl rfl rfl) (OkOps.w (triStore (cs' := [cI x22.1.ID, cI x22.1.Parent, cI x22.1.Kind, cS x22.1.Key, .d (.sl (List.map Attr.cs x22.1.Attrs)), .d (.sl (List.map Action.cs x22.1.Actions)), .d (.sl (List.map (eInt .i64) x22.1.Kids))]) rfl rfl rfl rfl rfl rfl rfl rfl rfl) (OkOps.y (aB x22.2) (OkOps.nil (Ok.seq (Ok.region (OkOps.y (aB x22.2) (OkOps.y (aB (!x22.2)) (OkOps.y (aB (!x22.2)) (OkOps.q (triQG (x := .c (.loc 5 1)) rfl rfl trivial rfl) (OkOps.q (triQG (x := aI x22.1.Parent) rfl rfl ⟨fun h => h, trivial⟩ rfl) (OkOps.q (triQG (x := .c (.loc 4 0)) rfl rfl trivial rfl) (OkOps.q (triQG (x := aI x15.ID) rfl rfl ⟨fun h => h, trivial⟩ rfl) ?_)))))))))))))))
  refine OkOps.q (triQG (x := aB (x22.1.Parent != x15.ID)) rfl rfl ⟨fun h => h, ⟨fun h => h, trivial⟩⟩ rfl) ?_
  refine OkOps.q (triOr rfl rfl (fun h => by rw [h]; rfl) rfl) ?_
  refine OkOps.y (aB ((!x22.2) || (x22.1.Parent != x15.ID))) (OkOps.q (triQG (x := .c (.own 3)) rfl rfl trivial rfl) (OkOps.q (triQG (x := aI x21) rfl rfl trivial rfl) ?_))
  obtain ⟨x23, hx23, hr⟩ := bind_some hr
  refine OkOps.q (triLookG (agg := false) (ek := (kInt .i64)) (ev := eBool) (L := s18.2) (r := aB x23.1) (gO_t hx23) rfl rfl rfl rfl (keyInt Tryd.underlying3) rfl rfl (fun _ _ => rfl) rfl ⟨fun h => h, ⟨fun h => h, trivial⟩⟩ rfl) ?_
  refine OkOps.q (triOr rfl rfl (fun h => by rw [h]; rfl) rfl) ?_
  refine OkOps.nil ?_
  refine Ok.cond (b := ((!x22.2) || (x22.1.Parent != x15.ID)) || x23.1) rfl (fun h24 => ?_) (fun h24 => ?_)
  have hr := selT h24 hr
  refine Ok.seq (Ok.region (OkOps.y (.c (.d (.v (.map none)))) (OkOps.y (aB false) (OkOps.nil (Ok.conv (Conv.nilM 2 true rfl) (Ok.ret ?_))))))
  obtain rfl := Option.some.inj hr
  exact ⟨_, rfl, .inl rfl, trivial⟩
  have hr := selF h24 hr
  refine Ok.skip (Ok.region (OkOps.y (.c (.own 3)) (OkOps.y (aI x21) (OkOps.w (triMapUp (ek := (kInt .i64)) (ev := eBool) (L := s18.2) (z := true) rfl rfl rfl rfl rfl rfl (keyInt Tryd.underlying3) (fun _ _ => rfl) rfl trivial) (OkOps.nil (Ok.region (OkOps.y (aI (IntKind.i64.wrap (s18.1 + 1))) (OkOps.y (aI (IntKind.i64.wrap (s18.1 + 1))) (OkOps.nil ?_)))))))))
  exact ⟨(IntKind.i64.wrap (s18.1 + 1), msetL s18.2 x21 true), hr, (Conv.mk (tau []) ⟨⟨_, rfl, .inl rfl⟩, ⟨_, rfl, .inl rfl⟩, ⟨_, rfl, .inl rfl⟩, ⟨_, rfl, .inl rfl⟩, ⟨_, rfl, .inl rfl⟩, ⟨_, rfl, .inl rfl⟩, ⟨_, rfl, .inl rfl⟩, ⟨_, rfl, .inl rfl⟩, ⟨_, rfl, .inl rfl⟩, ⟨_, rfl, .inl rfl⟩, trivial⟩ ⟨rfl, rfl, rfl, rfl, trivial⟩ rfl rfl rfl rfl)⟩
  have hr := selF h20 hr
  refine Ok.exit ?_
  exact ⟨s18.2, hr, (Conv.mk (tau []) ⟨⟨_, rfl, .inl rfl⟩, ⟨_, rfl, .inl rfl⟩, ⟨_, rfl, .inl rfl⟩, ⟨_, rfl, .inl rfl⟩, ⟨_, rfl, .inl rfl⟩, ⟨_, rfl, .inl rfl⟩, trivial⟩ ⟨rfl, rfl, rfl, trivial⟩ rfl rfl rfl rfl)⟩
  have hr := selF h12 hr
  refine Ok.exit ?_
  exact ⟨s10.2, hr, (Conv.mk (tau []) ⟨⟨_, rfl, .inl rfl⟩, ⟨_, rfl, .inl rfl⟩, ⟨_, rfl, .inl rfl⟩, trivial⟩ ⟨rfl, rfl, rfl, trivial⟩ rfl rfl rfl rfl)⟩
  clear hk3
  refine Ok.seq (Ok.region (OkOps.y (.c (.loc 0 2)) (OkOps.y (.c (.d (.sl (List.map Node.cs t.Nodes)))) (OkOps.q (triLen (enc := Node.cs) t.Nodes rfl rfl trivial rfl) (OkOps.y (aI 0) (OkOps.nil (Ok.block (Ok.loopK (fun (s25 : Int × Int × (List (Int × Node))) => ⟨[(1, .s (.c (.loc 0 0))), (4, .s (.c (.own 1))), (5, .s (aI s25.1)), (39, .s (.c (.d (.sl (List.map Node.cs t.Nodes))))), (40, .s (aI (t.Nodes.length : Int))), (41, .s (aI s25.2.1))], [(0, .blk [cI t.Root, cI t.Next, .d (.sl (List.map Node.cs t.Nodes))] 51), (1, .mp true (encM (kInt .i64) Node.cs s25.2.2))], 0⟩) hr (Conv.mk (tau []) ⟨⟨_, rfl, .inl rfl⟩, ⟨_, rfl, .inl rfl⟩, ⟨_, rfl, .inl rfl⟩, ⟨_, rfl, .inl rfl⟩, ⟨_, rfl, .inl rfl⟩, ⟨_, rfl, .inl rfl⟩, trivial⟩ ⟨rfl, rfl, trivial⟩ rfl rfl rfl rfl) ?_))))))))
  clear hr
  intro again26 s25 hr
  unfold vw_graph_L3 at hr
  refine Ok.seq (Ok.region (OkOps.y (aB (decide (s25.2.1 < (t.Nodes.length : Int)))) (OkOps.nil (Ok.seq ?_))))
  refine Ok.cond (b := decide (s25.2.1 < (t.Nodes.length : Int))) rfl (fun h27 => ?_) (fun h27 => ?_)
  have hr := selT h27 hr
  refine Ok.skip (Ok.seq (Ok.block (Ok.seq (Ok.region ?_))))
  obtain ⟨x28, hx28, hr⟩ := bind_some hr
  refine OkOps.q (triIdx (enc := Node.cs) (L := t.Nodes) (row := [dI x28.ID, dI x28.Parent, dI x28.Kind, dS x28.Key, .sl (List.map Attr.cs x28.Attrs), .sl (List.map Action.cs x28.Actions), .sl (List.map (eInt .i64) x28.Kids)]) hx28 rfl rfl rfl rfl (fun _ => rfl) trivial rfl) (OkOps.y (.agg [cI x28.ID, cI x28.Parent, cI x28.Kind, cS x28.Key, .d (.sl (List.map Attr.cs x28.Attrs)), .d (.sl (List.map Action.cs x28.Actions)), .d (.sl (List.map (eInt .i64) x28.Kids))]) (OkOps.m 0 (triAlloc (j := 6) (cs := [cI 0, cI 0, cI 0, cS ByteArray.empty, .d (.v (.slice none 0 0)), .d (.v (.slice none 0 0)), .d (.v (.slice none 0 0))]) rfl rfl rfl rfl) (OkOps.w (triStore (cs' := [cI x28.ID, cI x28.Parent, cI x28.Kind, cS x28.Key, .d (.sl (List.map Attr.cs x28.Attrs)), .d (.sl (List.map Action.cs x28.Actions)), .d (.sl (List.map (eInt .i64) x28.Kids))]) rfl rfl rfl rfl rfl rfl rfl rfl rfl) (OkOps.nil (Ok.seq (Ok.seq (Ok.region (OkOps.y (.c (.loc 6 0)) (OkOps.y (aI x28.ID) (OkOps.y (aI s25.1) (OkOps.y (aB (decide (x28.ID ≤ s25.1))) (OkOps.y (aB (decide (x28.ID ≤ s25.1))) (OkOps.q (triQG (x := .c (.loc 6 0)) rfl rfl trivial rfl) (OkOps.q (triQG (x := aI x28.ID) rfl rfl ⟨fun h => h, trivial⟩ rfl) (OkOps.q (triQG (x := .c (.loc 0 1)) rfl rfl trivial rfl) ?_)))))))))))))))
  refine OkOps.q (triQG (x := aI t.Next) rfl rfl ⟨fun h => h, trivial⟩ rfl) (OkOps.q (triQG (x := aB (decide (x28.ID ≥ t.Next))) rfl rfl ⟨fun h => h, ⟨fun h => h, trivial⟩⟩ rfl) ?_)
  refine OkOps.q (triOr rfl rfl (fun h => by rw [h]; rfl) rfl) ?_
  refine OkOps.y (aB ((decide (x28.ID ≤ s25.1)) || (decide (x28.ID ≥ t.Next)))) (OkOps.q (triQG (x := .c (.loc 6 1)) rfl rfl trivial rfl) (OkOps.q (triQG (x := aI x28.Parent) rfl rfl ⟨fun h => h, trivial⟩ rfl) (OkOps.q (triQG (x := aB (x28.Parent == 0)) rfl rfl ⟨fun h => h, trivial⟩ rfl) (OkOps.q (triQG (x := .c (.loc 6 0)) rfl rfl trivial rfl) (OkOps.q (triQG (x := aI x28.ID) rfl rfl ⟨fun h => h, trivial⟩ rfl) (OkOps.q (triQG (x := .c (.loc 0 0)) rfl rfl trivial rfl) (OkOps.q (triQG (x := aI t.Root) rfl rfl ⟨fun h => h, trivial⟩ rfl) (OkOps.q (triQG (x := aB (x28.ID == t.Root)) rfl rfl ⟨fun h => h, ⟨fun h => h, trivial⟩⟩ rfl) (OkOps.q (triQG (x := aB ((x28.Parent == 0) != (x28.ID == t.Root))) rfl rfl ⟨fun h => h, ⟨fun h => h, trivial⟩⟩ rfl) ?_)))))))))
  refine OkOps.q (triOr rfl rfl (fun h => by rw [h]; rfl) rfl) ?_
  refine OkOps.nil ?_
  refine Ok.cond (b := ((decide (x28.ID ≤ s25.1)) || (decide (x28.ID ≥ t.Next))) || ((x28.Parent == 0) != (x28.ID == t.Root))) rfl (fun h29 => ?_) (fun h29 => ?_)
  have hr := selT h29 hr
  refine Ok.seq (Ok.region (OkOps.y (.c (.d (.v (.map none)))) (OkOps.y (aB false) (OkOps.nil (Ok.conv (Conv.nilM 2 true rfl) (Ok.ret ?_))))))
  obtain rfl := Option.some.inj hr
  exact ⟨_, rfl, .inl rfl, trivial⟩
  have hr := selF h29 hr
  refine Ok.skip (Ok.seq (Ok.region (OkOps.y (.c (.loc 6 0)) (OkOps.y (aI x28.ID) (OkOps.y (aI x28.ID) (OkOps.nil (Ok.region (OkOps.y (.c (.own 1)) (OkOps.y (.c (.loc 6 0)) (OkOps.y (aI x28.ID) (OkOps.y (.agg [cI x28.ID, cI x28.Parent, cI x28.Kind, cS x28.Key, .d (.sl (List.map Attr.cs x28.Attrs)), .d (.sl (List.map Action.cs x28.Actions)), .d (.sl (List.map (eInt .i64) x28.Kids))]) ?_)))))))))))
  refine OkOps.w (triMapUp (ek := (kInt .i64)) (ev := Node.cs) (L := s25.2.2) (z := x28) rfl rfl rfl rfl rfl rfl (keyInt Tryd.underlying3) (fun h => by cases h) rfl trivial) ?_
  refine OkOps.nil (Ok.region (OkOps.y (aI (IntKind.i64.wrap (s25.2.1 + 1))) (OkOps.y (aI (IntKind.i64.wrap (s25.2.1 + 1))) (OkOps.nil ?_))))
  exact ⟨(x28.ID, IntKind.i64.wrap (s25.2.1 + 1), msetL s25.2.2 x28.ID x28), hr, (Conv.mk (tau []) ⟨⟨_, rfl, .inl rfl⟩, ⟨_, rfl, .inl rfl⟩, ⟨_, rfl, .inl rfl⟩, ⟨_, rfl, .inl rfl⟩, ⟨_, rfl, .inl rfl⟩, ⟨_, rfl, .inl rfl⟩, trivial⟩ ⟨rfl, rfl, trivial⟩ rfl rfl rfl rfl)⟩
  have hr := selF h27 hr
  refine Ok.exit ?_
  exact ⟨s25.2.2, hr, (Conv.mk (tau []) ⟨⟨_, rfl, .inl rfl⟩, ⟨_, rfl, .inl rfl⟩, trivial⟩ ⟨rfl, rfl, trivial⟩ rfl rfl rfl rfl)⟩
theorem entry90 : Entry Tryd.prog 90 := ⟨_, Tryd.func90, by kernel_rfl, by kernel_rfl⟩
theorem entry91 : Entry Tryd.prog 91 := ⟨_, Tryd.func91, by kernel_rfl, by kernel_rfl⟩
theorem vw_described_B_c (self0 : (List (Int × Node)) → Int → Option View) (hself0 : ∀ (nodes : (List (Int × Node))) (id : Int) {r : View}, self0 nodes id = some r → Con Tryd.prog 91 [.c (.d (.mp true (encM (kInt .i64) Node.cs nodes))), aI id] [] (.s (.agg [cI r.Kind, cS r.Key, .d (.sl (List.map Attr.cs r.Attrs)), .d (.sl (List.map Action.cs r.Actions)), .d (.sl (List.map View.cs r.Kids))])) []) (nodes : (List (Int × Node))) (id : Int) {r : View} (hr : vw_described_B self0 nodes id = some r) : Con Tryd.prog 91 [.c (.d (.mp true (encM (kInt .i64) Node.cs nodes))), aI id] [] (.s (.agg [cI r.Kind, cS r.Key, .d (.sl (List.map Attr.cs r.Attrs)), .d (.sl (List.map Action.cs r.Actions)), .d (.sl (List.map View.cs r.Kids))])) [] := by
  unfold vw_described_B at hr
  refine Con.of_ok 38 0 [.cell 4 31] [(0, .s (.c (.d (.mp true (encM (kInt .i64) Node.cs nodes))))), (1, .s (aI id))] Tryd.func91 rfl rfl rfl rfl rfl rfl rfl rfl fun w g M ρ _ => (Ok.seq (Ok.region (OkOps.m 0 (triAlloc (j := 0) (cs := [cI 0, cS ByteArray.empty, .d (.v (.slice none 0 0)), .d (.v (.slice none 0 0)), .d (.v (.slice none 0 0))]) rfl rfl rfl rfl) (OkOps.nil (Ok.seq (Ok.region (OkOps.y (.c (.d (.mp true (encM (kInt .i64) Node.cs nodes)))) (OkOps.y (aI id) ?_))))))))
  obtain ⟨x1, hx1, hr⟩ := bind_some hr
  refine OkOps.q (triLook (agg := true) (ek := (kInt .i64)) (ev := Node.cs) (L := nodes) (r := .agg [cI x1.1.ID, cI x1.1.Parent, cI x1.1.Kind, cS x1.1.Key, .d (.sl (List.map Attr.cs x1.1.Attrs)), .d (.sl (List.map Action.cs x1.1.Actions)), .d (.sl (List.map (eInt .i64) x1.1.Kids))]) hx1 rfl rfl rfl (keyInt Tryd.underlying3) rfl rfl (fun h => by cases h) rfl trivial rfl) ?_
  refine OkOps.m 0 (triAlloc (j := 1) (cs := [cI 0, cI 0, cI 0, cS ByteArray.empty, .d (.v (.slice none 0 0)), .d (.v (.slice none 0 0)), .d (.v (.slice none 0 0))]) rfl rfl rfl rfl) (OkOps.w (triStore (cs' := [cI x1.1.ID, cI x1.1.Parent, cI x1.1.Kind, cS x1.1.Key, .d (.sl (List.map Attr.cs x1.1.Attrs)), .d (.sl (List.map Action.cs x1.1.Actions)), .d (.sl (List.map (eInt .i64) x1.1.Kids))]) rfl rfl rfl rfl rfl rfl rfl rfl rfl) (OkOps.nil (Ok.seq (Ok.region (OkOps.y (.c (.loc 1 2)) (OkOps.y (aI x1.1.Kind) (OkOps.y (.c (.loc 1 3)) (OkOps.y (aS x1.1.Key) (OkOps.y (.c (.loc 1 4)) (OkOps.y (.c (.d (.sl (List.map Attr.cs x1.1.Attrs)))) (OkOps.y (.c (.loc 1 5)) (OkOps.y (.c (.d (.sl (List.map Action.cs x1.1.Actions)))) (OkOps.y (.agg [cI x1.1.Kind, cS x1.1.Key, .d (.sl (List.map Attr.cs x1.1.Attrs)), .d (.sl (List.map Action.cs x1.1.Actions)), .d (.v (.slice none 0 0))]) (OkOps.m 0 (triAlloc (j := 2) (cs := [cI 0, cS ByteArray.empty, .d (.v (.slice none 0 0)), .d (.v (.slice none 0 0)), .d (.v (.slice none 0 0))]) rfl rfl rfl rfl) (OkOps.w (triStore (cs' := [cI x1.1.Kind, cS x1.1.Key, .d (.sl (List.map Attr.cs x1.1.Attrs)), .d (.sl (List.map Action.cs x1.1.Actions)), .d (.v (.slice none 0 0))]) rfl rfl rfl rfl rfl rfl rfl rfl rfl) ?_)))))))))))))))
  refine OkOps.nil ?_
  obtain ⟨k3, hk3, hr⟩ := jn_some hr
  refine Ok.join (fun (s2 : (List View)) => ⟨[(4, .s (.c (.loc 0 0))), (6, .s (.c (.loc 2 0)))], [(0, .blk [cI 0, cS ByteArray.empty, .d (.v (.slice none 0 0)), .d (.v (.slice none 0 0)), .d (.v (.slice none 0 0))] 31), (2, .blk [cI x1.1.Kind, cS x1.1.Key, .d (.sl (List.map Attr.cs x1.1.Attrs)), .d (.sl (List.map Action.cs x1.1.Actions)), .tl 1004 (List.map View.cs s2)] 31), (1004, .tail 5)], 0⟩) k3 r (fun s2 hr => ?_) ?_
  rw [hk3] at hr
  refine Ok.seq (Ok.region (OkOps.y (.agg [cI x1.1.Kind, cS x1.1.Key, .d (.sl (List.map Attr.cs x1.1.Attrs)), .d (.sl (List.map Action.cs x1.1.Actions)), .tl 1004 (List.map View.cs s2)]) (OkOps.w (triStore (cs' := [cI x1.1.Kind, cS x1.1.Key, .d (.sl (List.map Attr.cs x1.1.Attrs)), .d (.sl (List.map Action.cs x1.1.Actions)), .tl 1004 (List.map View.cs s2)]) rfl rfl rfl rfl rfl rfl rfl rfl rfl) (OkOps.nil (Ok.ret ?_)))))
  obtain rfl := Option.some.inj hr
  exact ⟨_, rfl, .inr rfl, trivial⟩
  clear hk3
  refine Ok.seq (Ok.region (OkOps.y (.c (.loc 1 6)) (OkOps.y (.c (.d (.sl (List.map (eInt .i64) x1.1.Kids)))) (OkOps.q (triLen (enc := (eInt .i64)) x1.1.Kids rfl rfl trivial rfl) (OkOps.y (aI 0) (OkOps.nil (Ok.block (Ok.loopK (fun (s4 : Int × (List View)) => ⟨[(0, .s (.c (.d (.mp true (encM (kInt .i64) Node.cs nodes))))), (4, .s (.c (.loc 0 0))), (6, .s (.c (.loc 2 0))), (22, .s (.c (.d (.sl (List.map (eInt .i64) x1.1.Kids))))), (23, .s (aI (x1.1.Kids.length : Int))), (24, .s (aI s4.1))], [(0, .blk [cI 0, cS ByteArray.empty, .d (.v (.slice none 0 0)), .d (.v (.slice none 0 0)), .d (.v (.slice none 0 0))] 31), (2, .blk [cI x1.1.Kind, cS x1.1.Key, .d (.sl (List.map Attr.cs x1.1.Attrs)), .d (.sl (List.map Action.cs x1.1.Actions)), .tl 1007 (List.map View.cs s4.2)] 31), (1007, .tail 5)], 0⟩) hr (Conv.trans (Conv.nilO 2 4 1009 5 [cI x1.1.Kind, cS x1.1.Key, .d (.sl (List.map Attr.cs x1.1.Attrs)), .d (.sl (List.map Action.cs x1.1.Actions)), .d (.v (.slice none 0 0))] [cI x1.1.Kind, cS x1.1.Key, .d (.sl (List.map Attr.cs x1.1.Attrs)), .d (.sl (List.map Action.cs x1.1.Actions)), .tl 1009 (List.map View.cs ([] : (List View)))] 31 0 rfl rfl rfl rfl) (Conv.mk (tau [(1007, 1009)]) ⟨⟨_, rfl, .inl rfl⟩, ⟨_, rfl, .inl rfl⟩, ⟨_, rfl, .inl rfl⟩, ⟨_, rfl, .inl rfl⟩, ⟨_, rfl, .inl rfl⟩, ⟨_, rfl, .inl rfl⟩, trivial⟩ ⟨rfl, rfl, rfl, trivial⟩ rfl rfl rfl rfl)) ?_))))))))
  clear hr
  intro again5 s4 hr
  unfold vw_described_L1 at hr
  refine Ok.seq (Ok.region (OkOps.y (aB (decide (s4.1 < (x1.1.Kids.length : Int)))) (OkOps.nil (Ok.seq ?_))))
  refine Ok.cond (b := decide (s4.1 < (x1.1.Kids.length : Int))) rfl (fun h6 => ?_) (fun h6 => ?_)
  have hr := selT h6 hr
  refine Ok.skip (Ok.seq (Ok.block (Ok.seq (Ok.region ?_))))
  obtain ⟨x7, hx7, hr⟩ := bind_some hr
  refine OkOps.q (triIdx (enc := (eInt .i64)) (L := x1.1.Kids) (row := [dI x7]) hx7 rfl rfl rfl rfl (fun _ => rfl) trivial rfl) (OkOps.y (aI x7) (OkOps.y (aI x7) (OkOps.nil (Ok.regionD (by kernel_rfl) (OkD.x (.c (.loc 2 4)) rfl trivial rfl (OkD.x (.c (.tl 1007 (List.map View.cs s4.2))) rfl trivial rfl (OkD.x (.c (.d (.mp true (encM (kInt .i64) Node.cs nodes)))) rfl trivial rfl (OkD.x (aI x7) rfl trivial rfl ?_))))))))
  obtain ⟨x8, hx8, hr⟩ := bind_some hr
  refine OkD.q (triCl (tau []) (.s (.agg [cI x8.Kind, cS x8.Key, .d (.sl (List.map Attr.cs x8.Attrs)), .d (.sl (List.map Action.cs x8.Actions)), .d (.sl (List.map View.cs x8.Kids))])) [] (hself0 _ _ hx8) rfl ⟨.inl rfl, .inl rfl, trivial⟩ trivial entry91 trivial) ?_
  refine OkD.m 0 (triBST (sz := 5) (enc := View.cs) (j := 3) ([x8]) rfl rfl rfl rfl rfl (rows := [[dI x8.Kind, dS x8.Key, .sl (List.map Attr.cs x8.Attrs), .sl (List.map Action.cs x8.Actions), .sl (List.map View.cs x8.Kids)]]) (by simp only [List.map, View.cs_eq]) rfl rfl (fun x => by rw [View.cs_eq]; rfl) trivial rfl rfl) ?_
  obtain ⟨x9, hx9, hr⟩ := bind_some hr
  refine OkD.m2 0 (triApp (enc := View.cs) (L := s4.2) (X := [x8]) (j := 1007) (j' := 4) hx9 rfl rfl rfl rfl rfl rfl (fun x => by rw [View.cs_eq]; rfl) (fun x => by rw [View.cs_eq]; rfl) (by decide) trivial rfl rfl) ?_
  refine OkD.x (.c (.loc 2 4)) rfl trivial rfl (OkD.w (triStore (cs' := [cI x1.1.Kind, cS x1.1.Key, .d (.sl (List.map Attr.cs x1.1.Attrs)), .d (.sl (List.map Action.cs x1.1.Actions)), .tl 4 (List.map View.cs x9)]) rfl rfl rfl rfl rfl rfl rfl rfl rfl) (OkD.nil (by kernel_rfl) (Ok.region (OkOps.y (aI (IntKind.i64.wrap (s4.1 + 1))) (OkOps.y (aI (IntKind.i64.wrap (s4.1 + 1))) (OkOps.nil ?_))))))
  exact ⟨(IntKind.i64.wrap (s4.1 + 1), x9), hr, (Conv.mk (tau [(1007, 4)]) ⟨⟨_, rfl, .inl rfl⟩, ⟨_, rfl, .inl rfl⟩, ⟨_, rfl, .inl rfl⟩, ⟨_, rfl, .inl rfl⟩, ⟨_, rfl, .inl rfl⟩, ⟨_, rfl, .inl rfl⟩, trivial⟩ ⟨rfl, rfl, rfl, trivial⟩ rfl rfl rfl rfl)⟩
  have hr := selF h6 hr
  refine Ok.exit ?_
  exact ⟨s4.2, hr, (Conv.mk (tau [(1004, 1007)]) ⟨⟨_, rfl, .inl rfl⟩, ⟨_, rfl, .inl rfl⟩, trivial⟩ ⟨rfl, rfl, rfl, trivial⟩ rfl rfl rfl rfl)⟩
theorem vw_described_all : ∀ n : Nat, (∀ (nodes : (List (Int × Node))) (id : Int) {r : View}, vw_described n nodes id = some r → Con Tryd.prog 91 [.c (.d (.mp true (encM (kInt .i64) Node.cs nodes))), aI id] [] (.s (.agg [cI r.Kind, cS r.Key, .d (.sl (List.map Attr.cs r.Attrs)), .d (.sl (List.map Action.cs r.Actions)), .d (.sl (List.map View.cs r.Kids))])) []) ∧ True := by
  intro n
  induction n with
  | zero => exact ⟨(by intros; rename_i hr; cases hr), trivial⟩
  | succ n ih => exact ⟨(by intros; rename_i hr; exact vw_described_B_c _ ih.1 _ _ hr), trivial⟩
theorem vw_described_c (n : Nat) (nodes : (List (Int × Node))) (id : Int) {r : View} (hr : vw_described n nodes id = some r) : Con Tryd.prog 91 [.c (.d (.mp true (encM (kInt .i64) Node.cs nodes))), aI id] [] (.s (.agg [cI r.Kind, cS r.Key, .d (.sl (List.map Attr.cs r.Attrs)), .d (.sl (List.map Action.cs r.Actions)), .d (.sl (List.map View.cs r.Kids))])) [] := (vw_described_all n).1 nodes id hr
theorem vw_examine_c (t : Tree) {r : (List (Int × Node)) × View × Int} (hr : vw_examine t = some r) : Con Tryd.prog 65 [.agg [cI t.Root, cI t.Next, .d (.sl (List.map Node.cs t.Nodes))]] [] (.tup [.c (.d (.mp true (encM (kInt .i64) Node.cs r.1))), .agg [cI r.2.1.Kind, cS r.2.1.Key, .d (.sl (List.map Attr.cs r.2.1.Attrs)), .d (.sl (List.map Action.cs r.2.1.Actions)), .d (.sl (List.map View.cs r.2.1.Kids))], aI r.2.2]) [] := by
  unfold vw_examine at hr
  refine Con.of_ok 24 0 [.tmp 2, .cell 3 31, .tmp 4] [(0, .s (.agg [cI t.Root, cI t.Next, .d (.sl (List.map Node.cs t.Nodes))]))] Tryd.func65 rfl rfl rfl rfl rfl rfl rfl rfl fun w g M ρ _ => (Ok.seq (Ok.region (OkOps.m 0 (triBox (j := 0) (cs := [cI t.Root, cI t.Next, .d (.sl (List.map Node.cs t.Nodes))]) rfl rfl rfl rfl rfl) (OkOps.y (.c (.d (.v (.map none)))) (OkOps.m 0 (triAlloc (j := 1) (cs := [cI 0, cS ByteArray.empty, .d (.v (.slice none 0 0)), .d (.v (.slice none 0 0)), .d (.v (.slice none 0 0))]) rfl rfl rfl rfl) (OkOps.y (aI 0) (OkOps.nil (Ok.seq (Ok.region (OkOps.y (.agg [cI t.Root, cI t.Next, .d (.sl (List.map Node.cs t.Nodes))]) ?_))))))))))
  obtain ⟨x1, hx1, hr⟩ := bind_some hr
  refine OkOps.q (triCl (tau []) (.tup [.c (.d (.mp true (encM (kInt .i64) Node.cs x1.1))), aB x1.2]) [] (vw_graph_c _ hx1) rfl ⟨.inl rfl, trivial⟩ trivial entry90 trivial) (OkOps.q (triMv (v := .tup [.c (.d (.mp true (encM (kInt .i64) Node.cs x1.1))), aB x1.2]) rfl rfl) (OkOps.y (.c (.d (.mp true (encM (kInt .i64) Node.cs x1.1)))) (OkOps.y (aB x1.2) (OkOps.y (.c (.d (.mp true (encM (kInt .i64) Node.cs x1.1)))) (OkOps.y (aB x1.2) (OkOps.nil (Ok.seq (Ok.seq (Ok.region (OkOps.y (aB x1.2) (OkOps.y (aB (!x1.2)) (OkOps.nil ?_))))))))))))
  refine Ok.cond (b := !x1.2) rfl (fun h2 => ?_) (fun h2 => ?_)
  have hr := selT h2 hr
  refine Ok.seq (Ok.region (OkOps.y (.agg [cI 0, cS ByteArray.empty, .d (.v (.slice none 0 0)), .d (.v (.slice none 0 0)), .d (.v (.slice none 0 0))]) (OkOps.y (.c (.d (.v (.map none)))) (OkOps.w (triStore (cs' := [cI 0, cS ByteArray.empty, .d (.v (.slice none 0 0)), .d (.v (.slice none 0 0)), .d (.v (.slice none 0 0))]) rfl rfl rfl rfl rfl rfl rfl rfl rfl) (OkOps.y (aI 12) (OkOps.nil (Ok.conv (Conv.nilM 2 true rfl) (Ok.ret ?_))))))))
  obtain rfl := Option.some.inj hr
  exact ⟨_, rfl, .inr rfl, trivial⟩
  have hr := selF h2 hr
  refine Ok.skip (Ok.seq (Ok.region (OkOps.y (.c (.d (.mp true (encM (kInt .i64) Node.cs x1.1)))) (OkOps.y (.c (.loc 0 0)) (OkOps.y (aI t.Root) ?_)))))
  obtain ⟨x3, hx3, hr⟩ := bind_some hr
  refine OkOps.q (triCl (tau []) (.s (.agg [cI x3.Kind, cS x3.Key, .d (.sl (List.map Attr.cs x3.Attrs)), .d (.sl (List.map Action.cs x3.Actions)), .d (.sl (List.map View.cs x3.Kids))])) [] (vw_described_c _ _ _ hx3) rfl ⟨.inl rfl, .inl rfl, trivial⟩ trivial entry91 trivial) (OkOps.m 0 (triAlloc (j := 2) (cs := [cI 0, cS ByteArray.empty, .d (.v (.slice none 0 0)), .d (.v (.slice none 0 0)), .d (.v (.slice none 0 0))]) rfl rfl rfl rfl) (OkOps.w (triStore (cs' := [cI x3.Kind, cS x3.Key, .d (.sl (List.map Attr.cs x3.Attrs)), .d (.sl (List.map Action.cs x3.Actions)), .d (.sl (List.map View.cs x3.Kids))]) rfl rfl rfl rfl rfl rfl rfl rfl rfl) (OkOps.nil (Ok.seq (Ok.regionD (by kernel_rfl) (OkD.x (.c (.d (.mp true (encM (kInt .i64) Node.cs x1.1)))) rfl trivial rfl (OkD.x (.agg [cI x3.Kind, cS x3.Key, .d (.sl (List.map Attr.cs x3.Attrs)), .d (.sl (List.map Action.cs x3.Actions)), .d (.sl (List.map View.cs x3.Kids))]) rfl trivial rfl (OkD.x (.agg [cI x3.Kind, cS x3.Key, .d (.sl (List.map Attr.cs x3.Attrs)), .d (.sl (List.map Action.cs x3.Actions)), .d (.sl (List.map View.cs x3.Kids))]) rfl trivial rfl ?_))))))))
  obtain ⟨x4, hx4, hr⟩ := bind_some hr
  refine OkD.q (triCl (tau []) (.s (aI x4)) [] (vw_Validate_c _ hx4) rfl ⟨.inl rfl, trivial⟩ trivial entry17 trivial) (OkD.x (.c (.d (.mp true (encM (kInt .i64) Node.cs x1.1)))) rfl trivial rfl (OkD.w (triStore (cs' := [cI x3.Kind, cS x3.Key, .d (.sl (List.map Attr.cs x3.Attrs)), .d (.sl (List.map Action.cs x3.Actions)), .d (.sl (List.map View.cs x3.Kids))]) rfl rfl rfl rfl rfl rfl rfl rfl rfl) (OkD.x (aI x4) rfl trivial rfl (OkD.nil (by kernel_rfl) (Ok.ret ?_)))))
  obtain rfl := Option.some.inj hr
  exact ⟨_, rfl, .inl rfl, trivial⟩
theorem entry65 : Entry Tryd.prog 65 := ⟨_, Tryd.func65, by kernel_rfl, by kernel_rfl⟩
theorem vw_Check_c (t : Tree) {r : Int} (hr : vw_Check t = some r) : Con Tryd.prog 43 [.agg [cI t.Root, cI t.Next, .d (.sl (List.map Node.cs t.Nodes))]] [] (.s (aI r)) [] := by
  unfold vw_Check at hr
  refine Con.of_ok 13 0 [.tmp 2] [(0, .s (.agg [cI t.Root, cI t.Next, .d (.sl (List.map Node.cs t.Nodes))]))] Tryd.func43 rfl rfl rfl rfl rfl rfl rfl rfl fun w g M ρ _ => (Ok.seq (Ok.region (OkOps.m 0 (triBox (j := 0) (cs := [cI t.Root, cI t.Next, .d (.sl (List.map Node.cs t.Nodes))]) rfl rfl rfl rfl rfl) (OkOps.y (aI 0) (OkOps.nil (Ok.seq (Ok.region (OkOps.y (.agg [cI t.Root, cI t.Next, .d (.sl (List.map Node.cs t.Nodes))]) ?_))))))))
  obtain ⟨x1, hx1, hr⟩ := bind_some hr
  refine OkOps.q (triCl (tau []) (.tup [.c (.d (.mp true (encM (kInt .i64) Node.cs x1.1))), .agg [cI x1.2.1.Kind, cS x1.2.1.Key, .d (.sl (List.map Attr.cs x1.2.1.Attrs)), .d (.sl (List.map Action.cs x1.2.1.Actions)), .d (.sl (List.map View.cs x1.2.1.Kids))], aI x1.2.2]) [] (vw_examine_c _ hx1) rfl ⟨.inl rfl, trivial⟩ trivial entry65 trivial) (OkOps.q (triMv (v := .tup [.c (.d (.mp true (encM (kInt .i64) Node.cs x1.1))), .agg [cI x1.2.1.Kind, cS x1.2.1.Key, .d (.sl (List.map Attr.cs x1.2.1.Attrs)), .d (.sl (List.map Action.cs x1.2.1.Actions)), .d (.sl (List.map View.cs x1.2.1.Kids))], aI x1.2.2]) rfl rfl) (OkOps.y (.c (.d (.mp true (encM (kInt .i64) Node.cs x1.1)))) (OkOps.y (.agg [cI x1.2.1.Kind, cS x1.2.1.Key, .d (.sl (List.map Attr.cs x1.2.1.Attrs)), .d (.sl (List.map Action.cs x1.2.1.Actions)), .d (.sl (List.map View.cs x1.2.1.Kids))]) (OkOps.y (aI x1.2.2) (OkOps.m 0 (triAlloc (j := 1) (cs := [cI 0, cS ByteArray.empty, .d (.v (.slice none 0 0)), .d (.v (.slice none 0 0)), .d (.v (.slice none 0 0))]) rfl rfl rfl rfl) (OkOps.y (.c (.d (.mp true (encM (kInt .i64) Node.cs x1.1)))) (OkOps.w (triStore (cs' := [cI x1.2.1.Kind, cS x1.2.1.Key, .d (.sl (List.map Attr.cs x1.2.1.Attrs)), .d (.sl (List.map Action.cs x1.2.1.Actions)), .d (.sl (List.map View.cs x1.2.1.Kids))]) rfl rfl rfl rfl rfl rfl rfl rfl rfl) (OkOps.y (aI x1.2.2) (OkOps.nil (Ok.seq (Ok.region (OkOps.y (aI x1.2.2) (OkOps.y (aI x1.2.2) (OkOps.nil (Ok.ret ?_)))))))))))))))
  obtain rfl := Option.some.inj hr
  exact ⟨_, rfl, .inl rfl, trivial⟩
theorem entry43 : Entry Tryd.prog 43 := ⟨_, Tryd.func43, by kernel_rfl, by kernel_rfl⟩
theorem vw_valid_c (t : Tree) {r : (List (Int × Node)) × Bool} (hr : vw_valid t = some r) : Con Tryd.prog 55 [.agg [cI t.Root, cI t.Next, .d (.sl (List.map Node.cs t.Nodes))]] [] (.tup [.c (.d (.mp true (encM (kInt .i64) Node.cs r.1))), aB r.2]) [] := by
  unfold vw_valid at hr
  refine Con.of_ok 16 0 [.tmp 2, .tmp 3] [(0, .s (.agg [cI t.Root, cI t.Next, .d (.sl (List.map Node.cs t.Nodes))]))] Tryd.func55 rfl rfl rfl rfl rfl rfl rfl rfl fun w g M ρ _ => (Ok.seq (Ok.region (OkOps.m 0 (triBox (j := 0) (cs := [cI t.Root, cI t.Next, .d (.sl (List.map Node.cs t.Nodes))]) rfl rfl rfl rfl rfl) (OkOps.y (.c (.d (.v (.map none)))) (OkOps.y (aB false) (OkOps.nil (Ok.seq (Ok.region (OkOps.y (.agg [cI t.Root, cI t.Next, .d (.sl (List.map Node.cs t.Nodes))]) ?_)))))))))
  obtain ⟨x1, hx1, hr⟩ := bind_some hr
  refine OkOps.q (triCl (tau []) (.tup [.c (.d (.mp true (encM (kInt .i64) Node.cs x1.1))), .agg [cI x1.2.1.Kind, cS x1.2.1.Key, .d (.sl (List.map Attr.cs x1.2.1.Attrs)), .d (.sl (List.map Action.cs x1.2.1.Actions)), .d (.sl (List.map View.cs x1.2.1.Kids))], aI x1.2.2]) [] (vw_examine_c _ hx1) rfl ⟨.inl rfl, trivial⟩ trivial entry65 trivial) (OkOps.q (triMv (v := .tup [.c (.d (.mp true (encM (kInt .i64) Node.cs x1.1))), .agg [cI x1.2.1.Kind, cS x1.2.1.Key, .d (.sl (List.map Attr.cs x1.2.1.Attrs)), .d (.sl (List.map Action.cs x1.2.1.Actions)), .d (.sl (List.map View.cs x1.2.1.Kids))], aI x1.2.2]) rfl rfl) (OkOps.y (.c (.d (.mp true (encM (kInt .i64) Node.cs x1.1)))) (OkOps.y (.agg [cI x1.2.1.Kind, cS x1.2.1.Key, .d (.sl (List.map Attr.cs x1.2.1.Attrs)), .d (.sl (List.map Action.cs x1.2.1.Actions)), .d (.sl (List.map View.cs x1.2.1.Kids))]) (OkOps.y (aI x1.2.2) (OkOps.m 0 (triAlloc (j := 1) (cs := [cI 0, cS ByteArray.empty, .d (.v (.slice none 0 0)), .d (.v (.slice none 0 0)), .d (.v (.slice none 0 0))]) rfl rfl rfl rfl) (OkOps.y (.c (.d (.mp true (encM (kInt .i64) Node.cs x1.1)))) (OkOps.w (triStore (cs' := [cI x1.2.1.Kind, cS x1.2.1.Key, .d (.sl (List.map Attr.cs x1.2.1.Attrs)), .d (.sl (List.map Action.cs x1.2.1.Actions)), .d (.sl (List.map View.cs x1.2.1.Kids))]) rfl rfl rfl rfl rfl rfl rfl rfl rfl) (OkOps.y (aI x1.2.2) (OkOps.nil (Ok.seq (Ok.region (OkOps.y (.c (.d (.mp true (encM (kInt .i64) Node.cs x1.1)))) (OkOps.y (aI x1.2.2) (OkOps.y (aB (x1.2.2 == 0)) (OkOps.y (.c (.d (.mp true (encM (kInt .i64) Node.cs x1.1)))) ?_)))))))))))))))
  refine OkOps.y (aB (x1.2.2 == 0)) (OkOps.nil (Ok.ret ?_))
  obtain rfl := Option.some.inj hr
  exact ⟨_, rfl, .inl rfl, trivial⟩
theorem entry55 : Entry Tryd.prog 55 := ⟨_, Tryd.func55, by kernel_rfl, by kernel_rfl⟩
theorem slices_Reverse_Sl_int_int_c (p_s : (List Int)) {r : (List Int)} (hr : slices_Reverse_Sl_int_int p_s = some r) : Con Tryd.prog 81 [.c (.own 0)] [(0, .vec 1 (List.map (eInt .i64) p_s))] (.tup []) [(0, .vec 1 (List.map (eInt .i64) r))] := by
  unfold slices_Reverse_Sl_int_int at hr
  refine Con.of_ok 28 0 [] [(0, .s (.c (.own 0)))] Tryd.func81 rfl rfl rfl rfl rfl rfl rfl rfl fun w g M ρ _ => (Ok.seq (Ok.region (OkOps.y (.c (.own 0)) (OkOps.q (triLenV (enc := (eInt .i64)) p_s rfl rfl rfl rfl) (OkOps.y (aI (IntKind.i64.wrap ((p_s.length : Int) - 1))) (OkOps.y (aI 0) (OkOps.y (aI (IntKind.i64.wrap ((p_s.length : Int) - 1))) (OkOps.nil ?_))))))))
  obtain ⟨k2, hk2, hr⟩ := jn_some hr
  refine Ok.joinEnd (fun (s1 : (List Int)) => ⟨[], [(0, .vec 1 (List.map (eInt .i64) s1))], 0⟩) k2 r (fun s1 hr => ?_) ?_
  rw [hk2] at hr
  obtain rfl := Option.some.inj hr
  exact ⟨_, rfl, .inl rfl, ⟨rfl, trivial⟩⟩
  clear hk2
  refine Ok.block (Ok.loopK (fun (s3 : Int × Int × (List Int)) => ⟨[(0, .s (.c (.own 0))), (2, .s (aI s3.1)), (3, .s (aI s3.2.1))], [(0, .vec 1 (List.map (eInt .i64) s3.2.2))], 0⟩) hr (Conv.mk (tau []) ⟨⟨_, rfl, .inl rfl⟩, ⟨_, rfl, .inl rfl⟩, ⟨_, rfl, .inl rfl⟩, trivial⟩ ⟨rfl, trivial⟩ rfl rfl rfl rfl) ?_)
  clear hr
  intro again4 s3 hr
  unfold slices_Reverse_Sl_int_int_L1 at hr
  refine Ok.seq (Ok.seq (Ok.region (OkOps.y (aI s3.1) (OkOps.y (aI s3.2.1) (OkOps.y (aB (decide (s3.1 < s3.2.1))) (OkOps.nil ?_))))))
  refine Ok.cond (b := decide (s3.1 < s3.2.1)) rfl (fun h5 => ?_) (fun h5 => ?_)
  have hr := selT h5 hr
  refine Ok.skip (Ok.seq (Ok.block (Ok.regionD (by kernel_rfl) (OkD.x (.c (.own 0)) rfl trivial rfl (OkD.x (aI s3.1) rfl trivial rfl (OkD.x (.c (.own 0)) rfl trivial rfl (OkD.x (aI s3.2.1) rfl trivial rfl (OkD.x (.c (.own 0)) rfl trivial rfl (OkD.x (aI s3.2.1) rfl trivial rfl ?_)))))))))
  obtain ⟨x6, hx6, hr⟩ := bind_some hr
  refine OkD.q (triIdxV (enc := (eInt .i64)) (L := s3.2.2) hx6 rfl rfl rfl rfl trivial rfl) ?_
  obtain ⟨x7, hx7, hr⟩ := bind_some hr
  refine OkD.q (triLoadV (enc := (eInt .i64)) (L := s3.2.2) (row := [dI x7]) (r := aI x7) hx7 rfl rfl rfl (fun _ => rfl) rfl  rfl) (OkD.x (.c (.own 0)) rfl trivial rfl (OkD.x (aI s3.1) rfl trivial rfl ?_))
  obtain ⟨x8, hx8, hr⟩ := bind_some hr
  refine OkD.q (triIdxV (enc := (eInt .i64)) (L := s3.2.2) hx8 rfl rfl rfl rfl trivial rfl) ?_
  obtain ⟨x9, hx9, hr⟩ := bind_some hr
  refine OkD.q (triLoadV (enc := (eInt .i64)) (L := s3.2.2) (row := [dI x9]) (r := aI x9) hx9 rfl rfl rfl (fun _ => rfl) rfl  rfl) ?_
  obtain ⟨x10, hx10, hr⟩ := bind_some hr
  refine OkD.q (triIdxV (enc := (eInt .i64)) (L := s3.2.2) hx10 rfl rfl rfl rfl trivial rfl) (OkD.w (triStoreV (enc := (eInt .i64)) (L := s3.2.2) x7 (.inr (ixO_spec hx10).2) rfl rfl rfl rfl rfl rfl (fun _ => rfl) rfl) ?_)
  obtain ⟨x11, hx11, hr⟩ := bind_some hr
  refine OkD.q (triIdxV (enc := (eInt .i64)) (L := List.set s3.2.2 x10 x7) hx11 rfl rfl rfl rfl trivial rfl) (OkD.w (triStoreV (enc := (eInt .i64)) (L := List.set s3.2.2 x10 x7) x9 (.inr (ixO_spec hx11).2) rfl rfl rfl rfl rfl rfl (fun _ => rfl) rfl) (OkD.nil (by kernel_rfl) (Ok.region (OkOps.y (aI s3.1) (OkOps.y (aI (IntKind.i64.wrap (s3.1 + 1))) (OkOps.y (aI s3.2.1) (OkOps.y (aI (IntKind.i64.wrap (s3.2.1 - 1))) (OkOps.y (aI (IntKind.i64.wrap (s3.1 + 1))) (OkOps.y (aI (IntKind.i64.wrap (s3.2.1 - 1))) (OkOps.nil ?_))))))))))
  exact ⟨(IntKind.i64.wrap (s3.1 + 1), IntKind.i64.wrap (s3.2.1 - 1), List.set (List.set s3.2.2 x10 x7) x11 x9), hr, (Conv.mk (tau []) ⟨⟨_, rfl, .inl rfl⟩, ⟨_, rfl, .inl rfl⟩, ⟨_, rfl, .inl rfl⟩, trivial⟩ ⟨rfl, trivial⟩ rfl rfl rfl rfl)⟩
  have hr := selF h5 hr
  refine Ok.exit ?_
  exact ⟨s3.2.2, hr, (Conv.mk (tau []) trivial ⟨rfl, trivial⟩ rfl rfl rfl rfl)⟩
theorem entry81 : Entry Tryd.prog 81 := ⟨_, Tryd.func81, by kernel_rfl, by kernel_rfl⟩
theorem vw_path_c (nodes : (List (Int × Node))) (id : Int) {r : (List Int)} (hr : vw_path nodes id = some r) : Con Tryd.prog 56 [.c (.d (.mp true (encM (kInt .i64) Node.cs nodes))), aI id] [] (.s (.c (.d (.sl (List.map (eInt .i64) r))))) [] := by
  unfold vw_path at hr
  refine Con.of_ok 31 0 [.tmp 4] [(0, .s (.c (.d (.mp true (encM (kInt .i64) Node.cs nodes))))), (1, .s (aI id))] Tryd.func56 rfl rfl rfl rfl rfl rfl rfl rfl fun w g M ρ _ => (Ok.seq (Ok.region (OkOps.y (.c (.d (.v (.slice none 0 0)))) (OkOps.nil (Ok.seq (Ok.region (OkOps.y (.c (.d (.v (.slice none 0 0)))) (OkOps.conv (Conv.nilV (enc := (eInt .i64)) 5 0 1 0 rfl rfl) (OkOps.nil ?_)))))))))
  obtain ⟨k2, hk2, hr⟩ := jn_some hr
  refine Ok.join (fun (s1 : (List Int)) => ⟨[(5, .s (.c (.own 1006)))], [(1006, .vec 1 (List.map (eInt .i64) s1))], 0⟩) k2 r (fun s1 hr => ?_) ?_
  rw [hk2] at hr
  refine Ok.seq (Ok.region (OkOps.y (.c (.own 1006)) ?_))
  obtain ⟨x3, hx3, hr⟩ := bind_some hr
  refine OkOps.m 0 (triCl (tau [(0, 1006)]) (.tup []) [(1006, .vec 1 (List.map (eInt .i64) x3))] (slices_Reverse_Sl_int_int_c _ hx3) rfl ⟨.inl rfl, trivial⟩ trivial entry81 ⟨rfl, trivial⟩) (OkOps.nil (Ok.seq (Ok.region (OkOps.y (.c (.own 1006)) (OkOps.y (.c (.own 1006)) (OkOps.nil (Ok.conv (Conv.freeze (enc := (eInt .i64)) (L := x3) [4, 5, 28, 30] 1006 1 1 0 ⟨rfl, rfl, rfl, rfl, trivial⟩ rfl (fun _ => rfl) rfl) (Ok.ret ?_))))))))
  obtain rfl := Option.some.inj hr
  exact ⟨_, rfl, .inr rfl, trivial⟩
  clear hk2
  refine Ok.seq (Ok.region (OkOps.y (.c (.d (.mp true (encM (kInt .i64) Node.cs nodes)))) (OkOps.y (aI id) ?_)))
  obtain ⟨x4, hx4, hr⟩ := bind_some hr
  refine OkOps.q (triLookT (agg := true) (ek := (kInt .i64)) (ev := Node.cs) (L := nodes) (r := .agg [cI x4.1.ID, cI x4.1.Parent, cI x4.1.Kind, cS x4.1.Key, .d (.sl (List.map Attr.cs x4.1.Attrs)), .d (.sl (List.map Action.cs x4.1.Actions)), .d (.sl (List.map (eInt .i64) x4.1.Kids))]) hx4 rfl rfl rfl (keyInt Tryd.underlying3) rfl rfl (fun h => by cases h) rfl trivial rfl) ?_
  refine OkOps.q (triMv (v := .tup [.agg [cI x4.1.ID, cI x4.1.Parent, cI x4.1.Kind, cS x4.1.Key, .d (.sl (List.map Attr.cs x4.1.Attrs)), .d (.sl (List.map Action.cs x4.1.Actions)), .d (.sl (List.map (eInt .i64) x4.1.Kids))], aB x4.2]) rfl rfl) (OkOps.y (.agg [cI x4.1.ID, cI x4.1.Parent, cI x4.1.Kind, cS x4.1.Key, .d (.sl (List.map Attr.cs x4.1.Attrs)), .d (.sl (List.map Action.cs x4.1.Actions)), .d (.sl (List.map (eInt .i64) x4.1.Kids))]) (OkOps.y (aB x4.2) (OkOps.m 0 (triAlloc (j := 2) (cs := [cI 0, cI 0, cI 0, cS ByteArray.empty, .d (.v (.slice none 0 0)), .d (.v (.slice none 0 0)), .d (.v (.slice none 0 0))]) rfl rfl rfl rfl) (OkOps.w (triStore (cs' := [cI x4.1.ID, cI x4.1.Parent, cI x4.1.Kind, cS x4.1.Key, .d (.sl (List.map Attr.cs x4.1.Attrs)), .d (.sl (List.map Action.cs x4.1.Actions)), .d (.sl (List.map (eInt .i64) x4.1.Kids))]) rfl rfl rfl rfl rfl rfl rfl rfl rfl) (OkOps.y (aB x4.2) (OkOps.nil (Ok.block (Ok.loopK (fun (s5 : (List Int) × Int × Int × Int × Str × (List Attr) × (List Action) × (List Int) × Bool) => ⟨[(0, .s (.c (.d (.mp true (encM (kInt .i64) Node.cs nodes))))), (5, .s (.c (.own 1009))), (6, .s (.c (.loc 1010 0))), (7, .s (aB s5.2.2.2.2.2.2.2.2))], [(1009, .vec 1 (List.map (eInt .i64) s5.1)), (1010, .blk [cI s5.2.1, cI s5.2.2.1, cI s5.2.2.2.1, cS s5.2.2.2.2.1, .d (.sl (List.map Attr.cs s5.2.2.2.2.2.1)), .d (.sl (List.map Action.cs s5.2.2.2.2.2.2.1)), .d (.sl (List.map (eInt .i64) s5.2.2.2.2.2.2.2.1))] 55)], 0⟩) hr (Conv.mk (tau [(1009, 0), (1010, 2)]) ⟨⟨_, rfl, .inl rfl⟩, ⟨_, rfl, .inl rfl⟩, ⟨_, rfl, .inl rfl⟩, ⟨_, rfl, .inl rfl⟩, trivial⟩ ⟨rfl, rfl, trivial⟩ rfl rfl rfl rfl) ?_))))))))
  clear hr
  intro again6 s5 hr
  unfold vw_path_L1 at hr
  refine Ok.seq (Ok.seq (Ok.region (OkOps.y (aB s5.2.2.2.2.2.2.2.2) (OkOps.nil ?_))))
  refine Ok.cond (b := s5.2.2.2.2.2.2.2.2) rfl (fun h7 => ?_) (fun h7 => ?_)
  have hr := selT h7 hr
  refine Ok.skip (Ok.seq (Ok.block (Ok.region (OkOps.y (.c (.own 1009)) (OkOps.y (.c (.loc 1010 0)) (OkOps.y (aI s5.2.1) (OkOps.m 0 (triBST (sz := 1) (enc := (eInt .i64)) (j := 3) ([s5.2.1]) rfl rfl rfl rfl rfl rfl rfl rfl (fun _ => rfl) trivial rfl rfl) ?_)))))))
  obtain ⟨x8, hx8, hr⟩ := bind_some hr
  refine OkOps.m2 0 (triAppV (enc := (eInt .i64)) (L := s5.1) (X := [s5.2.1]) (j := 1009) (j' := 4) hx8 rfl rfl rfl rfl rfl rfl (fun _ => rfl) (fun _ => rfl) trivial rfl rfl) (OkOps.y (.c (.own 4)) (OkOps.nil (Ok.seq (Ok.seq (Ok.region (OkOps.y (.agg [cI s5.2.1, cI s5.2.2.1, cI s5.2.2.2.1, cS s5.2.2.2.2.1, .d (.sl (List.map Attr.cs s5.2.2.2.2.2.1)), .d (.sl (List.map Action.cs s5.2.2.2.2.2.2.1)), .d (.sl (List.map (eInt .i64) s5.2.2.2.2.2.2.2.1))]) (OkOps.nil (Ok.region (OkOps.m 0 (triAlloc (j := 5) (cs := [cI 0, cI 0, cI 0, cS ByteArray.empty, .d (.v (.slice none 0 0)), .d (.v (.slice none 0 0)), .d (.v (.slice none 0 0))]) rfl rfl rfl rfl) (OkOps.w (triStore (cs' := [cI s5.2.1, cI s5.2.2.1, cI s5.2.2.2.1, cS s5.2.2.2.2.1, .d (.sl (List.map Attr.cs s5.2.2.2.2.2.1)), .d (.sl (List.map Action.cs s5.2.2.2.2.2.2.1)), .d (.sl (List.map (eInt .i64) s5.2.2.2.2.2.2.2.1))]) rfl rfl rfl rfl rfl rfl rfl rfl rfl) (OkOps.nil (Ok.region (OkOps.y (.c (.d (.mp true (encM (kInt .i64) Node.cs nodes)))) (OkOps.y (.c (.loc 5 1)) (OkOps.y (aI s5.2.2.1) ?_)))))))))))))))
  obtain ⟨x9, hx9, hr⟩ := bind_some hr
  refine OkOps.q (triLookT (agg := true) (ek := (kInt .i64)) (ev := Node.cs) (L := nodes) (r := .agg [cI x9.1.ID, cI x9.1.Parent, cI x9.1.Kind, cS x9.1.Key, .d (.sl (List.map Attr.cs x9.1.Attrs)), .d (.sl (List.map Action.cs x9.1.Actions)), .d (.sl (List.map (eInt .i64) x9.1.Kids))]) hx9 rfl rfl rfl (keyInt Tryd.underlying3) rfl rfl (fun h => by cases h) rfl trivial rfl) ?_
  refine OkOps.q (triMv (v := .tup [.agg [cI x9.1.ID, cI x9.1.Parent, cI x9.1.Kind, cS x9.1.Key, .d (.sl (List.map Attr.cs x9.1.Attrs)), .d (.sl (List.map Action.cs x9.1.Actions)), .d (.sl (List.map (eInt .i64) x9.1.Kids))], aB x9.2]) rfl rfl) (OkOps.y (.agg [cI x9.1.ID, cI x9.1.Parent, cI x9.1.Kind, cS x9.1.Key, .d (.sl (List.map Attr.cs x9.1.Attrs)), .d (.sl (List.map Action.cs x9.1.Actions)), .d (.sl (List.map (eInt .i64) x9.1.Kids))]) (OkOps.y (aB x9.2) (OkOps.w (triStore (cs' := [cI x9.1.ID, cI x9.1.Parent, cI x9.1.Kind, cS x9.1.Key, .d (.sl (List.map Attr.cs x9.1.Attrs)), .d (.sl (List.map Action.cs x9.1.Actions)), .d (.sl (List.map (eInt .i64) x9.1.Kids))]) rfl rfl rfl rfl rfl rfl rfl rfl rfl) (OkOps.y (aB x9.2) (OkOps.nil ?_)))))
  exact ⟨(x8, x9.1.ID, x9.1.Parent, x9.1.Kind, x9.1.Key, x9.1.Attrs, x9.1.Actions, x9.1.Kids, x9.2), hr, (Conv.mk (tau [(1009, 4), (1010, 5)]) ⟨⟨_, rfl, .inl rfl⟩, ⟨_, rfl, .inl rfl⟩, ⟨_, rfl, .inl rfl⟩, ⟨_, rfl, .inl rfl⟩, trivial⟩ ⟨rfl, rfl, trivial⟩ rfl rfl rfl rfl)⟩
  have hr := selF h7 hr
  refine Ok.exit ?_
  exact ⟨s5.1, hr, (Conv.mk (tau [(1006, 1009)]) ⟨⟨_, rfl, .inl rfl⟩, trivial⟩ ⟨rfl, trivial⟩ rfl rfl rfl rfl)⟩
theorem entry56 : Entry Tryd.prog 56 := ⟨_, Tryd.func56, by kernel_rfl, by kernel_rfl⟩
theorem istrconv_small_c (i : Int) {r : Str} (hr : istrconv_small i = some r) : Con Tryd.prog 114 [aI i] [] (.s (aS r)) [] := by
  unfold istrconv_small at hr
  refine Con.of_ok 15 0 [.tmp 2] [(0, .s (aI i))] Tryd.func114 rfl rfl rfl rfl rfl rfl rfl rfl fun w g M ρ _ => (Ok.seq (Ok.region (OkOps.y (aS (ByteArray.mk #[])) (OkOps.nil (Ok.seq (Ok.seq (Ok.region (OkOps.y (aI i) (OkOps.y (aB (decide (i < 10))) (OkOps.nil ?_))))))))))
  refine Ok.cond (b := decide (i < 10)) rfl (fun h1 => ?_) (fun h1 => ?_)
  have hr := selT h1 hr
  refine Ok.seq (Ok.region (OkOps.y (aI i) (OkOps.y (aI i) (OkOps.y (aI (IntKind.i64.wrap (i + 1))) ?_))))
  obtain ⟨x2, hx2, hr⟩ := bind_some hr
  refine OkOps.q (triSSlc hx2 rfl rfl rfl (.inr ⟨_, rfl⟩) (.inr ⟨_, rfl⟩) rfl trivial rfl) (OkOps.y (aS x2) (OkOps.nil (Ok.ret ?_)))
  obtain rfl := Option.some.inj hr
  exact ⟨_, rfl, .inl rfl, trivial⟩
  have hr := selF h1 hr
  refine Ok.skip (Ok.seq (Ok.region (OkOps.y (aI i) (OkOps.y (aI (IntKind.i64.wrap (i * 2))) (OkOps.y (aI i) (OkOps.y (aI (IntKind.i64.wrap (i * 2))) (OkOps.y (aI (IntKind.i64.wrap ((IntKind.i64.wrap (i * 2)) + 2))) ?_)))))))
  obtain ⟨x3, hx3, hr⟩ := bind_some hr
  refine OkOps.q (triSSlc hx3 rfl rfl rfl (.inr ⟨_, rfl⟩) (.inr ⟨_, rfl⟩) rfl trivial rfl) (OkOps.y (aS x3) (OkOps.nil (Ok.ret ?_)))
  obtain rfl := Option.some.inj hr
  exact ⟨_, rfl, .inl rfl, trivial⟩
theorem entry114 : Entry Tryd.prog 114 := ⟨_, Tryd.func114, by kernel_rfl, by kernel_rfl⟩
theorem istrconv_FormatInt_c (i : Int) (base : Int) {r : Str} (hr : istrconv_FormatInt i base = some r) : Con Tryd.prog 108 [aI i, aI base] [] (.s (aS r)) [] := by
  unfold istrconv_FormatInt at hr
  refine Con.of_ok 54 0 [.tmp 4] [(0, .s (aI i)), (1, .s (aI base))] Tryd.func108 rfl rfl rfl rfl rfl rfl rfl rfl fun w g M ρ _ => (Ok.seq (Ok.region (OkOps.y (aS (ByteArray.mk #[])) (OkOps.nil (Ok.seq (Ok.seq (Ok.region (OkOps.y (aI base) (OkOps.y (aB (base == 10)) (OkOps.nil ?_))))))))))
  refine Ok.cond (b := base == 10) rfl (fun h1 => ?_) (fun h1 => ?_)
  have hr := selT h1 hr
  refine Ok.seq (Ok.seq (Ok.region (OkOps.y (aI i) (OkOps.y (aB (decide (0 ≤ i))) (OkOps.y (aB (decide (0 ≤ i))) (OkOps.q (triQG (x := aI i) rfl rfl trivial rfl) (OkOps.q (triQG (x := aB (decide (i < 100))) rfl rfl ⟨fun h => h, trivial⟩ rfl) (OkOps.q (triAnd rfl rfl (fun h => h) rfl) (OkOps.nil ?_)))))))))
  refine Ok.cond (b := (decide (0 ≤ i)) && (decide (i < 100))) rfl (fun h2 => ?_) (fun h2 => ?_)
  have hr := selT h2 hr
  refine Ok.seq (Ok.region (OkOps.y (aI i) ?_))
  obtain ⟨x3, hx3, hr⟩ := bind_some hr
  refine OkOps.q (triCl (tau []) (.s (aS x3)) [] (istrconv_small_c _ hx3) rfl ⟨.inl rfl, trivial⟩ trivial entry114 trivial) (OkOps.y (aS x3) (OkOps.nil (Ok.ret ?_)))
  obtain rfl := Option.some.inj hr
  exact ⟨_, rfl, .inl rfl, trivial⟩
  have hr := selF h2 hr
  refine Ok.skip (Ok.seq (Ok.region (OkOps.m 0 (triAlloc (j := 0) (cs := ([] ++ (arrC 24 (dInt .u8) (fun _ => 0) ++ []))) rfl rfl rfl rfl) (OkOps.nil (Ok.seq (Ok.region (OkOps.y (aI i) (OkOps.y (.c (.d (.v (.int .u64 (IntKind.u64.wrap i))))) (OkOps.y (.c (.d (.v (.int .u64 (IntKind.u64.wrap i))))) (OkOps.nil ?_))))))))))
  obtain ⟨k5, hk5, hr⟩ := jn_some hr
  refine Ok.join (fun (s4 : Int) => ⟨[(0, .s (aI i)), (5, .s (.c (.loc 0 0))), (6, .s (.c (.d (.v (.int .u64 s4)))))], [(0, .blk ([] ++ (arrC 24 (dInt .u8) (fun _ => 0) ++ [])) 139)], 0⟩) k5 r (fun s4 hr => ?_) ?_
  rw [hk5] at hr
  refine Ok.seq (Ok.region (OkOps.y (.c (.d (.v (.int .u64 s4)))) ?_))
  cases hr
  clear hk5
  refine Ok.seq (Ok.region (OkOps.y (aI i) (OkOps.y (aB (decide (i < 0))) (OkOps.nil ?_))))
  refine Ok.cond (b := decide (i < 0)) rfl (fun h6 => ?_) (fun h6 => ?_)
  have hr := selT h6 hr
  refine Ok.region (OkOps.y (.c (.d (.v (.int .u64 (IntKind.u64.wrap i))))) (OkOps.y (.c (.d (.v (.int .u64 (IntKind.u64.wrap (0 - (IntKind.u64.wrap i))))))) (OkOps.y (.c (.d (.v (.int .u64 (IntKind.u64.wrap (0 - (IntKind.u64.wrap i))))))) (OkOps.nil ?_))))
  exact ⟨IntKind.u64.wrap (0 - (IntKind.u64.wrap i)), hr, (Conv.mk (tau []) ⟨⟨_, rfl, .inl rfl⟩, ⟨_, rfl, .inl rfl⟩, ⟨_, rfl, .inl rfl⟩, trivial⟩ ⟨rfl, trivial⟩ rfl rfl rfl rfl)⟩
  have hr := selF h6 hr
  refine Ok.skip ?_
  exact ⟨IntKind.u64.wrap i, hr, (Conv.mk (tau []) ⟨⟨_, rfl, .inl rfl⟩, ⟨_, rfl, .inl rfl⟩, ⟨_, rfl, .inl rfl⟩, trivial⟩ ⟨rfl, trivial⟩ rfl rfl rfl rfl)⟩
  have hr := selF h1 hr
  refine Ok.skip (Ok.seq (Ok.region (OkOps.y (aI i) (OkOps.y (.c (.d (.v (.int .u64 (IntKind.u64.wrap i))))) (OkOps.y (aI base) (OkOps.y (aI i) (OkOps.y (aB (decide (i < 0))) ?_)))))))
  cases hr
theorem entry108 : Entry Tryd.prog 108 := ⟨_, Tryd.func108, by kernel_rfl, by kernel_rfl⟩
theorem istrconv_Itoa_c (i : Int) {r : Str} (hr : istrconv_Itoa i = some r) : Con Tryd.prog 82 [aI i] [] (.s (aS r)) [] := by
  unfold istrconv_Itoa at hr
  refine Con.of_ok 5 0 [.tmp 2] [(0, .s (aI i))] Tryd.func82 rfl rfl rfl rfl rfl rfl rfl rfl fun w g M ρ _ => (Ok.seq (Ok.region (OkOps.y (aS (ByteArray.mk #[])) (OkOps.nil (Ok.seq (Ok.region (OkOps.y (aI i) ?_)))))))
  obtain ⟨x1, hx1, hr⟩ := bind_some hr
  refine OkOps.q (triCl (tau []) (.s (aS x1)) [] (istrconv_FormatInt_c _ _ hx1) rfl ⟨.inl rfl, .inl rfl, trivial⟩ trivial entry108 trivial) (OkOps.y (aS x1) (OkOps.nil (Ok.ret ?_)))
  obtain rfl := Option.some.inj hr
  exact ⟨_, rfl, .inl rfl, trivial⟩
theorem entry82 : Entry Tryd.prog 82 := ⟨_, Tryd.func82, by kernel_rfl, by kernel_rfl⟩
theorem strconv_Itoa_c (i : Int) {r : Str} (hr : strconv_Itoa i = some r) : Con Tryd.prog 57 [aI i] [] (.s (aS r)) [] := by
  unfold strconv_Itoa at hr
  refine Con.of_ok 5 0 [.tmp 2] [(0, .s (aI i))] Tryd.func57 rfl rfl rfl rfl rfl rfl rfl rfl fun w g M ρ _ => (Ok.seq (Ok.region (OkOps.y (aS (ByteArray.mk #[])) (OkOps.nil (Ok.seq (Ok.region (OkOps.y (aI i) ?_)))))))
  obtain ⟨x1, hx1, hr⟩ := bind_some hr
  refine OkOps.q (triCl (tau []) (.s (aS x1)) [] (istrconv_Itoa_c _ hx1) rfl ⟨.inl rfl, trivial⟩ trivial entry82 trivial) (OkOps.y (aS x1) (OkOps.nil (Ok.ret ?_)))
  obtain rfl := Option.some.inj hr
  exact ⟨_, rfl, .inl rfl, trivial⟩
theorem entry57 : Entry Tryd.prog 57 := ⟨_, Tryd.func57, by kernel_rfl, by kernel_rfl⟩
theorem vw_PathName_c (t : Tree) (id : Int) {r : Str} (hr : vw_PathName t id = some r) : Con Tryd.prog 25 [.agg [cI t.Root, cI t.Next, .d (.sl (List.map Node.cs t.Nodes))], aI id] [] (.s (aS r)) [] := by
  unfold vw_PathName at hr
  refine Con.of_ok 82 0 [.tmp 4] [(0, .s (.agg [cI t.Root, cI t.Next, .d (.sl (List.map Node.cs t.Nodes))])), (1, .s (aI id))] Tryd.func25 rfl rfl rfl rfl rfl rfl rfl rfl fun w g M ρ _ => (Ok.seq (Ok.region (OkOps.m 0 (triBox (j := 0) (cs := [cI t.Root, cI t.Next, .d (.sl (List.map Node.cs t.Nodes))]) rfl rfl rfl rfl rfl) (OkOps.y (aS (ByteArray.mk #[])) (OkOps.nil (Ok.seq (Ok.region (OkOps.y (.agg [cI t.Root, cI t.Next, .d (.sl (List.map Node.cs t.Nodes))]) ?_))))))))
  obtain ⟨x1, hx1, hr⟩ := bind_some hr
  refine OkOps.q (triCl (tau []) (.tup [.c (.d (.mp true (encM (kInt .i64) Node.cs x1.1))), aB x1.2]) [] (vw_valid_c _ hx1) rfl ⟨.inl rfl, trivial⟩ trivial entry55 trivial) (OkOps.q (triMv (v := .tup [.c (.d (.mp true (encM (kInt .i64) Node.cs x1.1))), aB x1.2]) rfl rfl) (OkOps.y (.c (.d (.mp true (encM (kInt .i64) Node.cs x1.1)))) (OkOps.y (aB x1.2) (OkOps.y (.c (.d (.mp true (encM (kInt .i64) Node.cs x1.1)))) (OkOps.y (aB x1.2) (OkOps.nil (Ok.seq (Ok.seq (Ok.region (OkOps.y (aB x1.2) (OkOps.y (aB (!x1.2)) (OkOps.nil ?_))))))))))))
  refine Ok.cond (b := !x1.2) rfl (fun h2 => ?_) (fun h2 => ?_)
  have hr := selT h2 hr
  refine Ok.seq (Ok.region (OkOps.y (aS (ByteArray.mk #[])) (OkOps.nil (Ok.ret ?_))))
  obtain rfl := Option.some.inj hr
  exact ⟨_, rfl, .inl rfl, trivial⟩
  have hr := selF h2 hr
  refine Ok.skip (Ok.seq (Ok.region (OkOps.y (aS (ByteArray.mk #[])) (OkOps.nil ?_))))
  obtain ⟨k4, hk4, hr⟩ := jn_some hr
  refine Ok.join (fun (s3 : Str) => ⟨[(7, .s (aS s3))], [], 0⟩) k4 r (fun s3 hr => ?_) ?_
  rw [hk4] at hr
  refine Ok.seq (Ok.region (OkOps.y (aS s3) (OkOps.y (aS s3) (OkOps.nil (Ok.ret ?_)))))
  obtain rfl := Option.some.inj hr
  exact ⟨_, rfl, .inl rfl, trivial⟩
  clear hk4
  refine Ok.seq (Ok.region (OkOps.y (.c (.d (.mp true (encM (kInt .i64) Node.cs x1.1)))) (OkOps.y (aI id) ?_)))
  obtain ⟨x5, hx5, hr⟩ := bind_some hr
  refine OkOps.q (triCl (tau []) (.s (.c (.d (.sl (List.map (eInt .i64) x5))))) [] (vw_path_c _ _ hx5) rfl ⟨.inl rfl, .inl rfl, trivial⟩ trivial entry56 trivial) (OkOps.q (triLen (enc := (eInt .i64)) x5 rfl rfl trivial rfl) (OkOps.y (aI 0) (OkOps.nil (Ok.block (Ok.loopK (fun (s6 : Str × Int) => ⟨[(5, .s (.c (.d (.mp true (encM (kInt .i64) Node.cs x1.1))))), (7, .s (aS s6.1)), (24, .s (.c (.d (.sl (List.map (eInt .i64) x5))))), (25, .s (aI (x5.length : Int))), (26, .s (aI s6.2))], [], 0⟩) hr (Conv.mk (tau []) ⟨⟨_, rfl, .inl rfl⟩, ⟨_, rfl, .inl rfl⟩, ⟨_, rfl, .inl rfl⟩, ⟨_, rfl, .inl rfl⟩, ⟨_, rfl, .inl rfl⟩, trivial⟩ trivial rfl rfl rfl rfl) ?_)))))
  clear hr
  intro again7 s6 hr
  unfold vw_PathName_L2 at hr
  refine Ok.seq (Ok.region (OkOps.y (aB (decide (s6.2 < (x5.length : Int)))) (OkOps.nil (Ok.seq ?_))))
  refine Ok.cond (b := decide (s6.2 < (x5.length : Int))) rfl (fun h8 => ?_) (fun h8 => ?_)
  have hr := selT h8 hr
  refine Ok.skip ?_
  obtain ⟨k10, hk10, hr⟩ := jn_some hr
  refine Ok.join (fun (s9 : Str) => ⟨[(5, .s (.c (.d (.mp true (encM (kInt .i64) Node.cs x1.1))))), (7, .s (aS s9)), (24, .s (.c (.d (.sl (List.map (eInt .i64) x5))))), (25, .s (aI (x5.length : Int))), (26, .s (aI s6.2))], [], 0⟩) k10 r (fun s9 hr => ?_) ?_
  rw [hk10] at hr
  refine Ok.region (OkOps.y (aI (IntKind.i64.wrap (s6.2 + 1))) (OkOps.y (aI (IntKind.i64.wrap (s6.2 + 1))) (OkOps.nil ?_)))
  exact ⟨(s9, IntKind.i64.wrap (s6.2 + 1)), hr, (Conv.mk (tau []) ⟨⟨_, rfl, .inl rfl⟩, ⟨_, rfl, .inl rfl⟩, ⟨_, rfl, .inl rfl⟩, ⟨_, rfl, .inl rfl⟩, ⟨_, rfl, .inl rfl⟩, trivial⟩ trivial rfl rfl rfl rfl)⟩
  clear hk10
  refine Ok.block (Ok.seq (Ok.region ?_))
  obtain ⟨x11, hx11, hr⟩ := bind_some hr
  refine OkOps.q (triIdx (enc := (eInt .i64)) (L := x5) (row := [dI x11]) hx11 rfl rfl rfl rfl (fun _ => rfl) trivial rfl) (OkOps.y (aI x11) (OkOps.y (aI x11) (OkOps.nil (Ok.seq (Ok.region (OkOps.y (.c (.d (.mp true (encM (kInt .i64) Node.cs x1.1)))) (OkOps.y (aI x11) ?_)))))))
  obtain ⟨x12, hx12, hr⟩ := bind_some hr
  refine OkOps.q (triLook (agg := true) (ek := (kInt .i64)) (ev := Node.cs) (L := x1.1) (r := .agg [cI x12.1.ID, cI x12.1.Parent, cI x12.1.Kind, cS x12.1.Key, .d (.sl (List.map Attr.cs x12.1.Attrs)), .d (.sl (List.map Action.cs x12.1.Actions)), .d (.sl (List.map (eInt .i64) x12.1.Kids))]) hx12 rfl rfl rfl (keyInt Tryd.underlying3) rfl rfl (fun h => by cases h) rfl trivial rfl) ?_
  refine OkOps.m 0 (triAlloc (j := 1) (cs := [cI 0, cI 0, cI 0, cS ByteArray.empty, .d (.v (.slice none 0 0)), .d (.v (.slice none 0 0)), .d (.v (.slice none 0 0))]) rfl rfl rfl rfl) (OkOps.w (triStore (cs' := [cI x12.1.ID, cI x12.1.Parent, cI x12.1.Kind, cS x12.1.Key, .d (.sl (List.map Attr.cs x12.1.Attrs)), .d (.sl (List.map Action.cs x12.1.Actions)), .d (.sl (List.map (eInt .i64) x12.1.Kids))]) rfl rfl rfl rfl rfl rfl rfl rfl rfl) (OkOps.nil (Ok.seq (Ok.seq (Ok.region (OkOps.y (.c (.loc 1 3)) (OkOps.y (aS x12.1.Key) (OkOps.y (aB (!(x12.1.Key.toList == (ByteArray.mk #[]).toList))) (OkOps.nil ?_)))))))))
  refine Ok.cond (b := !(x12.1.Key.toList == (ByteArray.mk #[]).toList)) rfl (fun h13 => ?_) (fun h13 => ?_)
  have hr := selT h13 hr
  refine Ok.seq (Ok.region (OkOps.y (aS s6.1) (OkOps.y (.c (.loc 1 3)) (OkOps.y (aS x12.1.Key) ?_))))
  obtain ⟨x14, hx14, hr⟩ := bind_some hr
  refine OkOps.q (triCat hx14 rfl rfl trivial rfl) ?_
  obtain ⟨x15, hx15, hr⟩ := bind_some hr
  refine OkOps.q (triCat hx15 rfl rfl trivial rfl) (OkOps.y (aS x15) (OkOps.nil (Ok.exit ?_)))
  exact ⟨x15, hr, (Conv.mk (tau []) ⟨⟨_, rfl, .inl rfl⟩, ⟨_, rfl, .inl rfl⟩, ⟨_, rfl, .inl rfl⟩, ⟨_, rfl, .inl rfl⟩, ⟨_, rfl, .inl rfl⟩, trivial⟩ trivial rfl rfl rfl rfl)⟩
  have hr := selF h13 hr
  refine Ok.skip (Ok.seq (Ok.region (OkOps.y (aI 0) (OkOps.nil ?_))))
  obtain ⟨k17, hk17, hr⟩ := jn_some hr
  refine Ok.join (fun (s16 : Int) => ⟨[(5, .s (.c (.d (.mp true (encM (kInt .i64) Node.cs x1.1))))), (7, .s (aS s6.1)), (10, .s (.c (.loc 1 0))), (11, .s (aI s16)), (24, .s (.c (.d (.sl (List.map (eInt .i64) x5))))), (25, .s (aI (x5.length : Int))), (26, .s (aI s6.2))], [(1, .blk [cI x12.1.ID, cI x12.1.Parent, cI x12.1.Kind, cS x12.1.Key, .d (.sl (List.map Attr.cs x12.1.Attrs)), .d (.sl (List.map Action.cs x12.1.Actions)), .d (.sl (List.map (eInt .i64) x12.1.Kids))] 55)], 0⟩) k17 r (fun s16 hr => ?_) ?_
  rw [hk17] at hr
  refine Ok.region (OkOps.y (aS s6.1) (OkOps.y (.c (.loc 1 2)) (OkOps.y (aI x12.1.Kind) ?_)))
  obtain ⟨x18, hx18, hr⟩ := bind_some hr
  refine OkOps.q (triCl (tau []) (.s (aS x18)) [] (strconv_Itoa_c _ hx18) rfl ⟨.inl rfl, trivial⟩ trivial entry57 trivial) ?_
  obtain ⟨x19, hx19, hr⟩ := bind_some hr
  refine OkOps.q (triCat hx19 rfl rfl trivial rfl) ?_
  obtain ⟨x20, hx20, hr⟩ := bind_some hr
  refine OkOps.q (triCat hx20 rfl rfl trivial rfl) (OkOps.y (aI s16) ?_)
  obtain ⟨x21, hx21, hr⟩ := bind_some hr
  refine OkOps.q (triCl (tau []) (.s (aS x21)) [] (strconv_Itoa_c _ hx21) rfl ⟨.inl rfl, trivial⟩ trivial entry57 trivial) ?_
  obtain ⟨x22, hx22, hr⟩ := bind_some hr
  refine OkOps.q (triCat hx22 rfl rfl trivial rfl) ?_
  obtain ⟨x23, hx23, hr⟩ := bind_some hr
  refine OkOps.q (triCat hx23 rfl rfl trivial rfl) (OkOps.y (aS x23) (OkOps.nil ?_))
  exact ⟨x23, hr, (Conv.mk (tau []) ⟨⟨_, rfl, .inl rfl⟩, ⟨_, rfl, .inl rfl⟩, ⟨_, rfl, .inl rfl⟩, ⟨_, rfl, .inl rfl⟩, ⟨_, rfl, .inl rfl⟩, trivial⟩ trivial rfl rfl rfl rfl)⟩
  clear hk17
  refine Ok.seq (Ok.region (OkOps.y (.c (.d (.mp true (encM (kInt .i64) Node.cs x1.1)))) (OkOps.y (.c (.loc 1 1)) (OkOps.y (aI x12.1.Parent) ?_))))
  obtain ⟨x24, hx24, hr⟩ := bind_some hr
  refine OkOps.q (triLook (agg := true) (ek := (kInt .i64)) (ev := Node.cs) (L := x1.1) (r := .agg [cI x24.1.ID, cI x24.1.Parent, cI x24.1.Kind, cS x24.1.Key, .d (.sl (List.map Attr.cs x24.1.Attrs)), .d (.sl (List.map Action.cs x24.1.Actions)), .d (.sl (List.map (eInt .i64) x24.1.Kids))]) hx24 rfl rfl rfl (keyInt Tryd.underlying3) rfl rfl (fun h => by cases h) rfl trivial rfl) ?_
  refine OkOps.y (.c (.d (.sl (List.map (eInt .i64) x24.1.Kids)))) (OkOps.q (triLen (enc := (eInt .i64)) x24.1.Kids rfl rfl trivial rfl) (OkOps.y (aI 0) (OkOps.nil (Ok.block (Ok.loopK (fun (s25 : Int × Int) => ⟨[(5, .s (.c (.d (.mp true (encM (kInt .i64) Node.cs x1.1))))), (7, .s (aS s6.1)), (9, .s (aI x11)), (10, .s (.c (.loc 1 0))), (11, .s (aI s25.1)), (24, .s (.c (.d (.sl (List.map (eInt .i64) x5))))), (25, .s (aI (x5.length : Int))), (26, .s (aI s6.2)), (45, .s (.c (.d (.sl (List.map (eInt .i64) x24.1.Kids))))), (46, .s (aI (x24.1.Kids.length : Int))), (47, .s (aI s25.2))], [(1, .blk [cI x12.1.ID, cI x12.1.Parent, cI x12.1.Kind, cS x12.1.Key, .d (.sl (List.map Attr.cs x12.1.Attrs)), .d (.sl (List.map Action.cs x12.1.Actions)), .d (.sl (List.map (eInt .i64) x12.1.Kids))] 55)], 0⟩) hr (Conv.mk (tau []) ⟨⟨_, rfl, .inl rfl⟩, ⟨_, rfl, .inl rfl⟩, ⟨_, rfl, .inl rfl⟩, ⟨_, rfl, .inl rfl⟩, ⟨_, rfl, .inl rfl⟩, ⟨_, rfl, .inl rfl⟩, ⟨_, rfl, .inl rfl⟩, ⟨_, rfl, .inl rfl⟩, ⟨_, rfl, .inl rfl⟩, ⟨_, rfl, .inl rfl⟩, ⟨_, rfl, .inl rfl⟩, trivial⟩ ⟨rfl, trivial⟩ rfl rfl rfl rfl) ?_)))))
  clear hr
  intro again26 s25 hr
  unfold vw_PathName_L1 at hr
  refine Ok.seq (Ok.region (OkOps.y (aB (decide (s25.2 < (x24.1.Kids.length : Int)))) (OkOps.nil (Ok.seq ?_))))
  refine Ok.cond (b := decide (s25.2 < (x24.1.Kids.length : Int))) rfl (fun h27 => ?_) (fun h27 => ?_)
  have hr := selT h27 hr
  refine Ok.skip ?_
  obtain ⟨k29, hk29, hr⟩ := jn_some hr
  refine Ok.join (fun (s28 : Int) => ⟨[(5, .s (.c (.d (.mp true (encM (kInt .i64) Node.cs x1.1))))), (7, .s (aS s6.1)), (9, .s (aI x11)), (10, .s (.c (.loc 1 0))), (11, .s (aI s28)), (24, .s (.c (.d (.sl (List.map (eInt .i64) x5))))), (25, .s (aI (x5.length : Int))), (26, .s (aI s6.2)), (45, .s (.c (.d (.sl (List.map (eInt .i64) x24.1.Kids))))), (46, .s (aI (x24.1.Kids.length : Int))), (47, .s (aI s25.2))], [(1, .blk [cI x12.1.ID, cI x12.1.Parent, cI x12.1.Kind, cS x12.1.Key, .d (.sl (List.map Attr.cs x12.1.Attrs)), .d (.sl (List.map Action.cs x12.1.Actions)), .d (.sl (List.map (eInt .i64) x12.1.Kids))] 55)], 0⟩) k29 r (fun s28 hr => ?_) ?_
  rw [hk29] at hr
  refine Ok.region (OkOps.y (aI (IntKind.i64.wrap (s25.2 + 1))) (OkOps.y (aI (IntKind.i64.wrap (s25.2 + 1))) (OkOps.nil ?_)))
  exact ⟨(s28, IntKind.i64.wrap (s25.2 + 1)), hr, (Conv.mk (tau []) ⟨⟨_, rfl, .inl rfl⟩, ⟨_, rfl, .inl rfl⟩, ⟨_, rfl, .inl rfl⟩, ⟨_, rfl, .inl rfl⟩, ⟨_, rfl, .inl rfl⟩, ⟨_, rfl, .inl rfl⟩, ⟨_, rfl, .inl rfl⟩, ⟨_, rfl, .inl rfl⟩, ⟨_, rfl, .inl rfl⟩, ⟨_, rfl, .inl rfl⟩, ⟨_, rfl, .inl rfl⟩, trivial⟩ ⟨rfl, trivial⟩ rfl rfl rfl rfl)⟩
  clear hk29
  refine Ok.block (Ok.seq (Ok.region ?_))
  obtain ⟨x30, hx30, hr⟩ := bind_some hr
  refine OkOps.q (triIdx (enc := (eInt .i64)) (L := x24.1.Kids) (row := [dI x30]) hx30 rfl rfl rfl rfl (fun _ => rfl) trivial rfl) (OkOps.y (aI x30) (OkOps.y (aI x30) (OkOps.nil (Ok.seq (Ok.seq (Ok.region (OkOps.y (aI x30) (OkOps.y (aI x11) (OkOps.y (aB (x30 == x11)) (OkOps.nil ?_))))))))))
  refine Ok.cond (b := x30 == x11) rfl (fun h31 => ?_) (fun h31 => ?_)
  have hr := selT h31 hr
  refine Ok.exit ?_
  exact ⟨s25.1, hr, (Conv.mk (tau []) ⟨⟨_, rfl, .inl rfl⟩, ⟨_, rfl, .inl rfl⟩, ⟨_, rfl, .inl rfl⟩, ⟨_, rfl, .inl rfl⟩, ⟨_, rfl, .inl rfl⟩, ⟨_, rfl, .inl rfl⟩, ⟨_, rfl, .inl rfl⟩, trivial⟩ ⟨rfl, trivial⟩ rfl rfl rfl rfl)⟩
  have hr := selF h31 hr
  refine Ok.skip (Ok.seq (Ok.region (OkOps.y (.c (.d (.mp true (encM (kInt .i64) Node.cs x1.1)))) (OkOps.y (aI x30) ?_))))
  obtain ⟨x32, hx32, hr⟩ := bind_some hr
  refine OkOps.q (triLook (agg := true) (ek := (kInt .i64)) (ev := Node.cs) (L := x1.1) (r := .agg [cI x32.1.ID, cI x32.1.Parent, cI x32.1.Kind, cS x32.1.Key, .d (.sl (List.map Attr.cs x32.1.Attrs)), .d (.sl (List.map Action.cs x32.1.Actions)), .d (.sl (List.map (eInt .i64) x32.1.Kids))]) hx32 rfl rfl rfl (keyInt Tryd.underlying3) rfl rfl (fun h => by cases h) rfl trivial rfl) ?_
  refine OkOps.m 0 (triAlloc (j := 2) (cs := [cI 0, cI 0, cI 0, cS ByteArray.empty, .d (.v (.slice none 0 0)), .d (.v (.slice none 0 0)), .d (.v (.slice none 0 0))]) rfl rfl rfl rfl) (OkOps.w (triStore (cs' := [cI x32.1.ID, cI x32.1.Parent, cI x32.1.Kind, cS x32.1.Key, .d (.sl (List.map Attr.cs x32.1.Attrs)), .d (.sl (List.map Action.cs x32.1.Actions)), .d (.sl (List.map (eInt .i64) x32.1.Kids))]) rfl rfl rfl rfl rfl rfl rfl rfl rfl) (OkOps.nil (Ok.seq (Ok.region (OkOps.y (.c (.loc 2 3)) (OkOps.y (aS x32.1.Key) (OkOps.y (aB (x32.1.Key.toList == (ByteArray.mk #[]).toList)) (OkOps.y (aB (x32.1.Key.toList == (ByteArray.mk #[]).toList)) (OkOps.q (triQG (x := .c (.loc 2 2)) rfl rfl trivial rfl) (OkOps.q (triQG (x := aI x32.1.Kind) rfl rfl ⟨fun h => h, trivial⟩ rfl) (OkOps.q (triQG (x := .c (.loc 1 2)) rfl rfl trivial rfl) (OkOps.q (triQG (x := aI x12.1.Kind) rfl rfl ⟨fun h => h, trivial⟩ rfl) (OkOps.q (triQG (x := aB (x32.1.Kind == x12.1.Kind)) rfl rfl ⟨fun h => h, ⟨fun h => h, trivial⟩⟩ rfl) (OkOps.q (triAnd rfl rfl (fun h => h) rfl) (OkOps.nil ?_)))))))))))))))
  refine Ok.cond (b := (x32.1.Key.toList == (ByteArray.mk #[]).toList) && (x32.1.Kind == x12.1.Kind)) rfl (fun h33 => ?_) (fun h33 => ?_)
  have hr := selT h33 hr
  refine Ok.region (OkOps.y (aI s25.1) (OkOps.y (aI (IntKind.i64.wrap (s25.1 + 1))) (OkOps.y (aI (IntKind.i64.wrap (s25.1 + 1))) (OkOps.nil ?_))))
  exact ⟨IntKind.i64.wrap (s25.1 + 1), hr, (Conv.mk (tau []) ⟨⟨_, rfl, .inl rfl⟩, ⟨_, rfl, .inl rfl⟩, ⟨_, rfl, .inl rfl⟩, ⟨_, rfl, .inl rfl⟩, ⟨_, rfl, .inl rfl⟩, ⟨_, rfl, .inl rfl⟩, ⟨_, rfl, .inl rfl⟩, ⟨_, rfl, .inl rfl⟩, ⟨_, rfl, .inl rfl⟩, ⟨_, rfl, .inl rfl⟩, ⟨_, rfl, .inl rfl⟩, trivial⟩ ⟨rfl, trivial⟩ rfl rfl rfl rfl)⟩
  have hr := selF h33 hr
  refine Ok.skip ?_
  exact ⟨s25.1, hr, (Conv.mk (tau []) ⟨⟨_, rfl, .inl rfl⟩, ⟨_, rfl, .inl rfl⟩, ⟨_, rfl, .inl rfl⟩, ⟨_, rfl, .inl rfl⟩, ⟨_, rfl, .inl rfl⟩, ⟨_, rfl, .inl rfl⟩, ⟨_, rfl, .inl rfl⟩, ⟨_, rfl, .inl rfl⟩, ⟨_, rfl, .inl rfl⟩, ⟨_, rfl, .inl rfl⟩, ⟨_, rfl, .inl rfl⟩, trivial⟩ ⟨rfl, trivial⟩ rfl rfl rfl rfl)⟩
  have hr := selF h27 hr
  refine Ok.exit ?_
  exact ⟨s25.1, hr, (Conv.mk (tau []) ⟨⟨_, rfl, .inl rfl⟩, ⟨_, rfl, .inl rfl⟩, ⟨_, rfl, .inl rfl⟩, ⟨_, rfl, .inl rfl⟩, ⟨_, rfl, .inl rfl⟩, ⟨_, rfl, .inl rfl⟩, ⟨_, rfl, .inl rfl⟩, trivial⟩ ⟨rfl, trivial⟩ rfl rfl rfl rfl)⟩
  have hr := selF h8 hr
  refine Ok.exit ?_
  exact ⟨s6.1, hr, (Conv.mk (tau []) ⟨⟨_, rfl, .inl rfl⟩, trivial⟩ trivial rfl rfl rfl rfl)⟩
theorem entry25 : Entry Tryd.prog 25 := ⟨_, Tryd.func25, by kernel_rfl, by kernel_rfl⟩
end Go.Proofs.YtcfegecdlbbeaaaDoor
end
section
set_option maxRecDepth 100000
namespace Go.Proofs.YtcfegecdlbbeaaaDoor
open Go Go.E2
theorem entry58 : Entry Tryd.prog 58 := ⟨_, Tryd.func58, by kernel_rfl, by kernel_rfl⟩
theorem vw_Build_1_B_c (self0 : View → Int → Tree → Option (Int × Tree)) (hself0 : ∀ (v : View) (parent : Int) (c0 : Tree) {r : Int × Tree}, self0 v parent c0 = some r → Con Tryd.prog 58 [.agg [cI v.Kind, cS v.Key, .d (.sl (List.map Attr.cs v.Attrs)), .d (.sl (List.map Action.cs v.Actions)), .d (.sl (List.map View.cs v.Kids))], aI parent, .c (.loc 0 0), .c (.loc 2 0)] [(0, .blk [cI c0.Root, cI c0.Next, .own 1] 51), (1, .vec 7 (List.map Node.cs c0.Nodes)), (2, .blk [.fn 58 [(0, 0), (2, 0)]] 93)] (.s (aI r.1)) [(0, .blk [cI r.2.Root, cI r.2.Next, .own 3000] 51), (2, .blk [.fn 58 [(0, 0), (2, 0)]] 93), (1, .dead), (3000, .vec 7 (List.map Node.cs r.2.Nodes))]) (v : View) (parent : Int) (c0 : Tree) {r : Int × Tree} (hr : vw_Build_1_B self0 v parent c0 = some r) : Con Tryd.prog 58 [.agg [cI v.Kind, cS v.Key, .d (.sl (List.map Attr.cs v.Attrs)), .d (.sl (List.map Action.cs v.Actions)), .d (.sl (List.map View.cs v.Kids))], aI parent, .c (.loc 0 0), .c (.loc 2 0)] [(0, .blk [cI c0.Root, cI c0.Next, .own 1] 51), (1, .vec 7 (List.map Node.cs c0.Nodes)), (2, .blk [.fn 58 [(0, 0), (2, 0)]] 93)] (.s (aI r.1)) [(0, .blk [cI r.2.Root, cI r.2.Next, .own 3000] 51), (2, .blk [.fn 58 [(0, 0), (2, 0)]] 93), (1, .dead), (3000, .vec 7 (List.map Node.cs r.2.Nodes))] := by
  unfold vw_Build_1_B at hr
  refine Con.of_ok 67 0 [.tmp 6] [(0, .s (.agg [cI v.Kind, cS v.Key, .d (.sl (List.map Attr.cs v.Attrs)), .d (.sl (List.map Action.cs v.Actions)), .d (.sl (List.map View.cs v.Kids))])), (1, .s (aI parent)), (2, .s (.c (.loc 0 0))), (3, .s (.c (.loc 2 0)))] Tryd.func58 rfl rfl rfl rfl rfl rfl rfl rfl fun w g M ρ _ => (Ok.seq (Ok.region (OkOps.m 0 (triBox (j := 3) (cs := [cI v.Kind, cS v.Key, .d (.sl (List.map Attr.cs v.Attrs)), .d (.sl (List.map Action.cs v.Actions)), .d (.sl (List.map View.cs v.Kids))]) rfl rfl rfl rfl rfl) (OkOps.y (aI 0) (OkOps.nil (Ok.seq (Ok.regionD (by kernel_rfl) (OkD.x (.c (.loc 0 1)) rfl trivial rfl (OkD.x (aI c0.Next) rfl trivial rfl (OkD.x (.c (.loc 0 2)) rfl trivial rfl (OkD.x (.c (.own 1)) rfl trivial rfl (OkD.q (triLenV (enc := Node.cs) c0.Nodes rfl rfl rfl rfl) (OkD.x (aI c0.Next) rfl trivial rfl (OkD.x (aI (c0.Nodes.length : Int)) rfl trivial rfl (OkD.nil (by kernel_rfl) ?_)))))))))))))))
  refine Ok.seq (Ok.region (OkOps.y (.c (.loc 0 1)) (OkOps.y (aI c0.Next) (OkOps.y (aI (IntKind.i64.wrap (c0.Next + 1))) (OkOps.y (.c (.loc 0 1)) (OkOps.w (triStore (cs' := [cI c0.Root, cI (IntKind.i64.wrap (c0.Next + 1)), .own 1]) rfl rfl rfl rfl rfl rfl rfl rfl rfl) (OkOps.nil (Ok.seq (Ok.region (OkOps.y (.c (.loc 3 2)) (OkOps.y (.c (.d (.sl (List.map Attr.cs v.Attrs)))) (OkOps.y (.c (.loc 3 3)) (OkOps.y (.c (.d (.sl (List.map Action.cs v.Actions)))) ?_)))))))))))))
  obtain ⟨x1, hx1, hr⟩ := bind_some hr
  refine OkOps.q (triCl (tau []) (.tup [.c (.d (.sl (List.map Attr.cs x1.1))), .c (.d (.sl (List.map Action.cs x1.2)))]) [] (vw_copied_c _ _ hx1) rfl ⟨.inl rfl, .inl rfl, trivial⟩ trivial entry59 trivial) (OkOps.q (triMv (v := .tup [.c (.d (.sl (List.map Attr.cs x1.1))), .c (.d (.sl (List.map Action.cs x1.2)))]) rfl rfl) (OkOps.y (.c (.d (.sl (List.map Attr.cs x1.1)))) (OkOps.y (.c (.d (.sl (List.map Action.cs x1.2)))) (OkOps.y (.c (.d (.sl (List.map Attr.cs x1.1)))) (OkOps.y (.c (.d (.sl (List.map Action.cs x1.2)))) (OkOps.nil (Ok.seq (Ok.region (OkOps.y (.c (.loc 0 2)) (OkOps.y (.c (.own 1)) (OkOps.y (aI c0.Next) (OkOps.y (aI parent) (OkOps.y (.c (.loc 3 0)) (OkOps.y (aI v.Kind) (OkOps.y (.c (.loc 3 1)) ?_)))))))))))))))
  refine OkOps.y (aS v.Key) (OkOps.y (.c (.d (.sl (List.map Attr.cs x1.1)))) (OkOps.y (.c (.d (.sl (List.map Action.cs x1.2)))) (OkOps.y (.agg [cI c0.Next, cI parent, cI v.Kind, cS v.Key, .d (.sl (List.map Attr.cs x1.1)), .d (.sl (List.map Action.cs x1.2)), .d (.v (.slice none 0 0))]) (OkOps.m 0 (triBST (sz := 7) (enc := Node.cs) (j := 4) ([(Node.mk c0.Next parent v.Kind v.Key x1.1 x1.2 ([] : (List Int)))]) rfl rfl rfl rfl rfl rfl rfl rfl (fun _ => rfl) trivial rfl rfl) ?_))))
  obtain ⟨x2, hx2, hr⟩ := bind_some hr
  refine OkOps.m2 0 (triAppV (enc := Node.cs) (L := c0.Nodes) (X := [(Node.mk c0.Next parent v.Kind v.Key x1.1 x1.2 ([] : (List Int)))]) (j := 1) (j' := 5) hx2 rfl rfl rfl rfl rfl rfl (fun _ => rfl) (fun _ => rfl) trivial rfl rfl) (OkOps.y (.c (.loc 0 2)) (OkOps.w (triStoreF (cs' := [cI c0.Root, cI (IntKind.i64.wrap (c0.Next + 1)), .own 5]) rfl rfl rfl rfl rfl rfl rfl rfl) (OkOps.nil (Ok.seq (Ok.region (OkOps.y (.c (.d (.v (.slice none 0 0)))) (OkOps.nil ?_)))))))
  obtain ⟨k4, hk4, hr⟩ := jn_some hr
  refine Ok.join (fun (s3 : (List Int) × Int × Int × (List Node)) => ⟨[(2, .s (.c (.loc 0 0))), (7, .s (aI c0.Next)), (8, .s (aI (c0.Nodes.length : Int))), (11, .s (.c (.tl 1007 (List.map (eInt .i64) s3.1))))], [(0, .blk [cI s3.2.1, cI s3.2.2.1, .own 1008] 51), (1, .dead), (2, .blk [.fn 58 [(0, 0), (2, 0)]] 93), (1007, .tail 1), (1008, .vec 7 (List.map Node.cs s3.2.2.2))], 0⟩) k4 r (fun s3 hr => ?_) ?_
  rw [hk4] at hr
  refine Ok.seq (Ok.region (OkOps.y (.c (.loc 0 2)) (OkOps.y (.c (.own 1008)) (OkOps.y (aI (c0.Nodes.length : Int)) (OkOps.y (.c (.tl 1007 (List.map (eInt .i64) s3.1))) ?_)))))
  obtain ⟨x5, hx5, hr⟩ := bind_some hr
  refine OkOps.q (triIdxV (enc := Node.cs) (L := s3.2.2.2) hx5 rfl rfl rfl rfl trivial rfl) (OkOps.q (triFldV (o := 6) (enc := Node.cs) (L := s3.2.2.2) rfl rfl rfl (by have := (ixO_spec hx5).2; omega) rfl) ?_)
  obtain ⟨x6, hx6, hr⟩ := bind_some hr
  refine OkOps.w (triStoreVF (n := 1) (enc := Node.cs) (L := s3.2.2.2) (z := (Node.mk x6.ID x6.Parent x6.Kind x6.Key x6.Attrs x6.Actions s3.1)) hx6 rfl rfl rfl rfl rfl rfl rfl rfl (by decide) (fun _ => rfl) rfl) (OkOps.nil (Ok.seq (Ok.region (OkOps.y (aI c0.Next) (OkOps.y (aI c0.Next) (OkOps.nil (Ok.conv (T := ⟨[(6, .s (aI c0.Next))], [(0, .blk [cI s3.2.1, cI s3.2.2.1, .own 3000] 51), (1, .dead), (2, .blk [.fn 58 [(0, 0), (2, 0)]] 93), (3000, .vec 7 (List.map Node.cs (List.set s3.2.2.2 x5 (Node.mk x6.ID x6.Parent x6.Kind x6.Key x6.Attrs x6.Actions s3.1))))], 0⟩) (Conv.mk (tau [(3000, 1008)]) ⟨⟨_, rfl, .inl rfl⟩, trivial⟩ ⟨rfl, rfl, rfl, trivial⟩ rfl rfl rfl rfl) (Ok.ret ?_))))))))
  obtain rfl := Option.some.inj hr
  exact ⟨_, rfl, .inl rfl, ⟨rfl, rfl, (fun h => by cases h), rfl, trivial⟩⟩
  clear hk4
  refine Ok.seq (Ok.region (OkOps.y (.c (.loc 3 4)) (OkOps.y (.c (.d (.sl (List.map View.cs v.Kids)))) (OkOps.q (triLen (enc := View.cs) v.Kids rfl rfl trivial rfl) (OkOps.y (aI 0) (OkOps.nil (Ok.block (Ok.loopK (fun (s7 : (List Int) × Int × Int × Int × (List Node)) => ⟨[(2, .s (.c (.loc 0 0))), (3, .s (.c (.loc 2 0))), (7, .s (aI c0.Next)), (8, .s (aI (c0.Nodes.length : Int))), (11, .s (.c (.tl 1012 (List.map (eInt .i64) s7.1)))), (46, .s (.c (.d (.sl (List.map View.cs v.Kids))))), (47, .s (aI (v.Kids.length : Int))), (48, .s (aI s7.2.1))], [(0, .blk [cI s7.2.2.1, cI s7.2.2.2.1, .own 1013] 51), (1, .dead), (2, .blk [.fn 58 [(0, 0), (2, 0)]] 93), (1012, .tail 1), (1013, .vec 7 (List.map Node.cs s7.2.2.2.2))], 0⟩) hr (Conv.trans (Conv.nil 11 1016 1 0 rfl rfl) (Conv.mk (tau [(1012, 1016), (1013, 5)]) ⟨⟨_, rfl, .inl rfl⟩, ⟨_, rfl, .inl rfl⟩, ⟨_, rfl, .inl rfl⟩, ⟨_, rfl, .inl rfl⟩, ⟨_, rfl, .inl rfl⟩, ⟨_, rfl, .inl rfl⟩, ⟨_, rfl, .inl rfl⟩, ⟨_, rfl, .inl rfl⟩, trivial⟩ ⟨rfl, rfl, rfl, rfl, trivial⟩ rfl rfl rfl rfl)) ?_))))))))
  clear hr
  intro again8 s7 hr
  unfold vw_Build_1_L1 at hr
  refine Ok.seq (Ok.region (OkOps.y (aB (decide (s7.2.1 < (v.Kids.length : Int)))) (OkOps.nil (Ok.seq ?_))))
  refine Ok.cond (b := decide (s7.2.1 < (v.Kids.length : Int))) rfl (fun h9 => ?_) (fun h9 => ?_)
  have hr := selT h9 hr
  refine Ok.skip (Ok.seq (Ok.block (Ok.seq (Ok.region ?_))))
  obtain ⟨x10, hx10, hr⟩ := bind_some hr
  refine OkOps.q (triIdx (enc := View.cs) (L := v.Kids) (row := [dI x10.Kind, dS x10.Key, .sl (List.map Attr.cs x10.Attrs), .sl (List.map Action.cs x10.Actions), .sl (List.map View.cs x10.Kids)]) hx10 (View.cs_eq _) rfl rfl rfl (fun x => by rw [View.cs_eq]; rfl) trivial rfl) ?_
  refine OkOps.y (.agg [cI x10.Kind, cS x10.Key, .d (.sl (List.map Attr.cs x10.Attrs)), .d (.sl (List.map Action.cs x10.Actions)), .d (.sl (List.map View.cs x10.Kids))]) (OkOps.m 0 (triAlloc (j := 6) (cs := [cI 0, cS ByteArray.empty, .d (.v (.slice none 0 0)), .d (.v (.slice none 0 0)), .d (.v (.slice none 0 0))]) rfl rfl rfl rfl) (OkOps.w (triStore (cs' := [cI x10.Kind, cS x10.Key, .d (.sl (List.map Attr.cs x10.Attrs)), .d (.sl (List.map Action.cs x10.Actions)), .d (.sl (List.map View.cs x10.Kids))]) rfl rfl rfl rfl rfl rfl rfl rfl rfl) (OkOps.nil (Ok.region (OkOps.y (.c (.tl 1012 (List.map (eInt .i64) s7.1))) (OkOps.y (.c (.fn 58 [(0, 0), (2, 0)])) (OkOps.y (.agg [cI x10.Kind, cS x10.Key, .d (.sl (List.map Attr.cs x10.Attrs)), .d (.sl (List.map Action.cs x10.Actions)), .d (.sl (List.map View.cs x10.Kids))]) (OkOps.y (aI c0.Next) ?_))))))))
  obtain ⟨x11, hx11, hr⟩ := bind_some hr
  refine OkOps.wq [(0, .blk [cI x11.2.Root, cI x11.2.Next, .own 7] 51), (2, .blk [.fn 58 [(0, 0), (2, 0)]] 93), (1013, .dead), (7, .vec 7 (List.map Node.cs x11.2.Nodes))] (triCallF (caps := [(0, 0), (2, 0)]) (tau [(0, 0), (1, 1013), (2, 2), (3000, 7)]) (.s (aI x11.1)) [(0, .blk [cI x11.2.Root, cI x11.2.Next, .own 7] 51), (2, .blk [.fn 58 [(0, 0), (2, 0)]] 93), (1013, .dead), (7, .vec 7 (List.map Node.cs x11.2.Nodes))] rfl (hself0 _ _ _ hx11) rfl ⟨.inl rfl, .inl rfl, .inl rfl, .inl rfl, trivial⟩ trivial entry58 ⟨rfl, rfl, rfl, trivial⟩ rfl rfl rfl rfl ⟨rfl, trivial⟩ rfl rfl rfl) (OkOps.m 0 (triBST (sz := 1) (enc := (eInt .i64)) (j := 8) ([x11.1]) rfl rfl rfl rfl rfl rfl rfl rfl (fun _ => rfl) trivial rfl rfl) ?_)
  obtain ⟨x12, hx12, hr⟩ := bind_some hr
  refine OkOps.m2 0 (triApp (enc := (eInt .i64)) (L := s7.1) (X := [x11.1]) (j := 1012) (j' := 9) hx12 rfl rfl rfl rfl rfl rfl (fun _ => rfl) (fun _ => rfl) (by decide) trivial rfl rfl) (OkOps.y (.c (.tl 9 (List.map (eInt .i64) x12))) (OkOps.nil (Ok.region (OkOps.y (aI (IntKind.i64.wrap (s7.2.1 + 1))) (OkOps.y (aI (IntKind.i64.wrap (s7.2.1 + 1))) (OkOps.nil ?_))))))
  exact ⟨(x12, IntKind.i64.wrap (s7.2.1 + 1), x11.2.Root, x11.2.Next, x11.2.Nodes), hr, (Conv.mk (tau [(1012, 9), (1013, 7)]) ⟨⟨_, rfl, .inl rfl⟩, ⟨_, rfl, .inl rfl⟩, ⟨_, rfl, .inl rfl⟩, ⟨_, rfl, .inl rfl⟩, ⟨_, rfl, .inl rfl⟩, ⟨_, rfl, .inl rfl⟩, ⟨_, rfl, .inl rfl⟩, ⟨_, rfl, .inl rfl⟩, trivial⟩ ⟨rfl, rfl, rfl, rfl, trivial⟩ rfl rfl rfl rfl)⟩
  have hr := selF h9 hr
  refine Ok.exit ?_
  exact ⟨(s7.1, s7.2.2.1, s7.2.2.2.1, s7.2.2.2.2), hr, (Conv.mk (tau [(1007, 1012), (1008, 1013)]) ⟨⟨_, rfl, .inl rfl⟩, ⟨_, rfl, .inl rfl⟩, ⟨_, rfl, .inl rfl⟩, ⟨_, rfl, .inl rfl⟩, trivial⟩ ⟨rfl, rfl, rfl, rfl, trivial⟩ rfl rfl rfl rfl)⟩
theorem vw_Build_1_all : ∀ n : Nat, (∀ (v : View) (parent : Int) (c0 : Tree) {r : Int × Tree}, vw_Build_1 n v parent c0 = some r → Con Tryd.prog 58 [.agg [cI v.Kind, cS v.Key, .d (.sl (List.map Attr.cs v.Attrs)), .d (.sl (List.map Action.cs v.Actions)), .d (.sl (List.map View.cs v.Kids))], aI parent, .c (.loc 0 0), .c (.loc 2 0)] [(0, .blk [cI c0.Root, cI c0.Next, .own 1] 51), (1, .vec 7 (List.map Node.cs c0.Nodes)), (2, .blk [.fn 58 [(0, 0), (2, 0)]] 93)] (.s (aI r.1)) [(0, .blk [cI r.2.Root, cI r.2.Next, .own 3000] 51), (2, .blk [.fn 58 [(0, 0), (2, 0)]] 93), (1, .dead), (3000, .vec 7 (List.map Node.cs r.2.Nodes))]) ∧ True := by
  intro n
  induction n with
  | zero => exact ⟨(by intros; rename_i hr; cases hr), trivial⟩
  | succ n ih => exact ⟨(by intros; rename_i hr; exact vw_Build_1_B_c _ ih.1 _ _ _ hr), trivial⟩
theorem vw_Build_1_c (n : Nat) (v : View) (parent : Int) (c0 : Tree) {r : Int × Tree} (hr : vw_Build_1 n v parent c0 = some r) : Con Tryd.prog 58 [.agg [cI v.Kind, cS v.Key, .d (.sl (List.map Attr.cs v.Attrs)), .d (.sl (List.map Action.cs v.Actions)), .d (.sl (List.map View.cs v.Kids))], aI parent, .c (.loc 0 0), .c (.loc 2 0)] [(0, .blk [cI c0.Root, cI c0.Next, .own 1] 51), (1, .vec 7 (List.map Node.cs c0.Nodes)), (2, .blk [.fn 58 [(0, 0), (2, 0)]] 93)] (.s (aI r.1)) [(0, .blk [cI r.2.Root, cI r.2.Next, .own 3000] 51), (2, .blk [.fn 58 [(0, 0), (2, 0)]] 93), (1, .dead), (3000, .vec 7 (List.map Node.cs r.2.Nodes))] := (vw_Build_1_all n).1 v parent c0 hr
theorem vw_Build_c (v : View) (next : Int) {r : Tree × Int} (hr : vw_Build v next = some r) : Con Tryd.prog 26 [.agg [cI v.Kind, cS v.Key, .d (.sl (List.map Attr.cs v.Attrs)), .d (.sl (List.map Action.cs v.Actions)), .d (.sl (List.map View.cs v.Kids))], aI next] [] (.tup [.agg [cI r.1.Root, cI r.1.Next, .d (.sl (List.map Node.cs r.1.Nodes))], aI r.2]) [] := by
  unfold vw_Build at hr
  refine Con.of_ok 30 0 [.cell 4 51, .tmp 5] [(0, .s (.agg [cI v.Kind, cS v.Key, .d (.sl (List.map Attr.cs v.Attrs)), .d (.sl (List.map Action.cs v.Actions)), .d (.sl (List.map View.cs v.Kids))])), (1, .s (aI next))] Tryd.func26 rfl rfl rfl rfl rfl rfl rfl rfl fun w g M ρ _ => (Ok.seq (Ok.region (OkOps.m 0 (triBox (j := 0) (cs := [cI v.Kind, cS v.Key, .d (.sl (List.map Attr.cs v.Attrs)), .d (.sl (List.map Action.cs v.Actions)), .d (.sl (List.map View.cs v.Kids))]) rfl rfl rfl rfl rfl) (OkOps.m 0 (triAlloc (j := 1) (cs := [cI 0, cI 0, .d (.v (.slice none 0 0))]) rfl rfl rfl rfl) (OkOps.y (aI 0) (OkOps.nil (Ok.seq (Ok.seq (Ok.region (OkOps.y (.agg [cI v.Kind, cS v.Key, .d (.sl (List.map Attr.cs v.Attrs)), .d (.sl (List.map Action.cs v.Actions)), .d (.sl (List.map View.cs v.Kids))]) ?_))))))))))
  obtain ⟨x1, hx1, hr⟩ := bind_some hr
  refine OkOps.q (triCl (tau []) (.s (aI x1)) [] (vw_Validate_c _ hx1) rfl ⟨.inl rfl, trivial⟩ trivial entry17 trivial) (OkOps.y (aI x1) (OkOps.nil (Ok.seq (Ok.region (OkOps.y (aI x1) (OkOps.y (aB (x1 != 0)) (OkOps.nil ?_)))))))
  refine Ok.cond (b := x1 != 0) rfl (fun h2 => ?_) (fun h2 => ?_)
  have hr := selT h2 hr
  refine Ok.seq (Ok.region (OkOps.y (.agg [cI 0, cI 0, .d (.v (.slice none 0 0))]) (OkOps.y (aI x1) (OkOps.w (triStore (cs' := [cI 0, cI 0, .d (.v (.slice none 0 0))]) rfl rfl rfl rfl rfl rfl rfl rfl rfl) (OkOps.y (aI x1) (OkOps.nil (Ok.ret ?_)))))))
  obtain rfl := Option.some.inj hr
  exact ⟨_, rfl, .inr rfl, trivial⟩
  have hr := selF h2 hr
  refine Ok.skip (Ok.seq (Ok.seq (Ok.region (OkOps.y (aI next) (OkOps.y (aB (decide (next < 1))) (OkOps.y (aB (decide (next < 1))) (OkOps.q (triQG (x := aI next) rfl rfl trivial rfl) (OkOps.q (triQG (x := aB (decide (next > 1099511627376))) rfl rfl ⟨fun h => h, trivial⟩ rfl) ?_))))))))
  refine OkOps.q (triOr rfl rfl (fun h => by rw [h]; rfl) rfl) ?_
  refine OkOps.nil ?_
  refine Ok.cond (b := (decide (next < 1)) || (decide (next > 1099511627376))) rfl (fun h3 => ?_) (fun h3 => ?_)
  have hr := selT h3 hr
  refine Ok.seq (Ok.region (OkOps.y (.agg [cI 0, cI 0, .d (.v (.slice none 0 0))]) (OkOps.w (triStore (cs' := [cI 0, cI 0, .d (.v (.slice none 0 0))]) rfl rfl rfl rfl rfl rfl rfl rfl rfl) (OkOps.y (aI 1) (OkOps.nil (Ok.ret ?_))))))
  obtain rfl := Option.some.inj hr
  exact ⟨_, rfl, .inr rfl, trivial⟩
  have hr := selF h3 hr
  refine Ok.skip (Ok.seq (Ok.region (OkOps.y (aI next) (OkOps.y (aI next) (OkOps.y (.agg [cI next, cI next, .d (.v (.slice none 0 0))]) (OkOps.m 0 (triAlloc (j := 2) (cs := [cI 0, cI 0, .d (.v (.slice none 0 0))]) rfl rfl rfl rfl) (OkOps.w (triStore (cs' := [cI next, cI next, .d (.v (.slice none 0 0))]) rfl rfl rfl rfl rfl rfl rfl rfl rfl) (OkOps.nil (Ok.seq (Ok.region (OkOps.m 0 (triAlloc (j := 3) (cs := [.d (.v .nilFunc)]) rfl rfl rfl rfl) (OkOps.nil (Ok.seq (Ok.region (OkOps.q (triMkF [(2, 0), (3, 0)] rfl trivial rfl) ?_)))))))))))))))
  refine OkOps.w (triStore (cs' := [.fn 58 [(2, 0), (3, 0)]]) rfl rfl rfl rfl rfl rfl rfl rfl rfl) (OkOps.nil (Ok.seq (Ok.region (OkOps.y (.c (.fn 58 [(2, 0), (3, 0)])) (OkOps.y (.agg [cI v.Kind, cS v.Key, .d (.sl (List.map Attr.cs v.Attrs)), .d (.sl (List.map Action.cs v.Actions)), .d (.sl (List.map View.cs v.Kids))]) (OkOps.conv (Conv.nilB 2 2 4 (.vec 7 (List.map Node.cs ([] : (List Node)))) (.own 4) [cI next, cI next, .d (.v (.slice none 0 0))] [cI next, cI next, .own 4] 51 0 rfl rfl rfl rfl (nil_vec Node.cs 7 4) (fun _ _ h => h.symm)) ?_))))))
  obtain ⟨x4, hx4, hr⟩ := bind_some hr
  refine OkOps.wq [(2, .blk [cI x4.2.Root, cI x4.2.Next, .own 5] 51), (3, .blk [.fn 58 [(2, 0), (3, 0)]] 93), (4, .dead), (5, .vec 7 (List.map Node.cs x4.2.Nodes))] (triCallF (caps := [(2, 0), (3, 0)]) (tau [(0, 2), (1, 4), (2, 3), (3000, 5)]) (.s (aI x4.1)) [(2, .blk [cI x4.2.Root, cI x4.2.Next, .own 5] 51), (3, .blk [.fn 58 [(2, 0), (3, 0)]] 93), (4, .dead), (5, .vec 7 (List.map Node.cs x4.2.Nodes))] rfl (vw_Build_1_c _ _ _ _ hx4) rfl ⟨.inl rfl, .inl rfl, .inl rfl, .inl rfl, trivial⟩ trivial entry58 ⟨rfl, rfl, rfl, trivial⟩ rfl rfl rfl rfl ⟨rfl, trivial⟩ rfl rfl rfl) (OkOps.nil (Ok.seq (Ok.region (OkOps.y (.agg [cI x4.2.Root, cI x4.2.Next, .own 5]) (OkOps.w (triStoreF (cs' := [cI x4.2.Root, cI x4.2.Next, .own 5]) rfl rfl rfl rfl rfl rfl rfl rfl) (OkOps.y (aI 0) (OkOps.nil (Ok.conv (Conv.freezeV (enc := Node.cs) (L := x4.2.Nodes) [(29, .s (.agg [cI x4.2.Root, cI x4.2.Next, .d (.sl (List.map Node.cs x4.2.Nodes))]))] [(1, .blk [cI x4.2.Root, cI x4.2.Next, .d (.sl (List.map Node.cs x4.2.Nodes))] 51), (2, .blk [cI x4.2.Root, cI x4.2.Next, .d (.sl (List.map Node.cs x4.2.Nodes))] 51)] 5 0 rfl (fun _ => rfl) ⟨⟨_, rfl, rfl⟩, trivial⟩ ⟨⟨_, _, rfl, rfl⟩, ⟨_, _, rfl, rfl⟩, trivial⟩) (Ok.ret ?_)))))))))
  obtain rfl := Option.some.inj hr
  exact ⟨_, rfl, .inl rfl, trivial⟩
theorem entry26 : Entry Tryd.prog 26 := ⟨_, Tryd.func26, by kernel_rfl, by kernel_rfl⟩
theorem l14_awake_c  {r : Bool} (hr : l14_awake  = some r) : Con Tryd.prog 14 [] [] (.s (aB r)) [] := by
  unfold l14_awake at hr
  refine Con.of_ok 41 0 [.tmp 0] [] Tryd.func14 rfl rfl rfl rfl rfl rfl rfl rfl fun w g M ρ _ => (Ok.seq (Ok.region (OkOps.y (aB false) (OkOps.nil (Ok.seq (Ok.region (OkOps.y (.agg [cI 2, cS ByteArray.empty, .d (.v (.slice none 0 0)), .d (.v (.slice none 0 0)), .d (.v (.slice none 0 0))]) (OkOps.y (.agg [cI 3, cS (ByteArray.mk #[98]), .d (.v (.slice none 0 0)), .d (.v (.slice none 0 0)), .d (.v (.slice none 0 0))]) ?_))))))))
  refine OkOps.m 0 (triBST (sz := 5) (enc := View.cs) (j := 0) ([(View.mk 2 ByteArray.empty ([] : (List Attr)) ([] : (List Action)) ([] : (List View))), (View.mk 3 (ByteArray.mk #[98]) ([] : (List Attr)) ([] : (List Action)) ([] : (List View)))]) rfl rfl rfl rfl rfl (rows := [[dI 2, dS ByteArray.empty, .sl [], .sl [], .sl []], [dI 3, dS (ByteArray.mk #[98]), .sl [], .sl [], .sl []]]) (by simp only [List.map, View.cs_eq]) rfl rfl (fun x => by rw [View.cs_eq]; rfl) trivial rfl rfl) ?_
  refine OkOps.y (.agg [cI 1, cS ByteArray.empty, .d (.v (.slice none 0 0)), .d (.v (.slice none 0 0)), .tl 0 (List.map View.cs ([(View.mk 2 ByteArray.empty ([] : (List Attr)) ([] : (List Action)) ([] : (List View))), (View.mk 3 (ByteArray.mk #[98]) ([] : (List Attr)) ([] : (List Action)) ([] : (List View)))]))]) (OkOps.m 0 (triAlloc (j := 1) (cs := [cI 0, cS ByteArray.empty, .d (.v (.slice none 0 0)), .d (.v (.slice none 0 0)), .d (.v (.slice none 0 0))]) rfl rfl rfl rfl) (OkOps.w (triStore (cs' := [cI 1, cS ByteArray.empty, .d (.v (.slice none 0 0)), .d (.v (.slice none 0 0)), .tl 0 (List.map View.cs ([(View.mk 2 ByteArray.empty ([] : (List Attr)) ([] : (List Action)) ([] : (List View))), (View.mk 3 (ByteArray.mk #[98]) ([] : (List Attr)) ([] : (List Action)) ([] : (List View)))]))]) rfl rfl rfl rfl rfl rfl rfl rfl rfl) (OkOps.nil (Ok.seq (Ok.region (OkOps.y (.agg [cI 1, cS ByteArray.empty, .d (.v (.slice none 0 0)), .d (.v (.slice none 0 0)), .tl 0 (List.map View.cs ([(View.mk 2 ByteArray.empty ([] : (List Attr)) ([] : (List Action)) ([] : (List View))), (View.mk 3 (ByteArray.mk #[98]) ([] : (List Attr)) ([] : (List Action)) ([] : (List View)))]))]) ?_))))))
  obtain ⟨x1, hx1, hr⟩ := bind_some hr
  refine OkOps.q (triCl (tau []) (.tup [.agg [cI x1.1.Root, cI x1.1.Next, .d (.sl (List.map Node.cs x1.1.Nodes))], aI x1.2]) [] (vw_Build_c _ _ hx1) rfl ⟨.inr rfl, .inl rfl, trivial⟩ trivial entry26 trivial) (OkOps.q (triMv (v := .tup [.agg [cI x1.1.Root, cI x1.1.Next, .d (.sl (List.map Node.cs x1.1.Nodes))], aI x1.2]) rfl rfl) (OkOps.y (.agg [cI x1.1.Root, cI x1.1.Next, .d (.sl (List.map Node.cs x1.1.Nodes))]) (OkOps.y (aI x1.2) (OkOps.m 0 (triAlloc (j := 2) (cs := [cI 0, cI 0, .d (.v (.slice none 0 0))]) rfl rfl rfl rfl) (OkOps.w (triStore (cs' := [cI x1.1.Root, cI x1.1.Next, .d (.sl (List.map Node.cs x1.1.Nodes))]) rfl rfl rfl rfl rfl rfl rfl rfl rfl) (OkOps.y (aI x1.2) (OkOps.nil (Ok.seq (Ok.region (OkOps.y (aI x1.2) (OkOps.y (aB (x1.2 == 0)) (OkOps.y (aB (x1.2 == 0)) (OkOps.q (triQG (x := .c (.loc 2 2)) rfl rfl trivial rfl) (OkOps.q (triQG (x := .c (.d (.sl (List.map Node.cs x1.1.Nodes)))) rfl rfl ⟨fun h => h, trivial⟩ rfl) (OkOps.q (triLenG (enc := Node.cs) x1.1.Nodes rfl rfl rfl ⟨fun h => h, trivial⟩ rfl) ?_)))))))))))))))
  refine OkOps.q (triQG (x := aB ((x1.1.Nodes.length : Int) == 3)) rfl rfl ⟨fun h => h, trivial⟩ rfl) (OkOps.q (triAnd rfl rfl (fun h => h) rfl) (OkOps.y (aB ((x1.2 == 0) && ((x1.1.Nodes.length : Int) == 3))) (OkOps.q (triQG (x := .c (.loc 2 0)) rfl rfl trivial rfl) (OkOps.q (triQG (x := aI x1.1.Root) rfl rfl ⟨fun h => h, trivial⟩ rfl) (OkOps.q (triQG (x := aB (x1.1.Root == 5)) rfl rfl ⟨fun h => h, trivial⟩ rfl) (OkOps.q (triAnd rfl rfl (fun h => h) rfl) (OkOps.y (aB (((x1.2 == 0) && ((x1.1.Nodes.length : Int) == 3)) && (x1.1.Root == 5))) (OkOps.q (triQG (x := .c (.loc 2 1)) rfl rfl trivial rfl) (OkOps.q (triQG (x := aI x1.1.Next) rfl rfl ⟨fun h => h, trivial⟩ rfl) (OkOps.q (triQG (x := aB (x1.1.Next == 8)) rfl rfl ⟨fun h => h, trivial⟩ rfl) (OkOps.q (triAnd rfl rfl (fun h => h) rfl) (OkOps.y (aB ((((x1.2 == 0) && ((x1.1.Nodes.length : Int) == 3)) && (x1.1.Root == 5)) && (x1.1.Next == 8))) (OkOps.q (triQG (x := .agg [cI x1.1.Root, cI x1.1.Next, .d (.sl (List.map Node.cs x1.1.Nodes))]) rfl rfl trivial rfl) ?_)))))))))))))
  obtain ⟨x2, hx2, hr⟩ := bind_some hr
  refine OkOps.q (triCallG (x := aS x2) (fun hg => vw_PathName_c _ _ (gO_t hx2 hg)) rfl rfl ⟨.inl rfl, .inl rfl, trivial⟩ ⟨fun h => h, trivial⟩ entry25 rfl rfl rfl) (OkOps.q (triQG (x := aB (x2.toList == (ByteArray.mk #[47, 35, 49, 46, 48, 47, 98]).toList)) rfl rfl ⟨fun h => h, trivial⟩ rfl) (OkOps.q (triAnd rfl rfl (fun h => h) rfl) (OkOps.y (aB (((((x1.2 == 0) && ((x1.1.Nodes.length : Int) == 3)) && (x1.1.Root == 5)) && (x1.1.Next == 8)) && (x2.toList == (ByteArray.mk #[47, 35, 49, 46, 48, 47, 98]).toList))) (OkOps.q (triQG (x := .agg [cI x1.1.Root, cI x1.1.Next, .d (.sl (List.map Node.cs x1.1.Nodes))]) rfl rfl trivial rfl) ?_))))
  obtain ⟨x3, hx3, hr⟩ := bind_some hr
  refine OkOps.q (triCallG (x := aI x3) (fun hg => vw_Check_c _ (gO_t hx3 hg)) rfl rfl ⟨.inl rfl, trivial⟩ ⟨fun h => h, trivial⟩ entry43 rfl rfl rfl) (OkOps.q (triQG (x := aB (x3 == 0)) rfl rfl ⟨fun h => h, trivial⟩ rfl) (OkOps.q (triAnd rfl rfl (fun h => h) rfl) (OkOps.y (aB ((((((x1.2 == 0) && ((x1.1.Nodes.length : Int) == 3)) && (x1.1.Root == 5)) && (x1.1.Next == 8)) && (x2.toList == (ByteArray.mk #[47, 35, 49, 46, 48, 47, 98]).toList)) && (x3 == 0))) (OkOps.nil (Ok.ret ?_)))))
  obtain rfl := Option.some.inj hr
  exact ⟨_, rfl, .inl rfl, trivial⟩
theorem entry14 : Entry Tryd.prog 14 := ⟨_, Tryd.func14, by kernel_rfl, by kernel_rfl⟩
end Go.Proofs.YtcfegecdlbbeaaaDoor
end
section
set_option maxRecDepth 100000
namespace Go.Proofs.YtcfegecdlbbeaaaDoor
open Go Go.E2
theorem entry27 : Entry Tryd.prog 27 := ⟨_, Tryd.func27, by kernel_rfl, by kernel_rfl⟩
theorem l14_load_B_c (self0 : AValue → Int → Option Int) (hself0 : ∀ (v : AValue) (left : Int) {r : Int}, self0 v left = some r → Con Tryd.prog 27 [.agg [cI v.Kind, cI v.N, cS v.S, .d (.sl (List.map AValue.cs v.L))], aI left] [] (.s (aI r)) []) (v : AValue) (left : Int) {r : Int} (hr : l14_load_B self0 v left = some r) : Con Tryd.prog 27 [.agg [cI v.Kind, cI v.N, cS v.S, .d (.sl (List.map AValue.cs v.L))], aI left] [] (.s (aI r)) [] := by
  unfold l14_load_B at hr
  refine Con.of_ok 27 0 [.tmp 4] [(0, .s (.agg [cI v.Kind, cI v.N, cS v.S, .d (.sl (List.map AValue.cs v.L))])), (1, .s (aI left))] Tryd.func27 rfl rfl rfl rfl rfl rfl rfl rfl fun w g M ρ _ => (Ok.seq (Ok.region (OkOps.m 0 (triBox (j := 0) (cs := [cI v.Kind, cI v.N, cS v.S, .d (.sl (List.map AValue.cs v.L))]) rfl rfl rfl rfl rfl) (OkOps.y (aI 0) (OkOps.nil (Ok.seq (Ok.region (OkOps.y (aI left) (OkOps.y (aI (IntKind.i64.wrap (left - 1))) (OkOps.y (aI (IntKind.i64.wrap (left - 1))) (OkOps.nil ?_)))))))))))
  obtain ⟨k2, hk2, hr⟩ := jn_some hr
  refine Ok.join (fun (s1 : Int) => ⟨[(1, .s (aI s1))], [], 0⟩) k2 r (fun s1 hr => ?_) ?_
  rw [hk2] at hr
  refine Ok.seq (Ok.region (OkOps.y (aI s1) (OkOps.y (aI s1) (OkOps.nil (Ok.ret ?_)))))
  obtain rfl := Option.some.inj hr
  exact ⟨_, rfl, .inl rfl, trivial⟩
  clear hk2
  refine Ok.seq (Ok.region (OkOps.y (aI 0) (OkOps.nil (Ok.block (Ok.loopK (fun (s3 : Int × Int) => ⟨[(1, .s (aI s3.1)), (2, .s (.c (.loc 0 0))), (5, .s (aI s3.2))], [(0, .blk [cI v.Kind, cI v.N, cS v.S, .d (.sl (List.map AValue.cs v.L))] 40)], 0⟩) hr (Conv.mk (tau []) ⟨⟨_, rfl, .inl rfl⟩, ⟨_, rfl, .inl rfl⟩, ⟨_, rfl, .inl rfl⟩, trivial⟩ ⟨rfl, trivial⟩ rfl rfl rfl rfl) ?_)))))
  clear hr
  intro again4 s3 hr
  unfold l14_load_L1 at hr
  refine Ok.seq (Ok.seq (Ok.region (OkOps.y (aI s3.2) (OkOps.y (.c (.loc 0 3)) (OkOps.y (.c (.d (.sl (List.map AValue.cs v.L)))) (OkOps.q (triLen (enc := AValue.cs) v.L rfl rfl trivial rfl) (OkOps.y (aB (decide (s3.2 < (v.L.length : Int)))) (OkOps.y (aB (decide (s3.2 < (v.L.length : Int)))) (OkOps.q (triQG (x := aI s3.1) rfl rfl trivial rfl) (OkOps.q (triQG (x := aB (decide (s3.1 > 0))) rfl rfl ⟨fun h => h, trivial⟩ rfl) (OkOps.q (triAnd rfl rfl (fun h => h) rfl) (OkOps.nil ?_))))))))))))
  refine Ok.cond (b := (decide (s3.2 < (v.L.length : Int))) && (decide (s3.1 > 0))) rfl (fun h5 => ?_) (fun h5 => ?_)
  have hr := selT h5 hr
  refine Ok.skip (Ok.seq (Ok.block (Ok.region (OkOps.y (.c (.loc 0 3)) (OkOps.y (.c (.d (.sl (List.map AValue.cs v.L)))) (OkOps.y (aI s3.2) ?_))))))
  obtain ⟨x6, hx6, hr⟩ := bind_some hr
  refine OkOps.q (triIdx (enc := AValue.cs) (L := v.L) (row := [dI x6.Kind, dI x6.N, dS x6.S, .sl (List.map AValue.cs x6.L)]) hx6 (AValue.cs_eq _) rfl rfl rfl (fun x => by rw [AValue.cs_eq]; rfl) trivial rfl) ?_
  refine OkOps.y (.agg [cI x6.Kind, cI x6.N, cS x6.S, .d (.sl (List.map AValue.cs x6.L))]) (OkOps.y (aI s3.1) ?_)
  obtain ⟨x7, hx7, hr⟩ := bind_some hr
  refine OkOps.q (triCl (tau []) (.s (aI x7)) [] (hself0 _ _ hx7) rfl ⟨.inl rfl, .inl rfl, trivial⟩ trivial entry27 trivial) (OkOps.y (aI x7) (OkOps.nil (Ok.region (OkOps.y (aI s3.2) (OkOps.y (aI (IntKind.i64.wrap (s3.2 + 1))) (OkOps.y (aI (IntKind.i64.wrap (s3.2 + 1))) (OkOps.nil ?_)))))))
  exact ⟨(x7, IntKind.i64.wrap (s3.2 + 1)), hr, (Conv.mk (tau []) ⟨⟨_, rfl, .inl rfl⟩, ⟨_, rfl, .inl rfl⟩, ⟨_, rfl, .inl rfl⟩, trivial⟩ ⟨rfl, trivial⟩ rfl rfl rfl rfl)⟩
  have hr := selF h5 hr
  refine Ok.exit ?_
  exact ⟨s3.1, hr, (Conv.mk (tau []) ⟨⟨_, rfl, .inl rfl⟩, trivial⟩ trivial rfl rfl rfl rfl)⟩
theorem l14_load_all : ∀ n : Nat, (∀ (v : AValue) (left : Int) {r : Int}, l14_load n v left = some r → Con Tryd.prog 27 [.agg [cI v.Kind, cI v.N, cS v.S, .d (.sl (List.map AValue.cs v.L))], aI left] [] (.s (aI r)) []) ∧ True := by
  intro n
  induction n with
  | zero => exact ⟨(by intros; rename_i hr; cases hr), trivial⟩
  | succ n ih => exact ⟨(by intros; rename_i hr; exact l14_load_B_c _ ih.1 _ _ hr), trivial⟩
theorem l14_load_c (n : Nat) (v : AValue) (left : Int) {r : Int} (hr : l14_load n v left = some r) : Con Tryd.prog 27 [.agg [cI v.Kind, cI v.N, cS v.S, .d (.sl (List.map AValue.cs v.L))], aI left] [] (.s (aI r)) [] := (l14_load_all n).1 v left hr
end Go.Proofs.YtcfegecdlbbeaaaDoor
end
section
set_option maxRecDepth 100000
namespace Go.Proofs.YtcfegecdlbbeaaaDoor
open Go Go.E2
theorem entry37 : Entry Tryd.prog 37 := ⟨_, Tryd.func37, by kernel_rfl, by kernel_rfl⟩
theorem l14_weigh_B_c (self0 : View → Int → Int → Option Int) (hself0 : ∀ (v : View) (left : Int) (depth : Int) {r : Int}, self0 v left depth = some r → Con Tryd.prog 37 [.agg [cI v.Kind, cS v.Key, .d (.sl (List.map Attr.cs v.Attrs)), .d (.sl (List.map Action.cs v.Actions)), .d (.sl (List.map View.cs v.Kids))], aI left, aI depth] [] (.s (aI r)) []) (v : View) (left : Int) (depth : Int) {r : Int} (hr : l14_weigh_B self0 v left depth = some r) : Con Tryd.prog 37 [.agg [cI v.Kind, cS v.Key, .d (.sl (List.map Attr.cs v.Attrs)), .d (.sl (List.map Action.cs v.Actions)), .d (.sl (List.map View.cs v.Kids))], aI left, aI depth] [] (.s (aI r)) [] := by
  unfold l14_weigh_B at hr
  refine Con.of_ok 98 0 [.tmp 6] [(0, .s (.agg [cI v.Kind, cS v.Key, .d (.sl (List.map Attr.cs v.Attrs)), .d (.sl (List.map Action.cs v.Actions)), .d (.sl (List.map View.cs v.Kids))])), (1, .s (aI left)), (2, .s (aI depth))] Tryd.func37 rfl rfl rfl rfl rfl rfl rfl rfl fun w g M ρ _ => (Ok.seq (Ok.region (OkOps.m 0 (triBox (j := 0) (cs := [cI v.Kind, cS v.Key, .d (.sl (List.map Attr.cs v.Attrs)), .d (.sl (List.map Action.cs v.Actions)), .d (.sl (List.map View.cs v.Kids))]) rfl rfl rfl rfl rfl) (OkOps.y (aI 0) (OkOps.nil (Ok.seq (Ok.region (OkOps.y (aI left) (OkOps.y (.c (.loc 0 4)) (OkOps.y (.c (.d (.sl (List.map View.cs v.Kids)))) (OkOps.q (triLen (enc := View.cs) v.Kids rfl rfl trivial rfl) (OkOps.y (aI (IntKind.i64.wrap (1 + (v.Kids.length : Int)))) (OkOps.y (aI (IntKind.i64.wrap (left - (IntKind.i64.wrap (1 + (v.Kids.length : Int)))))) (OkOps.y (aI (IntKind.i64.wrap (left - (IntKind.i64.wrap (1 + (v.Kids.length : Int)))))) (OkOps.nil ?_)))))))))))))))
  obtain ⟨k2, hk2, hr⟩ := jn_some hr
  refine Ok.join (fun (s1 : Int) => ⟨[(1, .s (aI s1)), (2, .s (aI depth)), (3, .s (.c (.loc 0 0)))], [(0, .blk [cI v.Kind, cS v.Key, .d (.sl (List.map Attr.cs v.Attrs)), .d (.sl (List.map Action.cs v.Actions)), .d (.sl (List.map View.cs v.Kids))] 31)], 0⟩) k2 r (fun s1 hr => ?_) ?_
  rw [hk2] at hr
  obtain ⟨k4, hk4, hr⟩ := jn_some hr
  refine Ok.join (fun (s3 : Int) => ⟨[(1, .s (aI s3)), (2, .s (aI depth)), (3, .s (.c (.loc 0 0)))], [(0, .blk [cI v.Kind, cS v.Key, .d (.sl (List.map Attr.cs v.Attrs)), .d (.sl (List.map Action.cs v.Actions)), .d (.sl (List.map View.cs v.Kids))] 31)], 0⟩) k4 r (fun s3 hr => ?_) ?_
  rw [hk4] at hr
  refine Ok.seq (Ok.seq (Ok.region (OkOps.y (aI depth) (OkOps.y (aB (decide (depth ≤ 0))) (OkOps.nil ?_)))))
  refine Ok.cond (b := decide (depth ≤ 0)) rfl (fun h5 => ?_) (fun h5 => ?_)
  have hr := selT h5 hr
  refine Ok.seq (Ok.region (OkOps.y (aI 0) (OkOps.nil (Ok.ret ?_))))
  obtain rfl := Option.some.inj hr
  exact ⟨_, rfl, .inl rfl, trivial⟩
  have hr := selF h5 hr
  refine Ok.skip ?_
  obtain ⟨k7, hk7, hr⟩ := jn_some hr
  refine Ok.join (fun (s6 : Int) => ⟨[(1, .s (aI s6))], [], 0⟩) k7 r (fun s6 hr => ?_) ?_
  rw [hk7] at hr
  refine Ok.seq (Ok.region (OkOps.y (aI s6) (OkOps.y (aI s6) (OkOps.nil (Ok.ret ?_)))))
  obtain rfl := Option.some.inj hr
  exact ⟨_, rfl, .inl rfl, trivial⟩
  clear hk7
  refine Ok.seq (Ok.region (OkOps.y (aI 0) (OkOps.nil (Ok.block (Ok.loopK (fun (s8 : Int × Int) => ⟨[(1, .s (aI s8.1)), (2, .s (aI depth)), (3, .s (.c (.loc 0 0))), (10, .s (aI s8.2))], [(0, .blk [cI v.Kind, cS v.Key, .d (.sl (List.map Attr.cs v.Attrs)), .d (.sl (List.map Action.cs v.Actions)), .d (.sl (List.map View.cs v.Kids))] 31)], 0⟩) hr (Conv.mk (tau []) ⟨⟨_, rfl, .inl rfl⟩, ⟨_, rfl, .inl rfl⟩, ⟨_, rfl, .inl rfl⟩, ⟨_, rfl, .inl rfl⟩, trivial⟩ ⟨rfl, trivial⟩ rfl rfl rfl rfl) ?_)))))
  clear hr
  intro again9 s8 hr
  unfold l14_weigh_L1 at hr
  refine Ok.seq (Ok.seq (Ok.region (OkOps.y (aI s8.2) (OkOps.y (.c (.loc 0 4)) (OkOps.y (.c (.d (.sl (List.map View.cs v.Kids)))) (OkOps.q (triLen (enc := View.cs) v.Kids rfl rfl trivial rfl) (OkOps.y (aB (decide (s8.2 < (v.Kids.length : Int)))) (OkOps.y (aB (decide (s8.2 < (v.Kids.length : Int)))) (OkOps.q (triQG (x := aI s8.1) rfl rfl trivial rfl) (OkOps.q (triQG (x := aB (decide (s8.1 > 0))) rfl rfl ⟨fun h => h, trivial⟩ rfl) (OkOps.q (triAnd rfl rfl (fun h => h) rfl) (OkOps.nil ?_))))))))))))
  refine Ok.cond (b := (decide (s8.2 < (v.Kids.length : Int))) && (decide (s8.1 > 0))) rfl (fun h10 => ?_) (fun h10 => ?_)
  have hr := selT h10 hr
  refine Ok.skip (Ok.seq (Ok.block (Ok.region (OkOps.y (.c (.loc 0 4)) (OkOps.y (.c (.d (.sl (List.map View.cs v.Kids)))) (OkOps.y (aI s8.2) ?_))))))
  obtain ⟨x11, hx11, hr⟩ := bind_some hr
  refine OkOps.q (triIdx (enc := View.cs) (L := v.Kids) (row := [dI x11.Kind, dS x11.Key, .sl (List.map Attr.cs x11.Attrs), .sl (List.map Action.cs x11.Actions), .sl (List.map View.cs x11.Kids)]) hx11 (View.cs_eq _) rfl rfl rfl (fun x => by rw [View.cs_eq]; rfl) trivial rfl) ?_
  refine OkOps.y (.agg [cI x11.Kind, cS x11.Key, .d (.sl (List.map Attr.cs x11.Attrs)), .d (.sl (List.map Action.cs x11.Actions)), .d (.sl (List.map View.cs x11.Kids))]) (OkOps.y (aI s8.1) (OkOps.y (aI depth) (OkOps.y (aI (IntKind.i64.wrap (depth - 1))) ?_)))
  obtain ⟨x12, hx12, hr⟩ := bind_some hr
  refine OkOps.q (triCl (tau []) (.s (aI x12)) [] (hself0 _ _ _ hx12) rfl ⟨.inl rfl, .inl rfl, .inl rfl, trivial⟩ trivial entry37 trivial) (OkOps.y (aI x12) (OkOps.nil (Ok.region (OkOps.y (aI s8.2) (OkOps.y (aI (IntKind.i64.wrap (s8.2 + 1))) (OkOps.y (aI (IntKind.i64.wrap (s8.2 + 1))) (OkOps.nil ?_)))))))
  exact ⟨(x12, IntKind.i64.wrap (s8.2 + 1)), hr, (Conv.mk (tau []) ⟨⟨_, rfl, .inl rfl⟩, ⟨_, rfl, .inl rfl⟩, ⟨_, rfl, .inl rfl⟩, ⟨_, rfl, .inl rfl⟩, trivial⟩ ⟨rfl, trivial⟩ rfl rfl rfl rfl)⟩
  have hr := selF h10 hr
  refine Ok.exit ?_
  exact ⟨s8.1, hr, (Conv.mk (tau []) ⟨⟨_, rfl, .inl rfl⟩, trivial⟩ trivial rfl rfl rfl rfl)⟩
  clear hk4
  refine Ok.seq (Ok.region (OkOps.y (aI 0) (OkOps.nil (Ok.block (Ok.loopK (fun (s13 : Int × Int) => ⟨[(1, .s (aI s13.1)), (2, .s (aI depth)), (3, .s (.c (.loc 0 0))), (8, .s (aI s13.2))], [(0, .blk [cI v.Kind, cS v.Key, .d (.sl (List.map Attr.cs v.Attrs)), .d (.sl (List.map Action.cs v.Actions)), .d (.sl (List.map View.cs v.Kids))] 31)], 0⟩) hr (Conv.mk (tau []) ⟨⟨_, rfl, .inl rfl⟩, ⟨_, rfl, .inl rfl⟩, ⟨_, rfl, .inl rfl⟩, ⟨_, rfl, .inl rfl⟩, trivial⟩ ⟨rfl, trivial⟩ rfl rfl rfl rfl) ?_)))))
  clear hr
  intro again14 s13 hr
  unfold l14_weigh_L3 at hr
  refine Ok.seq (Ok.seq (Ok.region (OkOps.y (aI s13.2) (OkOps.y (.c (.loc 0 3)) (OkOps.y (.c (.d (.sl (List.map Action.cs v.Actions)))) (OkOps.q (triLen (enc := Action.cs) v.Actions rfl rfl trivial rfl) (OkOps.y (aB (decide (s13.2 < (v.Actions.length : Int)))) (OkOps.y (aB (decide (s13.2 < (v.Actions.length : Int)))) (OkOps.q (triQG (x := aI s13.1) rfl rfl trivial rfl) (OkOps.q (triQG (x := aB (decide (s13.1 > 0))) rfl rfl ⟨fun h => h, trivial⟩ rfl) (OkOps.q (triAnd rfl rfl (fun h => h) rfl) (OkOps.nil ?_))))))))))))
  refine Ok.cond (b := (decide (s13.2 < (v.Actions.length : Int))) && (decide (s13.1 > 0))) rfl (fun h15 => ?_) (fun h15 => ?_)
  have hr := selT h15 hr
  refine Ok.skip ?_
  obtain ⟨k17, hk17, hr⟩ := jn_some hr
  refine Ok.join (fun (s16 : Int) => ⟨[(1, .s (aI s16)), (2, .s (aI depth)), (3, .s (.c (.loc 0 0))), (8, .s (aI s13.2))], [(0, .blk [cI v.Kind, cS v.Key, .d (.sl (List.map Attr.cs v.Attrs)), .d (.sl (List.map Action.cs v.Actions)), .d (.sl (List.map View.cs v.Kids))] 31)], 0⟩) k17 r (fun s16 hr => ?_) ?_
  rw [hk17] at hr
  refine Ok.region (OkOps.y (aI s13.2) (OkOps.y (aI (IntKind.i64.wrap (s13.2 + 1))) (OkOps.y (aI (IntKind.i64.wrap (s13.2 + 1))) (OkOps.nil ?_))))
  exact ⟨(s16, IntKind.i64.wrap (s13.2 + 1)), hr, (Conv.mk (tau []) ⟨⟨_, rfl, .inl rfl⟩, ⟨_, rfl, .inl rfl⟩, ⟨_, rfl, .inl rfl⟩, ⟨_, rfl, .inl rfl⟩, trivial⟩ ⟨rfl, trivial⟩ rfl rfl rfl rfl)⟩
  clear hk17
  refine Ok.block (Ok.seq (Ok.region (OkOps.y (aI s13.1) (OkOps.y (aI (IntKind.i64.wrap (s13.1 - 1))) (OkOps.y (aI (IntKind.i64.wrap (s13.1 - 1))) (OkOps.nil (Ok.seq (Ok.region (OkOps.y (aI 0) (OkOps.nil ?_))))))))))
  obtain ⟨k19, hk19, hr⟩ := jn_some hr
  refine Ok.joinEnd (fun (s18 : Int) => ⟨[(1, .s (aI s18)), (2, .s (aI depth)), (3, .s (.c (.loc 0 0))), (8, .s (aI s13.2))], [(0, .blk [cI v.Kind, cS v.Key, .d (.sl (List.map Attr.cs v.Attrs)), .d (.sl (List.map Action.cs v.Actions)), .d (.sl (List.map View.cs v.Kids))] 31)], 0⟩) k19 r (fun s18 hr => ?_) ?_
  rw [hk19] at hr
  exact ⟨s18, hr, (Conv.mk (tau []) ⟨⟨_, rfl, .inl rfl⟩, ⟨_, rfl, .inl rfl⟩, ⟨_, rfl, .inl rfl⟩, ⟨_, rfl, .inl rfl⟩, trivial⟩ ⟨rfl, trivial⟩ rfl rfl rfl rfl)⟩
  clear hk19
  refine Ok.block (Ok.loopK (fun (s20 : Int × Int) => ⟨[(1, .s (aI s20.1)), (2, .s (aI depth)), (3, .s (.c (.loc 0 0))), (8, .s (aI s13.2)), (9, .s (aI s20.2))], [(0, .blk [cI v.Kind, cS v.Key, .d (.sl (List.map Attr.cs v.Attrs)), .d (.sl (List.map Action.cs v.Actions)), .d (.sl (List.map View.cs v.Kids))] 31)], 0⟩) hr (Conv.mk (tau []) ⟨⟨_, rfl, .inl rfl⟩, ⟨_, rfl, .inl rfl⟩, ⟨_, rfl, .inl rfl⟩, ⟨_, rfl, .inl rfl⟩, ⟨_, rfl, .inl rfl⟩, trivial⟩ ⟨rfl, trivial⟩ rfl rfl rfl rfl) ?_)
  clear hr
  intro again21 s20 hr
  unfold l14_weigh_L2 at hr
  refine Ok.seq (Ok.seq (Ok.region (OkOps.y (aI s20.2) (OkOps.y (.c (.loc 0 3)) (OkOps.y (.c (.d (.sl (List.map Action.cs v.Actions)))) (OkOps.y (aI s13.2) ?_))))))
  obtain ⟨x22, hx22, hr⟩ := bind_some hr
  refine OkOps.q (triIdx (enc := Action.cs) (L := v.Actions) (row := [dS x22.Event, dS x22.Instance, dS x22.Handler, .sl (List.map AValue.cs x22.Args)]) hx22 rfl rfl rfl rfl (fun _ => rfl) trivial rfl) (OkOps.y (.c (.pt [.sl (List.map AValue.cs x22.Args)])) (OkOps.y (.c (.d (.sl (List.map AValue.cs x22.Args)))) (OkOps.q (triLen (enc := AValue.cs) x22.Args rfl rfl trivial rfl) (OkOps.y (aB (decide (s20.2 < (x22.Args.length : Int)))) (OkOps.y (aB (decide (s20.2 < (x22.Args.length : Int)))) (OkOps.q (triQG (x := aI s20.1) rfl rfl trivial rfl) (OkOps.q (triQG (x := aB (decide (s20.1 > 0))) rfl rfl ⟨fun h => h, trivial⟩ rfl) (OkOps.q (triAnd rfl rfl (fun h => h) rfl) (OkOps.nil ?_)))))))))
  refine Ok.cond (b := (decide (s20.2 < (x22.Args.length : Int))) && (decide (s20.1 > 0))) rfl (fun h23 => ?_) (fun h23 => ?_)
  have hr := selT h23 hr
  refine Ok.skip (Ok.seq (Ok.block (Ok.region (OkOps.y (.c (.loc 0 3)) (OkOps.y (.c (.d (.sl (List.map Action.cs v.Actions)))) (OkOps.y (aI s13.2) ?_))))))
  obtain ⟨x24, hx24, hr⟩ := bind_some hr
  refine OkOps.q (triIdx (enc := Action.cs) (L := v.Actions) (row := [dS x24.Event, dS x24.Instance, dS x24.Handler, .sl (List.map AValue.cs x24.Args)]) hx24 rfl rfl rfl rfl (fun _ => rfl) trivial rfl) (OkOps.y (.c (.pt [.sl (List.map AValue.cs x24.Args)])) (OkOps.y (.c (.d (.sl (List.map AValue.cs x24.Args)))) (OkOps.y (aI s20.2) ?_)))
  obtain ⟨x25, hx25, hr⟩ := bind_some hr
  refine OkOps.q (triIdx (enc := AValue.cs) (L := x24.Args) (row := [dI x25.Kind, dI x25.N, dS x25.S, .sl (List.map AValue.cs x25.L)]) hx25 (AValue.cs_eq _) rfl rfl rfl (fun x => by rw [AValue.cs_eq]; rfl) trivial rfl) ?_
  refine OkOps.y (.agg [cI x25.Kind, cI x25.N, cS x25.S, .d (.sl (List.map AValue.cs x25.L))]) (OkOps.y (aI s20.1) ?_)
  obtain ⟨x26, hx26, hr⟩ := bind_some hr
  refine OkOps.q (triCl (tau []) (.s (aI x26)) [] (l14_load_c _ _ _ hx26) rfl ⟨.inl rfl, .inl rfl, trivial⟩ trivial entry27 trivial) (OkOps.y (aI x26) (OkOps.nil (Ok.region (OkOps.y (aI s20.2) (OkOps.y (aI (IntKind.i64.wrap (s20.2 + 1))) (OkOps.y (aI (IntKind.i64.wrap (s20.2 + 1))) (OkOps.nil ?_)))))))
  exact ⟨(x26, IntKind.i64.wrap (s20.2 + 1)), hr, (Conv.mk (tau []) ⟨⟨_, rfl, .inl rfl⟩, ⟨_, rfl, .inl rfl⟩, ⟨_, rfl, .inl rfl⟩, ⟨_, rfl, .inl rfl⟩, ⟨_, rfl, .inl rfl⟩, trivial⟩ ⟨rfl, trivial⟩ rfl rfl rfl rfl)⟩
  have hr := selF h23 hr
  refine Ok.exit ?_
  exact ⟨s20.1, hr, (Conv.mk (tau []) ⟨⟨_, rfl, .inl rfl⟩, ⟨_, rfl, .inl rfl⟩, ⟨_, rfl, .inl rfl⟩, ⟨_, rfl, .inl rfl⟩, trivial⟩ ⟨rfl, trivial⟩ rfl rfl rfl rfl)⟩
  have hr := selF h15 hr
  refine Ok.exit ?_
  exact ⟨s13.1, hr, (Conv.mk (tau []) ⟨⟨_, rfl, .inl rfl⟩, ⟨_, rfl, .inl rfl⟩, ⟨_, rfl, .inl rfl⟩, trivial⟩ ⟨rfl, trivial⟩ rfl rfl rfl rfl)⟩
  clear hk2
  refine Ok.seq (Ok.region (OkOps.y (aI 0) (OkOps.nil (Ok.block (Ok.loopK (fun (s27 : Int × Int) => ⟨[(1, .s (aI s27.1)), (2, .s (aI depth)), (3, .s (.c (.loc 0 0))), (7, .s (aI s27.2))], [(0, .blk [cI v.Kind, cS v.Key, .d (.sl (List.map Attr.cs v.Attrs)), .d (.sl (List.map Action.cs v.Actions)), .d (.sl (List.map View.cs v.Kids))] 31)], 0⟩) hr (Conv.mk (tau []) ⟨⟨_, rfl, .inl rfl⟩, ⟨_, rfl, .inl rfl⟩, ⟨_, rfl, .inl rfl⟩, ⟨_, rfl, .inl rfl⟩, trivial⟩ ⟨rfl, trivial⟩ rfl rfl rfl rfl) ?_)))))
  clear hr
  intro again28 s27 hr
  unfold l14_weigh_L4 at hr
  refine Ok.seq (Ok.seq (Ok.region (OkOps.y (aI s27.2) (OkOps.y (.c (.loc 0 2)) (OkOps.y (.c (.d (.sl (List.map Attr.cs v.Attrs)))) (OkOps.q (triLen (enc := Attr.cs) v.Attrs rfl rfl trivial rfl) (OkOps.y (aB (decide (s27.2 < (v.Attrs.length : Int)))) (OkOps.y (aB (decide (s27.2 < (v.Attrs.length : Int)))) (OkOps.q (triQG (x := aI s27.1) rfl rfl trivial rfl) (OkOps.q (triQG (x := aB (decide (s27.1 > 0))) rfl rfl ⟨fun h => h, trivial⟩ rfl) (OkOps.q (triAnd rfl rfl (fun h => h) rfl) (OkOps.nil ?_))))))))))))
  refine Ok.cond (b := (decide (s27.2 < (v.Attrs.length : Int))) && (decide (s27.1 > 0))) rfl (fun h29 => ?_) (fun h29 => ?_)
  have hr := selT h29 hr
  refine Ok.skip (Ok.seq (Ok.block (Ok.region (OkOps.y (.c (.loc 0 2)) (OkOps.y (.c (.d (.sl (List.map Attr.cs v.Attrs)))) (OkOps.y (aI s27.2) ?_))))))
  obtain ⟨x30, hx30, hr⟩ := bind_some hr
  refine OkOps.q (triIdx (enc := Attr.cs) (L := v.Attrs) (row := [dS x30.Name, dI x30.Value.Kind, dI x30.Value.N, dS x30.Value.S, .sl (List.map AValue.cs x30.Value.L)]) hx30 rfl rfl rfl rfl (fun _ => rfl) trivial rfl) (OkOps.y (.c (.pt [dI x30.Value.Kind, dI x30.Value.N, dS x30.Value.S, .sl (List.map AValue.cs x30.Value.L)])) (OkOps.y (.agg [cI x30.Value.Kind, cI x30.Value.N, cS x30.Value.S, .d (.sl (List.map AValue.cs x30.Value.L))]) (OkOps.y (aI s27.1) ?_)))
  obtain ⟨x31, hx31, hr⟩ := bind_some hr
  refine OkOps.q (triCl (tau []) (.s (aI x31)) [] (l14_load_c _ _ _ hx31) rfl ⟨.inl rfl, .inl rfl, trivial⟩ trivial entry27 trivial) (OkOps.y (aI x31) (OkOps.nil (Ok.region (OkOps.y (aI s27.2) (OkOps.y (aI (IntKind.i64.wrap (s27.2 + 1))) (OkOps.y (aI (IntKind.i64.wrap (s27.2 + 1))) (OkOps.nil ?_)))))))
  exact ⟨(x31, IntKind.i64.wrap (s27.2 + 1)), hr, (Conv.mk (tau []) ⟨⟨_, rfl, .inl rfl⟩, ⟨_, rfl, .inl rfl⟩, ⟨_, rfl, .inl rfl⟩, ⟨_, rfl, .inl rfl⟩, trivial⟩ ⟨rfl, trivial⟩ rfl rfl rfl rfl)⟩
  have hr := selF h29 hr
  refine Ok.exit ?_
  exact ⟨s27.1, hr, (Conv.mk (tau []) ⟨⟨_, rfl, .inl rfl⟩, ⟨_, rfl, .inl rfl⟩, ⟨_, rfl, .inl rfl⟩, trivial⟩ ⟨rfl, trivial⟩ rfl rfl rfl rfl)⟩
theorem l14_weigh_all : ∀ n : Nat, (∀ (v : View) (left : Int) (depth : Int) {r : Int}, l14_weigh n v left depth = some r → Con Tryd.prog 37 [.agg [cI v.Kind, cS v.Key, .d (.sl (List.map Attr.cs v.Attrs)), .d (.sl (List.map Action.cs v.Actions)), .d (.sl (List.map View.cs v.Kids))], aI left, aI depth] [] (.s (aI r)) []) ∧ True := by
  intro n
  induction n with
  | zero => exact ⟨(by intros; rename_i hr; cases hr), trivial⟩
  | succ n ih => exact ⟨(by intros; rename_i hr; exact l14_weigh_B_c _ ih.1 _ _ _ hr), trivial⟩
theorem l14_weigh_c (n : Nat) (v : View) (left : Int) (depth : Int) {r : Int} (hr : l14_weigh n v left depth = some r) : Con Tryd.prog 37 [.agg [cI v.Kind, cS v.Key, .d (.sl (List.map Attr.cs v.Attrs)), .d (.sl (List.map Action.cs v.Actions)), .d (.sl (List.map View.cs v.Kids))], aI left, aI depth] [] (.s (aI r)) [] := (l14_weigh_all n).1 v left depth hr
end Go.Proofs.YtcfegecdlbbeaaaDoor
end

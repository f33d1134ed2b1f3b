import Derived.Test.YtcfegecdlbbeaaaDoorAa
import Derived.Test.YtcfegecdlbbeaaaDoorXn
import Derived.Test.YtcfegecdlbbeaaaDoorProg
import Derived.KernelRfl
set_option maxRecDepth 100000
namespace Go.Proofs.YtcfegecdlbbeaaaDoor
open Go Go.E2
theorem r11_letter_c (c : Int) {r : Bool} (hr : r11_letter c = some r) : Con Tryd.prog 106 [.c (.d (.v (.int .u8 c)))] [] (.s (aB r)) [] := by
  unfold r11_letter at hr
  refine Con.of_ok 17 0 [.tmp 2] [(0, .s (.c (.d (.v (.int .u8 c)))))] Tryd.func106 rfl rfl rfl rfl rfl rfl rfl rfl fun w g M ρ _ => ?_
  refine Ok.seq ?_
  refine Ok.region ?_
  refine OkOps.x (aB false) rfl trivial rfl ?_
  refine OkOps.nil ?_
  refine Ok.seq ?_
  refine Ok.region ?_
  refine OkOps.x (.c (.d (.v (.int .u8 c)))) rfl trivial rfl ?_
  refine OkOps.x (aB (decide (c ≥ 97))) rfl trivial rfl ?_
  refine OkOps.x (aB (decide (c ≥ 97))) rfl trivial rfl ?_
  refine OkOps.q (triQG (x := .c (.d (.v (.int .u8 c)))) rfl rfl trivial rfl) ?_
  refine OkOps.q (triQG (x := aB (decide (c ≤ 122))) rfl rfl ⟨fun h => h, trivial⟩ rfl) ?_
  refine OkOps.q (triAnd rfl rfl (fun h => h) rfl) ?_
  refine OkOps.x (aB ((decide (c ≥ 97)) && (decide (c ≤ 122)))) rfl trivial rfl ?_
  refine OkOps.q (triQG (x := .c (.d (.v (.int .u8 c)))) rfl rfl trivial rfl) ?_
  refine OkOps.q (triQG (x := aB (decide (c ≥ 65))) rfl rfl ⟨fun h => h, trivial⟩ rfl) ?_
  refine OkOps.q (triQG (x := aB (decide (c ≥ 65))) rfl rfl ⟨fun h => h, trivial⟩ rfl) ?_
  refine OkOps.q (triQG (x := .c (.d (.v (.int .u8 c)))) rfl rfl trivial rfl) ?_
  refine OkOps.q (triQG (x := aB (decide (c ≤ 90))) rfl rfl ⟨fun h => h, trivial⟩ rfl) ?_
  refine OkOps.q (triAndG rfl rfl rfl (fun h => h) (fun h h2 => by rw [h, h2]; rfl) rfl) ?_
  refine OkOps.q (triOr rfl rfl (fun h => by rw [h]; rfl) rfl) ?_
  refine OkOps.x (aB (((decide (c ≥ 97)) && (decide (c ≤ 122))) || ((decide (c ≥ 65)) && (decide (c ≤ 90))))) rfl trivial rfl ?_
  refine OkOps.nil ?_
  refine Ok.ret ?_
  obtain rfl := Option.some.inj hr
  exact ⟨_, rfl, .inl rfl, trivial⟩
theorem entry106 : Entry Tryd.prog 106 := ⟨_, Tryd.func106, by kernel_rfl, by kernel_rfl⟩
theorem r11_Name_c (p_s : Str) {r : Bool} (hr : r11_Name p_s = some r) : Con Tryd.prog 79 [aS p_s] [] (.s (aB r)) [] := by
  unfold r11_Name at hr
  refine Con.of_ok 53 0 [.tmp 2] [(0, .s (aS p_s))] Tryd.func79 rfl rfl rfl rfl rfl rfl rfl rfl fun w g M ρ _ => ?_
  refine Ok.seq ?_
  refine Ok.region ?_
  refine OkOps.x (aB false) rfl trivial rfl ?_
  refine OkOps.nil ?_
  refine Ok.seq ?_
  refine Ok.seq ?_
  refine Ok.region ?_
  refine OkOps.x (aS p_s) rfl trivial rfl ?_
  refine OkOps.x (aI (p_s.size : Int)) rfl trivial rfl ?_
  refine OkOps.x (aB (decide ((p_s.size : Int) < 1))) rfl trivial rfl ?_
  refine OkOps.x (aB (decide ((p_s.size : Int) < 1))) rfl trivial rfl ?_
  refine OkOps.q (triQG (x := aS p_s) rfl rfl trivial rfl) ?_
  refine OkOps.q (triQG (x := aI (p_s.size : Int)) rfl rfl ⟨fun h => h, trivial⟩ rfl) ?_
  refine OkOps.q (triQG (x := aB (decide ((p_s.size : Int) > 24))) rfl rfl ⟨fun h => h, trivial⟩ rfl) ?_
  refine OkOps.q (triOr rfl rfl (fun h => by rw [h]; rfl) rfl) ?_
  refine OkOps.x (aB ((decide ((p_s.size : Int) < 1)) || (decide ((p_s.size : Int) > 24)))) rfl trivial rfl ?_
  refine OkOps.q (triQG (x := aS p_s) rfl rfl trivial rfl) ?_
  obtain ⟨x1, hx1, hr⟩ := bind_some hr
  refine OkOps.q (triSIdxG (gO_t hx1) rfl rfl rfl rfl ⟨fun h => h, trivial⟩ rfl) ?_
  obtain ⟨x2, hx2, hr⟩ := bind_some hr
  refine OkOps.q (triCallG (x := aB x2) (fun hg => r11_letter_c _ (gO_t hx2 hg)) rfl rfl ⟨.inl rfl, trivial⟩ ⟨fun h => h, trivial⟩ entry106 rfl rfl rfl) ?_
  refine OkOps.q (triQG (x := aB (!x2)) rfl rfl ⟨fun h => h, trivial⟩ rfl) ?_
  refine OkOps.q (triOr rfl rfl (fun h => by rw [h]; rfl) rfl) ?_
  refine OkOps.nil ?_
  refine Ok.cond (b := ((decide ((p_s.size : Int) < 1)) || (decide ((p_s.size : Int) > 24))) || (!x2)) rfl (fun h3 => ?_) (fun h3 => ?_)
  · have hr := selT h3 hr
    refine Ok.seq ?_
    refine Ok.region ?_
    refine OkOps.x (aB false) rfl trivial rfl ?_
    refine OkOps.nil ?_
    refine Ok.ret ?_
    obtain rfl := Option.some.inj hr
    exact ⟨_, rfl, .inl rfl, trivial⟩
  · have hr := selF h3 hr
    refine Ok.skip ?_
    obtain ⟨k5, hk5, hr⟩ := jn_some hr
    refine Ok.join (fun (s4 : Unit) => ⟨[], [], 0⟩) k5 r (fun s4 hr => ?_) ?_
    · rw [hk5] at hr
      refine Ok.seq ?_
      refine Ok.region ?_
      refine OkOps.x (aB true) rfl trivial rfl ?_
      refine OkOps.nil ?_
      refine Ok.ret ?_
      obtain rfl := Option.some.inj hr
      exact ⟨_, rfl, .inl rfl, trivial⟩
    · clear hk5
      refine Ok.seq ?_
      refine Ok.region ?_
      refine OkOps.x (aI 1) rfl trivial rfl ?_
      refine OkOps.nil ?_
      refine Ok.block ?_
      refine Ok.loopK (fun (s6 : Int) => ⟨[(0, .s (aS p_s)), (3, .s (aI s6))], [], 0⟩) hr (Conv.mk (tau []) ⟨⟨_, rfl, .inl rfl⟩, ⟨_, rfl, .inl rfl⟩, trivial⟩ trivial rfl rfl rfl rfl) ?_
      clear hr
      intro again7 s6 hr
      unfold r11_Name_L1 at hr
      refine Ok.seq ?_
      refine Ok.seq ?_
      refine Ok.region ?_
      refine OkOps.x (aI s6) rfl trivial rfl ?_
      refine OkOps.x (aS p_s) rfl trivial rfl ?_
      refine OkOps.x (aI (p_s.size : Int)) rfl trivial rfl ?_
      refine OkOps.x (aB (decide (s6 < (p_s.size : Int)))) rfl trivial rfl ?_
      refine OkOps.nil ?_
      refine Ok.cond (b := decide (s6 < (p_s.size : Int))) rfl (fun h8 => ?_) (fun h8 => ?_)
      · have hr := selT h8 hr
        refine Ok.skip ?_
        refine Ok.seq ?_
        refine Ok.block ?_
        refine Ok.seq ?_
        refine Ok.region ?_
        refine OkOps.x (aS p_s) rfl trivial rfl ?_
        refine OkOps.x (aI s6) rfl trivial rfl ?_
        obtain ⟨x9, hx9, hr⟩ := bind_some hr
        refine OkOps.q (triSIdx hx9 rfl rfl rfl trivial rfl) ?_
        obtain ⟨x10, hx10, hr⟩ := bind_some hr
        refine OkOps.q (triCall (tau []) (.s (aB x10)) [] (r11_letter_c _ hx10) rfl ⟨.inl rfl, trivial⟩ trivial entry106 trivial rfl rfl rfl rfl trivial rfl rfl rfl) ?_
        refine OkOps.x (aB (!x10)) rfl trivial rfl ?_
        refine OkOps.x (aB (!x10)) rfl trivial rfl ?_
        refine OkOps.q (triQG (x := aS p_s) rfl rfl trivial rfl) ?_
        refine OkOps.q (triQG (x := aI s6) rfl rfl trivial rfl) ?_
        obtain ⟨x11, hx11, hr⟩ := bind_some hr
        refine OkOps.q (triSIdxG (gO_t hx11) rfl rfl rfl rfl ⟨fun h => h, ⟨fun h => h, trivial⟩⟩ rfl) ?_
        refine OkOps.q (triQG (x := aB (decide (x11 < 48))) rfl rfl ⟨fun h => h, trivial⟩ rfl) ?_
        refine OkOps.q (triQG (x := aB (decide (x11 < 48))) rfl rfl ⟨fun h => h, trivial⟩ rfl) ?_
        refine OkOps.q (triQG (x := aS p_s) rfl rfl trivial rfl) ?_
        refine OkOps.q (triQG (x := aI s6) rfl rfl trivial rfl) ?_
        obtain ⟨x12, hx12, hr⟩ := bind_some hr
        refine OkOps.q (triSIdxG (gO_t hx12) rfl rfl rfl rfl ⟨fun h => h, ⟨fun h => h, trivial⟩⟩ rfl) ?_
        refine OkOps.q (triQG (x := aB (decide (x12 > 57))) rfl rfl ⟨fun h => h, trivial⟩ rfl) ?_
        refine OkOps.q (triOrG rfl rfl rfl (fun h => h) (fun h h2 => by rw [h, h2]; rfl) rfl) ?_
        refine OkOps.q (triAnd rfl rfl (fun h => h) rfl) ?_
        refine OkOps.x (aB ((!x10) && ((decide (x11 < 48)) || (decide (x12 > 57))))) rfl trivial rfl ?_
        refine OkOps.q (triQG (x := aS p_s) rfl rfl trivial rfl) ?_
        refine OkOps.q (triQG (x := aI s6) rfl rfl trivial rfl) ?_
        obtain ⟨x13, hx13, hr⟩ := bind_some hr
        refine OkOps.q (triSIdxG (gO_t hx13) rfl rfl rfl rfl ⟨fun h => h, ⟨fun h => h, trivial⟩⟩ rfl) ?_
        refine OkOps.q (triQG (x := aB (x13 != 45)) rfl rfl ⟨fun h => h, trivial⟩ rfl) ?_
        refine OkOps.q (triAnd rfl rfl (fun h => h) rfl) ?_
        refine OkOps.x (aB (((!x10) && ((decide (x11 < 48)) || (decide (x12 > 57)))) && (x13 != 45))) rfl trivial rfl ?_
        refine OkOps.q (triQG (x := aS p_s) rfl rfl trivial rfl) ?_
        refine OkOps.q (triQG (x := aI s6) rfl rfl trivial rfl) ?_
        obtain ⟨x14, hx14, hr⟩ := bind_some hr
        refine OkOps.q (triSIdxG (gO_t hx14) rfl rfl rfl rfl ⟨fun h => h, ⟨fun h => h, trivial⟩⟩ rfl) ?_
        refine OkOps.q (triQG (x := aB (x14 != 95)) rfl rfl ⟨fun h => h, trivial⟩ rfl) ?_
        refine OkOps.q (triAnd rfl rfl (fun h => h) rfl) ?_
        refine OkOps.nil ?_
        refine Ok.cond (b := (((!x10) && ((decide (x11 < 48)) || (decide (x12 > 57)))) && (x13 != 45)) && (x14 != 95)) rfl (fun h15 => ?_) (fun h15 => ?_)
        · have hr := selT h15 hr
          refine Ok.seq ?_
          refine Ok.region ?_
          refine OkOps.x (aB false) rfl trivial rfl ?_
          refine OkOps.nil ?_
          refine Ok.ret ?_
          obtain rfl := Option.some.inj hr
          exact ⟨_, rfl, .inl rfl, trivial⟩
        · have hr := selF h15 hr
          refine Ok.skip ?_
          refine Ok.region ?_
          refine OkOps.x (aI s6) rfl trivial rfl ?_
          refine OkOps.x (aI (IntKind.i64.wrap (s6 + 1))) rfl trivial rfl ?_
          refine OkOps.x (aI (IntKind.i64.wrap (s6 + 1))) rfl trivial rfl ?_
          refine OkOps.nil ?_
          exact ⟨IntKind.i64.wrap (s6 + 1), hr, (Conv.mk (tau []) ⟨⟨_, rfl, .inl rfl⟩, ⟨_, rfl, .inl rfl⟩, trivial⟩ trivial rfl rfl rfl rfl)⟩
      · have hr := selF h8 hr
        refine Ok.exit ?_
        exact ⟨(), hr, (Conv.mk (tau []) trivial trivial rfl rfl rfl rfl)⟩
theorem entry79 : Entry Tryd.prog 79 := ⟨_, Tryd.func79, by kernel_rfl, by kernel_rfl⟩
theorem ex_Name_c (p_s : Str) {r : Bool} (hr : ex_Name p_s = some r) : Con Tryd.prog 104 [aS p_s] [] (.s (aB r)) [] := by
  unfold ex_Name at hr
  refine Con.of_ok 59 0 [.tmp 2] [(0, .s (aS p_s))] Tryd.func104 rfl rfl rfl rfl rfl rfl rfl rfl fun w g M ρ _ => ?_
  refine Ok.seq ?_
  refine Ok.region ?_
  refine OkOps.x (aB false) rfl trivial rfl ?_
  refine OkOps.nil ?_
  refine Ok.seq ?_
  refine Ok.seq ?_
  refine Ok.region ?_
  refine OkOps.x (aS p_s) rfl trivial rfl ?_
  refine OkOps.x (aI (p_s.size : Int)) rfl trivial rfl ?_
  refine OkOps.x (aB ((p_s.size : Int) == 0)) rfl trivial rfl ?_
  refine OkOps.x (aB ((p_s.size : Int) == 0)) rfl trivial rfl ?_
  refine OkOps.q (triQG (x := aS p_s) rfl rfl trivial rfl) ?_
  refine OkOps.q (triQG (x := aI (p_s.size : Int)) rfl rfl ⟨fun h => h, trivial⟩ rfl) ?_
  refine OkOps.q (triQG (x := aB (decide ((p_s.size : Int) > 24))) rfl rfl ⟨fun h => h, trivial⟩ rfl) ?_
  refine OkOps.q (triOr rfl rfl (fun h => by rw [h]; rfl) rfl) ?_
  refine OkOps.nil ?_
  refine Ok.cond (b := ((p_s.size : Int) == 0) || (decide ((p_s.size : Int) > 24))) rfl (fun h1 => ?_) (fun h1 => ?_)
  · have hr := selT h1 hr
    refine Ok.seq ?_
    refine Ok.region ?_
    refine OkOps.x (aB false) rfl trivial rfl ?_
    refine OkOps.nil ?_
    refine Ok.ret ?_
    obtain rfl := Option.some.inj hr
    exact ⟨_, rfl, .inl rfl, trivial⟩
  · have hr := selF h1 hr
    refine Ok.skip ?_
    obtain ⟨k3, hk3, hr⟩ := jn_some hr
    refine Ok.join (fun (s2 : Unit) => ⟨[], [], 0⟩) k3 r (fun s2 hr => ?_) ?_
    · rw [hk3] at hr
      refine Ok.seq ?_
      refine Ok.region ?_
      refine OkOps.x (aB true) rfl trivial rfl ?_
      refine OkOps.nil ?_
      refine Ok.ret ?_
      obtain rfl := Option.some.inj hr
      exact ⟨_, rfl, .inl rfl, trivial⟩
    · clear hk3
      refine Ok.seq ?_
      refine Ok.region ?_
      refine OkOps.x (aS p_s) rfl trivial rfl ?_
      refine OkOps.x (aI (p_s.size : Int)) rfl trivial rfl ?_
      refine OkOps.x (aI 0) rfl trivial rfl ?_
      refine OkOps.nil ?_
      refine Ok.block ?_
      refine Ok.loopK (fun (s4 : Int) => ⟨[(0, .s (aS p_s)), (15, .s (aI (p_s.size : Int))), (16, .s (aI s4))], [], 0⟩) hr (Conv.mk (tau []) ⟨⟨_, rfl, .inl rfl⟩, ⟨_, rfl, .inl rfl⟩, ⟨_, rfl, .inl rfl⟩, trivial⟩ trivial rfl rfl rfl rfl) ?_
      clear hr
      intro again5 s4 hr
      unfold ex_Name_L1 at hr
      refine Ok.seq ?_
      refine Ok.region ?_
      refine OkOps.x (aB (decide (s4 < (p_s.size : Int)))) rfl trivial rfl ?_
      refine OkOps.nil ?_
      refine Ok.seq ?_
      refine Ok.cond (b := decide (s4 < (p_s.size : Int))) rfl (fun h6 => ?_) (fun h6 => ?_)
      · have hr := selT h6 hr
        refine Ok.skip ?_
        refine Ok.seq ?_
        refine Ok.block ?_
        refine Ok.seq ?_
        refine Ok.region ?_
        refine OkOps.x (aI s4) rfl trivial rfl ?_
        refine OkOps.x (aI s4) rfl trivial rfl ?_
        refine OkOps.nil ?_
        refine Ok.seq ?_
        refine Ok.region ?_
        refine OkOps.x (aS p_s) rfl trivial rfl ?_
        refine OkOps.x (aI s4) rfl trivial rfl ?_
        obtain ⟨x7, hx7, hr⟩ := bind_some hr
        refine OkOps.q (triSIdx hx7 rfl rfl rfl trivial rfl) ?_
        refine OkOps.x (.c (.d (.v (.int .u8 x7)))) rfl trivial rfl ?_
        refine OkOps.nil ?_
        refine Ok.seq ?_
        refine Ok.region ?_
        refine OkOps.x (.c (.d (.v (.int .u8 x7)))) rfl trivial rfl ?_
        refine OkOps.x (aB (decide (x7 ≥ 97))) rfl trivial rfl ?_
        refine OkOps.x (aB (decide (x7 ≥ 97))) rfl trivial rfl ?_
        refine OkOps.q (triQG (x := .c (.d (.v (.int .u8 x7)))) rfl rfl trivial rfl) ?_
        refine OkOps.q (triQG (x := aB (decide (x7 ≤ 122))) rfl rfl ⟨fun h => h, trivial⟩ rfl) ?_
        refine OkOps.q (triAnd rfl rfl (fun h => h) rfl) ?_
        refine OkOps.x (aB ((decide (x7 ≥ 97)) && (decide (x7 ≤ 122)))) rfl trivial rfl ?_
        refine OkOps.q (triQG (x := .c (.d (.v (.int .u8 x7)))) rfl rfl trivial rfl) ?_
        refine OkOps.q (triQG (x := aB (decide (x7 ≥ 65))) rfl rfl ⟨fun h => h, trivial⟩ rfl) ?_
        refine OkOps.q (triQG (x := aB (decide (x7 ≥ 65))) rfl rfl ⟨fun h => h, trivial⟩ rfl) ?_
        refine OkOps.q (triQG (x := .c (.d (.v (.int .u8 x7)))) rfl rfl trivial rfl) ?_
        refine OkOps.q (triQG (x := aB (decide (x7 ≤ 90))) rfl rfl ⟨fun h => h, trivial⟩ rfl) ?_
        refine OkOps.q (triAndG rfl rfl rfl (fun h => h) (fun h h2 => by rw [h, h2]; rfl) rfl) ?_
        refine OkOps.q (triOr rfl rfl (fun h => by rw [h]; rfl) rfl) ?_
        refine OkOps.x (aB (((decide (x7 ≥ 97)) && (decide (x7 ≤ 122))) || ((decide (x7 ≥ 65)) && (decide (x7 ≤ 90))))) rfl trivial rfl ?_
        refine OkOps.nil ?_
        refine Ok.seq ?_
        refine Ok.region ?_
        refine OkOps.x (aB (((decide (x7 ≥ 97)) && (decide (x7 ≤ 122))) || ((decide (x7 ≥ 65)) && (decide (x7 ≤ 90))))) rfl trivial rfl ?_
        refine OkOps.x (aB (!(((decide (x7 ≥ 97)) && (decide (x7 ≤ 122))) || ((decide (x7 ≥ 65)) && (decide (x7 ≤ 90)))))) rfl trivial rfl ?_
        refine OkOps.x (aB (!(((decide (x7 ≥ 97)) && (decide (x7 ≤ 122))) || ((decide (x7 ≥ 65)) && (decide (x7 ≤ 90)))))) rfl trivial rfl ?_
        refine OkOps.q (triQG (x := aI s4) rfl rfl trivial rfl) ?_
        refine OkOps.q (triQG (x := aB (s4 == 0)) rfl rfl ⟨fun h => h, trivial⟩ rfl) ?_
        refine OkOps.q (triQG (x := aB (s4 == 0)) rfl rfl ⟨fun h => h, trivial⟩ rfl) ?_
        refine OkOps.q (triQG (x := .c (.d (.v (.int .u8 x7)))) rfl rfl trivial rfl) ?_
        refine OkOps.q (triQG (x := aB (decide (x7 < 48))) rfl rfl ⟨fun h => h, trivial⟩ rfl) ?_
        refine OkOps.q (triQG (x := aB (decide (x7 < 48))) rfl rfl ⟨fun h => h, trivial⟩ rfl) ?_
        refine OkOps.q (triQG (x := .c (.d (.v (.int .u8 x7)))) rfl rfl trivial rfl) ?_
        refine OkOps.q (triQG (x := aB (decide (x7 > 57))) rfl rfl ⟨fun h => h, trivial⟩ rfl) ?_
        refine OkOps.q (triOrG rfl rfl rfl (fun h => h) (fun h h2 => by rw [h, h2]; rfl) rfl) ?_
        refine OkOps.q (triQG (x := aB ((decide (x7 < 48)) || (decide (x7 > 57)))) rfl rfl ⟨fun h => h, trivial⟩ rfl) ?_
        refine OkOps.q (triQG (x := .c (.d (.v (.int .u8 x7)))) rfl rfl trivial rfl) ?_
        refine OkOps.q (triQG (x := aB (x7 != 45)) rfl rfl ⟨fun h => h, trivial⟩ rfl) ?_
        refine OkOps.q (triAndG rfl rfl rfl (fun h => h) (fun h h2 => by rw [h, h2]; rfl) rfl) ?_
        refine OkOps.q (triQG (x := aB (((decide (x7 < 48)) || (decide (x7 > 57))) && (x7 != 45))) rfl rfl ⟨fun h => h, trivial⟩ rfl) ?_
        refine OkOps.q (triQG (x := .c (.d (.v (.int .u8 x7)))) rfl rfl trivial rfl) ?_
        refine OkOps.q (triQG (x := aB (x7 != 95)) rfl rfl ⟨fun h => h, trivial⟩ rfl) ?_
        refine OkOps.q (triAndG rfl rfl rfl (fun h => h) (fun h h2 => by rw [h, h2]; rfl) rfl) ?_
        refine OkOps.q (triOrG rfl rfl rfl (fun h => h) (fun h h2 => by rw [h, h2]; rfl) rfl) ?_
        refine OkOps.q (triAnd rfl rfl (fun h => h) rfl) ?_
        refine OkOps.nil ?_
        refine Ok.cond (b := (!(((decide (x7 ≥ 97)) && (decide (x7 ≤ 122))) || ((decide (x7 ≥ 65)) && (decide (x7 ≤ 90))))) && ((s4 == 0) || ((((decide (x7 < 48)) || (decide (x7 > 57))) && (x7 != 45)) && (x7 != 95)))) rfl (fun h8 => ?_) (fun h8 => ?_)
        · have hr := selT h8 hr
          refine Ok.seq ?_
          refine Ok.region ?_
          refine OkOps.x (aB false) rfl trivial rfl ?_
          refine OkOps.nil ?_
          refine Ok.ret ?_
          obtain rfl := Option.some.inj hr
          exact ⟨_, rfl, .inl rfl, trivial⟩
        · have hr := selF h8 hr
          refine Ok.skip ?_
          refine Ok.region ?_
          refine OkOps.x (aI (IntKind.i64.wrap (s4 + 1))) rfl trivial rfl ?_
          refine OkOps.x (aI (IntKind.i64.wrap (s4 + 1))) rfl trivial rfl ?_
          refine OkOps.nil ?_
          exact ⟨IntKind.i64.wrap (s4 + 1), hr, (Conv.mk (tau []) ⟨⟨_, rfl, .inl rfl⟩, ⟨_, rfl, .inl rfl⟩, ⟨_, rfl, .inl rfl⟩, trivial⟩ trivial rfl rfl rfl rfl)⟩
      · have hr := selF h6 hr
        refine Ok.exit ?_
        exact ⟨(), hr, (Conv.mk (tau []) trivial trivial rfl rfl rfl rfl)⟩
theorem entry104 : Entry Tryd.prog 104 := ⟨_, Tryd.func104, by kernel_rfl, by kernel_rfl⟩
theorem r13_Key_c (p_s : Str) {r : Bool} (hr : r13_Key p_s = some r) : Con Tryd.prog 50 [aS p_s] [] (.s (aB r)) [] := by
  unfold r13_Key at hr
  refine Con.of_ok 47 0 [.tmp 2] [(0, .s (aS p_s))] Tryd.func50 rfl rfl rfl rfl rfl rfl rfl rfl fun w g M ρ _ => ?_
  refine Ok.seq ?_
  refine Ok.region ?_
  refine OkOps.x (aB false) rfl trivial rfl ?_
  refine OkOps.nil ?_
  obtain ⟨k2, hk2, hr⟩ := jn_some hr
  refine Ok.join (fun (s1 : Unit) => ⟨[(0, .s (aS p_s))], [], 0⟩) k2 r (fun s1 hr => ?_) ?_
  · rw [hk2] at hr
    refine Ok.seq ?_
    refine Ok.region ?_
    refine OkOps.x (aS p_s) rfl trivial rfl ?_
    refine OkOps.x (aI (p_s.size : Int)) rfl trivial rfl ?_
    refine OkOps.x (aB (decide ((p_s.size : Int) ≤ 24))) rfl trivial rfl ?_
    refine OkOps.x (aB (decide ((p_s.size : Int) ≤ 24))) rfl trivial rfl ?_
    refine OkOps.nil ?_
    refine Ok.ret ?_
    obtain rfl := Option.some.inj hr
    exact ⟨_, rfl, .inl rfl, trivial⟩
  · clear hk2
    refine Ok.seq ?_
    refine Ok.region ?_
    refine OkOps.x (aI 0) rfl trivial rfl ?_
    refine OkOps.nil ?_
    refine Ok.block ?_
    refine Ok.loopK (fun (s3 : Int) => ⟨[(0, .s (aS p_s)), (3, .s (aI s3))], [], 0⟩) hr (Conv.mk (tau []) ⟨⟨_, rfl, .inl rfl⟩, ⟨_, rfl, .inl rfl⟩, trivial⟩ trivial rfl rfl rfl rfl) ?_
    clear hr
    intro again4 s3 hr
    unfold r13_Key_L1 at hr
    refine Ok.seq ?_
    refine Ok.seq ?_
    refine Ok.region ?_
    refine OkOps.x (aI s3) rfl trivial rfl ?_
    refine OkOps.x (aS p_s) rfl trivial rfl ?_
    refine OkOps.x (aI (p_s.size : Int)) rfl trivial rfl ?_
    refine OkOps.x (aB (decide (s3 < (p_s.size : Int)))) rfl trivial rfl ?_
    refine OkOps.nil ?_
    refine Ok.cond (b := decide (s3 < (p_s.size : Int))) rfl (fun h5 => ?_) (fun h5 => ?_)
    · have hr := selT h5 hr
      refine Ok.skip ?_
      refine Ok.seq ?_
      refine Ok.block ?_
      refine Ok.seq ?_
      refine Ok.region ?_
      refine OkOps.x (aS p_s) rfl trivial rfl ?_
      refine OkOps.x (aI s3) rfl trivial rfl ?_
      obtain ⟨x6, hx6, hr⟩ := bind_some hr
      refine OkOps.q (triSIdx hx6 rfl rfl rfl trivial rfl) ?_
      refine OkOps.x (.c (.d (.v (.int .u8 x6)))) rfl trivial rfl ?_
      refine OkOps.nil ?_
      refine Ok.seq ?_
      refine Ok.region ?_
      refine OkOps.x (.c (.d (.v (.int .u8 x6)))) rfl trivial rfl ?_
      refine OkOps.x (aB (decide (x6 < 97))) rfl trivial rfl ?_
      refine OkOps.x (aB (decide (x6 < 97))) rfl trivial rfl ?_
      refine OkOps.q (triQG (x := .c (.d (.v (.int .u8 x6)))) rfl rfl trivial rfl) ?_
      refine OkOps.q (triQG (x := aB (decide (x6 > 122))) rfl rfl ⟨fun h => h, trivial⟩ rfl) ?_
      refine OkOps.q (triOr rfl rfl (fun h => by rw [h]; rfl) rfl) ?_
      refine OkOps.x (aB ((decide (x6 < 97)) || (decide (x6 > 122)))) rfl trivial rfl ?_
      refine OkOps.q (triQG (x := .c (.d (.v (.int .u8 x6)))) rfl rfl trivial rfl) ?_
      refine OkOps.q (triQG (x := aB (decide (x6 < 65))) rfl rfl ⟨fun h => h, trivial⟩ rfl) ?_
      refine OkOps.q (triQG (x := aB (decide (x6 < 65))) rfl rfl ⟨fun h => h, trivial⟩ rfl) ?_
      refine OkOps.q (triQG (x := .c (.d (.v (.int .u8 x6)))) rfl rfl trivial rfl) ?_
      refine OkOps.q (triQG (x := aB (decide (x6 > 90))) rfl rfl ⟨fun h => h, trivial⟩ rfl) ?_
      refine OkOps.q (triOrG rfl rfl rfl (fun h => h) (fun h h2 => by rw [h, h2]; rfl) rfl) ?_
      refine OkOps.q (triAnd rfl rfl (fun h => h) rfl) ?_
      refine OkOps.x (aB (((decide (x6 < 97)) || (decide (x6 > 122))) && ((decide (x6 < 65)) || (decide (x6 > 90))))) rfl trivial rfl ?_
      refine OkOps.q (triQG (x := .c (.d (.v (.int .u8 x6)))) rfl rfl trivial rfl) ?_
      refine OkOps.q (triQG (x := aB (decide (x6 < 48))) rfl rfl ⟨fun h => h, trivial⟩ rfl) ?_
      refine OkOps.q (triQG (x := aB (decide (x6 < 48))) rfl rfl ⟨fun h => h, trivial⟩ rfl) ?_
      refine OkOps.q (triQG (x := .c (.d (.v (.int .u8 x6)))) rfl rfl trivial rfl) ?_
      refine OkOps.q (triQG (x := aB (decide (x6 > 57))) rfl rfl ⟨fun h => h, trivial⟩ rfl) ?_
      refine OkOps.q (triOrG rfl rfl rfl (fun h => h) (fun h h2 => by rw [h, h2]; rfl) rfl) ?_
      refine OkOps.q (triAnd rfl rfl (fun h => h) rfl) ?_
      refine OkOps.x (aB ((((decide (x6 < 97)) || (decide (x6 > 122))) && ((decide (x6 < 65)) || (decide (x6 > 90)))) && ((decide (x6 < 48)) || (decide (x6 > 57))))) rfl trivial rfl ?_
      refine OkOps.q (triQG (x := .c (.d (.v (.int .u8 x6)))) rfl rfl trivial rfl) ?_
      refine OkOps.q (triQG (x := aB (x6 != 45)) rfl rfl ⟨fun h => h, trivial⟩ rfl) ?_
      refine OkOps.q (triAnd rfl rfl (fun h => h) rfl) ?_
      refine OkOps.x (aB (((((decide (x6 < 97)) || (decide (x6 > 122))) && ((decide (x6 < 65)) || (decide (x6 > 90)))) && ((decide (x6 < 48)) || (decide (x6 > 57)))) && (x6 != 45))) rfl trivial rfl ?_
      refine OkOps.q (triQG (x := .c (.d (.v (.int .u8 x6)))) rfl rfl trivial rfl) ?_
      refine OkOps.q (triQG (x := aB (x6 != 95)) rfl rfl ⟨fun h => h, trivial⟩ rfl) ?_
      refine OkOps.q (triAnd rfl rfl (fun h => h) rfl) ?_
      refine OkOps.nil ?_
      refine Ok.cond (b := (((((decide (x6 < 97)) || (decide (x6 > 122))) && ((decide (x6 < 65)) || (decide (x6 > 90)))) && ((decide (x6 < 48)) || (decide (x6 > 57)))) && (x6 != 45)) && (x6 != 95)) rfl (fun h7 => ?_) (fun h7 => ?_)
      · have hr := selT h7 hr
        refine Ok.seq ?_
        refine Ok.region ?_
        refine OkOps.x (aB false) rfl trivial rfl ?_
        refine OkOps.nil ?_
        refine Ok.ret ?_
        obtain rfl := Option.some.inj hr
        exact ⟨_, rfl, .inl rfl, trivial⟩
      · have hr := selF h7 hr
        refine Ok.skip ?_
        refine Ok.region ?_
        refine OkOps.x (aI s3) rfl trivial rfl ?_
        refine OkOps.x (aI (IntKind.i64.wrap (s3 + 1))) rfl trivial rfl ?_
        refine OkOps.x (aI (IntKind.i64.wrap (s3 + 1))) rfl trivial rfl ?_
        refine OkOps.nil ?_
        exact ⟨IntKind.i64.wrap (s3 + 1), hr, (Conv.mk (tau []) ⟨⟨_, rfl, .inl rfl⟩, ⟨_, rfl, .inl rfl⟩, trivial⟩ trivial rfl rfl rfl rfl)⟩
    · have hr := selF h5 hr
      refine Ok.exit ?_
      exact ⟨(), hr, (Conv.mk (tau []) ⟨⟨_, rfl, .inl rfl⟩, trivial⟩ trivial rfl rfl rfl rfl)⟩
theorem entry50 : Entry Tryd.prog 50 := ⟨_, Tryd.func50, by kernel_rfl, by kernel_rfl⟩
theorem r14_Key_c (p_s : Str) {r : Bool} (hr : r14_Key p_s = some r) : Con Tryd.prog 13 [aS p_s] [] (.s (aB r)) [] := by
  unfold r14_Key at hr
  refine Con.of_ok 5 0 [.tmp 2] [(0, .s (aS p_s))] Tryd.func13 rfl rfl rfl rfl rfl rfl rfl rfl fun w g M ρ _ => ?_
  refine Ok.seq ?_
  refine Ok.region ?_
  refine OkOps.x (aB false) rfl trivial rfl ?_
  refine OkOps.nil ?_
  refine Ok.seq ?_
  refine Ok.region ?_
  refine OkOps.x (aS p_s) rfl trivial rfl ?_
  obtain ⟨x1, hx1, hr⟩ := bind_some hr
  refine OkOps.q (triCall (tau []) (.s (aB x1)) [] (r13_Key_c _ hx1) rfl ⟨.inl rfl, trivial⟩ trivial entry50 trivial rfl rfl rfl rfl trivial rfl rfl rfl) ?_
  refine OkOps.x (aB x1) rfl trivial rfl ?_
  refine OkOps.nil ?_
  refine Ok.ret ?_
  obtain rfl := Option.some.inj hr
  exact ⟨_, rfl, .inl rfl, trivial⟩
theorem entry13 : Entry Tryd.prog 13 := ⟨_, Tryd.func13, by kernel_rfl, by kernel_rfl⟩
theorem vw_Key_c (p_s : Str) {r : Bool} (hr : vw_Key p_s = some r) : Con Tryd.prog 12 [aS p_s] [] (.s (aB r)) [] := by
  unfold vw_Key at hr
  refine Con.of_ok 47 0 [.tmp 2] [(0, .s (aS p_s))] Tryd.func12 rfl rfl rfl rfl rfl rfl rfl rfl fun w g M ρ _ => ?_
  refine Ok.seq ?_
  refine Ok.region ?_
  refine OkOps.x (aB false) rfl trivial rfl ?_
  refine OkOps.nil ?_
  obtain ⟨k2, hk2, hr⟩ := jn_some hr
  refine Ok.join (fun (s1 : Unit) => ⟨[(0, .s (aS p_s))], [], 0⟩) k2 r (fun s1 hr => ?_) ?_
  · rw [hk2] at hr
    refine Ok.seq ?_
    refine Ok.region ?_
    refine OkOps.x (aS p_s) rfl trivial rfl ?_
    refine OkOps.x (aI (p_s.size : Int)) rfl trivial rfl ?_
    refine OkOps.x (aB (decide ((p_s.size : Int) ≤ 24))) rfl trivial rfl ?_
    refine OkOps.x (aB (decide ((p_s.size : Int) ≤ 24))) rfl trivial rfl ?_
    refine OkOps.nil ?_
    refine Ok.ret ?_
    obtain rfl := Option.some.inj hr
    exact ⟨_, rfl, .inl rfl, trivial⟩
  · clear hk2
    refine Ok.seq ?_
    refine Ok.region ?_
    refine OkOps.x (aS p_s) rfl trivial rfl ?_
    refine OkOps.x (aI (p_s.size : Int)) rfl trivial rfl ?_
    refine OkOps.x (aI 0) rfl trivial rfl ?_
    refine OkOps.nil ?_
    refine Ok.block ?_
    refine Ok.loopK (fun (s3 : Int) => ⟨[(0, .s (aS p_s)), (6, .s (aI (p_s.size : Int))), (7, .s (aI s3))], [], 0⟩) hr (Conv.mk (tau []) ⟨⟨_, rfl, .inl rfl⟩, ⟨_, rfl, .inl rfl⟩, ⟨_, rfl, .inl rfl⟩, trivial⟩ trivial rfl rfl rfl rfl) ?_
    clear hr
    intro again4 s3 hr
    unfold vw_Key_L1 at hr
    refine Ok.seq ?_
    refine Ok.region ?_
    refine OkOps.x (aB (decide (s3 < (p_s.size : Int)))) rfl trivial rfl ?_
    refine OkOps.nil ?_
    refine Ok.seq ?_
    refine Ok.cond (b := decide (s3 < (p_s.size : Int))) rfl (fun h5 => ?_) (fun h5 => ?_)
    · have hr := selT h5 hr
      refine Ok.skip ?_
      refine Ok.seq ?_
      refine Ok.block ?_
      refine Ok.seq ?_
      refine Ok.region ?_
      refine OkOps.x (aI s3) rfl trivial rfl ?_
      refine OkOps.x (aI s3) rfl trivial rfl ?_
      refine OkOps.nil ?_
      refine Ok.seq ?_
      refine Ok.region ?_
      refine OkOps.x (aS p_s) rfl trivial rfl ?_
      refine OkOps.x (aI s3) rfl trivial rfl ?_
      obtain ⟨x6, hx6, hr⟩ := bind_some hr
      refine OkOps.q (triSIdx hx6 rfl rfl rfl trivial rfl) ?_
      refine OkOps.x (.c (.d (.v (.int .u8 x6)))) rfl trivial rfl ?_
      refine OkOps.nil ?_
      refine Ok.seq ?_
      refine Ok.region ?_
      refine OkOps.x (.c (.d (.v (.int .u8 x6)))) rfl trivial rfl ?_
      refine OkOps.x (aB (decide (x6 < 97))) rfl trivial rfl ?_
      refine OkOps.x (aB (decide (x6 < 97))) rfl trivial rfl ?_
      refine OkOps.q (triQG (x := .c (.d (.v (.int .u8 x6)))) rfl rfl trivial rfl) ?_
      refine OkOps.q (triQG (x := aB (decide (x6 > 122))) rfl rfl ⟨fun h => h, trivial⟩ rfl) ?_
      refine OkOps.q (triOr rfl rfl (fun h => by rw [h]; rfl) rfl) ?_
      refine OkOps.x (aB ((decide (x6 < 97)) || (decide (x6 > 122)))) rfl trivial rfl ?_
      refine OkOps.q (triQG (x := .c (.d (.v (.int .u8 x6)))) rfl rfl trivial rfl) ?_
      refine OkOps.q (triQG (x := aB (decide (x6 < 65))) rfl rfl ⟨fun h => h, trivial⟩ rfl) ?_
      refine OkOps.q (triQG (x := aB (decide (x6 < 65))) rfl rfl ⟨fun h => h, trivial⟩ rfl) ?_
      refine OkOps.q (triQG (x := .c (.d (.v (.int .u8 x6)))) rfl rfl trivial rfl) ?_
      refine OkOps.q (triQG (x := aB (decide (x6 > 90))) rfl rfl ⟨fun h => h, trivial⟩ rfl) ?_
      refine OkOps.q (triOrG rfl rfl rfl (fun h => h) (fun h h2 => by rw [h, h2]; rfl) rfl) ?_
      refine OkOps.q (triAnd rfl rfl (fun h => h) rfl) ?_
      refine OkOps.x (aB (((decide (x6 < 97)) || (decide (x6 > 122))) && ((decide (x6 < 65)) || (decide (x6 > 90))))) rfl trivial rfl ?_
      refine OkOps.q (triQG (x := .c (.d (.v (.int .u8 x6)))) rfl rfl trivial rfl) ?_
      refine OkOps.q (triQG (x := aB (decide (x6 < 48))) rfl rfl ⟨fun h => h, trivial⟩ rfl) ?_
      refine OkOps.q (triQG (x := aB (decide (x6 < 48))) rfl rfl ⟨fun h => h, trivial⟩ rfl) ?_
      refine OkOps.q (triQG (x := .c (.d (.v (.int .u8 x6)))) rfl rfl trivial rfl) ?_
      refine OkOps.q (triQG (x := aB (decide (x6 > 57))) rfl rfl ⟨fun h => h, trivial⟩ rfl) ?_
      refine OkOps.q (triOrG rfl rfl rfl (fun h => h) (fun h h2 => by rw [h, h2]; rfl) rfl) ?_
      refine OkOps.q (triAnd rfl rfl (fun h => h) rfl) ?_
      refine OkOps.x (aB ((((decide (x6 < 97)) || (decide (x6 > 122))) && ((decide (x6 < 65)) || (decide (x6 > 90)))) && ((decide (x6 < 48)) || (decide (x6 > 57))))) rfl trivial rfl ?_
      refine OkOps.q (triQG (x := .c (.d (.v (.int .u8 x6)))) rfl rfl trivial rfl) ?_
      refine OkOps.q (triQG (x := aB (x6 != 45)) rfl rfl ⟨fun h => h, trivial⟩ rfl) ?_
      refine OkOps.q (triAnd rfl rfl (fun h => h) rfl) ?_
      refine OkOps.x (aB (((((decide (x6 < 97)) || (decide (x6 > 122))) && ((decide (x6 < 65)) || (decide (x6 > 90)))) && ((decide (x6 < 48)) || (decide (x6 > 57)))) && (x6 != 45))) rfl trivial rfl ?_
      refine OkOps.q (triQG (x := .c (.d (.v (.int .u8 x6)))) rfl rfl trivial rfl) ?_
      refine OkOps.q (triQG (x := aB (x6 != 95)) rfl rfl ⟨fun h => h, trivial⟩ rfl) ?_
      refine OkOps.q (triAnd rfl rfl (fun h => h) rfl) ?_
      refine OkOps.nil ?_
      refine Ok.cond (b := (((((decide (x6 < 97)) || (decide (x6 > 122))) && ((decide (x6 < 65)) || (decide (x6 > 90)))) && ((decide (x6 < 48)) || (decide (x6 > 57)))) && (x6 != 45)) && (x6 != 95)) rfl (fun h7 => ?_) (fun h7 => ?_)
      · have hr := selT h7 hr
        refine Ok.seq ?_
        refine Ok.region ?_
        refine OkOps.x (aB false) rfl trivial rfl ?_
        refine OkOps.nil ?_
        refine Ok.ret ?_
        obtain rfl := Option.some.inj hr
        exact ⟨_, rfl, .inl rfl, trivial⟩
      · have hr := selF h7 hr
        refine Ok.skip ?_
        refine Ok.region ?_
        refine OkOps.x (aI (IntKind.i64.wrap (s3 + 1))) rfl trivial rfl ?_
        refine OkOps.x (aI (IntKind.i64.wrap (s3 + 1))) rfl trivial rfl ?_
        refine OkOps.nil ?_
        exact ⟨IntKind.i64.wrap (s3 + 1), hr, (Conv.mk (tau []) ⟨⟨_, rfl, .inl rfl⟩, ⟨_, rfl, .inl rfl⟩, ⟨_, rfl, .inl rfl⟩, trivial⟩ trivial rfl rfl rfl rfl)⟩
    · have hr := selF h5 hr
      refine Ok.exit ?_
      exact ⟨(), hr, (Conv.mk (tau []) ⟨⟨_, rfl, .inl rfl⟩, trivial⟩ trivial rfl rfl rfl rfl)⟩
theorem entry12 : Entry Tryd.prog 12 := ⟨_, Tryd.func12, by kernel_rfl, by kernel_rfl⟩
theorem r11_UTF8_c (p_s : Str) {r : Bool} (hr : r11_UTF8 p_s = some r) : Con Tryd.prog 123 [aS p_s] [] (.s (aB r)) [] := by
  unfold r11_UTF8 at hr
  refine Con.of_ok 8 0 [.tmp 2] [(0, .s (aS p_s))] Tryd.func123 rfl rfl rfl rfl rfl rfl rfl rfl fun w g M ρ _ => ?_
  refine Ok.seq ?_
  refine Ok.region ?_
  refine OkOps.x (aB false) rfl trivial rfl ?_
  refine OkOps.nil ?_
  refine Ok.seq ?_
  refine Ok.region ?_
  refine OkOps.x (aS p_s) rfl trivial rfl ?_
  refine OkOps.q (triRunes rfl rfl trivial rfl) ?_
  refine OkOps.q (triOfRunes (L := runes p_s) rfl rfl trivial rfl) ?_
  refine OkOps.x (aS p_s) rfl trivial rfl ?_
  refine OkOps.x (aB ((ofRunes (runes p_s)).toList == p_s.toList)) rfl trivial rfl ?_
  refine OkOps.x (aB ((ofRunes (runes p_s)).toList == p_s.toList)) rfl trivial rfl ?_
  refine OkOps.nil ?_
  refine Ok.ret ?_
  obtain rfl := Option.some.inj hr
  exact ⟨_, rfl, .inl rfl, trivial⟩
theorem entry123 : Entry Tryd.prog 123 := ⟨_, Tryd.func123, by kernel_rfl, by kernel_rfl⟩
theorem ex_fields_c (v : AValue) {r : Bool} (hr : ex_fields v = some r) : Con Tryd.prog 130 [.agg [cI v.Kind, cI v.N, cS v.S, .d (.sl (List.map AValue.cs v.L))]] [] (.s (aB r)) [] := by
  unfold ex_fields at hr
  refine Con.of_ok 38 0 [.tmp 2] [(0, .s (.agg [cI v.Kind, cI v.N, cS v.S, .d (.sl (List.map AValue.cs v.L))]))] Tryd.func130 rfl rfl rfl rfl rfl rfl rfl rfl fun w g M ρ _ => ?_
  refine Ok.seq ?_
  refine Ok.region ?_
  refine OkOps.m 0 (triBox (j := 0) (cs := [cI v.Kind, cI v.N, cS v.S, .d (.sl (List.map AValue.cs v.L))]) rfl rfl rfl rfl rfl) ?_
  refine OkOps.x (aB false) rfl trivial rfl ?_
  refine OkOps.nil ?_
  refine Ok.seq ?_
  refine Ok.seq ?_
  refine Ok.region ?_
  refine OkOps.x (.c (.loc 0 0)) rfl trivial rfl ?_
  refine OkOps.x (aI v.Kind) rfl trivial rfl ?_
  refine OkOps.nil ?_
  refine Ok.block ?_
  obtain ⟨k2, hk2, hr⟩ := jn_some hr
  refine Ok.join (fun (s1 : Bool) => ⟨[(1, .s (.c (.loc 0 0))), (4, .s (aI v.Kind)), (5, .s (aB s1))], [(0, .blk [cI v.Kind, cI v.N, cS v.S, .d (.sl (List.map AValue.cs v.L))] 40)], 0⟩) k2 r (fun s1 hr => ?_) ?_
  · rw [hk2] at hr
    refine Ok.cond (b := s1) rfl (fun h3 => ?_) (fun h3 => ?_)
    · have hr := selT h3 hr
      refine Ok.seq ?_
      refine Ok.region ?_
      refine OkOps.x (.c (.loc 0 2)) rfl trivial rfl ?_
      refine OkOps.x (aS v.S) rfl trivial rfl ?_
      refine OkOps.x (aB (v.S.toList == (ByteArray.mk #[]).toList)) rfl trivial rfl ?_
      refine OkOps.x (aB (v.S.toList == (ByteArray.mk #[]).toList)) rfl trivial rfl ?_
      refine OkOps.q (triQG (x := .c (.loc 0 3)) rfl rfl trivial rfl) ?_
      refine OkOps.q (triQG (x := .c (.d (.sl (List.map AValue.cs v.L)))) rfl rfl ⟨fun h => h, trivial⟩ rfl) ?_
      refine OkOps.q (triLenG (enc := AValue.cs) v.L rfl rfl rfl ⟨fun h => h, trivial⟩ rfl) ?_
      refine OkOps.q (triQG (x := aB ((v.L.length : Int) == 0)) rfl rfl ⟨fun h => h, trivial⟩ rfl) ?_
      refine OkOps.q (triAnd rfl rfl (fun h => h) rfl) ?_
      refine OkOps.x (aB ((v.S.toList == (ByteArray.mk #[]).toList) && ((v.L.length : Int) == 0))) rfl trivial rfl ?_
      refine OkOps.nil ?_
      refine Ok.ret ?_
      obtain rfl := Option.some.inj hr
      exact ⟨_, rfl, .inl rfl, trivial⟩
    · have hr := selF h3 hr
      refine Ok.seq ?_
      refine Ok.region ?_
      refine OkOps.x (aB (v.Kind == 3)) rfl trivial rfl ?_
      refine OkOps.x (aB (v.Kind == 3)) rfl trivial rfl ?_
      refine OkOps.nil ?_
      refine Ok.cond (b := v.Kind == 3) rfl (fun h4 => ?_) (fun h4 => ?_)
      · have hr := selT h4 hr
        refine Ok.seq ?_
        refine Ok.region ?_
        refine OkOps.x (.c (.loc 0 1)) rfl trivial rfl ?_
        refine OkOps.x (aI v.N) rfl trivial rfl ?_
        refine OkOps.x (aB (v.N == 0)) rfl trivial rfl ?_
        refine OkOps.x (aB (v.N == 0)) rfl trivial rfl ?_
        refine OkOps.q (triQG (x := .c (.loc 0 3)) rfl rfl trivial rfl) ?_
        refine OkOps.q (triQG (x := .c (.d (.sl (List.map AValue.cs v.L)))) rfl rfl ⟨fun h => h, trivial⟩ rfl) ?_
        refine OkOps.q (triLenG (enc := AValue.cs) v.L rfl rfl rfl ⟨fun h => h, trivial⟩ rfl) ?_
        refine OkOps.q (triQG (x := aB ((v.L.length : Int) == 0)) rfl rfl ⟨fun h => h, trivial⟩ rfl) ?_
        refine OkOps.q (triAnd rfl rfl (fun h => h) rfl) ?_
        refine OkOps.x (aB ((v.N == 0) && ((v.L.length : Int) == 0))) rfl trivial rfl ?_
        refine OkOps.nil ?_
        refine Ok.ret ?_
        obtain rfl := Option.some.inj hr
        exact ⟨_, rfl, .inl rfl, trivial⟩
      · have hr := selF h4 hr
        refine Ok.seq ?_
        refine Ok.region ?_
        refine OkOps.x (aB (v.Kind == 4)) rfl trivial rfl ?_
        refine OkOps.x (aB (v.Kind == 4)) rfl trivial rfl ?_
        refine OkOps.nil ?_
        refine Ok.cond (b := v.Kind == 4) rfl (fun h5 => ?_) (fun h5 => ?_)
        · have hr := selT h5 hr
          refine Ok.seq ?_
          refine Ok.region ?_
          refine OkOps.x (.c (.loc 0 1)) rfl trivial rfl ?_
          refine OkOps.x (aI v.N) rfl trivial rfl ?_
          refine OkOps.x (aB (v.N == 0)) rfl trivial rfl ?_
          refine OkOps.x (aB (v.N == 0)) rfl trivial rfl ?_
          refine OkOps.q (triQG (x := .c (.loc 0 2)) rfl rfl trivial rfl) ?_
          refine OkOps.q (triQG (x := aS v.S) rfl rfl ⟨fun h => h, trivial⟩ rfl) ?_
          refine OkOps.q (triQG (x := aB (v.S.toList == (ByteArray.mk #[]).toList)) rfl rfl ⟨fun h => h, trivial⟩ rfl) ?_
          refine OkOps.q (triAnd rfl rfl (fun h => h) rfl) ?_
          refine OkOps.x (aB ((v.N == 0) && (v.S.toList == (ByteArray.mk #[]).toList))) rfl trivial rfl ?_
          refine OkOps.nil ?_
          refine Ok.ret ?_
          obtain rfl := Option.some.inj hr
          exact ⟨_, rfl, .inl rfl, trivial⟩
        · have hr := selF h5 hr
          refine Ok.skip ?_
          refine Ok.seq ?_
          refine Ok.region ?_
          refine OkOps.x (aB false) rfl trivial rfl ?_
          refine OkOps.nil ?_
          refine Ok.ret ?_
          obtain rfl := Option.some.inj hr
          exact ⟨_, rfl, .inl rfl, trivial⟩
  · clear hk2
    refine Ok.seq ?_
    refine Ok.region ?_
    refine OkOps.x (aB (v.Kind == 1)) rfl trivial rfl ?_
    refine OkOps.x (aB (v.Kind == 1)) rfl trivial rfl ?_
    refine OkOps.nil ?_
    refine Ok.cond (b := v.Kind == 1) rfl (fun h6 => ?_) (fun h6 => ?_)
    · have hr := selT h6 hr
      refine Ok.skip ?_
      exact ⟨v.Kind == 1, hr, (Conv.mk (tau []) ⟨⟨_, rfl, .inl rfl⟩, ⟨_, rfl, .inl rfl⟩, ⟨_, rfl, .inl rfl⟩, trivial⟩ ⟨rfl, trivial⟩ rfl rfl rfl rfl)⟩
    · have hr := selF h6 hr
      refine Ok.region ?_
      refine OkOps.x (aB (v.Kind == 2)) rfl trivial rfl ?_
      refine OkOps.x (aB (v.Kind == 2)) rfl trivial rfl ?_
      refine OkOps.nil ?_
      exact ⟨v.Kind == 2, hr, (Conv.mk (tau []) ⟨⟨_, rfl, .inl rfl⟩, ⟨_, rfl, .inl rfl⟩, ⟨_, rfl, .inl rfl⟩, trivial⟩ ⟨rfl, trivial⟩ rfl rfl rfl rfl)⟩
theorem entry130 : Entry Tryd.prog 130 := ⟨_, Tryd.func130, by kernel_rfl, by kernel_rfl⟩
theorem ex_within_c (p_n : Int) {r : Bool} (hr : ex_within p_n = some r) : Con Tryd.prog 131 [aI p_n] [] (.s (aB r)) [] := by
  unfold ex_within at hr
  refine Con.of_ok 9 0 [.tmp 2] [(0, .s (aI p_n))] Tryd.func131 rfl rfl rfl rfl rfl rfl rfl rfl fun w g M ρ _ => ?_
  refine Ok.seq ?_
  refine Ok.region ?_
  refine OkOps.x (aB false) rfl trivial rfl ?_
  refine OkOps.nil ?_
  refine Ok.seq ?_
  refine Ok.region ?_
  refine OkOps.x (aI p_n) rfl trivial rfl ?_
  refine OkOps.x (aB (decide (p_n ≥ (-1099511627776)))) rfl trivial rfl ?_
  refine OkOps.x (aB (decide (p_n ≥ (-1099511627776)))) rfl trivial rfl ?_
  refine OkOps.q (triQG (x := aI p_n) rfl rfl trivial rfl) ?_
  refine OkOps.q (triQG (x := aB (decide (p_n ≤ 1099511627776))) rfl rfl ⟨fun h => h, trivial⟩ rfl) ?_
  refine OkOps.q (triAnd rfl rfl (fun h => h) rfl) ?_
  refine OkOps.x (aB ((decide (p_n ≥ (-1099511627776))) && (decide (p_n ≤ 1099511627776)))) rfl trivial rfl ?_
  refine OkOps.nil ?_
  refine Ok.ret ?_
  obtain rfl := Option.some.inj hr
  exact ⟨_, rfl, .inl rfl, trivial⟩
theorem entry131 : Entry Tryd.prog 131 := ⟨_, Tryd.func131, by kernel_rfl, by kernel_rfl⟩
theorem unicode_utf8_word_string_c (p_s : Str) {r : Int} (hr : unicode_utf8_word_string p_s = some r) : Con Tryd.prog 137 [aS p_s] [] (.s (.c (.d (.v (.int .u64 r))))) [] := by
  unfold unicode_utf8_word_string at hr
  refine Con.of_ok 59 0 [.tmp 2] [(0, .s (aS p_s))] Tryd.func137 rfl rfl rfl rfl rfl rfl rfl rfl fun w g M ρ _ => ?_
  refine Ok.seq ?_
  refine Ok.region ?_
  refine OkOps.x (.c (.d (.v (.int .u64 0)))) rfl trivial rfl ?_
  refine OkOps.nil ?_
  refine Ok.seq ?_
  refine Ok.cond (b := false) rfl (fun h1 => ?_) (fun h1 => ?_)
  · have hr := selT h1 hr
    refine Ok.seq ?_
    refine Ok.regionD (by kernel_rfl) ?_
    refine OkD.x (aS p_s) rfl trivial rfl ?_
    obtain ⟨x2, hx2, hr⟩ := bind_some hr
    refine OkD.q (triSIdx hx2 rfl rfl rfl trivial rfl) ?_
    refine OkD.x (.c (.d (.v (.int .u64 (IntKind.u64.wrap x2))))) rfl trivial rfl ?_
    refine OkD.x (aS p_s) rfl trivial rfl ?_
    obtain ⟨x3, hx3, hr⟩ := bind_some hr
    refine OkD.q (triSIdx hx3 rfl rfl rfl trivial rfl) ?_
    refine OkD.x (.c (.d (.v (.int .u64 (IntKind.u64.wrap x3))))) rfl trivial rfl ?_
    refine OkD.x (.c (.d (.v (.int .u64 (bShl .u64 (IntKind.u64.wrap x3) 8))))) rfl trivial rfl ?_
    refine OkD.x (.c (.d (.v (.int .u64 (bOr .u64 (IntKind.u64.wrap x2) (bShl .u64 (IntKind.u64.wrap x3) 8)))))) rfl trivial rfl ?_
    refine OkD.x (aS p_s) rfl trivial rfl ?_
    obtain ⟨x4, hx4, hr⟩ := bind_some hr
    refine OkD.q (triSIdx hx4 rfl rfl rfl trivial rfl) ?_
    refine OkD.x (.c (.d (.v (.int .u64 (IntKind.u64.wrap x4))))) rfl trivial rfl ?_
    refine OkD.x (.c (.d (.v (.int .u64 (bShl .u64 (IntKind.u64.wrap x4) 16))))) rfl trivial rfl ?_
    refine OkD.x (.c (.d (.v (.int .u64 (bOr .u64 (bOr .u64 (IntKind.u64.wrap x2) (bShl .u64 (IntKind.u64.wrap x3) 8)) (bShl .u64 (IntKind.u64.wrap x4) 16)))))) rfl trivial rfl ?_
    refine OkD.x (aS p_s) rfl trivial rfl ?_
    obtain ⟨x5, hx5, hr⟩ := bind_some hr
    refine OkD.q (triSIdx hx5 rfl rfl rfl trivial rfl) ?_
    refine OkD.x (.c (.d (.v (.int .u64 (IntKind.u64.wrap x5))))) rfl trivial rfl ?_
    refine OkD.x (.c (.d (.v (.int .u64 (bShl .u64 (IntKind.u64.wrap x5) 24))))) rfl trivial rfl ?_
    refine OkD.x (.c (.d (.v (.int .u64 (bOr .u64 (bOr .u64 (bOr .u64 (IntKind.u64.wrap x2) (bShl .u64 (IntKind.u64.wrap x3) 8)) (bShl .u64 (IntKind.u64.wrap x4) 16)) (bShl .u64 (IntKind.u64.wrap x5) 24)))))) rfl trivial rfl ?_
    refine OkD.x (.c (.d (.v (.int .u64 (bOr .u64 (bOr .u64 (bOr .u64 (IntKind.u64.wrap x2) (bShl .u64 (IntKind.u64.wrap x3) 8)) (bShl .u64 (IntKind.u64.wrap x4) 16)) (bShl .u64 (IntKind.u64.wrap x5) 24)))))) rfl trivial rfl ?_
    refine OkD.nil (by kernel_rfl) ?_
    refine Ok.ret ?_
    obtain rfl := Option.some.inj hr
    exact ⟨_, rfl, .inl rfl, trivial⟩
  · have hr := selF h1 hr
    refine Ok.skip ?_
    refine Ok.seq ?_
    refine Ok.regionD (by kernel_rfl) ?_
    refine OkD.x (aS p_s) rfl trivial rfl ?_
    obtain ⟨x6, hx6, hr⟩ := bind_some hr
    refine OkD.q (triSIdx hx6 rfl rfl rfl trivial rfl) ?_
    refine OkD.x (.c (.d (.v (.int .u64 (IntKind.u64.wrap x6))))) rfl trivial rfl ?_
    refine OkD.x (aS p_s) rfl trivial rfl ?_
    obtain ⟨x7, hx7, hr⟩ := bind_some hr
    refine OkD.q (triSIdx hx7 rfl rfl rfl trivial rfl) ?_
    refine OkD.x (.c (.d (.v (.int .u64 (IntKind.u64.wrap x7))))) rfl trivial rfl ?_
    refine OkD.x (.c (.d (.v (.int .u64 (bShl .u64 (IntKind.u64.wrap x7) 8))))) rfl trivial rfl ?_
    refine OkD.x (.c (.d (.v (.int .u64 (bOr .u64 (IntKind.u64.wrap x6) (bShl .u64 (IntKind.u64.wrap x7) 8)))))) rfl trivial rfl ?_
    refine OkD.x (aS p_s) rfl trivial rfl ?_
    obtain ⟨x8, hx8, hr⟩ := bind_some hr
    refine OkD.q (triSIdx hx8 rfl rfl rfl trivial rfl) ?_
    refine OkD.x (.c (.d (.v (.int .u64 (IntKind.u64.wrap x8))))) rfl trivial rfl ?_
    refine OkD.x (.c (.d (.v (.int .u64 (bShl .u64 (IntKind.u64.wrap x8) 16))))) rfl trivial rfl ?_
    refine OkD.x (.c (.d (.v (.int .u64 (bOr .u64 (bOr .u64 (IntKind.u64.wrap x6) (bShl .u64 (IntKind.u64.wrap x7) 8)) (bShl .u64 (IntKind.u64.wrap x8) 16)))))) rfl trivial rfl ?_
    refine OkD.x (aS p_s) rfl trivial rfl ?_
    obtain ⟨x9, hx9, hr⟩ := bind_some hr
    refine OkD.q (triSIdx hx9 rfl rfl rfl trivial rfl) ?_
    refine OkD.x (.c (.d (.v (.int .u64 (IntKind.u64.wrap x9))))) rfl trivial rfl ?_
    refine OkD.x (.c (.d (.v (.int .u64 (bShl .u64 (IntKind.u64.wrap x9) 24))))) rfl trivial rfl ?_
    refine OkD.x (.c (.d (.v (.int .u64 (bOr .u64 (bOr .u64 (bOr .u64 (IntKind.u64.wrap x6) (bShl .u64 (IntKind.u64.wrap x7) 8)) (bShl .u64 (IntKind.u64.wrap x8) 16)) (bShl .u64 (IntKind.u64.wrap x9) 24)))))) rfl trivial rfl ?_
    refine OkD.x (aS p_s) rfl trivial rfl ?_
    obtain ⟨x10, hx10, hr⟩ := bind_some hr
    refine OkD.q (triSIdx hx10 rfl rfl rfl trivial rfl) ?_
    refine OkD.x (.c (.d (.v (.int .u64 (IntKind.u64.wrap x10))))) rfl trivial rfl ?_
    refine OkD.x (.c (.d (.v (.int .u64 (bShl .u64 (IntKind.u64.wrap x10) 32))))) rfl trivial rfl ?_
    refine OkD.x (.c (.d (.v (.int .u64 (bOr .u64 (bOr .u64 (bOr .u64 (bOr .u64 (IntKind.u64.wrap x6) (bShl .u64 (IntKind.u64.wrap x7) 8)) (bShl .u64 (IntKind.u64.wrap x8) 16)) (bShl .u64 (IntKind.u64.wrap x9) 24)) (bShl .u64 (IntKind.u64.wrap x10) 32)))))) rfl trivial rfl ?_
    refine OkD.x (aS p_s) rfl trivial rfl ?_
    obtain ⟨x11, hx11, hr⟩ := bind_some hr
    refine OkD.q (triSIdx hx11 rfl rfl rfl trivial rfl) ?_
    refine OkD.x (.c (.d (.v (.int .u64 (IntKind.u64.wrap x11))))) rfl trivial rfl ?_
    refine OkD.x (.c (.d (.v (.int .u64 (bShl .u64 (IntKind.u64.wrap x11) 40))))) rfl trivial rfl ?_
    refine OkD.x (.c (.d (.v (.int .u64 (bOr .u64 (bOr .u64 (bOr .u64 (bOr .u64 (bOr .u64 (IntKind.u64.wrap x6) (bShl .u64 (IntKind.u64.wrap x7) 8)) (bShl .u64 (IntKind.u64.wrap x8) 16)) (bShl .u64 (IntKind.u64.wrap x9) 24)) (bShl .u64 (IntKind.u64.wrap x10) 32)) (bShl .u64 (IntKind.u64.wrap x11) 40)))))) rfl trivial rfl ?_
    refine OkD.x (aS p_s) rfl trivial rfl ?_
    obtain ⟨x12, hx12, hr⟩ := bind_some hr
    refine OkD.q (triSIdx hx12 rfl rfl rfl trivial rfl) ?_
    refine OkD.x (.c (.d (.v (.int .u64 (IntKind.u64.wrap x12))))) rfl trivial rfl ?_
    refine OkD.x (.c (.d (.v (.int .u64 (bShl .u64 (IntKind.u64.wrap x12) 48))))) rfl trivial rfl ?_
    refine OkD.x (.c (.d (.v (.int .u64 (bOr .u64 (bOr .u64 (bOr .u64 (bOr .u64 (bOr .u64 (bOr .u64 (IntKind.u64.wrap x6) (bShl .u64 (IntKind.u64.wrap x7) 8)) (bShl .u64 (IntKind.u64.wrap x8) 16)) (bShl .u64 (IntKind.u64.wrap x9) 24)) (bShl .u64 (IntKind.u64.wrap x10) 32)) (bShl .u64 (IntKind.u64.wrap x11) 40)) (bShl .u64 (IntKind.u64.wrap x12) 48)))))) rfl trivial rfl ?_
    refine OkD.x (aS p_s) rfl trivial rfl ?_
    obtain ⟨x13, hx13, hr⟩ := bind_some hr
    refine OkD.q (triSIdx hx13 rfl rfl rfl trivial rfl) ?_
    refine OkD.x (.c (.d (.v (.int .u64 (IntKind.u64.wrap x13))))) rfl trivial rfl ?_
    refine OkD.x (.c (.d (.v (.int .u64 (bShl .u64 (IntKind.u64.wrap x13) 56))))) rfl trivial rfl ?_
    refine OkD.x (.c (.d (.v (.int .u64 (bOr .u64 (bOr .u64 (bOr .u64 (bOr .u64 (bOr .u64 (bOr .u64 (bOr .u64 (IntKind.u64.wrap x6) (bShl .u64 (IntKind.u64.wrap x7) 8)) (bShl .u64 (IntKind.u64.wrap x8) 16)) (bShl .u64 (IntKind.u64.wrap x9) 24)) (bShl .u64 (IntKind.u64.wrap x10) 32)) (bShl .u64 (IntKind.u64.wrap x11) 40)) (bShl .u64 (IntKind.u64.wrap x12) 48)) (bShl .u64 (IntKind.u64.wrap x13) 56)))))) rfl trivial rfl ?_
    refine OkD.x (.c (.d (.v (.int .u64 (bOr .u64 (bOr .u64 (bOr .u64 (bOr .u64 (bOr .u64 (bOr .u64 (bOr .u64 (IntKind.u64.wrap x6) (bShl .u64 (IntKind.u64.wrap x7) 8)) (bShl .u64 (IntKind.u64.wrap x8) 16)) (bShl .u64 (IntKind.u64.wrap x9) 24)) (bShl .u64 (IntKind.u64.wrap x10) 32)) (bShl .u64 (IntKind.u64.wrap x11) 40)) (bShl .u64 (IntKind.u64.wrap x12) 48)) (bShl .u64 (IntKind.u64.wrap x13) 56)))))) rfl trivial rfl ?_
    refine OkD.nil (by kernel_rfl) ?_
    refine Ok.ret ?_
    obtain rfl := Option.some.inj hr
    exact ⟨_, rfl, .inl rfl, trivial⟩
theorem entry137 : Entry Tryd.prog 137 := ⟨_, Tryd.func137, by kernel_rfl, by kernel_rfl⟩
theorem unicode_utf8_ValidString_c (a0 : Str) {r : Bool} (hr : unicode_utf8_ValidString a0 = some r) : Con Tryd.prog 132 [aS a0] [] (.s (aB r)) [] := by
  unfold unicode_utf8_ValidString at hr
  refine Con.of_ok 169 0 [.tmp 2] [(0, .s (aS a0))] Tryd.func132 rfl rfl rfl rfl rfl rfl rfl rfl fun w g M ρ _ => ?_
  refine Ok.seq ?_
  refine Ok.region ?_
  refine OkOps.x (aB false) rfl trivial rfl ?_
  refine OkOps.nil ?_
  obtain ⟨k2, hk2, hr⟩ := jn_some hr
  refine Ok.join (fun (s1 : Unit) => ⟨[], [], 0⟩) k2 r (fun s1 hr => ?_) ?_
  · rw [hk2] at hr
    refine Ok.seq ?_
    refine Ok.region ?_
    refine OkOps.x (aB true) rfl trivial rfl ?_
    refine OkOps.nil ?_
    refine Ok.ret ?_
    obtain rfl := Option.some.inj hr
    exact ⟨_, rfl, .inl rfl, trivial⟩
  · clear hk2
    refine Ok.block ?_
    refine Ok.loopK (fun (s3 : Str) => ⟨[(0, .s (aS s3))], [], 0⟩) hr (Conv.mk (tau []) ⟨⟨_, rfl, .inl rfl⟩, trivial⟩ trivial rfl rfl rfl rfl) ?_
    clear hr
    intro again4 s3 hr
    unfold unicode_utf8_ValidString_L2 at hr
    refine Ok.seq ?_
    refine Ok.seq ?_
    refine Ok.region ?_
    refine OkOps.x (aS s3) rfl trivial rfl ?_
    refine OkOps.x (aI (s3.size : Int)) rfl trivial rfl ?_
    refine OkOps.x (aB (decide ((s3.size : Int) > 0))) rfl trivial rfl ?_
    refine OkOps.nil ?_
    refine Ok.cond (b := decide ((s3.size : Int) > 0)) rfl (fun h5 => ?_) (fun h5 => ?_)
    · have hr := selT h5 hr
      refine Ok.skip ?_
      obtain ⟨k7, hk7, hr⟩ := jn_some hr
      refine Ok.joinEnd (fun (s6 : Str) => ⟨[(0, .s (aS s6))], [], 0⟩) k7 r (fun s6 hr => ?_) ?_
      · rw [hk7] at hr
        exact ⟨s6, hr, (Conv.mk (tau []) ⟨⟨_, rfl, .inl rfl⟩, trivial⟩ trivial rfl rfl rfl rfl)⟩
      · clear hk7
        refine Ok.block ?_
        refine Ok.seq ?_
        refine Ok.region ?_
        refine OkOps.x (aS s3) rfl trivial rfl ?_
        obtain ⟨x8, hx8, hr⟩ := bind_some hr
        refine OkOps.q (triSIdx hx8 rfl rfl rfl trivial rfl) ?_
        refine OkOps.x (.c (.d (.v (.int .u8 x8)))) rfl trivial rfl ?_
        refine OkOps.nil ?_
        refine Ok.seq ?_
        refine Ok.seq ?_
        refine Ok.region ?_
        refine OkOps.x (.c (.d (.v (.int .u8 x8)))) rfl trivial rfl ?_
        refine OkOps.x (aB (decide (x8 < 128))) rfl trivial rfl ?_
        refine OkOps.nil ?_
        refine Ok.cond (b := decide (x8 < 128)) rfl (fun h9 => ?_) (fun h9 => ?_)
        · have hr := selT h9 hr
          refine Ok.seq ?_
          refine Ok.region ?_
          refine OkOps.x (aS s3) rfl trivial rfl ?_
          obtain ⟨x10, hx10, hr⟩ := bind_some hr
          refine OkOps.q (triSSlc hx10 rfl rfl rfl (.inr ⟨_, rfl⟩) (.inl ⟨rfl, rfl⟩) rfl trivial rfl) ?_
          refine OkOps.x (aS x10) rfl trivial rfl ?_
          refine OkOps.nil ?_
          obtain ⟨k12, hk12, hr⟩ := jn_some hr
          refine Ok.join (fun (s11 : Str) => ⟨[(0, .s (aS s11))], [], 0⟩) k12 r (fun s11 hr => ?_) ?_
          · rw [hk12] at hr
            refine Ok.exit ?_
            exact ⟨s11, hr, (Conv.mk (tau []) ⟨⟨_, rfl, .inl rfl⟩, trivial⟩ trivial rfl rfl rfl rfl)⟩
          · clear hk12
            refine Ok.seq ?_
            refine Ok.region ?_
            refine OkOps.x (aS x10) rfl trivial rfl ?_
            refine OkOps.x (aI (x10.size : Int)) rfl trivial rfl ?_
            refine OkOps.x (aB (decide ((x10.size : Int) > 8))) rfl trivial rfl ?_
            refine OkOps.x (aB (decide ((x10.size : Int) > 8))) rfl trivial rfl ?_
            refine OkOps.q (triQG (x := aS x10) rfl rfl trivial rfl) ?_
            obtain ⟨x13, hx13, hr⟩ := bind_some hr
            refine OkOps.q (triCallG (x := .c (.d (.v (.int .u64 x13)))) (fun hg => unicode_utf8_word_string_c _ (gO_t hx13 hg)) rfl rfl ⟨.inl rfl, trivial⟩ ⟨fun h => h, trivial⟩ entry137 rfl rfl rfl) ?_
            refine OkOps.q (triQG (x := .c (.d (.v (.int .u64 (bAnd .u64 x13 9259542123273814144))))) rfl rfl ⟨fun h => h, trivial⟩ rfl) ?_
            refine OkOps.q (triQG (x := aB ((bAnd .u64 x13 9259542123273814144) == 0)) rfl rfl ⟨fun h => h, trivial⟩ rfl) ?_
            refine OkOps.q (triAnd rfl rfl (fun h => h) rfl) ?_
            refine OkOps.nil ?_
            refine Ok.cond (b := (decide ((x10.size : Int) > 8)) && ((bAnd .u64 x13 9259542123273814144) == 0)) rfl (fun h14 => ?_) (fun h14 => ?_)
            · have hr := selT h14 hr
              refine Ok.seq ?_
              refine Ok.region ?_
              refine OkOps.x (aS x10) rfl trivial rfl ?_
              obtain ⟨x15, hx15, hr⟩ := bind_some hr
              refine OkOps.q (triSSlc hx15 rfl rfl rfl (.inr ⟨_, rfl⟩) (.inl ⟨rfl, rfl⟩) rfl trivial rfl) ?_
              refine OkOps.x (aS x15) rfl trivial rfl ?_
              refine OkOps.nil ?_
              refine Ok.seq ?_
              refine Ok.regionD (by kernel_rfl) ?_
              refine OkD.x (aS x15) rfl trivial rfl ?_
              refine OkD.x (aI (x15.size : Int)) rfl trivial rfl ?_
              refine OkD.x (aB (decide ((x15.size : Int) > 16))) rfl trivial rfl ?_
              refine OkD.x (aB (decide ((x15.size : Int) > 16))) rfl trivial rfl ?_
              refine OkD.q (triQG (x := aS x15) rfl rfl trivial rfl) ?_
              obtain ⟨x16, hx16, hr⟩ := bind_some hr
              refine OkD.q (triCallG (x := .c (.d (.v (.int .u64 x16)))) (fun hg => unicode_utf8_word_string_c _ (gO_t hx16 hg)) rfl rfl ⟨.inl rfl, trivial⟩ ⟨fun h => h, trivial⟩ entry137 rfl rfl rfl) ?_
              refine OkD.q (triQG (x := aS x15) rfl rfl trivial rfl) ?_
              obtain ⟨x17, hx17, hr⟩ := bind_some hr
              refine OkD.q (triSSlcG (gO_t hx17) rfl rfl rfl rfl (.inr ⟨_, rfl⟩) (.inl ⟨rfl, rfl⟩) rfl ⟨fun h => h, trivial⟩ rfl) ?_
              obtain ⟨x18, hx18, hr⟩ := bind_some hr
              refine OkD.q (triCallG (x := .c (.d (.v (.int .u64 x18)))) (fun hg => unicode_utf8_word_string_c _ (gO_t hx18 hg)) rfl rfl ⟨.inl rfl, trivial⟩ ⟨fun h => h, trivial⟩ entry137 rfl rfl rfl) ?_
              refine OkD.q (triQG (x := .c (.d (.v (.int .u64 (bOr .u64 x16 x18))))) rfl rfl ⟨fun h => h, ⟨fun h => h, trivial⟩⟩ rfl) ?_
              refine OkD.q (triQG (x := .c (.d (.v (.int .u64 (bAnd .u64 (bOr .u64 x16 x18) 9259542123273814144))))) rfl rfl ⟨fun h => h, trivial⟩ rfl) ?_
              refine OkD.q (triQG (x := aB ((bAnd .u64 (bOr .u64 x16 x18) 9259542123273814144) == 0)) rfl rfl ⟨fun h => h, trivial⟩ rfl) ?_
              refine OkD.q (triAnd rfl rfl (fun h => h) rfl) ?_
              refine OkD.nil (by kernel_rfl) ?_
              refine Ok.cond (b := (decide ((x15.size : Int) > 16)) && ((bAnd .u64 (bOr .u64 x16 x18) 9259542123273814144) == 0)) rfl (fun h19 => ?_) (fun h19 => ?_)
              · have hr := selT h19 hr
                refine Ok.seq ?_
                refine Ok.region ?_
                refine OkOps.x (aS x15) rfl trivial rfl ?_
                obtain ⟨x20, hx20, hr⟩ := bind_some hr
                refine OkOps.q (triSSlc hx20 rfl rfl rfl (.inr ⟨_, rfl⟩) (.inl ⟨rfl, rfl⟩) rfl trivial rfl) ?_
                refine OkOps.x (aS x20) rfl trivial rfl ?_
                refine OkOps.nil ?_
                refine Ok.block ?_
                refine Ok.loopK (fun (s21 : Str) => ⟨[(0, .s (aS s21))], [], 0⟩) hr (Conv.mk (tau []) ⟨⟨_, rfl, .inl rfl⟩, trivial⟩ trivial rfl rfl rfl rfl) ?_
                clear hr
                intro again22 s21 hr
                unfold unicode_utf8_ValidString_L1 at hr
                refine Ok.seq ?_
                refine Ok.seq ?_
                refine Ok.regionD (by kernel_rfl) ?_
                refine OkD.x (aS s21) rfl trivial rfl ?_
                refine OkD.x (aI (s21.size : Int)) rfl trivial rfl ?_
                refine OkD.x (aB (decide ((s21.size : Int) > 32))) rfl trivial rfl ?_
                refine OkD.x (aB (decide ((s21.size : Int) > 32))) rfl trivial rfl ?_
                refine OkD.q (triQG (x := aS s21) rfl rfl trivial rfl) ?_
                obtain ⟨x23, hx23, hr⟩ := bind_some hr
                refine OkD.q (triCallG (x := .c (.d (.v (.int .u64 x23)))) (fun hg => unicode_utf8_word_string_c _ (gO_t hx23 hg)) rfl rfl ⟨.inl rfl, trivial⟩ ⟨fun h => h, trivial⟩ entry137 rfl rfl rfl) ?_
                refine OkD.q (triQG (x := aS s21) rfl rfl trivial rfl) ?_
                obtain ⟨x24, hx24, hr⟩ := bind_some hr
                refine OkD.q (triSSlcG (gO_t hx24) rfl rfl rfl rfl (.inr ⟨_, rfl⟩) (.inl ⟨rfl, rfl⟩) rfl ⟨fun h => h, trivial⟩ rfl) ?_
                obtain ⟨x25, hx25, hr⟩ := bind_some hr
                refine OkD.q (triCallG (x := .c (.d (.v (.int .u64 x25)))) (fun hg => unicode_utf8_word_string_c _ (gO_t hx25 hg)) rfl rfl ⟨.inl rfl, trivial⟩ ⟨fun h => h, trivial⟩ entry137 rfl rfl rfl) ?_
                refine OkD.q (triQG (x := .c (.d (.v (.int .u64 (bOr .u64 x23 x25))))) rfl rfl ⟨fun h => h, ⟨fun h => h, trivial⟩⟩ rfl) ?_
                refine OkD.q (triQG (x := aS s21) rfl rfl trivial rfl) ?_
                obtain ⟨x26, hx26, hr⟩ := bind_some hr
                refine OkD.q (triSSlcG (gO_t hx26) rfl rfl rfl rfl (.inr ⟨_, rfl⟩) (.inl ⟨rfl, rfl⟩) rfl ⟨fun h => h, trivial⟩ rfl) ?_
                obtain ⟨x27, hx27, hr⟩ := bind_some hr
                refine OkD.q (triCallG (x := .c (.d (.v (.int .u64 x27)))) (fun hg => unicode_utf8_word_string_c _ (gO_t hx27 hg)) rfl rfl ⟨.inl rfl, trivial⟩ ⟨fun h => h, trivial⟩ entry137 rfl rfl rfl) ?_
                refine OkD.q (triQG (x := aS s21) rfl rfl trivial rfl) ?_
                obtain ⟨x28, hx28, hr⟩ := bind_some hr
                refine OkD.q (triSSlcG (gO_t hx28) rfl rfl rfl rfl (.inr ⟨_, rfl⟩) (.inl ⟨rfl, rfl⟩) rfl ⟨fun h => h, trivial⟩ rfl) ?_
                obtain ⟨x29, hx29, hr⟩ := bind_some hr
                refine OkD.q (triCallG (x := .c (.d (.v (.int .u64 x29)))) (fun hg => unicode_utf8_word_string_c _ (gO_t hx29 hg)) rfl rfl ⟨.inl rfl, trivial⟩ ⟨fun h => h, trivial⟩ entry137 rfl rfl rfl) ?_
                refine OkD.q (triQG (x := .c (.d (.v (.int .u64 (bOr .u64 x27 x29))))) rfl rfl ⟨fun h => h, ⟨fun h => h, trivial⟩⟩ rfl) ?_
                refine OkD.q (triQG (x := .c (.d (.v (.int .u64 (bOr .u64 (bOr .u64 x23 x25) (bOr .u64 x27 x29)))))) rfl rfl ⟨fun h => h, ⟨fun h => h, trivial⟩⟩ rfl) ?_
                refine OkD.q (triQG (x := .c (.d (.v (.int .u64 (bAnd .u64 (bOr .u64 (bOr .u64 x23 x25) (bOr .u64 x27 x29)) 9259542123273814144))))) rfl rfl ⟨fun h => h, trivial⟩ rfl) ?_
                refine OkD.q (triQG (x := aB ((bAnd .u64 (bOr .u64 (bOr .u64 x23 x25) (bOr .u64 x27 x29)) 9259542123273814144) == 0)) rfl rfl ⟨fun h => h, trivial⟩ rfl) ?_
                refine OkD.q (triAnd rfl rfl (fun h => h) rfl) ?_
                refine OkD.nil (by kernel_rfl) ?_
                refine Ok.cond (b := (decide ((s21.size : Int) > 32)) && ((bAnd .u64 (bOr .u64 (bOr .u64 x23 x25) (bOr .u64 x27 x29)) 9259542123273814144) == 0)) rfl (fun h30 => ?_) (fun h30 => ?_)
                · have hr := selT h30 hr
                  refine Ok.skip ?_
                  refine Ok.block ?_
                  refine Ok.region ?_
                  refine OkOps.x (aS s21) rfl trivial rfl ?_
                  obtain ⟨x31, hx31, hr⟩ := bind_some hr
                  refine OkOps.q (triSSlc hx31 rfl rfl rfl (.inr ⟨_, rfl⟩) (.inl ⟨rfl, rfl⟩) rfl trivial rfl) ?_
                  refine OkOps.x (aS x31) rfl trivial rfl ?_
                  refine OkOps.nil ?_
                  exact ⟨x31, hr, (Conv.mk (tau []) ⟨⟨_, rfl, .inl rfl⟩, trivial⟩ trivial rfl rfl rfl rfl)⟩
                · have hr := selF h30 hr
                  refine Ok.exit ?_
                  exact ⟨s21, hr, (Conv.mk (tau []) ⟨⟨_, rfl, .inl rfl⟩, trivial⟩ trivial rfl rfl rfl rfl)⟩
              · have hr := selF h19 hr
                refine Ok.skip ?_
                exact ⟨x15, hr, (Conv.mk (tau []) ⟨⟨_, rfl, .inl rfl⟩, trivial⟩ trivial rfl rfl rfl rfl)⟩
            · have hr := selF h14 hr
              refine Ok.skip ?_
              exact ⟨x10, hr, (Conv.mk (tau []) ⟨⟨_, rfl, .inl rfl⟩, trivial⟩ trivial rfl rfl rfl rfl)⟩
        · have hr := selF h9 hr
          refine Ok.skip ?_
          refine Ok.seq ?_
          refine Ok.region ?_
          refine OkOps.x (.c (.d (.v (.int .u8 x8)))) rfl trivial rfl ?_
          obtain ⟨x32, hx32, hr⟩ := bind_some hr
          refine OkOps.q (triFirst (y := x32) hx32 (by kernel_rfl) rfl rfl trivial rfl) ?_
          refine OkOps.x (.c (.d (.v (.int .u8 x32)))) rfl trivial rfl ?_
          refine OkOps.x (.c (.d (.v (.int .u8 x32)))) rfl trivial rfl ?_
          refine OkOps.nil ?_
          refine Ok.seq ?_
          refine Ok.region ?_
          refine OkOps.x (.c (.d (.v (.int .u8 x32)))) rfl trivial rfl ?_
          refine OkOps.x (.c (.d (.v (.int .u8 (bAnd .u8 x32 7))))) rfl trivial rfl ?_
          refine OkOps.x (aI (IntKind.i64.wrap (bAnd .u8 x32 7))) rfl trivial rfl ?_
          refine OkOps.x (aI (IntKind.i64.wrap (bAnd .u8 x32 7))) rfl trivial rfl ?_
          refine OkOps.nil ?_
          refine Ok.seq ?_
          refine Ok.region ?_
          refine OkOps.x (.c (.d (.v (.int .u8 x32)))) rfl trivial rfl ?_
          refine OkOps.x (.c (.d (.v (.int .u8 (bShr .u8 x32 4))))) rfl trivial rfl ?_
          obtain ⟨x33, hx33, hr⟩ := bind_some hr
          refine OkOps.q (triAccept (y := x33) hx33 (by kernel_rfl) rfl rfl trivial rfl) ?_
          refine OkOps.x (.agg [.d (.v (.int .u8 x33.1)), .d (.v (.int .u8 x33.2))]) rfl trivial rfl ?_
          refine OkOps.m 0 (triAlloc (j := 0) (cs := [.d (.v (.int .u8 0)), .d (.v (.int .u8 0))]) rfl rfl rfl rfl) ?_
          refine OkOps.w (triStore (cs' := [.d (.v (.int .u8 x33.1)), .d (.v (.int .u8 x33.2))]) rfl rfl rfl rfl rfl rfl rfl rfl rfl) ?_
          refine OkOps.nil ?_
          refine Ok.seq ?_
          refine Ok.region ?_
          refine OkOps.x (aI (IntKind.i64.wrap (bAnd .u8 x32 7))) rfl trivial rfl ?_
          refine OkOps.nil ?_
          refine Ok.block ?_
          refine Ok.seq ?_
          refine Ok.region ?_
          refine OkOps.x (aB ((IntKind.i64.wrap (bAnd .u8 x32 7)) == 2)) rfl trivial rfl ?_
          refine OkOps.x (aB ((IntKind.i64.wrap (bAnd .u8 x32 7)) == 2)) rfl trivial rfl ?_
          refine OkOps.nil ?_
          refine Ok.cond (b := (IntKind.i64.wrap (bAnd .u8 x32 7)) == 2) rfl (fun h34 => ?_) (fun h34 => ?_)
          · have hr := selT h34 hr
            refine Ok.seq ?_
            refine Ok.seq ?_
            refine Ok.regionD (by kernel_rfl) ?_
            refine OkD.x (aS s3) rfl trivial rfl ?_
            refine OkD.x (aI (s3.size : Int)) rfl trivial rfl ?_
            refine OkD.x (aB (decide ((s3.size : Int) < 2))) rfl trivial rfl ?_
            refine OkD.x (aB (decide ((s3.size : Int) < 2))) rfl trivial rfl ?_
            refine OkD.q (triQG (x := aS s3) rfl rfl trivial rfl) ?_
            obtain ⟨x35, hx35, hr⟩ := bind_some hr
            refine OkD.q (triSIdxG (gO_t hx35) rfl rfl rfl rfl ⟨fun h => h, trivial⟩ rfl) ?_
            refine OkD.q (triQG (x := .c (.loc 0 0)) rfl rfl trivial rfl) ?_
            refine OkD.q (triQG (x := .c (.d (.v (.int .u8 x33.1)))) rfl rfl ⟨fun h => h, trivial⟩ rfl) ?_
            refine OkD.q (triQG (x := aB (decide (x35 < x33.1))) rfl rfl ⟨fun h => h, ⟨fun h => h, trivial⟩⟩ rfl) ?_
            refine OkD.q (triOr rfl rfl (fun h => by rw [h]; rfl) rfl) ?_
            refine OkD.x (aB ((decide ((s3.size : Int) < 2)) || (decide (x35 < x33.1)))) rfl trivial rfl ?_
            refine OkD.q (triQG (x := .c (.loc 0 1)) rfl rfl trivial rfl) ?_
            refine OkD.q (triQG (x := .c (.d (.v (.int .u8 x33.2)))) rfl rfl ⟨fun h => h, trivial⟩ rfl) ?_
            refine OkD.q (triQG (x := aS s3) rfl rfl trivial rfl) ?_
            obtain ⟨x36, hx36, hr⟩ := bind_some hr
            refine OkD.q (triSIdxG (gO_t hx36) rfl rfl rfl rfl ⟨fun h => h, trivial⟩ rfl) ?_
            refine OkD.q (triQG (x := aB (decide (x33.2 < x36))) rfl rfl ⟨fun h => h, ⟨fun h => h, trivial⟩⟩ rfl) ?_
            refine OkD.q (triOr rfl rfl (fun h => by rw [h]; rfl) rfl) ?_
            refine OkD.nil (by kernel_rfl) ?_
            refine Ok.cond (b := ((decide ((s3.size : Int) < 2)) || (decide (x35 < x33.1))) || (decide (x33.2 < x36))) rfl (fun h37 => ?_) (fun h37 => ?_)
            · have hr := selT h37 hr
              refine Ok.seq ?_
              refine Ok.region ?_
              refine OkOps.x (aB false) rfl trivial rfl ?_
              refine OkOps.nil ?_
              refine Ok.ret ?_
              obtain rfl := Option.some.inj hr
              exact ⟨_, rfl, .inl rfl, trivial⟩
            · have hr := selF h37 hr
              refine Ok.skip ?_
              refine Ok.region ?_
              refine OkOps.x (aS s3) rfl trivial rfl ?_
              obtain ⟨x38, hx38, hr⟩ := bind_some hr
              refine OkOps.q (triSSlc hx38 rfl rfl rfl (.inr ⟨_, rfl⟩) (.inl ⟨rfl, rfl⟩) rfl trivial rfl) ?_
              refine OkOps.x (aS x38) rfl trivial rfl ?_
              refine OkOps.nil ?_
              exact ⟨x38, hr, (Conv.mk (tau []) ⟨⟨_, rfl, .inl rfl⟩, trivial⟩ trivial rfl rfl rfl rfl)⟩
          · have hr := selF h34 hr
            refine Ok.seq ?_
            refine Ok.region ?_
            refine OkOps.x (aB ((IntKind.i64.wrap (bAnd .u8 x32 7)) == 3)) rfl trivial rfl ?_
            refine OkOps.x (aB ((IntKind.i64.wrap (bAnd .u8 x32 7)) == 3)) rfl trivial rfl ?_
            refine OkOps.nil ?_
            refine Ok.cond (b := (IntKind.i64.wrap (bAnd .u8 x32 7)) == 3) rfl (fun h39 => ?_) (fun h39 => ?_)
            · have hr := selT h39 hr
              refine Ok.seq ?_
              refine Ok.seq ?_
              refine Ok.regionD (by kernel_rfl) ?_
              refine OkD.x (aS s3) rfl trivial rfl ?_
              refine OkD.x (aI (s3.size : Int)) rfl trivial rfl ?_
              refine OkD.x (aB (decide ((s3.size : Int) < 3))) rfl trivial rfl ?_
              refine OkD.x (aB (decide ((s3.size : Int) < 3))) rfl trivial rfl ?_
              refine OkD.q (triQG (x := aS s3) rfl rfl trivial rfl) ?_
              obtain ⟨x40, hx40, hr⟩ := bind_some hr
              refine OkD.q (triSIdxG (gO_t hx40) rfl rfl rfl rfl ⟨fun h => h, trivial⟩ rfl) ?_
              refine OkD.q (triQG (x := .c (.loc 0 0)) rfl rfl trivial rfl) ?_
              refine OkD.q (triQG (x := .c (.d (.v (.int .u8 x33.1)))) rfl rfl ⟨fun h => h, trivial⟩ rfl) ?_
              refine OkD.q (triQG (x := aB (decide (x40 < x33.1))) rfl rfl ⟨fun h => h, ⟨fun h => h, trivial⟩⟩ rfl) ?_
              refine OkD.q (triOr rfl rfl (fun h => by rw [h]; rfl) rfl) ?_
              refine OkD.x (aB ((decide ((s3.size : Int) < 3)) || (decide (x40 < x33.1)))) rfl trivial rfl ?_
              refine OkD.q (triQG (x := .c (.loc 0 1)) rfl rfl trivial rfl) ?_
              refine OkD.q (triQG (x := .c (.d (.v (.int .u8 x33.2)))) rfl rfl ⟨fun h => h, trivial⟩ rfl) ?_
              refine OkD.q (triQG (x := aS s3) rfl rfl trivial rfl) ?_
              obtain ⟨x41, hx41, hr⟩ := bind_some hr
              refine OkD.q (triSIdxG (gO_t hx41) rfl rfl rfl rfl ⟨fun h => h, trivial⟩ rfl) ?_
              refine OkD.q (triQG (x := aB (decide (x33.2 < x41))) rfl rfl ⟨fun h => h, ⟨fun h => h, trivial⟩⟩ rfl) ?_
              refine OkD.q (triOr rfl rfl (fun h => by rw [h]; rfl) rfl) ?_
              refine OkD.x (aB (((decide ((s3.size : Int) < 3)) || (decide (x40 < x33.1))) || (decide (x33.2 < x41)))) rfl trivial rfl ?_
              refine OkD.q (triQG (x := aS s3) rfl rfl trivial rfl) ?_
              obtain ⟨x42, hx42, hr⟩ := bind_some hr
              refine OkD.q (triSIdxG (gO_t hx42) rfl rfl rfl rfl ⟨fun h => h, trivial⟩ rfl) ?_
              refine OkD.q (triQG (x := aB (decide (x42 < 128))) rfl rfl ⟨fun h => h, trivial⟩ rfl) ?_
              refine OkD.q (triOr rfl rfl (fun h => by rw [h]; rfl) rfl) ?_
              refine OkD.x (aB ((((decide ((s3.size : Int) < 3)) || (decide (x40 < x33.1))) || (decide (x33.2 < x41))) || (decide (x42 < 128)))) rfl trivial rfl ?_
              refine OkD.q (triQG (x := aS s3) rfl rfl trivial rfl) ?_
              obtain ⟨x43, hx43, hr⟩ := bind_some hr
              refine OkD.q (triSIdxG (gO_t hx43) rfl rfl rfl rfl ⟨fun h => h, trivial⟩ rfl) ?_
              refine OkD.q (triQG (x := aB (decide (191 < x43))) rfl rfl ⟨fun h => h, trivial⟩ rfl) ?_
              refine OkD.q (triOr rfl rfl (fun h => by rw [h]; rfl) rfl) ?_
              refine OkD.nil (by kernel_rfl) ?_
              refine Ok.cond (b := ((((decide ((s3.size : Int) < 3)) || (decide (x40 < x33.1))) || (decide (x33.2 < x41))) || (decide (x42 < 128))) || (decide (191 < x43))) rfl (fun h44 => ?_) (fun h44 => ?_)
              · have hr := selT h44 hr
                refine Ok.seq ?_
                refine Ok.region ?_
                refine OkOps.x (aB false) rfl trivial rfl ?_
                refine OkOps.nil ?_
                refine Ok.ret ?_
                obtain rfl := Option.some.inj hr
                exact ⟨_, rfl, .inl rfl, trivial⟩
              · have hr := selF h44 hr
                refine Ok.skip ?_
                refine Ok.region ?_
                refine OkOps.x (aS s3) rfl trivial rfl ?_
                obtain ⟨x45, hx45, hr⟩ := bind_some hr
                refine OkOps.q (triSSlc hx45 rfl rfl rfl (.inr ⟨_, rfl⟩) (.inl ⟨rfl, rfl⟩) rfl trivial rfl) ?_
                refine OkOps.x (aS x45) rfl trivial rfl ?_
                refine OkOps.nil ?_
                exact ⟨x45, hr, (Conv.mk (tau []) ⟨⟨_, rfl, .inl rfl⟩, trivial⟩ trivial rfl rfl rfl rfl)⟩
            · have hr := selF h39 hr
              refine Ok.seq ?_
              refine Ok.region ?_
              refine OkOps.x (aB ((IntKind.i64.wrap (bAnd .u8 x32 7)) == 4)) rfl trivial rfl ?_
              refine OkOps.x (aB ((IntKind.i64.wrap (bAnd .u8 x32 7)) == 4)) rfl trivial rfl ?_
              refine OkOps.nil ?_
              refine Ok.cond (b := (IntKind.i64.wrap (bAnd .u8 x32 7)) == 4) rfl (fun h46 => ?_) (fun h46 => ?_)
              · have hr := selT h46 hr
                refine Ok.seq ?_
                refine Ok.seq ?_
                refine Ok.regionD (by kernel_rfl) ?_
                refine OkD.x (aS s3) rfl trivial rfl ?_
                refine OkD.x (aI (s3.size : Int)) rfl trivial rfl ?_
                refine OkD.x (aB (decide ((s3.size : Int) < 4))) rfl trivial rfl ?_
                refine OkD.x (aB (decide ((s3.size : Int) < 4))) rfl trivial rfl ?_
                refine OkD.q (triQG (x := aS s3) rfl rfl trivial rfl) ?_
                obtain ⟨x47, hx47, hr⟩ := bind_some hr
                refine OkD.q (triSIdxG (gO_t hx47) rfl rfl rfl rfl ⟨fun h => h, trivial⟩ rfl) ?_
                refine OkD.q (triQG (x := .c (.loc 0 0)) rfl rfl trivial rfl) ?_
                refine OkD.q (triQG (x := .c (.d (.v (.int .u8 x33.1)))) rfl rfl ⟨fun h => h, trivial⟩ rfl) ?_
                refine OkD.q (triQG (x := aB (decide (x47 < x33.1))) rfl rfl ⟨fun h => h, ⟨fun h => h, trivial⟩⟩ rfl) ?_
                refine OkD.q (triOr rfl rfl (fun h => by rw [h]; rfl) rfl) ?_
                refine OkD.x (aB ((decide ((s3.size : Int) < 4)) || (decide (x47 < x33.1)))) rfl trivial rfl ?_
                refine OkD.q (triQG (x := .c (.loc 0 1)) rfl rfl trivial rfl) ?_
                refine OkD.q (triQG (x := .c (.d (.v (.int .u8 x33.2)))) rfl rfl ⟨fun h => h, trivial⟩ rfl) ?_
                refine OkD.q (triQG (x := aS s3) rfl rfl trivial rfl) ?_
                obtain ⟨x48, hx48, hr⟩ := bind_some hr
                refine OkD.q (triSIdxG (gO_t hx48) rfl rfl rfl rfl ⟨fun h => h, trivial⟩ rfl) ?_
                refine OkD.q (triQG (x := aB (decide (x33.2 < x48))) rfl rfl ⟨fun h => h, ⟨fun h => h, trivial⟩⟩ rfl) ?_
                refine OkD.q (triOr rfl rfl (fun h => by rw [h]; rfl) rfl) ?_
                refine OkD.x (aB (((decide ((s3.size : Int) < 4)) || (decide (x47 < x33.1))) || (decide (x33.2 < x48)))) rfl trivial rfl ?_
                refine OkD.q (triQG (x := aS s3) rfl rfl trivial rfl) ?_
                obtain ⟨x49, hx49, hr⟩ := bind_some hr
                refine OkD.q (triSIdxG (gO_t hx49) rfl rfl rfl rfl ⟨fun h => h, trivial⟩ rfl) ?_
                refine OkD.q (triQG (x := aB (decide (x49 < 128))) rfl rfl ⟨fun h => h, trivial⟩ rfl) ?_
                refine OkD.q (triOr rfl rfl (fun h => by rw [h]; rfl) rfl) ?_
                refine OkD.x (aB ((((decide ((s3.size : Int) < 4)) || (decide (x47 < x33.1))) || (decide (x33.2 < x48))) || (decide (x49 < 128)))) rfl trivial rfl ?_
                refine OkD.q (triQG (x := aS s3) rfl rfl trivial rfl) ?_
                obtain ⟨x50, hx50, hr⟩ := bind_some hr
                refine OkD.q (triSIdxG (gO_t hx50) rfl rfl rfl rfl ⟨fun h => h, trivial⟩ rfl) ?_
                refine OkD.q (triQG (x := aB (decide (191 < x50))) rfl rfl ⟨fun h => h, trivial⟩ rfl) ?_
                refine OkD.q (triOr rfl rfl (fun h => by rw [h]; rfl) rfl) ?_
                refine OkD.x (aB (((((decide ((s3.size : Int) < 4)) || (decide (x47 < x33.1))) || (decide (x33.2 < x48))) || (decide (x49 < 128))) || (decide (191 < x50)))) rfl trivial rfl ?_
                refine OkD.q (triQG (x := aS s3) rfl rfl trivial rfl) ?_
                obtain ⟨x51, hx51, hr⟩ := bind_some hr
                refine OkD.q (triSIdxG (gO_t hx51) rfl rfl rfl rfl ⟨fun h => h, trivial⟩ rfl) ?_
                refine OkD.q (triQG (x := aB (decide (x51 < 128))) rfl rfl ⟨fun h => h, trivial⟩ rfl) ?_
                refine OkD.q (triOr rfl rfl (fun h => by rw [h]; rfl) rfl) ?_
                refine OkD.x (aB ((((((decide ((s3.size : Int) < 4)) || (decide (x47 < x33.1))) || (decide (x33.2 < x48))) || (decide (x49 < 128))) || (decide (191 < x50))) || (decide (x51 < 128)))) rfl trivial rfl ?_
                refine OkD.q (triQG (x := aS s3) rfl rfl trivial rfl) ?_
                obtain ⟨x52, hx52, hr⟩ := bind_some hr
                refine OkD.q (triSIdxG (gO_t hx52) rfl rfl rfl rfl ⟨fun h => h, trivial⟩ rfl) ?_
                refine OkD.q (triQG (x := aB (decide (191 < x52))) rfl rfl ⟨fun h => h, trivial⟩ rfl) ?_
                refine OkD.q (triOr rfl rfl (fun h => by rw [h]; rfl) rfl) ?_
                refine OkD.nil (by kernel_rfl) ?_
                refine Ok.cond (b := ((((((decide ((s3.size : Int) < 4)) || (decide (x47 < x33.1))) || (decide (x33.2 < x48))) || (decide (x49 < 128))) || (decide (191 < x50))) || (decide (x51 < 128))) || (decide (191 < x52))) rfl (fun h53 => ?_) (fun h53 => ?_)
                · have hr := selT h53 hr
                  refine Ok.seq ?_
                  refine Ok.region ?_
                  refine OkOps.x (aB false) rfl trivial rfl ?_
                  refine OkOps.nil ?_
                  refine Ok.ret ?_
                  obtain rfl := Option.some.inj hr
                  exact ⟨_, rfl, .inl rfl, trivial⟩
                · have hr := selF h53 hr
                  refine Ok.skip ?_
                  refine Ok.region ?_
                  refine OkOps.x (aS s3) rfl trivial rfl ?_
                  obtain ⟨x54, hx54, hr⟩ := bind_some hr
                  refine OkOps.q (triSSlc hx54 rfl rfl rfl (.inr ⟨_, rfl⟩) (.inl ⟨rfl, rfl⟩) rfl trivial rfl) ?_
                  refine OkOps.x (aS x54) rfl trivial rfl ?_
                  refine OkOps.nil ?_
                  exact ⟨x54, hr, (Conv.mk (tau []) ⟨⟨_, rfl, .inl rfl⟩, trivial⟩ trivial rfl rfl rfl rfl)⟩
              · have hr := selF h46 hr
                refine Ok.seq ?_
                refine Ok.region ?_
                refine OkOps.x (aB false) rfl trivial rfl ?_
                refine OkOps.nil ?_
                refine Ok.ret ?_
                obtain rfl := Option.some.inj hr
                exact ⟨_, rfl, .inl rfl, trivial⟩
    · have hr := selF h5 hr
      refine Ok.exit ?_
      exact ⟨(), hr, (Conv.mk (tau []) trivial trivial rfl rfl rfl rfl)⟩
theorem entry132 : Entry Tryd.prog 132 := ⟨_, Tryd.func132, by kernel_rfl, by kernel_rfl⟩
theorem ex_listOf_c (t : AType) {r : AType} (hr : ex_listOf t = some r) : Con Tryd.prog 134 [.agg [cI t.Kind, .d (.sl (List.map AType.cs t.Of))]] [] (.s (.agg [cI r.Kind, .d (.sl (List.map AType.cs r.Of))])) [] := by
  unfold ex_listOf at hr
  refine Con.of_ok 6 0 [.cell 2 130] [(0, .s (.agg [cI t.Kind, .d (.sl (List.map AType.cs t.Of))]))] Tryd.func134 rfl rfl rfl rfl rfl rfl rfl rfl fun w g M ρ _ => ?_
  refine Ok.seq ?_
  refine Ok.region ?_
  refine OkOps.m 0 (triBox (j := 0) (cs := [cI t.Kind, .d (.sl (List.map AType.cs t.Of))]) rfl rfl rfl rfl rfl) ?_
  refine OkOps.m 0 (triAlloc (j := 1) (cs := [cI 0, .d (.v (.slice none 0 0))]) rfl rfl rfl rfl) ?_
  refine OkOps.nil ?_
  refine Ok.seq ?_
  refine Ok.region ?_
  refine OkOps.x (.agg [cI t.Kind, .d (.sl (List.map AType.cs t.Of))]) rfl trivial rfl ?_
  refine OkOps.m 0 (triBST (sz := 2) (enc := AType.cs) (j := 2) ([t]) rfl rfl rfl rfl rfl (rows := [[dI t.Kind, .sl (List.map AType.cs t.Of)]]) (by simp only [List.map, AType.cs_eq]) rfl rfl (fun x => by rw [AType.cs_eq]; rfl) trivial rfl rfl) ?_
  refine OkOps.x (.agg [cI 4, .tl 2 (List.map AType.cs ([t]))]) rfl trivial rfl ?_
  refine OkOps.w (triStore (cs' := [cI 4, .tl 2 (List.map AType.cs ([t]))]) rfl rfl rfl rfl rfl rfl rfl rfl rfl) ?_
  refine OkOps.nil ?_
  refine Ok.ret ?_
  obtain rfl := Option.some.inj hr
  exact ⟨_, rfl, .inr rfl, trivial⟩
theorem entry134 : Entry Tryd.prog 134 := ⟨_, Tryd.func134, by kernel_rfl, by kernel_rfl⟩
theorem entry138 : Entry Tryd.prog 138 := ⟨_, Tryd.func138, by kernel_rfl, by kernel_rfl⟩
theorem ex_join_B_c (self0 : AType → AType → Option (AType × Bool)) (hself0 : ∀ (a : AType) (b : AType) {r : AType × Bool}, self0 a b = some r → Con Tryd.prog 138 [.agg [cI a.Kind, .d (.sl (List.map AType.cs a.Of))], .agg [cI b.Kind, .d (.sl (List.map AType.cs b.Of))]] [] (.tup [.agg [cI r.1.Kind, .d (.sl (List.map AType.cs r.1.Of))], aB r.2]) []) (a : AType) (b : AType) {r : AType × Bool} (hr : ex_join_B self0 a b = some r) : Con Tryd.prog 138 [.agg [cI a.Kind, .d (.sl (List.map AType.cs a.Of))], .agg [cI b.Kind, .d (.sl (List.map AType.cs b.Of))]] [] (.tup [.agg [cI r.1.Kind, .d (.sl (List.map AType.cs r.1.Of))], aB r.2]) [] := by
  unfold ex_join_B at hr
  refine Con.of_ok 44 0 [.cell 4 130, .tmp 5] [(0, .s (.agg [cI a.Kind, .d (.sl (List.map AType.cs a.Of))])), (1, .s (.agg [cI b.Kind, .d (.sl (List.map AType.cs b.Of))]))] Tryd.func138 rfl rfl rfl rfl rfl rfl rfl rfl fun w g M ρ _ => ?_
  refine Ok.seq ?_
  refine Ok.region ?_
  refine OkOps.m 0 (triBox (j := 0) (cs := [cI a.Kind, .d (.sl (List.map AType.cs a.Of))]) rfl rfl rfl rfl rfl) ?_
  refine OkOps.m 0 (triBox (j := 1) (cs := [cI b.Kind, .d (.sl (List.map AType.cs b.Of))]) rfl rfl rfl rfl rfl) ?_
  refine OkOps.m 0 (triAlloc (j := 2) (cs := [cI 0, .d (.v (.slice none 0 0))]) rfl rfl rfl rfl) ?_
  refine OkOps.x (aB false) rfl trivial rfl ?_
  refine OkOps.nil ?_
  refine Ok.seq ?_
  refine Ok.block ?_
  refine Ok.seq ?_
  refine Ok.region ?_
  refine OkOps.x (.c (.loc 0 0)) rfl trivial rfl ?_
  refine OkOps.x (aI a.Kind) rfl trivial rfl ?_
  refine OkOps.x (.c (.loc 1 0)) rfl trivial rfl ?_
  refine OkOps.x (aI b.Kind) rfl trivial rfl ?_
  refine OkOps.x (aB (a.Kind != b.Kind)) rfl trivial rfl ?_
  refine OkOps.x (aB (a.Kind != b.Kind)) rfl trivial rfl ?_
  refine OkOps.nil ?_
  refine Ok.cond (b := a.Kind != b.Kind) rfl (fun h1 => ?_) (fun h1 => ?_)
  · have hr := selT h1 hr
    refine Ok.seq ?_
    refine Ok.region ?_
    refine OkOps.x (.agg [cI 0, .d (.v (.slice none 0 0))]) rfl trivial rfl ?_
    refine OkOps.w (triStore (cs' := [cI 0, .d (.v (.slice none 0 0))]) rfl rfl rfl rfl rfl rfl rfl rfl rfl) ?_
    refine OkOps.x (aB false) rfl trivial rfl ?_
    refine OkOps.nil ?_
    refine Ok.ret ?_
    obtain rfl := Option.some.inj hr
    exact ⟨_, rfl, .inr rfl, trivial⟩
  · have hr := selF h1 hr
    refine Ok.seq ?_
    refine Ok.region ?_
    refine OkOps.x (.c (.loc 0 1)) rfl trivial rfl ?_
    refine OkOps.x (.c (.d (.sl (List.map AType.cs a.Of)))) rfl trivial rfl ?_
    refine OkOps.q (triLen (enc := AType.cs) a.Of rfl rfl trivial rfl) ?_
    refine OkOps.x (aB ((a.Of.length : Int) == 0)) rfl trivial rfl ?_
    refine OkOps.x (aB ((a.Of.length : Int) == 0)) rfl trivial rfl ?_
    refine OkOps.nil ?_
    refine Ok.cond (b := (a.Of.length : Int) == 0) rfl (fun h2 => ?_) (fun h2 => ?_)
    · have hr := selT h2 hr
      refine Ok.seq ?_
      refine Ok.region ?_
      refine OkOps.x (.agg [cI b.Kind, .d (.sl (List.map AType.cs b.Of))]) rfl trivial rfl ?_
      refine OkOps.w (triStore (cs' := [cI b.Kind, .d (.sl (List.map AType.cs b.Of))]) rfl rfl rfl rfl rfl rfl rfl rfl rfl) ?_
      refine OkOps.x (aB true) rfl trivial rfl ?_
      refine OkOps.nil ?_
      refine Ok.ret ?_
      obtain rfl := Option.some.inj hr
      exact ⟨_, rfl, .inl rfl, trivial⟩
    · have hr := selF h2 hr
      refine Ok.seq ?_
      refine Ok.region ?_
      refine OkOps.x (.c (.loc 1 1)) rfl trivial rfl ?_
      refine OkOps.x (.c (.d (.sl (List.map AType.cs b.Of)))) rfl trivial rfl ?_
      refine OkOps.q (triLen (enc := AType.cs) b.Of rfl rfl trivial rfl) ?_
      refine OkOps.x (aB ((b.Of.length : Int) == 0)) rfl trivial rfl ?_
      refine OkOps.x (aB ((b.Of.length : Int) == 0)) rfl trivial rfl ?_
      refine OkOps.nil ?_
      refine Ok.cond (b := (b.Of.length : Int) == 0) rfl (fun h3 => ?_) (fun h3 => ?_)
      · have hr := selT h3 hr
        refine Ok.seq ?_
        refine Ok.region ?_
        refine OkOps.x (.agg [cI a.Kind, .d (.sl (List.map AType.cs a.Of))]) rfl trivial rfl ?_
        refine OkOps.w (triStore (cs' := [cI a.Kind, .d (.sl (List.map AType.cs a.Of))]) rfl rfl rfl rfl rfl rfl rfl rfl rfl) ?_
        refine OkOps.x (aB true) rfl trivial rfl ?_
        refine OkOps.nil ?_
        refine Ok.ret ?_
        obtain rfl := Option.some.inj hr
        exact ⟨_, rfl, .inl rfl, trivial⟩
      · have hr := selF h3 hr
        refine Ok.skip ?_
        refine Ok.seq ?_
        refine Ok.regionD (by kernel_rfl) ?_
        refine OkD.x (.c (.loc 0 1)) rfl trivial rfl ?_
        refine OkD.x (.c (.d (.sl (List.map AType.cs a.Of)))) rfl trivial rfl ?_
        obtain ⟨x4, hx4, hr⟩ := bind_some hr
        refine OkD.q (triIdx (enc := AType.cs) (L := a.Of) (row := [dI x4.Kind, .sl (List.map AType.cs x4.Of)]) hx4 (AType.cs_eq _) rfl rfl rfl (fun x => by rw [AType.cs_eq]; rfl) trivial rfl) ?_
        refine OkD.x (.agg [cI x4.Kind, .d (.sl (List.map AType.cs x4.Of))]) rfl trivial rfl ?_
        refine OkD.x (.c (.loc 1 1)) rfl trivial rfl ?_
        refine OkD.x (.c (.d (.sl (List.map AType.cs b.Of)))) rfl trivial rfl ?_
        obtain ⟨x5, hx5, hr⟩ := bind_some hr
        refine OkD.q (triIdx (enc := AType.cs) (L := b.Of) (row := [dI x5.Kind, .sl (List.map AType.cs x5.Of)]) hx5 (AType.cs_eq _) rfl rfl rfl (fun x => by rw [AType.cs_eq]; rfl) trivial rfl) ?_
        refine OkD.x (.agg [cI x5.Kind, .d (.sl (List.map AType.cs x5.Of))]) rfl trivial rfl ?_
        obtain ⟨x6, hx6, hr⟩ := bind_some hr
        refine OkD.q (triCall (tau []) (.tup [.agg [cI x6.1.Kind, .d (.sl (List.map AType.cs x6.1.Of))], aB x6.2]) [] (hself0 _ _ hx6) rfl ⟨.inl rfl, .inl rfl, trivial⟩ trivial entry138 trivial rfl rfl rfl rfl trivial rfl rfl rfl) ?_
        refine OkD.q (triMv (v := .tup [.agg [cI x6.1.Kind, .d (.sl (List.map AType.cs x6.1.Of))], aB x6.2]) rfl rfl) ?_
        refine OkD.x (.agg [cI x6.1.Kind, .d (.sl (List.map AType.cs x6.1.Of))]) rfl trivial rfl ?_
        refine OkD.x (aB x6.2) rfl trivial rfl ?_
        refine OkD.m 0 (triAlloc (j := 3) (cs := [cI 0, .d (.v (.slice none 0 0))]) rfl rfl rfl rfl) ?_
        refine OkD.w (triStore (cs' := [cI x6.1.Kind, .d (.sl (List.map AType.cs x6.1.Of))]) rfl rfl rfl rfl rfl rfl rfl rfl rfl) ?_
        refine OkD.x (aB x6.2) rfl trivial rfl ?_
        refine OkD.nil (by kernel_rfl) ?_
        refine Ok.seq ?_
        refine Ok.seq ?_
        refine Ok.region ?_
        refine OkOps.x (aB x6.2) rfl trivial rfl ?_
        refine OkOps.x (aB (!x6.2)) rfl trivial rfl ?_
        refine OkOps.nil ?_
        refine Ok.cond (b := !x6.2) rfl (fun h7 => ?_) (fun h7 => ?_)
        · have hr := selT h7 hr
          refine Ok.seq ?_
          refine Ok.region ?_
          refine OkOps.x (.agg [cI 0, .d (.v (.slice none 0 0))]) rfl trivial rfl ?_
          refine OkOps.w (triStore (cs' := [cI 0, .d (.v (.slice none 0 0))]) rfl rfl rfl rfl rfl rfl rfl rfl rfl) ?_
          refine OkOps.x (aB false) rfl trivial rfl ?_
          refine OkOps.nil ?_
          refine Ok.ret ?_
          obtain rfl := Option.some.inj hr
          exact ⟨_, rfl, .inr rfl, trivial⟩
        · have hr := selF h7 hr
          refine Ok.skip ?_
          refine Ok.seq ?_
          refine Ok.region ?_
          refine OkOps.x (.agg [cI x6.1.Kind, .d (.sl (List.map AType.cs x6.1.Of))]) rfl trivial rfl ?_
          obtain ⟨x8, hx8, hr⟩ := bind_some hr
          refine OkOps.q (triCall (tau []) (.s (.agg [cI x8.Kind, .d (.sl (List.map AType.cs x8.Of))])) [] (ex_listOf_c _ hx8) rfl ⟨.inl rfl, trivial⟩ trivial entry134 trivial rfl rfl rfl rfl trivial rfl rfl rfl) ?_
          refine OkOps.w (triStore (cs' := [cI x8.Kind, .d (.sl (List.map AType.cs x8.Of))]) rfl rfl rfl rfl rfl rfl rfl rfl rfl) ?_
          refine OkOps.x (aB true) rfl trivial rfl ?_
          refine OkOps.nil ?_
          refine Ok.ret ?_
          obtain rfl := Option.some.inj hr
          exact ⟨_, rfl, .inl rfl, trivial⟩
theorem ex_join_all : ∀ n : Nat, (∀ (a : AType) (b : AType) {r : AType × Bool}, ex_join n a b = some r → Con Tryd.prog 138 [.agg [cI a.Kind, .d (.sl (List.map AType.cs a.Of))], .agg [cI b.Kind, .d (.sl (List.map AType.cs b.Of))]] [] (.tup [.agg [cI r.1.Kind, .d (.sl (List.map AType.cs r.1.Of))], aB r.2]) []) ∧ True := by
  intro n
  induction n with
  | zero => exact ⟨(by intros; rename_i hr; cases hr), trivial⟩
  | succ n ih => exact ⟨(by intros; rename_i hr; exact ex_join_B_c _ ih.1 _ _ hr), trivial⟩
theorem ex_join_c (n : Nat) (a : AType) (b : AType) {r : AType × Bool} (hr : ex_join n a b = some r) : Con Tryd.prog 138 [.agg [cI a.Kind, .d (.sl (List.map AType.cs a.Of))], .agg [cI b.Kind, .d (.sl (List.map AType.cs b.Of))]] [] (.tup [.agg [cI r.1.Kind, .d (.sl (List.map AType.cs r.1.Of))], aB r.2]) [] := (ex_join_all n).1 a b hr
theorem ex_common_c (l : (List AType)) {r : AType × Bool} (hr : ex_common l = some r) : Con Tryd.prog 133 [.c (.d (.sl (List.map AType.cs l)))] [] (.tup [.agg [cI r.1.Kind, .d (.sl (List.map AType.cs r.1.Of))], aB r.2]) [] := by
  unfold ex_common at hr
  refine Con.of_ok 34 0 [.cell 2 130, .tmp 3] [(0, .s (.c (.d (.sl (List.map AType.cs l)))))] Tryd.func133 rfl rfl rfl rfl rfl rfl rfl rfl fun w g M ρ _ => ?_
  refine Ok.seq ?_
  refine Ok.region ?_
  refine OkOps.m 0 (triAlloc (j := 0) (cs := [cI 0, .d (.v (.slice none 0 0))]) rfl rfl rfl rfl) ?_
  refine OkOps.x (aB false) rfl trivial rfl ?_
  refine OkOps.nil ?_
  refine Ok.seq ?_
  refine Ok.seq ?_
  refine Ok.region ?_
  refine OkOps.x (.c (.d (.sl (List.map AType.cs l)))) rfl trivial rfl ?_
  refine OkOps.q (triLen (enc := AType.cs) l rfl rfl trivial rfl) ?_
  refine OkOps.x (aB ((l.length : Int) == 0)) rfl trivial rfl ?_
  refine OkOps.nil ?_
  refine Ok.cond (b := (l.length : Int) == 0) rfl (fun h1 => ?_) (fun h1 => ?_)
  · have hr := selT h1 hr
    refine Ok.seq ?_
    refine Ok.region ?_
    refine OkOps.x (.agg [cI 4, .d (.v (.slice none 0 0))]) rfl trivial rfl ?_
    refine OkOps.w (triStore (cs' := [cI 4, .d (.v (.slice none 0 0))]) rfl rfl rfl rfl rfl rfl rfl rfl rfl) ?_
    refine OkOps.x (aB true) rfl trivial rfl ?_
    refine OkOps.nil ?_
    refine Ok.ret ?_
    obtain rfl := Option.some.inj hr
    exact ⟨_, rfl, .inr rfl, trivial⟩
  · have hr := selF h1 hr
    refine Ok.skip ?_
    refine Ok.seq ?_
    refine Ok.region ?_
    refine OkOps.x (.c (.d (.sl (List.map AType.cs l)))) rfl trivial rfl ?_
    obtain ⟨x2, hx2, hr⟩ := bind_some hr
    refine OkOps.q (triIdx (enc := AType.cs) (L := l) (row := [dI x2.Kind, .sl (List.map AType.cs x2.Of)]) hx2 (AType.cs_eq _) rfl rfl rfl (fun x => by rw [AType.cs_eq]; rfl) trivial rfl) ?_
    refine OkOps.x (.agg [cI x2.Kind, .d (.sl (List.map AType.cs x2.Of))]) rfl trivial rfl ?_
    refine OkOps.m 0 (triAlloc (j := 1) (cs := [cI 0, .d (.v (.slice none 0 0))]) rfl rfl rfl rfl) ?_
    refine OkOps.w (triStore (cs' := [cI x2.Kind, .d (.sl (List.map AType.cs x2.Of))]) rfl rfl rfl rfl rfl rfl rfl rfl rfl) ?_
    refine OkOps.nil ?_
    obtain ⟨k4, hk4, hr⟩ := jn_some hr
    refine Ok.join (fun (s3 : Int × (List AType)) => ⟨[(2, .s (.c (.loc 0 0))), (4, .s (.c (.loc 1 0)))], [(0, .blk [cI 0, .d (.v (.slice none 0 0))] 130), (1, .blk [cI s3.1, .d (.sl (List.map AType.cs s3.2))] 130)], 0⟩) k4 r (fun s3 hr => ?_) ?_
    · rw [hk4] at hr
      refine Ok.seq ?_
      refine Ok.region ?_
      refine OkOps.x (.agg [cI s3.1, .d (.sl (List.map AType.cs s3.2))]) rfl trivial rfl ?_
      obtain ⟨x5, hx5, hr⟩ := bind_some hr
      refine OkOps.q (triCall (tau []) (.s (.agg [cI x5.Kind, .d (.sl (List.map AType.cs x5.Of))])) [] (ex_listOf_c _ hx5) rfl ⟨.inl rfl, trivial⟩ trivial entry134 trivial rfl rfl rfl rfl trivial rfl rfl rfl) ?_
      refine OkOps.w (triStore (cs' := [cI x5.Kind, .d (.sl (List.map AType.cs x5.Of))]) rfl rfl rfl rfl rfl rfl rfl rfl rfl) ?_
      refine OkOps.x (aB true) rfl trivial rfl ?_
      refine OkOps.nil ?_
      refine Ok.ret ?_
      obtain rfl := Option.some.inj hr
      exact ⟨_, rfl, .inl rfl, trivial⟩
    · clear hk4
      refine Ok.seq ?_
      refine Ok.region ?_
      refine OkOps.x (.c (.d (.sl (List.map AType.cs l)))) rfl trivial rfl ?_
      obtain ⟨x6, hx6, hr⟩ := bind_some hr
      refine OkOps.q (triSlc (enc := AType.cs) (L := l) hx6 rfl rfl rfl (.inr ⟨_, rfl⟩) (.inl ⟨rfl, rfl⟩) rfl (fun x => by rw [AType.cs_eq]; rfl) trivial rfl) ?_
      refine OkOps.q (triLen (enc := AType.cs) x6 rfl rfl trivial rfl) ?_
      refine OkOps.x (aI 0) rfl trivial rfl ?_
      refine OkOps.nil ?_
      refine Ok.block ?_
      refine Ok.loopK (fun (s7 : Int × Int × (List AType)) => ⟨[(2, .s (.c (.loc 0 0))), (4, .s (.c (.loc 1 0))), (16, .s (.c (.d (.sl (List.map AType.cs x6))))), (17, .s (aI (x6.length : Int))), (18, .s (aI s7.1))], [(0, .blk [cI 0, .d (.v (.slice none 0 0))] 130), (1, .blk [cI s7.2.1, .d (.sl (List.map AType.cs s7.2.2))] 130)], 0⟩) hr (Conv.mk (tau []) ⟨⟨_, rfl, .inl rfl⟩, ⟨_, rfl, .inl rfl⟩, ⟨_, rfl, .inl rfl⟩, ⟨_, rfl, .inl rfl⟩, ⟨_, rfl, .inl rfl⟩, trivial⟩ ⟨rfl, rfl, trivial⟩ rfl rfl rfl rfl) ?_
      clear hr
      intro again8 s7 hr
      unfold ex_common_L1 at hr
      refine Ok.seq ?_
      refine Ok.region ?_
      refine OkOps.x (aB (decide (s7.1 < (x6.length : Int)))) rfl trivial rfl ?_
      refine OkOps.nil ?_
      refine Ok.seq ?_
      refine Ok.cond (b := decide (s7.1 < (x6.length : Int))) rfl (fun h9 => ?_) (fun h9 => ?_)
      · have hr := selT h9 hr
        refine Ok.skip ?_
        refine Ok.seq ?_
        refine Ok.block ?_
        refine Ok.seq ?_
        refine Ok.region ?_
        obtain ⟨x10, hx10, hr⟩ := bind_some hr
        refine OkOps.q (triIdx (enc := AType.cs) (L := x6) (row := [dI x10.Kind, .sl (List.map AType.cs x10.Of)]) hx10 (AType.cs_eq _) rfl rfl rfl (fun x => by rw [AType.cs_eq]; rfl) trivial rfl) ?_
        refine OkOps.x (.agg [cI x10.Kind, .d (.sl (List.map AType.cs x10.Of))]) rfl trivial rfl ?_
        refine OkOps.m 0 (triAlloc (j := 2) (cs := [cI 0, .d (.v (.slice none 0 0))]) rfl rfl rfl rfl) ?_
        refine OkOps.w (triStore (cs' := [cI x10.Kind, .d (.sl (List.map AType.cs x10.Of))]) rfl rfl rfl rfl rfl rfl rfl rfl rfl) ?_
        refine OkOps.nil ?_
        refine Ok.seq ?_
        refine Ok.region ?_
        refine OkOps.x (aB false) rfl trivial rfl ?_
        refine OkOps.nil ?_
        refine Ok.seq ?_
        refine Ok.region ?_
        refine OkOps.x (.agg [cI s7.2.1, .d (.sl (List.map AType.cs s7.2.2))]) rfl trivial rfl ?_
        refine OkOps.x (.agg [cI x10.Kind, .d (.sl (List.map AType.cs x10.Of))]) rfl trivial rfl ?_
        obtain ⟨x11, hx11, hr⟩ := bind_some hr
        refine OkOps.q (triCall (tau []) (.tup [.agg [cI x11.1.Kind, .d (.sl (List.map AType.cs x11.1.Of))], aB x11.2]) [] (ex_join_c _ _ _ hx11) rfl ⟨.inl rfl, .inl rfl, trivial⟩ trivial entry138 trivial rfl rfl rfl rfl trivial rfl rfl rfl) ?_
        refine OkOps.q (triMv (v := .tup [.agg [cI x11.1.Kind, .d (.sl (List.map AType.cs x11.1.Of))], aB x11.2]) rfl rfl) ?_
        refine OkOps.x (.agg [cI x11.1.Kind, .d (.sl (List.map AType.cs x11.1.Of))]) rfl trivial rfl ?_
        refine OkOps.x (aB x11.2) rfl trivial rfl ?_
        refine OkOps.w (triStore (cs' := [cI x11.1.Kind, .d (.sl (List.map AType.cs x11.1.Of))]) rfl rfl rfl rfl rfl rfl rfl rfl rfl) ?_
        refine OkOps.x (aB x11.2) rfl trivial rfl ?_
        refine OkOps.nil ?_
        refine Ok.seq ?_
        refine Ok.region ?_
        refine OkOps.x (aB x11.2) rfl trivial rfl ?_
        refine OkOps.x (aB (!x11.2)) rfl trivial rfl ?_
        refine OkOps.nil ?_
        refine Ok.cond (b := !x11.2) rfl (fun h12 => ?_) (fun h12 => ?_)
        · have hr := selT h12 hr
          refine Ok.seq ?_
          refine Ok.region ?_
          refine OkOps.x (.agg [cI 0, .d (.v (.slice none 0 0))]) rfl trivial rfl ?_
          refine OkOps.w (triStore (cs' := [cI 0, .d (.v (.slice none 0 0))]) rfl rfl rfl rfl rfl rfl rfl rfl rfl) ?_
          refine OkOps.x (aB false) rfl trivial rfl ?_
          refine OkOps.nil ?_
          refine Ok.ret ?_
          obtain rfl := Option.some.inj hr
          exact ⟨_, rfl, .inr rfl, trivial⟩
        · have hr := selF h12 hr
          refine Ok.skip ?_
          refine Ok.region ?_
          refine OkOps.x (aI (IntKind.i64.wrap (s7.1 + 1))) rfl trivial rfl ?_
          refine OkOps.x (aI (IntKind.i64.wrap (s7.1 + 1))) rfl trivial rfl ?_
          refine OkOps.nil ?_
          exact ⟨(IntKind.i64.wrap (s7.1 + 1), x11.1.Kind, x11.1.Of), hr, (Conv.mk (tau []) ⟨⟨_, rfl, .inl rfl⟩, ⟨_, rfl, .inl rfl⟩, ⟨_, rfl, .inl rfl⟩, ⟨_, rfl, .inl rfl⟩, ⟨_, rfl, .inl rfl⟩, trivial⟩ ⟨rfl, rfl, trivial⟩ rfl rfl rfl rfl)⟩
      · have hr := selF h9 hr
        refine Ok.exit ?_
        exact ⟨(s7.2.1, s7.2.2), hr, (Conv.mk (tau []) ⟨⟨_, rfl, .inl rfl⟩, ⟨_, rfl, .inl rfl⟩, trivial⟩ ⟨rfl, rfl, trivial⟩ rfl rfl rfl rfl)⟩
theorem entry133 : Entry Tryd.prog 133 := ⟨_, Tryd.func133, by kernel_rfl, by kernel_rfl⟩
theorem entry121 : Entry Tryd.prog 121 := ⟨_, Tryd.func121, by kernel_rfl, by kernel_rfl⟩
theorem ex_check_B_c (self0 : AValue → Int → Int → Option (AType × Int × Int)) (hself0 : ∀ (a0 : AValue) (a1 : Int) (a2 : Int) {r : AType × Int × Int}, self0 a0 a1 a2 = some r → Con Tryd.prog 121 [.agg [cI a0.Kind, cI a0.N, cS a0.S, .d (.sl (List.map AValue.cs a0.L))], aI a1, .c (.loc 0 0)] [(0, .blk [cI a2] 3)] (.tup [.agg [cI r.1.Kind, .d (.sl (List.map AType.cs r.1.Of))], aI r.2.1]) [(0, .blk [cI r.2.2] 3)]) (a0 : AValue) (a1 : Int) (a2 : Int) {r : AType × Int × Int} (hr : ex_check_B self0 a0 a1 a2 = some r) : Con Tryd.prog 121 [.agg [cI a0.Kind, cI a0.N, cS a0.S, .d (.sl (List.map AValue.cs a0.L))], aI a1, .c (.loc 0 0)] [(0, .blk [cI a2] 3)] (.tup [.agg [cI r.1.Kind, .d (.sl (List.map AType.cs r.1.Of))], aI r.2.1]) [(0, .blk [cI r.2.2] 3)] := by
  unfold ex_check_B at hr
  refine Con.of_ok 121 0 [.cell 6 130, .tmp 7] [(0, .s (.agg [cI a0.Kind, cI a0.N, cS a0.S, .d (.sl (List.map AValue.cs a0.L))])), (1, .s (aI a1)), (2, .s (.c (.loc 0 0)))] Tryd.func121 rfl rfl rfl rfl rfl rfl rfl rfl fun w g M ρ _ => ?_
  refine Ok.seq ?_
  refine Ok.region ?_
  refine OkOps.m 0 (triBox (j := 1) (cs := [cI a0.Kind, cI a0.N, cS a0.S, .d (.sl (List.map AValue.cs a0.L))]) rfl rfl rfl rfl rfl) ?_
  refine OkOps.m 0 (triAlloc (j := 2) (cs := [cI 0, .d (.v (.slice none 0 0))]) rfl rfl rfl rfl) ?_
  refine OkOps.x (aI 0) rfl trivial rfl ?_
  refine OkOps.nil ?_
  refine Ok.seq ?_
  refine Ok.seq ?_
  refine Ok.region ?_
  refine OkOps.x (.c (.loc 1 0)) rfl trivial rfl ?_
  refine OkOps.x (aI a0.Kind) rfl trivial rfl ?_
  refine OkOps.x (aB (a0.Kind == 4)) rfl trivial rfl ?_
  refine OkOps.x (aB (a0.Kind == 4)) rfl trivial rfl ?_
  refine OkOps.q (triQG (x := aI a1) rfl rfl trivial rfl) ?_
  refine OkOps.q (triQG (x := aB (decide (a1 ≥ 16))) rfl rfl ⟨fun h => h, trivial⟩ rfl) ?_
  refine OkOps.q (triAnd rfl rfl (fun h => h) rfl) ?_
  refine OkOps.nil ?_
  refine Ok.cond (b := (a0.Kind == 4) && (decide (a1 ≥ 16))) rfl (fun h1 => ?_) (fun h1 => ?_)
  · have hr := selT h1 hr
    refine Ok.seq ?_
    refine Ok.region ?_
    refine OkOps.x (.agg [cI 0, .d (.v (.slice none 0 0))]) rfl trivial rfl ?_
    refine OkOps.w (triStore (cs' := [cI 0, .d (.v (.slice none 0 0))]) rfl rfl rfl rfl rfl rfl rfl rfl rfl) ?_
    refine OkOps.x (aI 8) rfl trivial rfl ?_
    refine OkOps.nil ?_
    refine Ok.ret ?_
    obtain rfl := Option.some.inj hr
    exact ⟨_, rfl, .inr rfl, ⟨rfl, trivial⟩⟩
  · have hr := selF h1 hr
    refine Ok.skip ?_
    refine Ok.seq ?_
    refine Ok.region ?_
    refine OkOps.x (.c (.loc 0 0)) rfl trivial rfl ?_
    refine OkOps.x (.c (.loc 0 0)) rfl trivial rfl ?_
    refine OkOps.x (aI a2) rfl trivial rfl ?_
    refine OkOps.x (aI (IntKind.i64.wrap (a2 + 1))) rfl trivial rfl ?_
    refine OkOps.x (.c (.loc 0 0)) rfl trivial rfl ?_
    refine OkOps.w (triStore (cs' := [cI (IntKind.i64.wrap (a2 + 1))]) rfl rfl rfl rfl rfl rfl rfl rfl rfl) ?_
    refine OkOps.nil ?_
    refine Ok.seq ?_
    refine Ok.block ?_
    refine Ok.seq ?_
    refine Ok.region ?_
    refine OkOps.x (.agg [cI a0.Kind, cI a0.N, cS a0.S, .d (.sl (List.map AValue.cs a0.L))]) rfl trivial rfl ?_
    obtain ⟨x2, hx2, hr⟩ := bind_some hr
    refine OkOps.q (triCall (tau []) (.s (aB x2)) [] (ex_fields_c _ hx2) rfl ⟨.inl rfl, trivial⟩ trivial entry130 trivial rfl rfl rfl rfl trivial rfl rfl rfl) ?_
    refine OkOps.x (aB (!x2)) rfl trivial rfl ?_
    refine OkOps.x (aB (!x2)) rfl trivial rfl ?_
    refine OkOps.nil ?_
    refine Ok.cond (b := !x2) rfl (fun h3 => ?_) (fun h3 => ?_)
    · have hr := selT h3 hr
      refine Ok.seq ?_
      refine Ok.region ?_
      refine OkOps.x (.agg [cI 0, .d (.v (.slice none 0 0))]) rfl trivial rfl ?_
      refine OkOps.w (triStore (cs' := [cI 0, .d (.v (.slice none 0 0))]) rfl rfl rfl rfl rfl rfl rfl rfl rfl) ?_
      refine OkOps.x (aI 9) rfl trivial rfl ?_
      refine OkOps.nil ?_
      refine Ok.ret ?_
      obtain rfl := Option.some.inj hr
      exact ⟨_, rfl, .inr rfl, ⟨rfl, trivial⟩⟩
    · have hr := selF h3 hr
      obtain ⟨k5, hk5, hr⟩ := jn_some hr
      refine Ok.join (fun (s4 : Bool) => ⟨[(1, .s (aI a1)), (2, .s (.c (.loc 0 0))), (3, .s (.c (.loc 1 0))), (6, .s (.c (.loc 2 0))), (33, .s (aB s4))], [(0, .blk [cI (IntKind.i64.wrap (a2 + 1))] 3), (1, .blk [cI a0.Kind, cI a0.N, cS a0.S, .d (.sl (List.map AValue.cs a0.L))] 40), (2, .blk [cI 0, .d (.v (.slice none 0 0))] 130)], 0⟩) k5 r (fun s4 hr => ?_) ?_
      · rw [hk5] at hr
        refine Ok.cond (b := s4) rfl (fun h6 => ?_) (fun h6 => ?_)
        · have hr := selT h6 hr
          refine Ok.seq ?_
          refine Ok.region ?_
          refine OkOps.x (.agg [cI 0, .d (.v (.slice none 0 0))]) rfl trivial rfl ?_
          refine OkOps.w (triStore (cs' := [cI 0, .d (.v (.slice none 0 0))]) rfl rfl rfl rfl rfl rfl rfl rfl rfl) ?_
          refine OkOps.x (aI 1) rfl trivial rfl ?_
          refine OkOps.nil ?_
          refine Ok.ret ?_
          obtain rfl := Option.some.inj hr
          exact ⟨_, rfl, .inr rfl, ⟨rfl, trivial⟩⟩
        · have hr := selF h6 hr
          refine Ok.seq ?_
          refine Ok.region ?_
          refine OkOps.x (.c (.loc 1 2)) rfl trivial rfl ?_
          refine OkOps.x (aS a0.S) rfl trivial rfl ?_
          refine OkOps.x (aI (a0.S.size : Int)) rfl trivial rfl ?_
          refine OkOps.x (aB (decide ((a0.S.size : Int) > 2000))) rfl trivial rfl ?_
          refine OkOps.x (aB (decide ((a0.S.size : Int) > 2000))) rfl trivial rfl ?_
          refine OkOps.q (triQG (x := .c (.loc 1 3)) rfl rfl trivial rfl) ?_
          refine OkOps.q (triQG (x := .c (.d (.sl (List.map AValue.cs a0.L)))) rfl rfl ⟨fun h => h, trivial⟩ rfl) ?_
          refine OkOps.q (triLenG (enc := AValue.cs) a0.L rfl rfl rfl ⟨fun h => h, trivial⟩ rfl) ?_
          refine OkOps.q (triQG (x := aB (decide ((a0.L.length : Int) > 100))) rfl rfl ⟨fun h => h, trivial⟩ rfl) ?_
          refine OkOps.q (triOr rfl rfl (fun h => by rw [h]; rfl) rfl) ?_
          refine OkOps.x (aB ((decide ((a0.S.size : Int) > 2000)) || (decide ((a0.L.length : Int) > 100)))) rfl trivial rfl ?_
          refine OkOps.q (triQG (x := .c (.loc 0 0)) rfl rfl trivial rfl) ?_
          refine OkOps.q (triQG (x := .c (.loc 0 0)) rfl rfl ⟨fun h => h, trivial⟩ rfl) ?_
          refine OkOps.q (triQG (x := aI (IntKind.i64.wrap (a2 + 1))) rfl rfl ⟨fun h => h, trivial⟩ rfl) ?_
          refine OkOps.q (triQG (x := aB (decide ((IntKind.i64.wrap (a2 + 1)) > 1000))) rfl rfl ⟨fun h => h, trivial⟩ rfl) ?_
          refine OkOps.q (triOr rfl rfl (fun h => by rw [h]; rfl) rfl) ?_
          refine OkOps.x (aB (((decide ((a0.S.size : Int) > 2000)) || (decide ((a0.L.length : Int) > 100))) || (decide ((IntKind.i64.wrap (a2 + 1)) > 1000)))) rfl trivial rfl ?_
          refine OkOps.nil ?_
          refine Ok.cond (b := ((decide ((a0.S.size : Int) > 2000)) || (decide ((a0.L.length : Int) > 100))) || (decide ((IntKind.i64.wrap (a2 + 1)) > 1000))) rfl (fun h7 => ?_) (fun h7 => ?_)
          · have hr := selT h7 hr
            refine Ok.seq ?_
            refine Ok.region ?_
            refine OkOps.x (.agg [cI 0, .d (.v (.slice none 0 0))]) rfl trivial rfl ?_
            refine OkOps.w (triStore (cs' := [cI 0, .d (.v (.slice none 0 0))]) rfl rfl rfl rfl rfl rfl rfl rfl rfl) ?_
            refine OkOps.x (aI 2) rfl trivial rfl ?_
            refine OkOps.nil ?_
            refine Ok.ret ?_
            obtain rfl := Option.some.inj hr
            exact ⟨_, rfl, .inr rfl, ⟨rfl, trivial⟩⟩
          · have hr := selF h7 hr
            refine Ok.seq ?_
            refine Ok.region ?_
            refine OkOps.x (.c (.loc 1 2)) rfl trivial rfl ?_
            refine OkOps.x (aS a0.S) rfl trivial rfl ?_
            obtain ⟨x8, hx8, hr⟩ := bind_some hr
            refine OkOps.q (triCall (tau []) (.s (aB x8)) [] (unicode_utf8_ValidString_c _ hx8) rfl ⟨.inl rfl, trivial⟩ trivial entry132 trivial rfl rfl rfl rfl trivial rfl rfl rfl) ?_
            refine OkOps.x (aB (!x8)) rfl trivial rfl ?_
            refine OkOps.x (aB (!x8)) rfl trivial rfl ?_
            refine OkOps.nil ?_
            refine Ok.cond (b := !x8) rfl (fun h9 => ?_) (fun h9 => ?_)
            · have hr := selT h9 hr
              refine Ok.seq ?_
              refine Ok.region ?_
              refine OkOps.x (.agg [cI 0, .d (.v (.slice none 0 0))]) rfl trivial rfl ?_
              refine OkOps.w (triStore (cs' := [cI 0, .d (.v (.slice none 0 0))]) rfl rfl rfl rfl rfl rfl rfl rfl rfl) ?_
              refine OkOps.x (aI 3) rfl trivial rfl ?_
              refine OkOps.nil ?_
              refine Ok.ret ?_
              obtain rfl := Option.some.inj hr
              exact ⟨_, rfl, .inr rfl, ⟨rfl, trivial⟩⟩
            · have hr := selF h9 hr
              refine Ok.seq ?_
              refine Ok.region ?_
              refine OkOps.x (.c (.loc 1 0)) rfl trivial rfl ?_
              refine OkOps.x (aI a0.Kind) rfl trivial rfl ?_
              refine OkOps.x (aB (a0.Kind != 4)) rfl trivial rfl ?_
              refine OkOps.x (aB (a0.Kind != 4)) rfl trivial rfl ?_
              refine OkOps.nil ?_
              refine Ok.cond (b := a0.Kind != 4) rfl (fun h10 => ?_) (fun h10 => ?_)
              · have hr := selT h10 hr
                refine Ok.seq ?_
                refine Ok.region ?_
                refine OkOps.x (.c (.loc 1 0)) rfl trivial rfl ?_
                refine OkOps.x (aI a0.Kind) rfl trivial rfl ?_
                refine OkOps.x (.agg [cI a0.Kind, .d (.v (.slice none 0 0))]) rfl trivial rfl ?_
                refine OkOps.w (triStore (cs' := [cI a0.Kind, .d (.v (.slice none 0 0))]) rfl rfl rfl rfl rfl rfl rfl rfl rfl) ?_
                refine OkOps.x (aI 0) rfl trivial rfl ?_
                refine OkOps.nil ?_
                refine Ok.ret ?_
                obtain rfl := Option.some.inj hr
                exact ⟨_, rfl, .inr rfl, ⟨rfl, trivial⟩⟩
              · have hr := selF h10 hr
                refine Ok.skip ?_
                refine Ok.seq ?_
                refine Ok.region ?_
                refine OkOps.x (.c (.d (.v (.slice none 0 0)))) rfl trivial rfl ?_
                refine OkOps.nil ?_
                obtain ⟨k12, hk12, hr⟩ := jn_some hr
                refine Ok.join (fun (s11 : (List AType) × Int) => ⟨[(6, .s (.c (.loc 2 0))), (8, .s (.c (.tl 1004 (List.map AType.cs s11.1))))], [(0, .blk [cI s11.2] 3), (2, .blk [cI 0, .d (.v (.slice none 0 0))] 130), (1004, .tail 2)], 0⟩) k12 r (fun s11 hr => ?_) ?_
                · rw [hk12] at hr
                  refine Ok.seq ?_
                  refine Ok.region ?_
                  refine OkOps.x (.c (.tl 1004 (List.map AType.cs s11.1))) rfl trivial rfl ?_
                  obtain ⟨x13, hx13, hr⟩ := bind_some hr
                  refine OkOps.q (triCall (tau []) (.tup [.agg [cI x13.1.Kind, .d (.sl (List.map AType.cs x13.1.Of))], aB x13.2]) [] (ex_common_c _ hx13) rfl ⟨.inr rfl, trivial⟩ trivial entry133 trivial rfl rfl rfl rfl trivial rfl rfl rfl) ?_
                  refine OkOps.q (triMv (v := .tup [.agg [cI x13.1.Kind, .d (.sl (List.map AType.cs x13.1.Of))], aB x13.2]) rfl rfl) ?_
                  refine OkOps.x (.agg [cI x13.1.Kind, .d (.sl (List.map AType.cs x13.1.Of))]) rfl trivial rfl ?_
                  refine OkOps.x (aB x13.2) rfl trivial rfl ?_
                  refine OkOps.m 0 (triAlloc (j := 3) (cs := [cI 0, .d (.v (.slice none 0 0))]) rfl rfl rfl rfl) ?_
                  refine OkOps.w (triStore (cs' := [cI x13.1.Kind, .d (.sl (List.map AType.cs x13.1.Of))]) rfl rfl rfl rfl rfl rfl rfl rfl rfl) ?_
                  refine OkOps.x (aB x13.2) rfl trivial rfl ?_
                  refine OkOps.nil ?_
                  refine Ok.seq ?_
                  refine Ok.seq ?_
                  refine Ok.region ?_
                  refine OkOps.x (aB x13.2) rfl trivial rfl ?_
                  refine OkOps.x (aB (!x13.2)) rfl trivial rfl ?_
                  refine OkOps.nil ?_
                  refine Ok.cond (b := !x13.2) rfl (fun h14 => ?_) (fun h14 => ?_)
                  · have hr := selT h14 hr
                    refine Ok.seq ?_
                    refine Ok.region ?_
                    refine OkOps.x (.agg [cI 0, .d (.v (.slice none 0 0))]) rfl trivial rfl ?_
                    refine OkOps.w (triStore (cs' := [cI 0, .d (.v (.slice none 0 0))]) rfl rfl rfl rfl rfl rfl rfl rfl rfl) ?_
                    refine OkOps.x (aI 5) rfl trivial rfl ?_
                    refine OkOps.nil ?_
                    refine Ok.ret ?_
                    obtain rfl := Option.some.inj hr
                    exact ⟨_, rfl, .inr rfl, ⟨rfl, trivial⟩⟩
                  · have hr := selF h14 hr
                    refine Ok.skip ?_
                    refine Ok.seq ?_
                    refine Ok.region ?_
                    refine OkOps.x (.agg [cI x13.1.Kind, .d (.sl (List.map AType.cs x13.1.Of))]) rfl trivial rfl ?_
                    refine OkOps.w (triStore (cs' := [cI x13.1.Kind, .d (.sl (List.map AType.cs x13.1.Of))]) rfl rfl rfl rfl rfl rfl rfl rfl rfl) ?_
                    refine OkOps.x (aI 0) rfl trivial rfl ?_
                    refine OkOps.nil ?_
                    refine Ok.ret ?_
                    obtain rfl := Option.some.inj hr
                    exact ⟨_, rfl, .inl rfl, ⟨rfl, trivial⟩⟩
                · clear hk12
                  refine Ok.seq ?_
                  refine Ok.region ?_
                  refine OkOps.x (.c (.loc 1 3)) rfl trivial rfl ?_
                  refine OkOps.x (.c (.d (.sl (List.map AValue.cs a0.L)))) rfl trivial rfl ?_
                  refine OkOps.q (triLen (enc := AValue.cs) a0.L rfl rfl trivial rfl) ?_
                  refine OkOps.x (aI 0) rfl trivial rfl ?_
                  refine OkOps.nil ?_
                  refine Ok.block ?_
                  refine Ok.loopK (fun (s15 : (List AType) × Int × Int) => ⟨[(1, .s (aI a1)), (2, .s (.c (.loc 0 0))), (6, .s (.c (.loc 2 0))), (8, .s (.c (.tl 1007 (List.map AType.cs s15.1)))), (89, .s (.c (.d (.sl (List.map AValue.cs a0.L))))), (90, .s (aI (a0.L.length : Int))), (91, .s (aI s15.2.1))], [(0, .blk [cI s15.2.2] 3), (2, .blk [cI 0, .d (.v (.slice none 0 0))] 130), (1007, .tail 2)], 0⟩) hr (Conv.trans (Conv.nil 8 1009 2 0 rfl rfl) (Conv.mk (tau [(1007, 1009)]) ⟨⟨_, rfl, .inl rfl⟩, ⟨_, rfl, .inl rfl⟩, ⟨_, rfl, .inl rfl⟩, ⟨_, rfl, .inl rfl⟩, ⟨_, rfl, .inl rfl⟩, ⟨_, rfl, .inl rfl⟩, ⟨_, rfl, .inl rfl⟩, trivial⟩ ⟨rfl, rfl, rfl, trivial⟩ rfl rfl rfl rfl)) ?_
                  clear hr
                  intro again16 s15 hr
                  unfold ex_check_L1 at hr
                  refine Ok.seq ?_
                  refine Ok.region ?_
                  refine OkOps.x (aB (decide (s15.2.1 < (a0.L.length : Int)))) rfl trivial rfl ?_
                  refine OkOps.nil ?_
                  refine Ok.seq ?_
                  refine Ok.cond (b := decide (s15.2.1 < (a0.L.length : Int))) rfl (fun h17 => ?_) (fun h17 => ?_)
                  · have hr := selT h17 hr
                    refine Ok.skip ?_
                    refine Ok.seq ?_
                    refine Ok.block ?_
                    refine Ok.seq ?_
                    refine Ok.region ?_
                    obtain ⟨x18, hx18, hr⟩ := bind_some hr
                    refine OkOps.q (triIdx (enc := AValue.cs) (L := a0.L) (row := [dI x18.Kind, dI x18.N, dS x18.S, .sl (List.map AValue.cs x18.L)]) hx18 (AValue.cs_eq _) rfl rfl rfl (fun x => by rw [AValue.cs_eq]; rfl) trivial rfl) ?_
                    refine OkOps.x (.agg [cI x18.Kind, cI x18.N, cS x18.S, .d (.sl (List.map AValue.cs x18.L))]) rfl trivial rfl ?_
                    refine OkOps.m 0 (triAlloc (j := 4) (cs := [cI 0, cI 0, cS ByteArray.empty, .d (.v (.slice none 0 0))]) rfl rfl rfl rfl) ?_
                    refine OkOps.w (triStore (cs' := [cI x18.Kind, cI x18.N, cS x18.S, .d (.sl (List.map AValue.cs x18.L))]) rfl rfl rfl rfl rfl rfl rfl rfl rfl) ?_
                    refine OkOps.nil ?_
                    refine Ok.seq ?_
                    refine Ok.region ?_
                    refine OkOps.x (.agg [cI x18.Kind, cI x18.N, cS x18.S, .d (.sl (List.map AValue.cs x18.L))]) rfl trivial rfl ?_
                    refine OkOps.x (aI a1) rfl trivial rfl ?_
                    refine OkOps.x (aI (IntKind.i64.wrap (a1 + 1))) rfl trivial rfl ?_
                    refine OkOps.x (.c (.loc 0 0)) rfl trivial rfl ?_
                    obtain ⟨x19, hx19, hr⟩ := bind_some hr
                    refine OkOps.m 0 (triCall (tau [(0, 0)]) (.tup [.agg [cI x19.1.Kind, .d (.sl (List.map AType.cs x19.1.Of))], aI x19.2.1]) [(0, .blk [cI x19.2.2] 3)] (hself0 _ _ _ hx19) rfl ⟨.inl rfl, .inl rfl, .inl rfl, trivial⟩ trivial entry121 ⟨rfl, trivial⟩ rfl rfl rfl rfl trivial rfl rfl rfl) ?_
                    refine OkOps.q (triMv (v := .tup [.agg [cI x19.1.Kind, .d (.sl (List.map AType.cs x19.1.Of))], aI x19.2.1]) rfl rfl) ?_
                    refine OkOps.x (.agg [cI x19.1.Kind, .d (.sl (List.map AType.cs x19.1.Of))]) rfl trivial rfl ?_
                    refine OkOps.x (aI x19.2.1) rfl trivial rfl ?_
                    refine OkOps.m 0 (triAlloc (j := 5) (cs := [cI 0, .d (.v (.slice none 0 0))]) rfl rfl rfl rfl) ?_
                    refine OkOps.w (triStore (cs' := [cI x19.1.Kind, .d (.sl (List.map AType.cs x19.1.Of))]) rfl rfl rfl rfl rfl rfl rfl rfl rfl) ?_
                    refine OkOps.x (aI x19.2.1) rfl trivial rfl ?_
                    refine OkOps.nil ?_
                    refine Ok.seq ?_
                    refine Ok.seq ?_
                    refine Ok.region ?_
                    refine OkOps.x (aI x19.2.1) rfl trivial rfl ?_
                    refine OkOps.x (aB (x19.2.1 != 0)) rfl trivial rfl ?_
                    refine OkOps.nil ?_
                    refine Ok.cond (b := x19.2.1 != 0) rfl (fun h20 => ?_) (fun h20 => ?_)
                    · have hr := selT h20 hr
                      refine Ok.seq ?_
                      refine Ok.region ?_
                      refine OkOps.x (.agg [cI 0, .d (.v (.slice none 0 0))]) rfl trivial rfl ?_
                      refine OkOps.x (aI x19.2.1) rfl trivial rfl ?_
                      refine OkOps.w (triStore (cs' := [cI 0, .d (.v (.slice none 0 0))]) rfl rfl rfl rfl rfl rfl rfl rfl rfl) ?_
                      refine OkOps.x (aI x19.2.1) rfl trivial rfl ?_
                      refine OkOps.nil ?_
                      refine Ok.ret ?_
                      obtain rfl := Option.some.inj hr
                      exact ⟨_, rfl, .inr rfl, ⟨rfl, trivial⟩⟩
                    · have hr := selF h20 hr
                      refine Ok.skip ?_
                      refine Ok.region ?_
                      refine OkOps.x (.c (.tl 1007 (List.map AType.cs s15.1))) rfl trivial rfl ?_
                      refine OkOps.x (.agg [cI x19.1.Kind, .d (.sl (List.map AType.cs x19.1.Of))]) rfl trivial rfl ?_
                      refine OkOps.m 0 (triBST (sz := 2) (enc := AType.cs) (j := 6) ([x19.1]) rfl rfl rfl rfl rfl (rows := [[dI x19.1.Kind, .sl (List.map AType.cs x19.1.Of)]]) (by simp only [List.map, AType.cs_eq]) rfl rfl (fun x => by rw [AType.cs_eq]; rfl) trivial rfl rfl) ?_
                      obtain ⟨x21, hx21, hr⟩ := bind_some hr
                      refine OkOps.m2 0 (triApp (enc := AType.cs) (L := s15.1) (X := [x19.1]) (j := 1007) (j' := 7) hx21 rfl rfl rfl rfl rfl rfl (fun x => by rw [AType.cs_eq]; rfl) (fun x => by rw [AType.cs_eq]; rfl) (by decide) trivial rfl rfl) ?_
                      refine OkOps.x (.c (.tl 7 (List.map AType.cs x21))) rfl trivial rfl ?_
                      refine OkOps.nil ?_
                      refine Ok.region ?_
                      refine OkOps.x (aI (IntKind.i64.wrap (s15.2.1 + 1))) rfl trivial rfl ?_
                      refine OkOps.x (aI (IntKind.i64.wrap (s15.2.1 + 1))) rfl trivial rfl ?_
                      refine OkOps.nil ?_
                      exact ⟨(x21, IntKind.i64.wrap (s15.2.1 + 1), x19.2.2), hr, (Conv.mk (tau [(1007, 7)]) ⟨⟨_, rfl, .inl rfl⟩, ⟨_, rfl, .inl rfl⟩, ⟨_, rfl, .inl rfl⟩, ⟨_, rfl, .inl rfl⟩, ⟨_, rfl, .inl rfl⟩, ⟨_, rfl, .inl rfl⟩, ⟨_, rfl, .inl rfl⟩, trivial⟩ ⟨rfl, rfl, rfl, trivial⟩ rfl rfl rfl rfl)⟩
                  · have hr := selF h17 hr
                    refine Ok.exit ?_
                    exact ⟨(s15.1, s15.2.2), hr, (Conv.mk (tau [(1004, 1007)]) ⟨⟨_, rfl, .inl rfl⟩, ⟨_, rfl, .inl rfl⟩, trivial⟩ ⟨rfl, rfl, rfl, trivial⟩ rfl rfl rfl rfl)⟩
      · clear hk5
        refine Ok.seq ?_
        refine Ok.region ?_
        refine OkOps.x (.c (.loc 1 0)) rfl trivial rfl ?_
        refine OkOps.x (aI a0.Kind) rfl trivial rfl ?_
        refine OkOps.x (aB (a0.Kind == 1)) rfl trivial rfl ?_
        refine OkOps.x (aB (a0.Kind == 1)) rfl trivial rfl ?_
        refine OkOps.q (triQG (x := .c (.loc 1 1)) rfl rfl trivial rfl) ?_
        refine OkOps.q (triQG (x := aI a0.N) rfl rfl ⟨fun h => h, trivial⟩ rfl) ?_
        obtain ⟨x22, hx22, hr⟩ := bind_some hr
        refine OkOps.q (triCallG (x := aB x22) (fun hg => ex_within_c _ (gO_t hx22 hg)) rfl rfl ⟨.inl rfl, trivial⟩ ⟨fun h => h, trivial⟩ entry131 rfl rfl rfl) ?_
        refine OkOps.q (triQG (x := aB (!x22)) rfl rfl ⟨fun h => h, trivial⟩ rfl) ?_
        refine OkOps.q (triAnd rfl rfl (fun h => h) rfl) ?_
        refine OkOps.x (aB ((a0.Kind == 1) && (!x22))) rfl trivial rfl ?_
        refine OkOps.nil ?_
        refine Ok.cond (b := (a0.Kind == 1) && (!x22)) rfl (fun h23 => ?_) (fun h23 => ?_)
        · have hr := selT h23 hr
          refine Ok.skip ?_
          exact ⟨(a0.Kind == 1) && (!x22), hr, (Conv.mk (tau []) ⟨⟨_, rfl, .inl rfl⟩, ⟨_, rfl, .inl rfl⟩, ⟨_, rfl, .inl rfl⟩, ⟨_, rfl, .inl rfl⟩, ⟨_, rfl, .inl rfl⟩, trivial⟩ ⟨rfl, rfl, rfl, trivial⟩ rfl rfl rfl rfl)⟩
        · have hr := selF h23 hr
          refine Ok.region ?_
          refine OkOps.x (.c (.loc 1 0)) rfl trivial rfl ?_
          refine OkOps.x (aI a0.Kind) rfl trivial rfl ?_
          refine OkOps.x (aB (a0.Kind == 2)) rfl trivial rfl ?_
          refine OkOps.x (aB (a0.Kind == 2)) rfl trivial rfl ?_
          refine OkOps.q (triQG (x := .c (.loc 1 1)) rfl rfl trivial rfl) ?_
          refine OkOps.q (triQG (x := aI a0.N) rfl rfl ⟨fun h => h, trivial⟩ rfl) ?_
          refine OkOps.q (triQG (x := aB (a0.N != 0)) rfl rfl ⟨fun h => h, trivial⟩ rfl) ?_
          refine OkOps.q (triAnd rfl rfl (fun h => h) rfl) ?_
          refine OkOps.x (aB ((a0.Kind == 2) && (a0.N != 0))) rfl trivial rfl ?_
          refine OkOps.q (triQG (x := .c (.loc 1 1)) rfl rfl trivial rfl) ?_
          refine OkOps.q (triQG (x := aI a0.N) rfl rfl ⟨fun h => h, trivial⟩ rfl) ?_
          refine OkOps.q (triQG (x := aB (a0.N != 1)) rfl rfl ⟨fun h => h, trivial⟩ rfl) ?_
          refine OkOps.q (triAnd rfl rfl (fun h => h) rfl) ?_
          refine OkOps.x (aB (((a0.Kind == 2) && (a0.N != 0)) && (a0.N != 1))) rfl trivial rfl ?_
          refine OkOps.nil ?_
          exact ⟨((a0.Kind == 2) && (a0.N != 0)) && (a0.N != 1), hr, (Conv.mk (tau []) ⟨⟨_, rfl, .inl rfl⟩, ⟨_, rfl, .inl rfl⟩, ⟨_, rfl, .inl rfl⟩, ⟨_, rfl, .inl rfl⟩, ⟨_, rfl, .inl rfl⟩, trivial⟩ ⟨rfl, rfl, rfl, trivial⟩ rfl rfl rfl rfl)⟩
theorem ex_check_all : ∀ n : Nat, (∀ (a0 : AValue) (a1 : Int) (a2 : Int) {r : AType × Int × Int}, ex_check n a0 a1 a2 = some r → Con Tryd.prog 121 [.agg [cI a0.Kind, cI a0.N, cS a0.S, .d (.sl (List.map AValue.cs a0.L))], aI a1, .c (.loc 0 0)] [(0, .blk [cI a2] 3)] (.tup [.agg [cI r.1.Kind, .d (.sl (List.map AType.cs r.1.Of))], aI r.2.1]) [(0, .blk [cI r.2.2] 3)]) ∧ True := by
  intro n
  induction n with
  | zero => exact ⟨(by intros; rename_i hr; cases hr), trivial⟩
  | succ n ih => exact ⟨(by intros; rename_i hr; exact ex_check_B_c _ ih.1 _ _ _ hr), trivial⟩
theorem ex_check_c (n : Nat) (a0 : AValue) (a1 : Int) (a2 : Int) {r : AType × Int × Int} (hr : ex_check n a0 a1 a2 = some r) : Con Tryd.prog 121 [.agg [cI a0.Kind, cI a0.N, cS a0.S, .d (.sl (List.map AValue.cs a0.L))], aI a1, .c (.loc 0 0)] [(0, .blk [cI a2] 3)] (.tup [.agg [cI r.1.Kind, .d (.sl (List.map AType.cs r.1.Of))], aI r.2.1]) [(0, .blk [cI r.2.2] 3)] := (ex_check_all n).1 a0 a1 a2 hr
theorem entry122 : Entry Tryd.prog 122 := ⟨_, Tryd.func122, by kernel_rfl, by kernel_rfl⟩
theorem ex_copyType_B_c (self0 : AType → Option AType) (hself0 : ∀ (t : AType) {r : AType}, self0 t = some r → Con Tryd.prog 122 [.agg [cI t.Kind, .d (.sl (List.map AType.cs t.Of))]] [] (.s (.agg [cI r.Kind, .d (.sl (List.map AType.cs r.Of))])) []) (t : AType) {r : AType} (hr : ex_copyType_B self0 t = some r) : Con Tryd.prog 122 [.agg [cI t.Kind, .d (.sl (List.map AType.cs t.Of))]] [] (.s (.agg [cI r.Kind, .d (.sl (List.map AType.cs r.Of))])) [] := by
  unfold ex_copyType_B at hr
  refine Con.of_ok 16 0 [.cell 2 130] [(0, .s (.agg [cI t.Kind, .d (.sl (List.map AType.cs t.Of))]))] Tryd.func122 rfl rfl rfl rfl rfl rfl rfl rfl fun w g M ρ _ => ?_
  refine Ok.seq ?_
  refine Ok.region ?_
  refine OkOps.m 0 (triBox (j := 0) (cs := [cI t.Kind, .d (.sl (List.map AType.cs t.Of))]) rfl rfl rfl rfl rfl) ?_
  refine OkOps.m 0 (triAlloc (j := 1) (cs := [cI 0, .d (.v (.slice none 0 0))]) rfl rfl rfl rfl) ?_
  refine OkOps.nil ?_
  refine Ok.seq ?_
  refine Ok.seq ?_
  refine Ok.region ?_
  refine OkOps.x (.c (.loc 0 1)) rfl trivial rfl ?_
  refine OkOps.x (.c (.d (.sl (List.map AType.cs t.Of)))) rfl trivial rfl ?_
  refine OkOps.q (triLen (enc := AType.cs) t.Of rfl rfl trivial rfl) ?_
  refine OkOps.x (aB ((t.Of.length : Int) == 0)) rfl trivial rfl ?_
  refine OkOps.nil ?_
  refine Ok.cond (b := (t.Of.length : Int) == 0) rfl (fun h1 => ?_) (fun h1 => ?_)
  · have hr := selT h1 hr
    refine Ok.seq ?_
    refine Ok.region ?_
    refine OkOps.x (.c (.loc 0 0)) rfl trivial rfl ?_
    refine OkOps.x (aI t.Kind) rfl trivial rfl ?_
    refine OkOps.x (.agg [cI t.Kind, .d (.v (.slice none 0 0))]) rfl trivial rfl ?_
    refine OkOps.w (triStore (cs' := [cI t.Kind, .d (.v (.slice none 0 0))]) rfl rfl rfl rfl rfl rfl rfl rfl rfl) ?_
    refine OkOps.nil ?_
    refine Ok.ret ?_
    obtain rfl := Option.some.inj hr
    exact ⟨_, rfl, .inr rfl, trivial⟩
  · have hr := selF h1 hr
    refine Ok.skip ?_
    refine Ok.seq ?_
    refine Ok.region ?_
    refine OkOps.x (.c (.loc 0 1)) rfl trivial rfl ?_
    refine OkOps.x (.c (.d (.sl (List.map AType.cs t.Of)))) rfl trivial rfl ?_
    obtain ⟨x2, hx2, hr⟩ := bind_some hr
    refine OkOps.q (triIdx (enc := AType.cs) (L := t.Of) (row := [dI x2.Kind, .sl (List.map AType.cs x2.Of)]) hx2 (AType.cs_eq _) rfl rfl rfl (fun x => by rw [AType.cs_eq]; rfl) trivial rfl) ?_
    refine OkOps.x (.agg [cI x2.Kind, .d (.sl (List.map AType.cs x2.Of))]) rfl trivial rfl ?_
    obtain ⟨x3, hx3, hr⟩ := bind_some hr
    refine OkOps.q (triCall (tau []) (.s (.agg [cI x3.Kind, .d (.sl (List.map AType.cs x3.Of))])) [] (hself0 _ hx3) rfl ⟨.inl rfl, trivial⟩ trivial entry122 trivial rfl rfl rfl rfl trivial rfl rfl rfl) ?_
    obtain ⟨x4, hx4, hr⟩ := bind_some hr
    refine OkOps.q (triCall (tau []) (.s (.agg [cI x4.Kind, .d (.sl (List.map AType.cs x4.Of))])) [] (ex_listOf_c _ hx4) rfl ⟨.inl rfl, trivial⟩ trivial entry134 trivial rfl rfl rfl rfl trivial rfl rfl rfl) ?_
    refine OkOps.w (triStore (cs' := [cI x4.Kind, .d (.sl (List.map AType.cs x4.Of))]) rfl rfl rfl rfl rfl rfl rfl rfl rfl) ?_
    refine OkOps.nil ?_
    refine Ok.ret ?_
    obtain rfl := Option.some.inj hr
    exact ⟨_, rfl, .inl rfl, trivial⟩
theorem ex_copyType_all : ∀ n : Nat, (∀ (t : AType) {r : AType}, ex_copyType n t = some r → Con Tryd.prog 122 [.agg [cI t.Kind, .d (.sl (List.map AType.cs t.Of))]] [] (.s (.agg [cI r.Kind, .d (.sl (List.map AType.cs r.Of))])) []) ∧ True := by
  intro n
  induction n with
  | zero => exact ⟨(by intros; rename_i hr; cases hr), trivial⟩
  | succ n ih => exact ⟨(by intros; rename_i hr; exact ex_copyType_B_c _ ih.1 _ hr), trivial⟩
theorem ex_copyType_c (n : Nat) (t : AType) {r : AType} (hr : ex_copyType n t = some r) : Con Tryd.prog 122 [.agg [cI t.Kind, .d (.sl (List.map AType.cs t.Of))]] [] (.s (.agg [cI r.Kind, .d (.sl (List.map AType.cs r.Of))])) [] := (ex_copyType_all n).1 t hr
theorem ex_TypeOf_c (v : AValue) {r : AType × Int} (hr : ex_TypeOf v = some r) : Con Tryd.prog 112 [.agg [cI v.Kind, cI v.N, cS v.S, .d (.sl (List.map AValue.cs v.L))]] [] (.tup [.agg [cI r.1.Kind, .d (.sl (List.map AType.cs r.1.Of))], aI r.2]) [] := by
  unfold ex_TypeOf at hr
  refine Con.of_ok 18 0 [.cell 2 130, .tmp 3] [(0, .s (.agg [cI v.Kind, cI v.N, cS v.S, .d (.sl (List.map AValue.cs v.L))]))] Tryd.func112 rfl rfl rfl rfl rfl rfl rfl rfl fun w g M ρ _ => ?_
  refine Ok.seq ?_
  refine Ok.region ?_
  refine OkOps.m 0 (triBox (j := 0) (cs := [cI v.Kind, cI v.N, cS v.S, .d (.sl (List.map AValue.cs v.L))]) rfl rfl rfl rfl rfl) ?_
  refine OkOps.m 0 (triAlloc (j := 1) (cs := [cI 0, .d (.v (.slice none 0 0))]) rfl rfl rfl rfl) ?_
  refine OkOps.x (aI 0) rfl trivial rfl ?_
  refine OkOps.nil ?_
  refine Ok.seq ?_
  refine Ok.region ?_
  refine OkOps.m 0 (triAlloc (j := 2) (cs := [cI 0]) rfl rfl rfl rfl) ?_
  refine OkOps.w (triStore (cs' := [cI 0]) rfl rfl rfl rfl rfl rfl rfl rfl rfl) ?_
  refine OkOps.nil ?_
  refine Ok.seq ?_
  refine Ok.region ?_
  refine OkOps.x (.agg [cI v.Kind, cI v.N, cS v.S, .d (.sl (List.map AValue.cs v.L))]) rfl trivial rfl ?_
  obtain ⟨x1, hx1, hr⟩ := bind_some hr
  refine OkOps.m 0 (triCall (tau [(0, 2)]) (.tup [.agg [cI x1.1.Kind, .d (.sl (List.map AType.cs x1.1.Of))], aI x1.2.1]) [(2, .blk [cI x1.2.2] 3)] (ex_check_c _ _ _ _ hx1) rfl ⟨.inl rfl, .inl rfl, .inl rfl, trivial⟩ trivial entry121 ⟨rfl, trivial⟩ rfl rfl rfl rfl trivial rfl rfl rfl) ?_
  refine OkOps.q (triMv (v := .tup [.agg [cI x1.1.Kind, .d (.sl (List.map AType.cs x1.1.Of))], aI x1.2.1]) rfl rfl) ?_
  refine OkOps.x (.agg [cI x1.1.Kind, .d (.sl (List.map AType.cs x1.1.Of))]) rfl trivial rfl ?_
  refine OkOps.x (aI x1.2.1) rfl trivial rfl ?_
  refine OkOps.m 0 (triAlloc (j := 3) (cs := [cI 0, .d (.v (.slice none 0 0))]) rfl rfl rfl rfl) ?_
  refine OkOps.w (triStore (cs' := [cI x1.1.Kind, .d (.sl (List.map AType.cs x1.1.Of))]) rfl rfl rfl rfl rfl rfl rfl rfl rfl) ?_
  refine OkOps.x (aI x1.2.1) rfl trivial rfl ?_
  refine OkOps.nil ?_
  refine Ok.seq ?_
  refine Ok.seq ?_
  refine Ok.region ?_
  refine OkOps.x (aI x1.2.1) rfl trivial rfl ?_
  refine OkOps.x (aB (x1.2.1 != 0)) rfl trivial rfl ?_
  refine OkOps.nil ?_
  refine Ok.cond (b := x1.2.1 != 0) rfl (fun h2 => ?_) (fun h2 => ?_)
  · have hr := selT h2 hr
    refine Ok.seq ?_
    refine Ok.region ?_
    refine OkOps.x (.agg [cI 0, .d (.v (.slice none 0 0))]) rfl trivial rfl ?_
    refine OkOps.x (aI x1.2.1) rfl trivial rfl ?_
    refine OkOps.w (triStore (cs' := [cI 0, .d (.v (.slice none 0 0))]) rfl rfl rfl rfl rfl rfl rfl rfl rfl) ?_
    refine OkOps.x (aI x1.2.1) rfl trivial rfl ?_
    refine OkOps.nil ?_
    refine Ok.ret ?_
    obtain rfl := Option.some.inj hr
    exact ⟨_, rfl, .inr rfl, trivial⟩
  · have hr := selF h2 hr
    refine Ok.skip ?_
    refine Ok.seq ?_
    refine Ok.region ?_
    refine OkOps.x (.agg [cI x1.1.Kind, .d (.sl (List.map AType.cs x1.1.Of))]) rfl trivial rfl ?_
    obtain ⟨x3, hx3, hr⟩ := bind_some hr
    refine OkOps.q (triCall (tau []) (.s (.agg [cI x3.Kind, .d (.sl (List.map AType.cs x3.Of))])) [] (ex_copyType_c _ _ hx3) rfl ⟨.inl rfl, trivial⟩ trivial entry122 trivial rfl rfl rfl rfl trivial rfl rfl rfl) ?_
    refine OkOps.w (triStore (cs' := [cI x3.Kind, .d (.sl (List.map AType.cs x3.Of))]) rfl rfl rfl rfl rfl rfl rfl rfl rfl) ?_
    refine OkOps.x (aI 0) rfl trivial rfl ?_
    refine OkOps.nil ?_
    refine Ok.ret ?_
    obtain rfl := Option.some.inj hr
    exact ⟨_, rfl, .inl rfl, trivial⟩
theorem entry112 : Entry Tryd.prog 112 := ⟨_, Tryd.func112, by kernel_rfl, by kernel_rfl⟩
theorem ex_Check_c (v : AValue) {r : Int} (hr : ex_Check v = some r) : Con Tryd.prog 105 [.agg [cI v.Kind, cI v.N, cS v.S, .d (.sl (List.map AValue.cs v.L))]] [] (.s (aI r)) [] := by
  unfold ex_Check at hr
  refine Con.of_ok 11 0 [.tmp 2] [(0, .s (.agg [cI v.Kind, cI v.N, cS v.S, .d (.sl (List.map AValue.cs v.L))]))] Tryd.func105 rfl rfl rfl rfl rfl rfl rfl rfl fun w g M ρ _ => ?_
  refine Ok.seq ?_
  refine Ok.region ?_
  refine OkOps.m 0 (triBox (j := 0) (cs := [cI v.Kind, cI v.N, cS v.S, .d (.sl (List.map AValue.cs v.L))]) rfl rfl rfl rfl rfl) ?_
  refine OkOps.x (aI 0) rfl trivial rfl ?_
  refine OkOps.nil ?_
  refine Ok.seq ?_
  refine Ok.region ?_
  refine OkOps.x (.agg [cI v.Kind, cI v.N, cS v.S, .d (.sl (List.map AValue.cs v.L))]) rfl trivial rfl ?_
  obtain ⟨x1, hx1, hr⟩ := bind_some hr
  refine OkOps.q (triCall (tau []) (.tup [.agg [cI x1.1.Kind, .d (.sl (List.map AType.cs x1.1.Of))], aI x1.2]) [] (ex_TypeOf_c _ hx1) rfl ⟨.inl rfl, trivial⟩ trivial entry112 trivial rfl rfl rfl rfl trivial rfl rfl rfl) ?_
  refine OkOps.q (triMv (v := .tup [.agg [cI x1.1.Kind, .d (.sl (List.map AType.cs x1.1.Of))], aI x1.2]) rfl rfl) ?_
  refine OkOps.x (.agg [cI x1.1.Kind, .d (.sl (List.map AType.cs x1.1.Of))]) rfl trivial rfl ?_
  refine OkOps.x (aI x1.2) rfl trivial rfl ?_
  refine OkOps.m 0 (triAlloc (j := 1) (cs := [cI 0, .d (.v (.slice none 0 0))]) rfl rfl rfl rfl) ?_
  refine OkOps.w (triStore (cs' := [cI x1.1.Kind, .d (.sl (List.map AType.cs x1.1.Of))]) rfl rfl rfl rfl rfl rfl rfl rfl rfl) ?_
  refine OkOps.x (aI x1.2) rfl trivial rfl ?_
  refine OkOps.nil ?_
  refine Ok.seq ?_
  refine Ok.region ?_
  refine OkOps.x (aI x1.2) rfl trivial rfl ?_
  refine OkOps.x (aI x1.2) rfl trivial rfl ?_
  refine OkOps.nil ?_
  refine Ok.ret ?_
  obtain rfl := Option.some.inj hr
  exact ⟨_, rfl, .inl rfl, trivial⟩
theorem entry105 : Entry Tryd.prog 105 := ⟨_, Tryd.func105, by kernel_rfl, by kernel_rfl⟩
end Go.Proofs.YtcfegecdlbbeaaaDoor

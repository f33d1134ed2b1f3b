import Derived.Test.YtodddfoehcfcnaaDoorA1
import Derived.Test.YtodddfoehcfcnaaDoorXw
import Derived.Test.YtodddfoehcfcnaaDoorProg
import Derived.KernelRfl
set_option maxRecDepth 100000
namespace Go.Proofs.YtodddfoehcfcnaaDoor
open Go Go.E2
theorem eqok44 : EqOk Tryd.prog 44 := ⟨by kernel_rfl, by kernel_rfl, by kernel_rfl, by kernel_rfl⟩
theorem eqok118 : EqA Tryd.prog 118 := ⟨3, .i64, by kernel_rfl, by kernel_rfl, by kernel_rfl, by kernel_rfl, by kernel_rfl⟩
theorem b_New_c (l : (List Int)) {r : widgetrybase_Src} (hr : b_New l = some r) : Con Tryd.prog 14 [.c (.d (.sl (List.map (eInt .i64) l)))] [] (.s (.c (.loc 0 0))) [(0, .blk [.d (.sl (List.map (eInt .i64) r.L)), .d (.v (.int .i64 r.At))] 96)] := by
  unfold b_New at hr
  refine Con.of_ok 11 0 [.tmp 2] [(0, .s (.c (.d (.sl (List.map (eInt .i64) l)))))] Tryd.func14 rfl rfl rfl rfl rfl rfl rfl rfl fun w g M ρ => ?_
  refine Ok.seq ?_
  refine Ok.region ?_
  refine OkOps.q (triQ (x := .c (.d (.v (.pointer none)))) rfl trivial rfl) ?_
  refine OkOps.nil ?_
  obtain ⟨k2, hk2, hr⟩ := jn_some hr
  refine Ok.join (fun (s1 : (List Int)) => ⟨[(0, .s (.c (.d (.sl (List.map (eInt .i64) s1)))))], [], 0⟩) k2 r (fun s1 hr => ?_) ?_
  · rw [hk2] at hr
    refine Ok.seq ?_
    refine Ok.region ?_
    refine OkOps.q (triQ (x := .c (.d (.sl (List.map (eInt .i64) s1)))) rfl trivial rfl) ?_
    refine OkOps.q (triQ (x := .agg [.d (.sl (List.map (eInt .i64) s1)), .d (.v (.int .i64 0))]) rfl trivial rfl) ?_
    refine OkOps.m 0 (triBox (j := 0) (cs := [.d (.sl (List.map (eInt .i64) s1)), .d (.v (.int .i64 0))]) rfl rfl rfl rfl rfl) ?_
    refine OkOps.q (triQ (x := .c (.loc 0 0)) rfl trivial rfl) ?_
    refine OkOps.nil ?_
    refine Ok.ret ?_
    obtain rfl := Option.some.inj hr
    exact ⟨_, rfl, .inl rfl, ⟨rfl, trivial⟩⟩
  · clear hk2
    refine Ok.seq ?_
    refine Ok.region ?_
    refine OkOps.q (triQ (x := .c (.d (.sl (List.map (eInt .i64) l)))) rfl trivial rfl) ?_
    refine OkOps.q (triLen (enc := (eInt .i64)) l rfl rfl trivial rfl) ?_
    refine OkOps.q (triQ (x := .c (.d (.v (.bool (decide ((l.length : Int) > 4000)))))) rfl trivial rfl) ?_
    refine OkOps.nil ?_
    refine Ok.cond (b := decide ((l.length : Int) > 4000)) rfl (fun h3 => ?_) (fun h3 => ?_)
    · have hr := selT h3 hr
      refine Ok.region ?_
      refine OkOps.q (triQ (x := .c (.d (.sl (List.map (eInt .i64) l)))) rfl trivial rfl) ?_
      obtain ⟨x4, hx4, hr⟩ := bind_some hr
      refine OkOps.q (triSlc (enc := (eInt .i64)) (L := l) hx4 rfl rfl rfl (.inl ⟨rfl, rfl⟩) (.inr ⟨_, rfl⟩) rfl (fun _ => rfl) trivial rfl) ?_
      refine OkOps.q (triQ (x := .c (.d (.sl (List.map (eInt .i64) x4)))) rfl trivial rfl) ?_
      refine OkOps.nil ?_
      exact ⟨x4, hr, (Conv.mk (tau []) ⟨⟨_, rfl, .inl rfl⟩, trivial⟩ trivial rfl rfl rfl rfl)⟩
    · have hr := selF h3 hr
      refine Ok.skip ?_
      exact ⟨l, hr, (Conv.mk (tau []) ⟨⟨_, rfl, .inl rfl⟩, trivial⟩ trivial rfl rfl rfl rfl)⟩
theorem entry14 : Entry Tryd.prog 14 := ⟨_, Tryd.func14, by kernel_rfl, by kernel_rfl⟩
theorem b_Src_N_c (p_s : widgetrybase_Src) (p_n : Int) {r : Int × widgetrybase_Src} (hr : b_Src_N p_s p_n = some r) : Con Tryd.prog 15 [.c (.loc 0 0), .c (.d (.v (.int .i64 p_n)))] [(0, .blk [.d (.sl (List.map (eInt .i64) p_s.L)), .d (.v (.int .i64 p_s.At))] 96)] (.s (.c (.d (.v (.int .i64 r.1))))) [(0, .blk [.d (.sl (List.map (eInt .i64) r.2.L)), .d (.v (.int .i64 r.2.At))] 96)] := by
  unfold b_Src_N at hr
  refine Con.of_ok 45 0 [.tmp 4] [(0, .s (.c (.loc 0 0))), (1, .s (.c (.d (.v (.int .i64 p_n)))))] Tryd.func15 rfl rfl rfl rfl rfl rfl rfl rfl fun w g M ρ => ?_
  refine Ok.seq ?_
  refine Ok.region ?_
  refine OkOps.q (triQ (x := .c (.d (.v (.int .i64 0)))) rfl trivial rfl) ?_
  refine OkOps.nil ?_
  refine Ok.seq ?_
  refine Ok.seq ?_
  refine Ok.regionD (by kernel_rfl) ?_
  refine OkD.q (triQ (x := .c (.loc 0 0)) rfl trivial rfl) ?_
  refine OkD.q (triQ (x := .c (.loc 0 0)) rfl trivial rfl) ?_
  refine OkD.q (triQ (x := .c (.loc 0 1)) rfl trivial rfl) ?_
  refine OkD.q (triQ (x := .c (.d (.v (.int .i64 p_s.At)))) rfl trivial rfl) ?_
  refine OkD.q (triQ (x := .c (.loc 0 0)) rfl trivial rfl) ?_
  refine OkD.q (triQ (x := .c (.loc 0 0)) rfl trivial rfl) ?_
  refine OkD.q (triQ (x := .c (.loc 0 0)) rfl trivial rfl) ?_
  refine OkD.q (triQ (x := .c (.d (.sl (List.map (eInt .i64) p_s.L)))) rfl trivial rfl) ?_
  refine OkD.q (triLen (enc := (eInt .i64)) p_s.L rfl rfl trivial rfl) ?_
  refine OkD.q (triQ (x := .c (.d (.v (.bool (decide (p_s.At ≥ (p_s.L.length : Int))))))) rfl trivial rfl) ?_
  refine OkD.q (triQ (x := .c (.d (.v (.bool (decide (p_s.At ≥ (p_s.L.length : Int))))))) rfl trivial rfl) ?_
  refine OkD.q (triQG (x := .c (.d (.v (.int .i64 p_n)))) rfl rfl trivial rfl) ?_
  refine OkD.q (triQG (x := .c (.d (.v (.bool (decide (p_n < 1)))))) rfl rfl ⟨fun h => h, trivial⟩ rfl) ?_
  refine OkD.q (triOr rfl rfl (fun h => by rw [h]; rfl) rfl) ?_
  refine OkD.nil (by kernel_rfl) ?_
  refine Ok.cond (b := (decide (p_s.At ≥ (p_s.L.length : Int))) || (decide (p_n < 1))) rfl (fun h1 => ?_) (fun h1 => ?_)
  · have hr := selT h1 hr
    refine Ok.seq ?_
    refine Ok.region ?_
    refine OkOps.q (triQ (x := .c (.d (.v (.int .i64 0)))) rfl trivial rfl) ?_
    refine OkOps.nil ?_
    refine Ok.ret ?_
    obtain rfl := Option.some.inj hr
    exact ⟨_, rfl, .inl rfl, ⟨rfl, trivial⟩⟩
  · have hr := selF h1 hr
    refine Ok.skip ?_
    refine Ok.seq ?_
    refine Ok.regionD (by kernel_rfl) ?_
    refine OkD.q (triQ (x := .c (.loc 0 0)) rfl trivial rfl) ?_
    refine OkD.q (triQ (x := .c (.loc 0 0)) rfl trivial rfl) ?_
    refine OkD.q (triQ (x := .c (.loc 0 0)) rfl trivial rfl) ?_
    refine OkD.q (triQ (x := .c (.d (.sl (List.map (eInt .i64) p_s.L)))) rfl trivial rfl) ?_
    refine OkD.q (triQ (x := .c (.loc 0 0)) rfl trivial rfl) ?_
    refine OkD.q (triQ (x := .c (.loc 0 0)) rfl trivial rfl) ?_
    refine OkD.q (triQ (x := .c (.loc 0 1)) rfl trivial rfl) ?_
    refine OkD.q (triQ (x := .c (.d (.v (.int .i64 p_s.At)))) rfl trivial rfl) ?_
    obtain ⟨x2, hx2, hr⟩ := bind_some hr
    refine OkD.q (triIdx (enc := (eInt .i64)) (L := p_s.L) (row := [.v (.int .i64 x2)]) hx2 rfl rfl rfl rfl (fun _ => rfl) trivial rfl) ?_
    refine OkD.q (triQ (x := .c (.d (.v (.int .i64 x2)))) rfl trivial rfl) ?_
    refine OkD.q (triQ (x := .c (.d (.v (.int .i64 p_n)))) rfl trivial rfl) ?_
    obtain ⟨x3, hx3, hr⟩ := bind_some hr
    refine OkD.q (triRem hx3 rfl rfl trivial rfl) ?_
    refine OkD.q (triQ (x := .c (.d (.v (.int .i64 x3)))) rfl trivial rfl) ?_
    refine OkD.nil (by kernel_rfl) ?_
    refine Ok.seq ?_
    refine Ok.region ?_
    refine OkOps.q (triQ (x := .c (.loc 0 0)) rfl trivial rfl) ?_
    refine OkOps.q (triQ (x := .c (.loc 0 0)) rfl trivial rfl) ?_
    refine OkOps.q (triQ (x := .c (.loc 0 1)) rfl trivial rfl) ?_
    refine OkOps.q (triQ (x := .c (.d (.v (.int .i64 p_s.At)))) rfl trivial rfl) ?_
    refine OkOps.q (triQ (x := .c (.d (.v (.int .i64 (IntKind.i64.wrap (p_s.At + 1)))))) rfl trivial rfl) ?_
    refine OkOps.q (triQ (x := .c (.loc 0 0)) rfl trivial rfl) ?_
    refine OkOps.q (triQ (x := .c (.loc 0 1)) rfl trivial rfl) ?_
    refine OkOps.w (triStore (cs' := [.d (.sl (List.map (eInt .i64) p_s.L)), .d (.v (.int .i64 (IntKind.i64.wrap (p_s.At + 1))))]) rfl rfl rfl rfl rfl rfl rfl rfl rfl) ?_
    refine OkOps.nil ?_
    obtain ⟨k5, hk5, hr⟩ := jn_some hr
    refine Ok.join (fun (s4 : Int) => ⟨[(5, .s (.c (.d (.v (.int .i64 s4)))))], [(0, .blk [.d (.sl (List.map (eInt .i64) p_s.L)), .d (.v (.int .i64 (IntKind.i64.wrap (p_s.At + 1))))] 96)], 0⟩) k5 r (fun s4 hr => ?_) ?_
    · rw [hk5] at hr
      refine Ok.seq ?_
      refine Ok.region ?_
      refine OkOps.q (triQ (x := .c (.d (.v (.int .i64 s4)))) rfl trivial rfl) ?_
      refine OkOps.q (triQ (x := .c (.d (.v (.int .i64 s4)))) rfl trivial rfl) ?_
      refine OkOps.nil ?_
      refine Ok.ret ?_
      obtain rfl := Option.some.inj hr
      exact ⟨_, rfl, .inl rfl, ⟨rfl, trivial⟩⟩
    · clear hk5
      refine Ok.seq ?_
      refine Ok.region ?_
      refine OkOps.q (triQ (x := .c (.d (.v (.int .i64 x3)))) rfl trivial rfl) ?_
      refine OkOps.q (triQ (x := .c (.d (.v (.bool (decide (x3 < 0)))))) rfl trivial rfl) ?_
      refine OkOps.nil ?_
      refine Ok.cond (b := decide (x3 < 0)) rfl (fun h6 => ?_) (fun h6 => ?_)
      · have hr := selT h6 hr
        refine Ok.region ?_
        refine OkOps.q (triQ (x := .c (.d (.v (.int .i64 x3)))) rfl trivial rfl) ?_
        refine OkOps.q (triQ (x := .c (.d (.v (.int .i64 p_n)))) rfl trivial rfl) ?_
        refine OkOps.q (triQ (x := .c (.d (.v (.int .i64 (IntKind.i64.wrap (x3 + p_n)))))) rfl trivial rfl) ?_
        refine OkOps.q (triQ (x := .c (.d (.v (.int .i64 (IntKind.i64.wrap (x3 + p_n)))))) rfl trivial rfl) ?_
        refine OkOps.nil ?_
        exact ⟨IntKind.i64.wrap (x3 + p_n), hr, (Conv.mk (tau []) ⟨⟨_, rfl, .inl rfl⟩, trivial⟩ ⟨rfl, trivial⟩ rfl rfl rfl rfl)⟩
      · have hr := selF h6 hr
        refine Ok.skip ?_
        exact ⟨x3, hr, (Conv.mk (tau []) ⟨⟨_, rfl, .inl rfl⟩, trivial⟩ ⟨rfl, trivial⟩ rfl rfl rfl rfl)⟩
theorem entry15 : Entry Tryd.prog 15 := ⟨_, Tryd.func15, by kernel_rfl, by kernel_rfl⟩
theorem b_Src_Raw_c (p_s : widgetrybase_Src) {r : Int × widgetrybase_Src} (hr : b_Src_Raw p_s = some r) : Con Tryd.prog 56 [.c (.loc 0 0)] [(0, .blk [.d (.sl (List.map (eInt .i64) p_s.L)), .d (.v (.int .i64 p_s.At))] 96)] (.s (.c (.d (.v (.int .i64 r.1))))) [(0, .blk [.d (.sl (List.map (eInt .i64) r.2.L)), .d (.v (.int .i64 r.2.At))] 96)] := by
  unfold b_Src_Raw at hr
  refine Con.of_ok 31 0 [.tmp 2] [(0, .s (.c (.loc 0 0)))] Tryd.func56 rfl rfl rfl rfl rfl rfl rfl rfl fun w g M ρ => ?_
  refine Ok.seq ?_
  refine Ok.region ?_
  refine OkOps.q (triQ (x := .c (.d (.v (.int .i64 0)))) rfl trivial rfl) ?_
  refine OkOps.nil ?_
  refine Ok.seq ?_
  refine Ok.seq ?_
  refine Ok.regionD (by kernel_rfl) ?_
  refine OkD.q (triQ (x := .c (.loc 0 0)) rfl trivial rfl) ?_
  refine OkD.q (triQ (x := .c (.loc 0 0)) rfl trivial rfl) ?_
  refine OkD.q (triQ (x := .c (.loc 0 1)) rfl trivial rfl) ?_
  refine OkD.q (triQ (x := .c (.d (.v (.int .i64 p_s.At)))) rfl trivial rfl) ?_
  refine OkD.q (triQ (x := .c (.loc 0 0)) rfl trivial rfl) ?_
  refine OkD.q (triQ (x := .c (.loc 0 0)) rfl trivial rfl) ?_
  refine OkD.q (triQ (x := .c (.loc 0 0)) rfl trivial rfl) ?_
  refine OkD.q (triQ (x := .c (.d (.sl (List.map (eInt .i64) p_s.L)))) rfl trivial rfl) ?_
  refine OkD.q (triLen (enc := (eInt .i64)) p_s.L rfl rfl trivial rfl) ?_
  refine OkD.q (triQ (x := .c (.d (.v (.bool (decide (p_s.At ≥ (p_s.L.length : Int))))))) rfl trivial rfl) ?_
  refine OkD.nil (by kernel_rfl) ?_
  refine Ok.cond (b := decide (p_s.At ≥ (p_s.L.length : Int))) rfl (fun h1 => ?_) (fun h1 => ?_)
  · have hr := selT h1 hr
    refine Ok.seq ?_
    refine Ok.region ?_
    refine OkOps.q (triQ (x := .c (.d (.v (.int .i64 0)))) rfl trivial rfl) ?_
    refine OkOps.nil ?_
    refine Ok.ret ?_
    obtain rfl := Option.some.inj hr
    exact ⟨_, rfl, .inl rfl, ⟨rfl, trivial⟩⟩
  · have hr := selF h1 hr
    refine Ok.skip ?_
    refine Ok.seq ?_
    refine Ok.region ?_
    refine OkOps.q (triQ (x := .c (.loc 0 0)) rfl trivial rfl) ?_
    refine OkOps.q (triQ (x := .c (.loc 0 0)) rfl trivial rfl) ?_
    refine OkOps.q (triQ (x := .c (.loc 0 1)) rfl trivial rfl) ?_
    refine OkOps.q (triQ (x := .c (.d (.v (.int .i64 p_s.At)))) rfl trivial rfl) ?_
    refine OkOps.q (triQ (x := .c (.d (.v (.int .i64 (IntKind.i64.wrap (p_s.At + 1)))))) rfl trivial rfl) ?_
    refine OkOps.q (triQ (x := .c (.loc 0 0)) rfl trivial rfl) ?_
    refine OkOps.q (triQ (x := .c (.loc 0 1)) rfl trivial rfl) ?_
    refine OkOps.w (triStore (cs' := [.d (.sl (List.map (eInt .i64) p_s.L)), .d (.v (.int .i64 (IntKind.i64.wrap (p_s.At + 1))))]) rfl rfl rfl rfl rfl rfl rfl rfl rfl) ?_
    refine OkOps.nil ?_
    refine Ok.seq ?_
    refine Ok.regionD (by kernel_rfl) ?_
    refine OkD.q (triQ (x := .c (.loc 0 0)) rfl trivial rfl) ?_
    refine OkD.q (triQ (x := .c (.loc 0 0)) rfl trivial rfl) ?_
    refine OkD.q (triQ (x := .c (.loc 0 0)) rfl trivial rfl) ?_
    refine OkD.q (triQ (x := .c (.d (.sl (List.map (eInt .i64) p_s.L)))) rfl trivial rfl) ?_
    refine OkD.q (triQ (x := .c (.loc 0 0)) rfl trivial rfl) ?_
    refine OkD.q (triQ (x := .c (.loc 0 0)) rfl trivial rfl) ?_
    refine OkD.q (triQ (x := .c (.loc 0 1)) rfl trivial rfl) ?_
    refine OkD.q (triQ (x := .c (.d (.v (.int .i64 (IntKind.i64.wrap (p_s.At + 1)))))) rfl trivial rfl) ?_
    refine OkD.q (triQ (x := .c (.d (.v (.int .i64 (IntKind.i64.wrap ((IntKind.i64.wrap (p_s.At + 1)) - 1)))))) rfl trivial rfl) ?_
    obtain ⟨x2, hx2, hr⟩ := bind_some hr
    refine OkD.q (triIdx (enc := (eInt .i64)) (L := p_s.L) (row := [.v (.int .i64 x2)]) hx2 rfl rfl rfl rfl (fun _ => rfl) trivial rfl) ?_
    refine OkD.q (triQ (x := .c (.d (.v (.int .i64 x2)))) rfl trivial rfl) ?_
    refine OkD.q (triQ (x := .c (.d (.v (.int .i64 x2)))) rfl trivial rfl) ?_
    refine OkD.nil (by kernel_rfl) ?_
    refine Ok.ret ?_
    obtain rfl := Option.some.inj hr
    exact ⟨_, rfl, .inl rfl, ⟨rfl, trivial⟩⟩
theorem entry56 : Entry Tryd.prog 56 := ⟨_, Tryd.func56, by kernel_rfl, by kernel_rfl⟩
theorem b_Src_More_c (p_s : widgetrybase_Src) {r : Bool × widgetrybase_Src} (hr : b_Src_More p_s = some r) : Con Tryd.prog 22 [.c (.loc 0 0)] [(0, .blk [.d (.sl (List.map (eInt .i64) p_s.L)), .d (.v (.int .i64 p_s.At))] 96)] (.s (.c (.d (.v (.bool r.1))))) [(0, .blk [.d (.sl (List.map (eInt .i64) r.2.L)), .d (.v (.int .i64 r.2.At))] 96)] := by
  unfold b_Src_More at hr
  refine Con.of_ok 13 0 [.tmp 2] [(0, .s (.c (.loc 0 0)))] Tryd.func22 rfl rfl rfl rfl rfl rfl rfl rfl fun w g M ρ => ?_
  refine Ok.seq ?_
  refine Ok.region ?_
  refine OkOps.q (triQ (x := .c (.d (.v (.bool false)))) rfl trivial rfl) ?_
  refine OkOps.nil ?_
  refine Ok.seq ?_
  refine Ok.regionD (by kernel_rfl) ?_
  refine OkD.q (triQ (x := .c (.loc 0 0)) rfl trivial rfl) ?_
  refine OkD.q (triQ (x := .c (.loc 0 0)) rfl trivial rfl) ?_
  refine OkD.q (triQ (x := .c (.loc 0 1)) rfl trivial rfl) ?_
  refine OkD.q (triQ (x := .c (.d (.v (.int .i64 p_s.At)))) rfl trivial rfl) ?_
  refine OkD.q (triQ (x := .c (.loc 0 0)) rfl trivial rfl) ?_
  refine OkD.q (triQ (x := .c (.loc 0 0)) rfl trivial rfl) ?_
  refine OkD.q (triQ (x := .c (.loc 0 0)) rfl trivial rfl) ?_
  refine OkD.q (triQ (x := .c (.d (.sl (List.map (eInt .i64) p_s.L)))) rfl trivial rfl) ?_
  refine OkD.q (triLen (enc := (eInt .i64)) p_s.L rfl rfl trivial rfl) ?_
  refine OkD.q (triQ (x := .c (.d (.v (.bool (decide (p_s.At < (p_s.L.length : Int))))))) rfl trivial rfl) ?_
  refine OkD.q (triQ (x := .c (.d (.v (.bool (decide (p_s.At < (p_s.L.length : Int))))))) rfl trivial rfl) ?_
  refine OkD.nil (by kernel_rfl) ?_
  refine Ok.ret ?_
  obtain rfl := Option.some.inj hr
  exact ⟨_, rfl, .inl rfl, ⟨rfl, trivial⟩⟩
theorem entry22 : Entry Tryd.prog 22 := ⟨_, Tryd.func22, by kernel_rfl, by kernel_rfl⟩
theorem b_Src_Chance_c (p_s : widgetrybase_Src) (p_n : Int) {r : Bool × widgetrybase_Src} (hr : b_Src_Chance p_s p_n = some r) : Con Tryd.prog 55 [.c (.loc 0 0), .c (.d (.v (.int .i64 p_n)))] [(0, .blk [.d (.sl (List.map (eInt .i64) p_s.L)), .d (.v (.int .i64 p_s.At))] 96)] (.s (.c (.d (.v (.bool r.1))))) [(0, .blk [.d (.sl (List.map (eInt .i64) r.2.L)), .d (.v (.int .i64 r.2.At))] 96)] := by
  unfold b_Src_Chance at hr
  refine Con.of_ok 11 0 [.tmp 4] [(0, .s (.c (.loc 0 0))), (1, .s (.c (.d (.v (.int .i64 p_n)))))] Tryd.func55 rfl rfl rfl rfl rfl rfl rfl rfl fun w g M ρ => ?_
  refine Ok.seq ?_
  refine Ok.region ?_
  refine OkOps.q (triQ (x := .c (.d (.v (.bool false)))) rfl trivial rfl) ?_
  refine OkOps.nil ?_
  refine Ok.seq ?_
  refine Ok.region ?_
  refine OkOps.q (triQ (x := .c (.loc 0 0)) rfl trivial rfl) ?_
  refine OkOps.q (triQ (x := .c (.d (.v (.int .i64 p_n)))) rfl trivial rfl) ?_
  obtain ⟨x1, hx1, hr⟩ := bind_some hr
  refine OkOps.m 0 (triCall (tau [(0, 0)]) (.s (.c (.d (.v (.int .i64 x1.1))))) [(0, .blk [.d (.sl (List.map (eInt .i64) x1.2.L)), .d (.v (.int .i64 x1.2.At))] 96)] (b_Src_N_c _ _ hx1) rfl ⟨.inl rfl, .inl rfl, trivial⟩ trivial entry15 ⟨rfl, trivial⟩ rfl rfl rfl rfl trivial rfl rfl rfl) ?_
  refine OkOps.q (triQ (x := .c (.d (.v (.int .i64 p_n)))) rfl trivial rfl) ?_
  refine OkOps.q (triQ (x := .c (.d (.v (.int .i64 (IntKind.i64.wrap (p_n - 1)))))) rfl trivial rfl) ?_
  refine OkOps.q (triQ (x := .c (.d (.v (.bool (x1.1 == (IntKind.i64.wrap (p_n - 1))))))) rfl trivial rfl) ?_
  refine OkOps.q (triQ (x := .c (.d (.v (.bool (x1.1 == (IntKind.i64.wrap (p_n - 1))))))) rfl trivial rfl) ?_
  refine OkOps.nil ?_
  refine Ok.ret ?_
  obtain rfl := Option.some.inj hr
  exact ⟨_, rfl, .inl rfl, ⟨rfl, trivial⟩⟩
theorem entry55 : Entry Tryd.prog 55 := ⟨_, Tryd.func55, by kernel_rfl, by kernel_rfl⟩
theorem b_Src_Range_c (p_s : widgetrybase_Src) (low : Int) (high : Int) {r : Int × widgetrybase_Src} (hr : b_Src_Range p_s low high = some r) : Con Tryd.prog 54 [.c (.loc 0 0), .c (.d (.v (.int .i64 low))), .c (.d (.v (.int .i64 high)))] [(0, .blk [.d (.sl (List.map (eInt .i64) p_s.L)), .d (.v (.int .i64 p_s.At))] 96)] (.s (.c (.d (.v (.int .i64 r.1))))) [(0, .blk [.d (.sl (List.map (eInt .i64) r.2.L)), .d (.v (.int .i64 r.2.At))] 96)] := by
  unfold b_Src_Range at hr
  refine Con.of_ok 15 0 [.tmp 6] [(0, .s (.c (.loc 0 0))), (1, .s (.c (.d (.v (.int .i64 low))))), (2, .s (.c (.d (.v (.int .i64 high)))))] Tryd.func54 rfl rfl rfl rfl rfl rfl rfl rfl fun w g M ρ => ?_
  refine Ok.seq ?_
  refine Ok.region ?_
  refine OkOps.q (triQ (x := .c (.d (.v (.int .i64 0)))) rfl trivial rfl) ?_
  refine OkOps.nil ?_
  refine Ok.seq ?_
  refine Ok.region ?_
  refine OkOps.q (triQ (x := .c (.d (.v (.int .i64 low)))) rfl trivial rfl) ?_
  refine OkOps.q (triQ (x := .c (.loc 0 0)) rfl trivial rfl) ?_
  refine OkOps.q (triQ (x := .c (.d (.v (.int .i64 high)))) rfl trivial rfl) ?_
  refine OkOps.q (triQ (x := .c (.d (.v (.int .i64 low)))) rfl trivial rfl) ?_
  refine OkOps.q (triQ (x := .c (.d (.v (.int .i64 (IntKind.i64.wrap (high - low)))))) rfl trivial rfl) ?_
  refine OkOps.q (triQ (x := .c (.d (.v (.int .i64 (IntKind.i64.wrap ((IntKind.i64.wrap (high - low)) + 1)))))) rfl trivial rfl) ?_
  obtain ⟨x1, hx1, hr⟩ := bind_some hr
  refine OkOps.m 0 (triCall (tau [(0, 0)]) (.s (.c (.d (.v (.int .i64 x1.1))))) [(0, .blk [.d (.sl (List.map (eInt .i64) x1.2.L)), .d (.v (.int .i64 x1.2.At))] 96)] (b_Src_N_c _ _ hx1) rfl ⟨.inl rfl, .inl rfl, trivial⟩ trivial entry15 ⟨rfl, trivial⟩ rfl rfl rfl rfl trivial rfl rfl rfl) ?_
  refine OkOps.q (triQ (x := .c (.d (.v (.int .i64 (IntKind.i64.wrap (low + x1.1)))))) rfl trivial rfl) ?_
  refine OkOps.q (triQ (x := .c (.d (.v (.int .i64 (IntKind.i64.wrap (low + x1.1)))))) rfl trivial rfl) ?_
  refine OkOps.nil ?_
  refine Ok.ret ?_
  obtain rfl := Option.some.inj hr
  exact ⟨_, rfl, .inl rfl, ⟨rfl, trivial⟩⟩
theorem entry54 : Entry Tryd.prog 54 := ⟨_, Tryd.func54, by kernel_rfl, by kernel_rfl⟩
theorem b_Src_Word_c (p_s : widgetrybase_Src) (p_n : Int) {r : Str × widgetrybase_Src} (hr : b_Src_Word p_s p_n = some r) : Con Tryd.prog 16 [.c (.loc 0 0), .c (.d (.v (.int .i64 p_n)))] [(0, .blk [.d (.sl (List.map (eInt .i64) p_s.L)), .d (.v (.int .i64 p_s.At))] 96)] (.s (.c (.d (.v (.string r.1))))) [(0, .blk [.d (.sl (List.map (eInt .i64) r.2.L)), .d (.v (.int .i64 r.2.At))] 96)] := by
  unfold b_Src_Word at hr
  refine Con.of_ok 28 0 [.tmp 4] [(0, .s (.c (.loc 0 0))), (1, .s (.c (.d (.v (.int .i64 p_n)))))] Tryd.func16 rfl rfl rfl rfl rfl rfl rfl rfl fun w g M ρ => ?_
  refine Ok.seq ?_
  refine Ok.region ?_
  refine OkOps.q (triQ (x := .c (.d (.v (.string (ByteArray.mk #[]))))) rfl trivial rfl) ?_
  refine OkOps.nil ?_
  refine Ok.seq ?_
  refine Ok.region ?_
  refine OkOps.q (triQ (x := .c (.loc 0 0)) rfl trivial rfl) ?_
  refine OkOps.q (triQ (x := .c (.d (.v (.int .i64 p_n)))) rfl trivial rfl) ?_
  refine OkOps.q (triQ (x := .c (.d (.v (.int .i64 (IntKind.i64.wrap (p_n + 1)))))) rfl trivial rfl) ?_
  obtain ⟨x1, hx1, hr⟩ := bind_some hr
  refine OkOps.m 0 (triCall (tau [(0, 0)]) (.s (.c (.d (.v (.int .i64 x1.1))))) [(0, .blk [.d (.sl (List.map (eInt .i64) x1.2.L)), .d (.v (.int .i64 x1.2.At))] 96)] (b_Src_N_c _ _ hx1) rfl ⟨.inl rfl, .inl rfl, trivial⟩ trivial entry15 ⟨rfl, trivial⟩ rfl rfl rfl rfl trivial rfl rfl rfl) ?_
  refine OkOps.q (triQ (x := .c (.d (.v (.int .i64 x1.1)))) rfl trivial rfl) ?_
  refine OkOps.nil ?_
  refine Ok.seq ?_
  refine Ok.region ?_
  refine OkOps.q (triQ (x := .c (.d (.v (.int .i64 x1.1)))) rfl trivial rfl) ?_
  obtain ⟨x2, hx2, hr⟩ := bind_some hr
  refine OkOps.m 0 (triMkV (sz := 1) (enc := (eInt .u8)) (zr := 0) (j := 1) hx2 rfl rfl rfl rfl rfl (fun _ => rfl) (by decide) trivial rfl rfl) ?_
  refine OkOps.q (triQ (x := .c (.own 1)) rfl trivial rfl) ?_
  refine OkOps.nil ?_
  obtain ⟨k4, hk4, hr⟩ := jn_some hr
  refine Ok.join (fun (s3 : (List Int) × Int × (List Int)) => ⟨[(6, .s (.c (.own 1)))], [(0, .blk [.d (.sl (List.map (eInt .i64) s3.1)), .d (.v (.int .i64 s3.2.1))] 96), (1, .vec 1 (List.map (eInt .u8) s3.2.2))], 0⟩) k4 r (fun s3 hr => ?_) ?_
  · rw [hk4] at hr
    refine Ok.seq ?_
    refine Ok.region ?_
    refine OkOps.q (triQ (x := .c (.own 1)) rfl trivial rfl) ?_
    refine OkOps.conv (Conv.freeze (enc := (eInt .u8)) (L := s3.2.2) [6, 26] 1 2 1 0 ⟨rfl, rfl, trivial⟩ rfl (fun _ => rfl) rfl) ?_
    refine OkOps.q (triOfBytes (L := s3.2.2) rfl rfl trivial rfl) ?_
    refine OkOps.q (triQ (x := .c (.d (.v (.string (ofBytes s3.2.2))))) rfl trivial rfl) ?_
    refine OkOps.nil ?_
    refine Ok.ret ?_
    obtain rfl := Option.some.inj hr
    exact ⟨_, rfl, .inl rfl, ⟨rfl, trivial⟩⟩
  · clear hk4
    refine Ok.seq ?_
    refine Ok.region ?_
    refine OkOps.q (triQ (x := .c (.d (.v (.int .i64 0)))) rfl trivial rfl) ?_
    refine OkOps.nil ?_
    refine Ok.block ?_
    refine Ok.loopK (fun (s5 : Int × (List Int) × Int × (List Int)) => ⟨[(0, .s (.c (.loc 0 0))), (5, .s (.c (.d (.v (.int .i64 x1.1))))), (6, .s (.c (.own 1))), (7, .s (.c (.d (.v (.int .i64 s5.1)))))], [(0, .blk [.d (.sl (List.map (eInt .i64) s5.2.1)), .d (.v (.int .i64 s5.2.2.1))] 96), (1, .vec 1 (List.map (eInt .u8) s5.2.2.2))], 0⟩) hr (Conv.mk (tau []) ⟨⟨_, rfl, .inl rfl⟩, ⟨_, rfl, .inl rfl⟩, ⟨_, rfl, .inl rfl⟩, ⟨_, rfl, .inl rfl⟩, trivial⟩ ⟨rfl, rfl, trivial⟩ rfl rfl rfl rfl) ?_
    clear hr
    intro again6 s5 hr
    unfold b_Src_Word_L1 at hr
    refine Ok.seq ?_
    refine Ok.seq ?_
    refine Ok.region ?_
    refine OkOps.q (triQ (x := .c (.d (.v (.int .i64 s5.1)))) rfl trivial rfl) ?_
    refine OkOps.q (triQ (x := .c (.d (.v (.int .i64 x1.1)))) rfl trivial rfl) ?_
    refine OkOps.q (triQ (x := .c (.d (.v (.bool (decide (s5.1 < x1.1)))))) rfl trivial rfl) ?_
    refine OkOps.nil ?_
    refine Ok.cond (b := decide (s5.1 < x1.1)) rfl (fun h7 => ?_) (fun h7 => ?_)
    · have hr := selT h7 hr
      refine Ok.skip ?_
      refine Ok.seq ?_
      refine Ok.block ?_
      refine Ok.region ?_
      refine OkOps.q (triQ (x := .c (.own 1)) rfl trivial rfl) ?_
      refine OkOps.q (triQ (x := .c (.d (.v (.int .i64 s5.1)))) rfl trivial rfl) ?_
      refine OkOps.q (triQ (x := .c (.loc 0 0)) rfl trivial rfl) ?_
      obtain ⟨x8, hx8, hr⟩ := bind_some hr
      refine OkOps.m 0 (triCall (tau [(0, 0)]) (.s (.c (.d (.v (.int .i64 x8.1))))) [(0, .blk [.d (.sl (List.map (eInt .i64) x8.2.L)), .d (.v (.int .i64 x8.2.At))] 96)] (b_Src_N_c _ _ hx8) rfl ⟨.inl rfl, .inl rfl, trivial⟩ trivial entry15 ⟨rfl, trivial⟩ rfl rfl rfl rfl trivial rfl rfl rfl) ?_
      refine OkOps.q (triQ (x := .c (.d (.v (.int .i64 (IntKind.i64.wrap (97 + x8.1)))))) rfl trivial rfl) ?_
      refine OkOps.q (triQ (x := .c (.d (.v (.int .u8 (IntKind.u8.wrap (IntKind.i64.wrap (97 + x8.1))))))) rfl trivial rfl) ?_
      obtain ⟨x9, hx9, hr⟩ := bind_some hr
      refine OkOps.q (triIdxV (enc := (eInt .u8)) (L := s5.2.2.2) hx9 rfl rfl rfl rfl trivial rfl) ?_
      refine OkOps.w (triStoreV (enc := (eInt .u8)) (L := s5.2.2.2) (IntKind.u8.wrap (IntKind.i64.wrap (97 + x8.1))) (.inr (ixO_spec hx9).2) rfl rfl rfl rfl rfl rfl (fun _ => rfl) rfl) ?_
      refine OkOps.nil ?_
      refine Ok.region ?_
      refine OkOps.q (triQ (x := .c (.d (.v (.int .i64 s5.1)))) rfl trivial rfl) ?_
      refine OkOps.q (triQ (x := .c (.d (.v (.int .i64 (IntKind.i64.wrap (s5.1 + 1)))))) rfl trivial rfl) ?_
      refine OkOps.q (triQ (x := .c (.d (.v (.int .i64 (IntKind.i64.wrap (s5.1 + 1)))))) rfl trivial rfl) ?_
      refine OkOps.nil ?_
      exact ⟨(IntKind.i64.wrap (s5.1 + 1), x8.2.L, x8.2.At, List.set s5.2.2.2 x9 (IntKind.u8.wrap (IntKind.i64.wrap (97 + x8.1)))), hr, (Conv.mk (tau []) ⟨⟨_, rfl, .inl rfl⟩, ⟨_, rfl, .inl rfl⟩, ⟨_, rfl, .inl rfl⟩, ⟨_, rfl, .inl rfl⟩, trivial⟩ ⟨rfl, rfl, trivial⟩ rfl rfl rfl rfl)⟩
    · have hr := selF h7 hr
      refine Ok.exit ?_
      exact ⟨(s5.2.1, s5.2.2.1, s5.2.2.2), hr, (Conv.mk (tau []) ⟨⟨_, rfl, .inl rfl⟩, trivial⟩ ⟨rfl, rfl, trivial⟩ rfl rfl rfl rfl)⟩
theorem entry16 : Entry Tryd.prog 16 := ⟨_, Tryd.func16, by kernel_rfl, by kernel_rfl⟩
theorem b_Src_Chord_c (p_s : widgetrybase_Src) {r : Chord × widgetrybase_Src} (hr : b_Src_Chord p_s = some r) : Con Tryd.prog 23 [.c (.loc 0 0)] [(0, .blk [.d (.sl (List.map (eInt .i64) p_s.L)), .d (.v (.int .i64 p_s.At))] 96)] (.s (.agg [.d (.v (.int .i64 r.1.Key)), .d (.v (.int .i64 r.1.Mods))])) [(0, .blk [.d (.sl (List.map (eInt .i64) r.2.L)), .d (.v (.int .i64 r.2.At))] 96)] := by
  unfold b_Src_Chord at hr
  refine Con.of_ok 30 0 [.cell 2 44] [(0, .s (.c (.loc 0 0)))] Tryd.func23 rfl rfl rfl rfl rfl rfl rfl rfl fun w g M ρ => ?_
  refine Ok.seq ?_
  refine Ok.region ?_
  refine OkOps.m 0 (triAlloc (j := 1) (cs := [.d (.v (.int .i64 0)), .d (.v (.int .i64 0))]) rfl rfl rfl rfl) ?_
  refine OkOps.nil ?_
  refine Ok.seq ?_
  refine Ok.region ?_
  refine OkOps.m 0 (triBST (sz := 1) (enc := (eInt .i64)) (j := 2) ([97, 98, 107, 99, 115, 120, 75, 49, 32, 43, 1, 2, 3, 6, 12, 23, 1488]) rfl rfl rfl rfl rfl rfl rfl rfl (fun _ => rfl) trivial rfl rfl) ?_
  refine OkOps.q (triQ (x := .c (.tl 2 (List.map (eInt .i64) ([97, 98, 107, 99, 115, 120, 75, 49, 32, 43, 1, 2, 3, 6, 12, 23, 1488])))) rfl trivial rfl) ?_
  refine OkOps.nil ?_
  refine Ok.seq ?_
  refine Ok.regionD (by kernel_rfl) ?_
  refine OkD.q (triQ (x := .c (.tl 2 (List.map (eInt .i64) ([97, 98, 107, 99, 115, 120, 75, 49, 32, 43, 1, 2, 3, 6, 12, 23, 1488])))) rfl trivial rfl) ?_
  refine OkD.q (triQ (x := .c (.loc 0 0)) rfl trivial rfl) ?_
  refine OkD.q (triQ (x := .c (.tl 2 (List.map (eInt .i64) ([97, 98, 107, 99, 115, 120, 75, 49, 32, 43, 1, 2, 3, 6, 12, 23, 1488])))) rfl trivial rfl) ?_
  refine OkD.q (triLen (enc := (eInt .i64)) ([97, 98, 107, 99, 115, 120, 75, 49, 32, 43, 1, 2, 3, 6, 12, 23, 1488]) rfl rfl trivial rfl) ?_
  obtain ⟨x1, hx1, hr⟩ := bind_some hr
  refine OkD.m 0 (triCall (tau [(0, 0)]) (.s (.c (.d (.v (.int .i64 x1.1))))) [(0, .blk [.d (.sl (List.map (eInt .i64) x1.2.L)), .d (.v (.int .i64 x1.2.At))] 96)] (b_Src_N_c _ _ hx1) rfl ⟨.inl rfl, .inl rfl, trivial⟩ trivial entry15 ⟨rfl, trivial⟩ rfl rfl rfl rfl trivial rfl rfl rfl) ?_
  obtain ⟨x2, hx2, hr⟩ := bind_some hr
  refine OkD.q (triIdx (enc := (eInt .i64)) (L := [97, 98, 107, 99, 115, 120, 75, 49, 32, 43, 1, 2, 3, 6, 12, 23, 1488]) (row := [.v (.int .i64 x2)]) hx2 rfl rfl rfl rfl (fun _ => rfl) trivial rfl) ?_
  refine OkD.q (triQ (x := .c (.d (.v (.int .i64 x2)))) rfl trivial rfl) ?_
  refine OkD.m 0 (triBST (sz := 1) (enc := (eInt .i64)) (j := 3) ([0, 0, 1, 1, 2, 4, 8, 15, 5]) rfl rfl rfl rfl rfl rfl rfl rfl (fun _ => rfl) trivial rfl rfl) ?_
  refine OkD.q (triQ (x := .c (.loc 0 0)) rfl trivial rfl) ?_
  obtain ⟨x3, hx3, hr⟩ := bind_some hr
  refine OkD.m 0 (triCall (tau [(0, 0)]) (.s (.c (.d (.v (.int .i64 x3.1))))) [(0, .blk [.d (.sl (List.map (eInt .i64) x3.2.L)), .d (.v (.int .i64 x3.2.At))] 96)] (b_Src_N_c _ _ hx3) rfl ⟨.inl rfl, .inl rfl, trivial⟩ trivial entry15 ⟨rfl, trivial⟩ rfl rfl rfl rfl trivial rfl rfl rfl) ?_
  obtain ⟨x4, hx4, hr⟩ := bind_some hr
  refine OkD.q (triIdx (enc := (eInt .i64)) (L := [0, 0, 1, 1, 2, 4, 8, 15, 5]) (row := [.v (.int .i64 x4)]) hx4 rfl rfl rfl rfl (fun _ => rfl) trivial rfl) ?_
  refine OkD.q (triQ (x := .c (.d (.v (.int .i64 x4)))) rfl trivial rfl) ?_
  refine OkD.q (triQ (x := .agg [.d (.v (.int .i64 x2)), .d (.v (.int .i64 x4))]) rfl trivial rfl) ?_
  refine OkD.m 0 (triAlloc (j := 4) (cs := [.d (.v (.int .i64 0)), .d (.v (.int .i64 0))]) rfl rfl rfl rfl) ?_
  refine OkD.w (triStore (cs' := [.d (.v (.int .i64 x2)), .d (.v (.int .i64 x4))]) rfl rfl rfl rfl rfl rfl rfl rfl rfl) ?_
  refine OkD.nil (by kernel_rfl) ?_
  obtain ⟨k6, hk6, hr⟩ := jn_some hr
  refine Ok.join (fun (s5 : (List Int) × Int × Int) => ⟨[(0, .s (.c (.loc 0 0))), (2, .s (.c (.loc 1 0))), (4, .s (.c (.loc 4 0)))], [(0, .blk [.d (.sl (List.map (eInt .i64) s5.1)), .d (.v (.int .i64 s5.2.1))] 96), (1, .blk [.d (.v (.int .i64 0)), .d (.v (.int .i64 0))] 44), (4, .blk [.d (.v (.int .i64 s5.2.2)), .d (.v (.int .i64 x4))] 44)], 0⟩) k6 r (fun s5 hr => ?_) ?_
  · rw [hk6] at hr
    obtain ⟨k8, hk8, hr⟩ := jn_some hr
    refine Ok.join (fun (s7 : (List Int) × Int × Int) => ⟨[(2, .s (.c (.loc 1 0))), (4, .s (.c (.loc 4 0)))], [(0, .blk [.d (.sl (List.map (eInt .i64) s7.1)), .d (.v (.int .i64 s7.2.1))] 96), (1, .blk [.d (.v (.int .i64 0)), .d (.v (.int .i64 0))] 44), (4, .blk [.d (.v (.int .i64 s5.2.2)), .d (.v (.int .i64 s7.2.2))] 44)], 0⟩) k8 r (fun s7 hr => ?_) ?_
    · rw [hk8] at hr
      refine Ok.seq ?_
      refine Ok.region ?_
      refine OkOps.q (triQ (x := .agg [.d (.v (.int .i64 s5.2.2)), .d (.v (.int .i64 s7.2.2))]) rfl trivial rfl) ?_
      refine OkOps.w (triStore (cs' := [.d (.v (.int .i64 s5.2.2)), .d (.v (.int .i64 s7.2.2))]) rfl rfl rfl rfl rfl rfl rfl rfl rfl) ?_
      refine OkOps.nil ?_
      refine Ok.ret ?_
      obtain rfl := Option.some.inj hr
      exact ⟨_, rfl, .inl rfl, ⟨rfl, trivial⟩⟩
    · clear hk8
      refine Ok.seq ?_
      refine Ok.region ?_
      refine OkOps.q (triQ (x := .c (.loc 0 0)) rfl trivial rfl) ?_
      obtain ⟨x9, hx9, hr⟩ := bind_some hr
      refine OkOps.m 0 (triCall (tau [(0, 0)]) (.s (.c (.d (.v (.bool x9.1))))) [(0, .blk [.d (.sl (List.map (eInt .i64) x9.2.L)), .d (.v (.int .i64 x9.2.At))] 96)] (b_Src_Chance_c _ _ hx9) rfl ⟨.inl rfl, .inl rfl, trivial⟩ trivial entry55 ⟨rfl, trivial⟩ rfl rfl rfl rfl trivial rfl rfl rfl) ?_
      refine OkOps.nil ?_
      refine Ok.cond (b := x9.1) rfl (fun h10 => ?_) (fun h10 => ?_)
      · have hr := selT h10 hr
        refine Ok.region ?_
        refine OkOps.q (triQ (x := .c (.loc 0 0)) rfl trivial rfl) ?_
        obtain ⟨x11, hx11, hr⟩ := bind_some hr
        refine OkOps.m 0 (triCall (tau [(0, 0)]) (.s (.c (.d (.v (.int .i64 x11.1))))) [(0, .blk [.d (.sl (List.map (eInt .i64) x11.2.L)), .d (.v (.int .i64 x11.2.At))] 96)] (b_Src_Raw_c _ hx11) rfl ⟨.inl rfl, trivial⟩ trivial entry56 ⟨rfl, trivial⟩ rfl rfl rfl rfl trivial rfl rfl rfl) ?_
        refine OkOps.q (triQ (x := .c (.loc 4 1)) rfl trivial rfl) ?_
        refine OkOps.w (triStore (cs' := [.d (.v (.int .i64 s5.2.2)), .d (.v (.int .i64 x11.1))]) rfl rfl rfl rfl rfl rfl rfl rfl rfl) ?_
        refine OkOps.nil ?_
        exact ⟨(x11.2.L, x11.2.At, x11.1), hr, (Conv.mk (tau []) ⟨⟨_, rfl, .inl rfl⟩, ⟨_, rfl, .inl rfl⟩, trivial⟩ ⟨rfl, rfl, rfl, trivial⟩ rfl rfl rfl rfl)⟩
      · have hr := selF h10 hr
        refine Ok.skip ?_
        exact ⟨(x9.2.L, x9.2.At, x4), hr, (Conv.mk (tau []) ⟨⟨_, rfl, .inl rfl⟩, ⟨_, rfl, .inl rfl⟩, trivial⟩ ⟨rfl, rfl, rfl, trivial⟩ rfl rfl rfl rfl)⟩
  · clear hk6
    refine Ok.seq ?_
    refine Ok.region ?_
    refine OkOps.q (triQ (x := .c (.loc 0 0)) rfl trivial rfl) ?_
    obtain ⟨x12, hx12, hr⟩ := bind_some hr
    refine OkOps.m 0 (triCall (tau [(0, 0)]) (.s (.c (.d (.v (.bool x12.1))))) [(0, .blk [.d (.sl (List.map (eInt .i64) x12.2.L)), .d (.v (.int .i64 x12.2.At))] 96)] (b_Src_Chance_c _ _ hx12) rfl ⟨.inl rfl, .inl rfl, trivial⟩ trivial entry55 ⟨rfl, trivial⟩ rfl rfl rfl rfl trivial rfl rfl rfl) ?_
    refine OkOps.nil ?_
    refine Ok.cond (b := x12.1) rfl (fun h13 => ?_) (fun h13 => ?_)
    · have hr := selT h13 hr
      refine Ok.region ?_
      refine OkOps.q (triQ (x := .c (.loc 0 0)) rfl trivial rfl) ?_
      obtain ⟨x14, hx14, hr⟩ := bind_some hr
      refine OkOps.m 0 (triCall (tau [(0, 0)]) (.s (.c (.d (.v (.int .i64 x14.1))))) [(0, .blk [.d (.sl (List.map (eInt .i64) x14.2.L)), .d (.v (.int .i64 x14.2.At))] 96)] (b_Src_Raw_c _ hx14) rfl ⟨.inl rfl, trivial⟩ trivial entry56 ⟨rfl, trivial⟩ rfl rfl rfl rfl trivial rfl rfl rfl) ?_
      refine OkOps.q (triQ (x := .c (.loc 4 0)) rfl trivial rfl) ?_
      refine OkOps.w (triStore (cs' := [.d (.v (.int .i64 x14.1)), .d (.v (.int .i64 x4))]) rfl rfl rfl rfl rfl rfl rfl rfl rfl) ?_
      refine OkOps.nil ?_
      exact ⟨(x14.2.L, x14.2.At, x14.1), hr, (Conv.mk (tau []) ⟨⟨_, rfl, .inl rfl⟩, ⟨_, rfl, .inl rfl⟩, ⟨_, rfl, .inl rfl⟩, trivial⟩ ⟨rfl, rfl, rfl, trivial⟩ rfl rfl rfl rfl)⟩
    · have hr := selF h13 hr
      refine Ok.skip ?_
      exact ⟨(x12.2.L, x12.2.At, x2), hr, (Conv.mk (tau []) ⟨⟨_, rfl, .inl rfl⟩, ⟨_, rfl, .inl rfl⟩, ⟨_, rfl, .inl rfl⟩, trivial⟩ ⟨rfl, rfl, rfl, trivial⟩ rfl rfl rfl rfl)⟩
theorem entry23 : Entry Tryd.prog 23 := ⟨_, Tryd.func23, by kernel_rfl, by kernel_rfl⟩
theorem b_Src_Chords_c (p_s : widgetrybase_Src) {r : (List Chord) × widgetrybase_Src} (hr : b_Src_Chords p_s = some r) : Con Tryd.prog 45 [.c (.loc 0 0)] [(0, .blk [.d (.sl (List.map (eInt .i64) p_s.L)), .d (.v (.int .i64 p_s.At))] 96)] (.s (.c (.d (.sl (List.map Chord.cs r.1))))) [(0, .blk [.d (.sl (List.map (eInt .i64) r.2.L)), .d (.v (.int .i64 r.2.At))] 96)] := by
  unfold b_Src_Chords at hr
  refine Con.of_ok 27 0 [.tmp 2] [(0, .s (.c (.loc 0 0)))] Tryd.func45 rfl rfl rfl rfl rfl rfl rfl rfl fun w g M ρ => ?_
  refine Ok.seq ?_
  refine Ok.region ?_
  refine OkOps.q (triQ (x := .c (.d (.v (.slice none 0 0)))) rfl trivial rfl) ?_
  refine OkOps.nil ?_
  refine Ok.seq ?_
  refine Ok.region ?_
  refine OkOps.m 0 (triBST (sz := 1) (enc := (eInt .i64)) (j := 1) ([97, 107, 99, 49, 32, 2, 12]) rfl rfl rfl rfl rfl rfl rfl rfl (fun _ => rfl) trivial rfl rfl) ?_
  refine OkOps.q (triQ (x := .c (.tl 1 (List.map (eInt .i64) ([97, 107, 99, 49, 32, 2, 12])))) rfl trivial rfl) ?_
  refine OkOps.nil ?_
  refine Ok.seq ?_
  refine Ok.region ?_
  refine OkOps.q (triQ (x := .c (.d (.v (.slice none 0 0)))) rfl trivial rfl) ?_
  refine OkOps.nil ?_
  obtain ⟨k2, hk2, hr⟩ := jn_some hr
  refine Ok.join (fun (s1 : (List Chord) × (List Int) × Int) => ⟨[(4, .s (.c (.tl 1004 (List.map Chord.cs s1.1))))], [(0, .blk [.d (.sl (List.map (eInt .i64) s1.2.1)), .d (.v (.int .i64 s1.2.2))] 96), (1004, .tail 2)], 0⟩) k2 r (fun s1 hr => ?_) ?_
  · rw [hk2] at hr
    refine Ok.seq ?_
    refine Ok.region ?_
    refine OkOps.q (triQ (x := .c (.tl 1004 (List.map Chord.cs s1.1))) rfl trivial rfl) ?_
    refine OkOps.q (triQ (x := .c (.tl 1004 (List.map Chord.cs s1.1))) rfl trivial rfl) ?_
    refine OkOps.nil ?_
    refine Ok.ret ?_
    obtain rfl := Option.some.inj hr
    exact ⟨_, rfl, .inr rfl, ⟨rfl, trivial⟩⟩
  · clear hk2
    refine Ok.seq ?_
    refine Ok.region ?_
    refine OkOps.q (triQ (x := .c (.loc 0 0)) rfl trivial rfl) ?_
    obtain ⟨x3, hx3, hr⟩ := bind_some hr
    refine OkOps.m 0 (triCall (tau [(0, 0)]) (.s (.c (.d (.v (.int .i64 x3.1))))) [(0, .blk [.d (.sl (List.map (eInt .i64) x3.2.L)), .d (.v (.int .i64 x3.2.At))] 96)] (b_Src_Range_c _ _ _ hx3) rfl ⟨.inl rfl, .inl rfl, .inl rfl, trivial⟩ trivial entry54 ⟨rfl, trivial⟩ rfl rfl rfl rfl trivial rfl rfl rfl) ?_
    refine OkOps.q (triQ (x := .c (.d (.v (.int .i64 x3.1)))) rfl trivial rfl) ?_
    refine OkOps.nil ?_
    refine Ok.block ?_
    refine Ok.loopK (fun (s4 : (List Chord) × Int × (List Int) × Int) => ⟨[(0, .s (.c (.loc 0 0))), (3, .s (.c (.tl 1 (List.map (eInt .i64) ([97, 107, 99, 49, 32, 2, 12]))))), (4, .s (.c (.tl 1007 (List.map Chord.cs s4.1)))), (5, .s (.c (.d (.v (.int .i64 s4.2.1)))))], [(0, .blk [.d (.sl (List.map (eInt .i64) s4.2.2.1)), .d (.v (.int .i64 s4.2.2.2))] 96), (1, .tail 1), (1007, .tail 2)], 0⟩) hr (Conv.trans (Conv.nil 4 1009 2 0 rfl rfl) (Conv.mk (tau [(1007, 1009)]) ⟨⟨_, rfl, .inl rfl⟩, ⟨_, rfl, .inl rfl⟩, ⟨_, rfl, .inl rfl⟩, ⟨_, rfl, .inl rfl⟩, trivial⟩ ⟨rfl, rfl, rfl, trivial⟩ rfl rfl rfl rfl)) ?_
    clear hr
    intro again5 s4 hr
    unfold b_Src_Chords_L1 at hr
    refine Ok.seq ?_
    refine Ok.seq ?_
    refine Ok.region ?_
    refine OkOps.q (triQ (x := .c (.d (.v (.int .i64 s4.2.1)))) rfl trivial rfl) ?_
    refine OkOps.q (triQ (x := .c (.d (.v (.bool (decide (s4.2.1 > 0)))))) rfl trivial rfl) ?_
    refine OkOps.nil ?_
    refine Ok.cond (b := decide (s4.2.1 > 0)) rfl (fun h6 => ?_) (fun h6 => ?_)
    · have hr := selT h6 hr
      refine Ok.skip ?_
      refine Ok.seq ?_
      refine Ok.block ?_
      refine Ok.regionD (by kernel_rfl) ?_
      refine OkD.q (triQ (x := .c (.tl 1007 (List.map Chord.cs s4.1))) rfl trivial rfl) ?_
      refine OkD.q (triQ (x := .c (.tl 1 (List.map (eInt .i64) ([97, 107, 99, 49, 32, 2, 12])))) rfl trivial rfl) ?_
      refine OkD.q (triQ (x := .c (.loc 0 0)) rfl trivial rfl) ?_
      refine OkD.q (triQ (x := .c (.tl 1 (List.map (eInt .i64) ([97, 107, 99, 49, 32, 2, 12])))) rfl trivial rfl) ?_
      refine OkD.q (triLen (enc := (eInt .i64)) ([97, 107, 99, 49, 32, 2, 12]) rfl rfl trivial rfl) ?_
      obtain ⟨x7, hx7, hr⟩ := bind_some hr
      refine OkD.m 0 (triCall (tau [(0, 0)]) (.s (.c (.d (.v (.int .i64 x7.1))))) [(0, .blk [.d (.sl (List.map (eInt .i64) x7.2.L)), .d (.v (.int .i64 x7.2.At))] 96)] (b_Src_N_c _ _ hx7) rfl ⟨.inl rfl, .inl rfl, trivial⟩ trivial entry15 ⟨rfl, trivial⟩ rfl rfl rfl rfl trivial rfl rfl rfl) ?_
      obtain ⟨x8, hx8, hr⟩ := bind_some hr
      refine OkD.q (triIdx (enc := (eInt .i64)) (L := [97, 107, 99, 49, 32, 2, 12]) (row := [.v (.int .i64 x8)]) hx8 rfl rfl rfl rfl (fun _ => rfl) trivial rfl) ?_
      refine OkD.q (triQ (x := .c (.d (.v (.int .i64 x8)))) rfl trivial rfl) ?_
      refine OkD.q (triQ (x := .c (.loc 0 0)) rfl trivial rfl) ?_
      obtain ⟨x9, hx9, hr⟩ := bind_some hr
      refine OkD.m 0 (triCall (tau [(0, 0)]) (.s (.c (.d (.v (.int .i64 x9.1))))) [(0, .blk [.d (.sl (List.map (eInt .i64) x9.2.L)), .d (.v (.int .i64 x9.2.At))] 96)] (b_Src_N_c _ _ hx9) rfl ⟨.inl rfl, .inl rfl, trivial⟩ trivial entry15 ⟨rfl, trivial⟩ rfl rfl rfl rfl trivial rfl rfl rfl) ?_
      refine OkD.q (triQ (x := .agg [.d (.v (.int .i64 x8)), .d (.v (.int .i64 x9.1))]) rfl trivial rfl) ?_
      refine OkD.m 0 (triBST (sz := 2) (enc := Chord.cs) (j := 2) ([(Chord.mk x8 x9.1)]) rfl rfl rfl rfl rfl rfl rfl rfl (fun _ => rfl) trivial rfl rfl) ?_
      obtain ⟨x10, hx10, hr⟩ := bind_some hr
      refine OkD.m2 0 (triApp (enc := Chord.cs) (L := s4.1) (X := [(Chord.mk x8 x9.1)]) (j := 1007) (j' := 3) hx10 rfl rfl rfl rfl rfl rfl (fun _ => rfl) (fun _ => rfl) (by decide) trivial rfl rfl) ?_
      refine OkD.q (triQ (x := .c (.tl 3 (List.map Chord.cs x10))) rfl trivial rfl) ?_
      refine OkD.nil (by kernel_rfl) ?_
      refine Ok.region ?_
      refine OkOps.q (triQ (x := .c (.d (.v (.int .i64 s4.2.1)))) rfl trivial rfl) ?_
      refine OkOps.q (triQ (x := .c (.d (.v (.int .i64 (IntKind.i64.wrap (s4.2.1 - 1)))))) rfl trivial rfl) ?_
      refine OkOps.q (triQ (x := .c (.d (.v (.int .i64 (IntKind.i64.wrap (s4.2.1 - 1)))))) rfl trivial rfl) ?_
      refine OkOps.nil ?_
      exact ⟨(x10, IntKind.i64.wrap (s4.2.1 - 1), x9.2.L, x9.2.At), hr, (Conv.mk (tau [(1007, 3)]) ⟨⟨_, rfl, .inl rfl⟩, ⟨_, rfl, .inl rfl⟩, ⟨_, rfl, .inl rfl⟩, ⟨_, rfl, .inl rfl⟩, trivial⟩ ⟨rfl, rfl, rfl, trivial⟩ rfl rfl rfl rfl)⟩
    · have hr := selF h6 hr
      refine Ok.exit ?_
      exact ⟨(s4.1, s4.2.2.1, s4.2.2.2), hr, (Conv.mk (tau [(1004, 1007)]) ⟨⟨_, rfl, .inl rfl⟩, trivial⟩ ⟨rfl, rfl, trivial⟩ rfl rfl rfl rfl)⟩
theorem entry45 : Entry Tryd.prog 45 := ⟨_, Tryd.func45, by kernel_rfl, by kernel_rfl⟩
theorem l32_same_c (a : (List Chord)) (b : (List Chord)) {r : Bool} (hr : l32_same a b = some r) : Con Tryd.prog 26 [.c (.d (.sl (List.map Chord.cs a))), .c (.d (.sl (List.map Chord.cs b)))] [] (.s (.c (.d (.v (.bool r))))) [] := by
  unfold l32_same at hr
  refine Con.of_ok 26 0 [.tmp 4] [(0, .s (.c (.d (.sl (List.map Chord.cs a))))), (1, .s (.c (.d (.sl (List.map Chord.cs b)))))] Tryd.func26 rfl rfl rfl rfl rfl rfl rfl rfl fun w g M ρ => ?_
  refine Ok.seq ?_
  refine Ok.region ?_
  refine OkOps.q (triQ (x := .c (.d (.v (.bool false)))) rfl trivial rfl) ?_
  refine OkOps.nil ?_
  refine Ok.seq ?_
  refine Ok.seq ?_
  refine Ok.region ?_
  refine OkOps.q (triQ (x := .c (.d (.sl (List.map Chord.cs a)))) rfl trivial rfl) ?_
  refine OkOps.q (triLen (enc := Chord.cs) a rfl rfl trivial rfl) ?_
  refine OkOps.q (triQ (x := .c (.d (.sl (List.map Chord.cs b)))) rfl trivial rfl) ?_
  refine OkOps.q (triLen (enc := Chord.cs) b rfl rfl trivial rfl) ?_
  refine OkOps.q (triQ (x := .c (.d (.v (.bool ((a.length : Int) != (b.length : Int)))))) rfl trivial rfl) ?_
  refine OkOps.nil ?_
  refine Ok.cond (b := (a.length : Int) != (b.length : Int)) rfl (fun h1 => ?_) (fun h1 => ?_)
  · have hr := selT h1 hr
    refine Ok.seq ?_
    refine Ok.region ?_
    refine OkOps.q (triQ (x := .c (.d (.v (.bool false)))) rfl trivial rfl) ?_
    refine OkOps.nil ?_
    refine Ok.ret ?_
    obtain rfl := Option.some.inj hr
    exact ⟨_, rfl, .inl rfl, trivial⟩
  · have hr := selF h1 hr
    refine Ok.skip ?_
    obtain ⟨k3, hk3, hr⟩ := jn_some hr
    refine Ok.join (fun (s2 : Unit) => ⟨[], [], 0⟩) k3 r (fun s2 hr => ?_) ?_
    · rw [hk3] at hr
      refine Ok.seq ?_
      refine Ok.region ?_
      refine OkOps.q (triQ (x := .c (.d (.v (.bool true)))) rfl trivial rfl) ?_
      refine OkOps.nil ?_
      refine Ok.ret ?_
      obtain rfl := Option.some.inj hr
      exact ⟨_, rfl, .inl rfl, trivial⟩
    · clear hk3
      refine Ok.seq ?_
      refine Ok.region ?_
      refine OkOps.q (triQ (x := .c (.d (.v (.int .i64 0)))) rfl trivial rfl) ?_
      refine OkOps.nil ?_
      refine Ok.block ?_
      refine Ok.loopK (fun (s4 : Int) => ⟨[(0, .s (.c (.d (.sl (List.map Chord.cs a))))), (1, .s (.c (.d (.sl (List.map Chord.cs b))))), (5, .s (.c (.d (.v (.int .i64 s4)))))], [], 0⟩) hr (Conv.mk (tau []) ⟨⟨_, rfl, .inl rfl⟩, ⟨_, rfl, .inl rfl⟩, ⟨_, rfl, .inl rfl⟩, trivial⟩ trivial rfl rfl rfl rfl) ?_
      clear hr
      intro again5 s4 hr
      unfold l32_same_L1 at hr
      refine Ok.seq ?_
      refine Ok.seq ?_
      refine Ok.region ?_
      refine OkOps.q (triQ (x := .c (.d (.v (.int .i64 s4)))) rfl trivial rfl) ?_
      refine OkOps.q (triQ (x := .c (.d (.sl (List.map Chord.cs a)))) rfl trivial rfl) ?_
      refine OkOps.q (triLen (enc := Chord.cs) a rfl rfl trivial rfl) ?_
      refine OkOps.q (triQ (x := .c (.d (.v (.bool (decide (s4 < (a.length : Int))))))) rfl trivial rfl) ?_
      refine OkOps.nil ?_
      refine Ok.cond (b := decide (s4 < (a.length : Int))) rfl (fun h6 => ?_) (fun h6 => ?_)
      · have hr := selT h6 hr
        refine Ok.skip ?_
        refine Ok.seq ?_
        refine Ok.block ?_
        refine Ok.seq ?_
        refine Ok.regionD (by kernel_rfl) ?_
        refine OkD.q (triQ (x := .c (.d (.sl (List.map Chord.cs a)))) rfl trivial rfl) ?_
        refine OkD.q (triQ (x := .c (.d (.v (.int .i64 s4)))) rfl trivial rfl) ?_
        obtain ⟨x7, hx7, hr⟩ := bind_some hr
        refine OkD.q (triIdx (enc := Chord.cs) (L := a) (row := [.v (.int .i64 x7.Key), .v (.int .i64 x7.Mods)]) hx7 rfl rfl rfl rfl (fun _ => rfl) trivial rfl) ?_
        refine OkD.q (triQ (x := .agg [.d (.v (.int .i64 x7.Key)), .d (.v (.int .i64 x7.Mods))]) rfl trivial rfl) ?_
        refine OkD.q (triQ (x := .c (.d (.sl (List.map Chord.cs b)))) rfl trivial rfl) ?_
        refine OkD.q (triQ (x := .c (.d (.v (.int .i64 s4)))) rfl trivial rfl) ?_
        obtain ⟨x8, hx8, hr⟩ := bind_some hr
        refine OkD.q (triIdx (enc := Chord.cs) (L := b) (row := [.v (.int .i64 x8.Key), .v (.int .i64 x8.Mods)]) hx8 rfl rfl rfl rfl (fun _ => rfl) trivial rfl) ?_
        refine OkD.q (triQ (x := .agg [.d (.v (.int .i64 x8.Key)), .d (.v (.int .i64 x8.Mods))]) rfl trivial rfl) ?_
        refine OkD.q (triNeS (b := ((x7.Key == x8.Key) && (x7.Mods == x8.Mods))) rfl rfl eqok44 rfl trivial rfl) ?_
        refine OkD.nil (by kernel_rfl) ?_
        refine Ok.cond (b := !((x7.Key == x8.Key) && (x7.Mods == x8.Mods))) rfl (fun h9 => ?_) (fun h9 => ?_)
        · have hr := selT h9 hr
          refine Ok.seq ?_
          refine Ok.region ?_
          refine OkOps.q (triQ (x := .c (.d (.v (.bool false)))) rfl trivial rfl) ?_
          refine OkOps.nil ?_
          refine Ok.ret ?_
          obtain rfl := Option.some.inj hr
          exact ⟨_, rfl, .inl rfl, trivial⟩
        · have hr := selF h9 hr
          refine Ok.skip ?_
          refine Ok.region ?_
          refine OkOps.q (triQ (x := .c (.d (.v (.int .i64 s4)))) rfl trivial rfl) ?_
          refine OkOps.q (triQ (x := .c (.d (.v (.int .i64 (IntKind.i64.wrap (s4 + 1)))))) rfl trivial rfl) ?_
          refine OkOps.q (triQ (x := .c (.d (.v (.int .i64 (IntKind.i64.wrap (s4 + 1)))))) rfl trivial rfl) ?_
          refine OkOps.nil ?_
          exact ⟨IntKind.i64.wrap (s4 + 1), hr, (Conv.mk (tau []) ⟨⟨_, rfl, .inl rfl⟩, ⟨_, rfl, .inl rfl⟩, ⟨_, rfl, .inl rfl⟩, trivial⟩ trivial rfl rfl rfl rfl)⟩
      · have hr := selF h6 hr
        refine Ok.exit ?_
        exact ⟨(), hr, (Conv.mk (tau []) trivial trivial rfl rfl rfl rfl)⟩
theorem entry26 : Entry Tryd.prog 26 := ⟨_, Tryd.func26, by kernel_rfl, by kernel_rfl⟩
theorem slices_Equal_Sl_Chord_Chord_c (p_s1 : (List Chord)) (p_s2 : (List Chord)) {r : Bool} (hr : slices_Equal_Sl_Chord_Chord p_s1 p_s2 = some r) : Con Tryd.prog 91 [.c (.d (.sl (List.map Chord.cs p_s1))), .c (.d (.sl (List.map Chord.cs p_s2)))] [] (.s (.c (.d (.v (.bool r))))) [] := by
  unfold slices_Equal_Sl_Chord_Chord at hr
  refine Con.of_ok 26 0 [.tmp 4] [(0, .s (.c (.d (.sl (List.map Chord.cs p_s1))))), (1, .s (.c (.d (.sl (List.map Chord.cs p_s2)))))] Tryd.func91 rfl rfl rfl rfl rfl rfl rfl rfl fun w g M ρ => ?_
  refine Ok.seq ?_
  refine Ok.region ?_
  refine OkOps.q (triQ (x := .c (.d (.v (.bool false)))) rfl trivial rfl) ?_
  refine OkOps.nil ?_
  refine Ok.seq ?_
  refine Ok.seq ?_
  refine Ok.region ?_
  refine OkOps.q (triQ (x := .c (.d (.sl (List.map Chord.cs p_s1)))) rfl trivial rfl) ?_
  refine OkOps.q (triLen (enc := Chord.cs) p_s1 rfl rfl trivial rfl) ?_
  refine OkOps.q (triQ (x := .c (.d (.sl (List.map Chord.cs p_s2)))) rfl trivial rfl) ?_
  refine OkOps.q (triLen (enc := Chord.cs) p_s2 rfl rfl trivial rfl) ?_
  refine OkOps.q (triQ (x := .c (.d (.v (.bool ((p_s1.length : Int) != (p_s2.length : Int)))))) rfl trivial rfl) ?_
  refine OkOps.nil ?_
  refine Ok.cond (b := (p_s1.length : Int) != (p_s2.length : Int)) rfl (fun h1 => ?_) (fun h1 => ?_)
  · have hr := selT h1 hr
    refine Ok.seq ?_
    refine Ok.region ?_
    refine OkOps.q (triQ (x := .c (.d (.v (.bool false)))) rfl trivial rfl) ?_
    refine OkOps.nil ?_
    refine Ok.ret ?_
    obtain rfl := Option.some.inj hr
    exact ⟨_, rfl, .inl rfl, trivial⟩
  · have hr := selF h1 hr
    refine Ok.skip ?_
    obtain ⟨k3, hk3, hr⟩ := jn_some hr
    refine Ok.join (fun (s2 : Unit) => ⟨[], [], 0⟩) k3 r (fun s2 hr => ?_) ?_
    · rw [hk3] at hr
      refine Ok.seq ?_
      refine Ok.region ?_
      refine OkOps.q (triQ (x := .c (.d (.v (.bool true)))) rfl trivial rfl) ?_
      refine OkOps.nil ?_
      refine Ok.ret ?_
      obtain rfl := Option.some.inj hr
      exact ⟨_, rfl, .inl rfl, trivial⟩
    · clear hk3
      refine Ok.seq ?_
      refine Ok.region ?_
      refine OkOps.q (triQ (x := .c (.d (.sl (List.map Chord.cs p_s1)))) rfl trivial rfl) ?_
      refine OkOps.q (triLen (enc := Chord.cs) p_s1 rfl rfl trivial rfl) ?_
      refine OkOps.q (triQ (x := .c (.d (.v (.int .i64 0)))) rfl trivial rfl) ?_
      refine OkOps.nil ?_
      refine Ok.block ?_
      refine Ok.loopK (fun (s4 : Int) => ⟨[(0, .s (.c (.d (.sl (List.map Chord.cs p_s1))))), (1, .s (.c (.d (.sl (List.map Chord.cs p_s2))))), (12, .s (.c (.d (.v (.int .i64 (p_s1.length : Int)))))), (13, .s (.c (.d (.v (.int .i64 s4)))))], [], 0⟩) hr (Conv.mk (tau []) ⟨⟨_, rfl, .inl rfl⟩, ⟨_, rfl, .inl rfl⟩, ⟨_, rfl, .inl rfl⟩, ⟨_, rfl, .inl rfl⟩, trivial⟩ trivial rfl rfl rfl rfl) ?_
      clear hr
      intro again5 s4 hr
      unfold slices_Equal_Sl_Chord_Chord_L1 at hr
      refine Ok.seq ?_
      refine Ok.region ?_
      refine OkOps.q (triQ (x := .c (.d (.v (.bool (decide (s4 < (p_s1.length : Int))))))) rfl trivial rfl) ?_
      refine OkOps.nil ?_
      refine Ok.seq ?_
      refine Ok.cond (b := decide (s4 < (p_s1.length : Int))) rfl (fun h6 => ?_) (fun h6 => ?_)
      · have hr := selT h6 hr
        refine Ok.skip ?_
        refine Ok.seq ?_
        refine Ok.block ?_
        refine Ok.seq ?_
        refine Ok.region ?_
        refine OkOps.q (triQ (x := .c (.d (.v (.int .i64 s4)))) rfl trivial rfl) ?_
        refine OkOps.q (triQ (x := .c (.d (.v (.int .i64 s4)))) rfl trivial rfl) ?_
        refine OkOps.nil ?_
        refine Ok.seq ?_
        refine Ok.regionD (by kernel_rfl) ?_
        refine OkD.q (triQ (x := .c (.d (.sl (List.map Chord.cs p_s1)))) rfl trivial rfl) ?_
        refine OkD.q (triQ (x := .c (.d (.v (.int .i64 s4)))) rfl trivial rfl) ?_
        obtain ⟨x7, hx7, hr⟩ := bind_some hr
        refine OkD.q (triIdx (enc := Chord.cs) (L := p_s1) (row := [.v (.int .i64 x7.Key), .v (.int .i64 x7.Mods)]) hx7 rfl rfl rfl rfl (fun _ => rfl) trivial rfl) ?_
        refine OkD.q (triQ (x := .agg [.d (.v (.int .i64 x7.Key)), .d (.v (.int .i64 x7.Mods))]) rfl trivial rfl) ?_
        refine OkD.q (triQ (x := .c (.d (.sl (List.map Chord.cs p_s2)))) rfl trivial rfl) ?_
        refine OkD.q (triQ (x := .c (.d (.v (.int .i64 s4)))) rfl trivial rfl) ?_
        obtain ⟨x8, hx8, hr⟩ := bind_some hr
        refine OkD.q (triIdx (enc := Chord.cs) (L := p_s2) (row := [.v (.int .i64 x8.Key), .v (.int .i64 x8.Mods)]) hx8 rfl rfl rfl rfl (fun _ => rfl) trivial rfl) ?_
        refine OkD.q (triQ (x := .agg [.d (.v (.int .i64 x8.Key)), .d (.v (.int .i64 x8.Mods))]) rfl trivial rfl) ?_
        refine OkD.q (triNeS (b := ((x7.Key == x8.Key) && (x7.Mods == x8.Mods))) rfl rfl eqok44 rfl trivial rfl) ?_
        refine OkD.nil (by kernel_rfl) ?_
        refine Ok.cond (b := !((x7.Key == x8.Key) && (x7.Mods == x8.Mods))) rfl (fun h9 => ?_) (fun h9 => ?_)
        · have hr := selT h9 hr
          refine Ok.seq ?_
          refine Ok.region ?_
          refine OkOps.q (triQ (x := .c (.d (.v (.bool false)))) rfl trivial rfl) ?_
          refine OkOps.nil ?_
          refine Ok.ret ?_
          obtain rfl := Option.some.inj hr
          exact ⟨_, rfl, .inl rfl, trivial⟩
        · have hr := selF h9 hr
          refine Ok.skip ?_
          refine Ok.region ?_
          refine OkOps.q (triQ (x := .c (.d (.v (.int .i64 (IntKind.i64.wrap (s4 + 1)))))) rfl trivial rfl) ?_
          refine OkOps.q (triQ (x := .c (.d (.v (.int .i64 (IntKind.i64.wrap (s4 + 1)))))) rfl trivial rfl) ?_
          refine OkOps.nil ?_
          exact ⟨IntKind.i64.wrap (s4 + 1), hr, (Conv.mk (tau []) ⟨⟨_, rfl, .inl rfl⟩, ⟨_, rfl, .inl rfl⟩, ⟨_, rfl, .inl rfl⟩, ⟨_, rfl, .inl rfl⟩, trivial⟩ trivial rfl rfl rfl rfl)⟩
      · have hr := selF h6 hr
        refine Ok.exit ?_
        exact ⟨(), hr, (Conv.mk (tau []) trivial trivial rfl rfl rfl rfl)⟩
theorem entry91 : Entry Tryd.prog 91 := ⟨_, Tryd.func91, by kernel_rfl, by kernel_rfl⟩
theorem sc_begins_c (l : (List Chord)) (p : (List Chord)) {r : Bool} (hr : sc_begins l p = some r) : Con Tryd.prog 60 [.c (.d (.sl (List.map Chord.cs l))), .c (.d (.sl (List.map Chord.cs p)))] [] (.s (.c (.d (.v (.bool r))))) [] := by
  unfold sc_begins at hr
  refine Con.of_ok 18 0 [.tmp 4] [(0, .s (.c (.d (.sl (List.map Chord.cs l))))), (1, .s (.c (.d (.sl (List.map Chord.cs p)))))] Tryd.func60 rfl rfl rfl rfl rfl rfl rfl rfl fun w g M ρ => ?_
  refine Ok.seq ?_
  refine Ok.region ?_
  refine OkOps.q (triQ (x := .c (.d (.v (.bool false)))) rfl trivial rfl) ?_
  refine OkOps.nil ?_
  refine Ok.seq ?_
  refine Ok.region ?_
  refine OkOps.q (triQ (x := .c (.d (.sl (List.map Chord.cs p)))) rfl trivial rfl) ?_
  refine OkOps.q (triLen (enc := Chord.cs) p rfl rfl trivial rfl) ?_
  refine OkOps.q (triQ (x := .c (.d (.sl (List.map Chord.cs l)))) rfl trivial rfl) ?_
  refine OkOps.q (triLen (enc := Chord.cs) l rfl rfl trivial rfl) ?_
  refine OkOps.q (triQ (x := .c (.d (.v (.bool (decide ((p.length : Int) ≤ (l.length : Int))))))) rfl trivial rfl) ?_
  refine OkOps.q (triQ (x := .c (.d (.v (.bool (decide ((p.length : Int) ≤ (l.length : Int))))))) rfl trivial rfl) ?_
  refine OkOps.q (triQG (x := .c (.d (.sl (List.map Chord.cs l)))) rfl rfl trivial rfl) ?_
  refine OkOps.q (triQG (x := .c (.d (.sl (List.map Chord.cs p)))) rfl rfl trivial rfl) ?_
  refine OkOps.q (triLenG (enc := Chord.cs) p rfl rfl rfl ⟨fun h => h, trivial⟩ rfl) ?_
  obtain ⟨x1, hx1, hr⟩ := bind_some hr
  refine OkOps.q (triSlcG (enc := Chord.cs) (L := l) (gO_t hx1) rfl rfl rfl rfl (.inl ⟨rfl, rfl⟩) (.inr ⟨_, rfl⟩) rfl (fun _ => rfl) ⟨fun h => h, ⟨fun h => h, trivial⟩⟩ rfl) ?_
  refine OkOps.q (triQG (x := .c (.d (.sl (List.map Chord.cs p)))) rfl rfl trivial rfl) ?_
  obtain ⟨x2, hx2, hr⟩ := bind_some hr
  refine OkOps.q (triCallG (x := .c (.d (.v (.bool x2)))) (fun hg => slices_Equal_Sl_Chord_Chord_c _ _ (gO_t hx2 hg)) rfl rfl ⟨.inl rfl, .inl rfl, trivial⟩ ⟨fun h => h, ⟨fun h => h, trivial⟩⟩ entry91 rfl rfl rfl) ?_
  refine OkOps.q (triAnd rfl rfl (fun h => h) rfl) ?_
  refine OkOps.q (triQ (x := .c (.d (.v (.bool ((decide ((p.length : Int) ≤ (l.length : Int))) && x2))))) rfl trivial rfl) ?_
  refine OkOps.nil ?_
  refine Ok.ret ?_
  obtain rfl := Option.some.inj hr
  exact ⟨_, rfl, .inl rfl, trivial⟩
theorem entry60 : Entry Tryd.prog 60 := ⟨_, Tryd.func60, by kernel_rfl, by kernel_rfl⟩
theorem sc_find_c (l : (List Shortcut)) (scopes : (List Int)) (keys : (List Chord)) {r : Int × Int} (hr : sc_find l scopes keys = some r) : Con Tryd.prog 58 [.c (.d (.sl (List.map Shortcut.cs l))), .c (.d (.sl (List.map (eInt .i64) scopes))), .c (.d (.sl (List.map Chord.cs keys)))] [] (.tup [.c (.d (.v (.int .i64 r.1))), .c (.d (.v (.int .i64 r.2)))]) [] := by
  unfold sc_find at hr
  refine Con.of_ok 47 0 [.tmp 6, .tmp 7] [(0, .s (.c (.d (.sl (List.map Shortcut.cs l))))), (1, .s (.c (.d (.sl (List.map (eInt .i64) scopes))))), (2, .s (.c (.d (.sl (List.map Chord.cs keys)))))] Tryd.func58 rfl rfl rfl rfl rfl rfl rfl rfl fun w g M ρ => ?_
  refine Ok.seq ?_
  refine Ok.region ?_
  refine OkOps.q (triQ (x := .c (.d (.v (.int .i64 0)))) rfl trivial rfl) ?_
  refine OkOps.q (triQ (x := .c (.d (.v (.int .i64 0)))) rfl trivial rfl) ?_
  refine OkOps.nil ?_
  obtain ⟨k2, hk2, hr⟩ := jn_some hr
  refine Ok.join (fun (s1 : Unit) => ⟨[], [], 0⟩) k2 r (fun s1 hr => ?_) ?_
  · rw [hk2] at hr
    refine Ok.seq ?_
    refine Ok.region ?_
    refine OkOps.q (triQ (x := .c (.d (.v (.int .i64 0)))) rfl trivial rfl) ?_
    refine OkOps.q (triQ (x := .c (.d (.v (.int .i64 0)))) rfl trivial rfl) ?_
    refine OkOps.nil ?_
    refine Ok.ret ?_
    obtain rfl := Option.some.inj hr
    exact ⟨_, rfl, .inl rfl, trivial⟩
  · clear hk2
    refine Ok.seq ?_
    refine Ok.region ?_
    refine OkOps.q (triQ (x := .c (.d (.sl (List.map (eInt .i64) scopes)))) rfl trivial rfl) ?_
    refine OkOps.q (triLen (enc := (eInt .i64)) scopes rfl rfl trivial rfl) ?_
    refine OkOps.q (triQ (x := .c (.d (.v (.int .i64 0)))) rfl trivial rfl) ?_
    refine OkOps.nil ?_
    refine Ok.block ?_
    refine Ok.loopK (fun (s3 : Int) => ⟨[(0, .s (.c (.d (.sl (List.map Shortcut.cs l))))), (2, .s (.c (.d (.sl (List.map Chord.cs keys))))), (13, .s (.c (.d (.sl (List.map (eInt .i64) scopes))))), (14, .s (.c (.d (.v (.int .i64 (scopes.length : Int)))))), (15, .s (.c (.d (.v (.int .i64 s3)))))], [], 0⟩) hr (Conv.mk (tau []) ⟨⟨_, rfl, .inl rfl⟩, ⟨_, rfl, .inl rfl⟩, ⟨_, rfl, .inl rfl⟩, ⟨_, rfl, .inl rfl⟩, ⟨_, rfl, .inl rfl⟩, trivial⟩ trivial rfl rfl rfl rfl) ?_
    clear hr
    intro again4 s3 hr
    unfold sc_find_L2 at hr
    refine Ok.seq ?_
    refine Ok.region ?_
    refine OkOps.q (triQ (x := .c (.d (.v (.bool (decide (s3 < (scopes.length : Int))))))) rfl trivial rfl) ?_
    refine OkOps.nil ?_
    refine Ok.seq ?_
    refine Ok.cond (b := decide (s3 < (scopes.length : Int))) rfl (fun h5 => ?_) (fun h5 => ?_)
    · have hr := selT h5 hr
      refine Ok.skip ?_
      obtain ⟨k7, hk7, hr⟩ := jn_some hr
      refine Ok.join (fun (s6 : Unit) => ⟨[(0, .s (.c (.d (.sl (List.map Shortcut.cs l))))), (2, .s (.c (.d (.sl (List.map Chord.cs keys))))), (13, .s (.c (.d (.sl (List.map (eInt .i64) scopes))))), (14, .s (.c (.d (.v (.int .i64 (scopes.length : Int)))))), (15, .s (.c (.d (.v (.int .i64 s3)))))], [], 0⟩) k7 r (fun s6 hr => ?_) ?_
      · rw [hk7] at hr
        refine Ok.region ?_
        refine OkOps.q (triQ (x := .c (.d (.v (.int .i64 (IntKind.i64.wrap (s3 + 1)))))) rfl trivial rfl) ?_
        refine OkOps.q (triQ (x := .c (.d (.v (.int .i64 (IntKind.i64.wrap (s3 + 1)))))) rfl trivial rfl) ?_
        refine OkOps.nil ?_
        exact ⟨IntKind.i64.wrap (s3 + 1), hr, (Conv.mk (tau []) ⟨⟨_, rfl, .inl rfl⟩, ⟨_, rfl, .inl rfl⟩, ⟨_, rfl, .inl rfl⟩, ⟨_, rfl, .inl rfl⟩, ⟨_, rfl, .inl rfl⟩, trivial⟩ trivial rfl rfl rfl rfl)⟩
      · clear hk7
        refine Ok.block ?_
        refine Ok.seq ?_
        refine Ok.region ?_
        obtain ⟨x8, hx8, hr⟩ := bind_some hr
        refine OkOps.q (triIdx (enc := (eInt .i64)) (L := scopes) (row := [.v (.int .i64 x8)]) hx8 rfl rfl rfl rfl (fun _ => rfl) trivial rfl) ?_
        refine OkOps.q (triQ (x := .c (.d (.v (.int .i64 x8)))) rfl trivial rfl) ?_
        refine OkOps.q (triQ (x := .c (.d (.v (.int .i64 x8)))) rfl trivial rfl) ?_
        refine OkOps.nil ?_
        refine Ok.seq ?_
        refine Ok.region ?_
        refine OkOps.q (triQ (x := .c (.d (.v (.bool false)))) rfl trivial rfl) ?_
        refine OkOps.nil ?_
        obtain ⟨k10, hk10, hr⟩ := jn_some hr
        refine Ok.join (fun (s9 : Bool) => ⟨[(0, .s (.c (.d (.sl (List.map Shortcut.cs l))))), (2, .s (.c (.d (.sl (List.map Chord.cs keys))))), (10, .s (.c (.d (.v (.bool s9))))), (13, .s (.c (.d (.sl (List.map (eInt .i64) scopes))))), (14, .s (.c (.d (.v (.int .i64 (scopes.length : Int)))))), (15, .s (.c (.d (.v (.int .i64 s3)))))], [], 0⟩) k10 r (fun s9 hr => ?_) ?_
        · rw [hk10] at hr
          refine Ok.seq ?_
          refine Ok.region ?_
          refine OkOps.q (triQ (x := .c (.d (.v (.bool s9)))) rfl trivial rfl) ?_
          refine OkOps.nil ?_
          refine Ok.cond (b := s9) rfl (fun h11 => ?_) (fun h11 => ?_)
          · have hr := selT h11 hr
            refine Ok.seq ?_
            refine Ok.region ?_
            refine OkOps.q (triQ (x := .c (.d (.v (.int .i64 0)))) rfl trivial rfl) ?_
            refine OkOps.q (triQ (x := .c (.d (.v (.int .i64 1)))) rfl trivial rfl) ?_
            refine OkOps.nil ?_
            refine Ok.ret ?_
            obtain rfl := Option.some.inj hr
            exact ⟨_, rfl, .inl rfl, trivial⟩
          · have hr := selF h11 hr
            refine Ok.skip ?_
            exact ⟨(), hr, (Conv.mk (tau []) ⟨⟨_, rfl, .inl rfl⟩, ⟨_, rfl, .inl rfl⟩, ⟨_, rfl, .inl rfl⟩, ⟨_, rfl, .inl rfl⟩, ⟨_, rfl, .inl rfl⟩, trivial⟩ trivial rfl rfl rfl rfl)⟩
        · clear hk10
          refine Ok.seq ?_
          refine Ok.region ?_
          refine OkOps.q (triQ (x := .c (.d (.sl (List.map Shortcut.cs l)))) rfl trivial rfl) ?_
          refine OkOps.q (triLen (enc := Shortcut.cs) l rfl rfl trivial rfl) ?_
          refine OkOps.q (triQ (x := .c (.d (.v (.int .i64 0)))) rfl trivial rfl) ?_
          refine OkOps.nil ?_
          refine Ok.block ?_
          refine Ok.loopK (fun (s12 : Bool × Int) => ⟨[(0, .s (.c (.d (.sl (List.map Shortcut.cs l))))), (2, .s (.c (.d (.sl (List.map Chord.cs keys))))), (9, .s (.c (.d (.v (.int .i64 x8))))), (10, .s (.c (.d (.v (.bool s12.1))))), (13, .s (.c (.d (.sl (List.map (eInt .i64) scopes))))), (14, .s (.c (.d (.v (.int .i64 (scopes.length : Int)))))), (15, .s (.c (.d (.v (.int .i64 s3))))), (19, .s (.c (.d (.sl (List.map Shortcut.cs l))))), (20, .s (.c (.d (.v (.int .i64 (l.length : Int)))))), (21, .s (.c (.d (.v (.int .i64 s12.2)))))], [], 0⟩) hr (Conv.mk (tau []) ⟨⟨_, rfl, .inl rfl⟩, ⟨_, rfl, .inl rfl⟩, ⟨_, rfl, .inl rfl⟩, ⟨_, rfl, .inl rfl⟩, ⟨_, rfl, .inl rfl⟩, ⟨_, rfl, .inl rfl⟩, ⟨_, rfl, .inl rfl⟩, ⟨_, rfl, .inl rfl⟩, ⟨_, rfl, .inl rfl⟩, ⟨_, rfl, .inl rfl⟩, trivial⟩ trivial rfl rfl rfl rfl) ?_
          clear hr
          intro again13 s12 hr
          unfold sc_find_L1 at hr
          refine Ok.seq ?_
          refine Ok.region ?_
          refine OkOps.q (triQ (x := .c (.d (.v (.bool (decide (s12.2 < (l.length : Int))))))) rfl trivial rfl) ?_
          refine OkOps.nil ?_
          refine Ok.seq ?_
          refine Ok.cond (b := decide (s12.2 < (l.length : Int))) rfl (fun h14 => ?_) (fun h14 => ?_)
          · have hr := selT h14 hr
            refine Ok.skip ?_
            obtain ⟨k16, hk16, hr⟩ := jn_some hr
            refine Ok.join (fun (s15 : Bool) => ⟨[(0, .s (.c (.d (.sl (List.map Shortcut.cs l))))), (2, .s (.c (.d (.sl (List.map Chord.cs keys))))), (9, .s (.c (.d (.v (.int .i64 x8))))), (10, .s (.c (.d (.v (.bool s15))))), (13, .s (.c (.d (.sl (List.map (eInt .i64) scopes))))), (14, .s (.c (.d (.v (.int .i64 (scopes.length : Int)))))), (15, .s (.c (.d (.v (.int .i64 s3))))), (19, .s (.c (.d (.sl (List.map Shortcut.cs l))))), (20, .s (.c (.d (.v (.int .i64 (l.length : Int)))))), (21, .s (.c (.d (.v (.int .i64 s12.2)))))], [], 0⟩) k16 r (fun s15 hr => ?_) ?_
            · rw [hk16] at hr
              refine Ok.region ?_
              refine OkOps.q (triQ (x := .c (.d (.v (.int .i64 (IntKind.i64.wrap (s12.2 + 1)))))) rfl trivial rfl) ?_
              refine OkOps.q (triQ (x := .c (.d (.v (.int .i64 (IntKind.i64.wrap (s12.2 + 1)))))) rfl trivial rfl) ?_
              refine OkOps.nil ?_
              exact ⟨(s15, IntKind.i64.wrap (s12.2 + 1)), hr, (Conv.mk (tau []) ⟨⟨_, rfl, .inl rfl⟩, ⟨_, rfl, .inl rfl⟩, ⟨_, rfl, .inl rfl⟩, ⟨_, rfl, .inl rfl⟩, ⟨_, rfl, .inl rfl⟩, ⟨_, rfl, .inl rfl⟩, ⟨_, rfl, .inl rfl⟩, ⟨_, rfl, .inl rfl⟩, ⟨_, rfl, .inl rfl⟩, ⟨_, rfl, .inl rfl⟩, trivial⟩ trivial rfl rfl rfl rfl)⟩
            · clear hk16
              refine Ok.block ?_
              refine Ok.seq ?_
              refine Ok.region ?_
              obtain ⟨x17, hx17, hr⟩ := bind_some hr
              refine OkOps.q (triIdx (enc := Shortcut.cs) (L := l) (row := [.v (.int .i64 x17.Node), .v (.int .i64 x17.Scope), .sl (List.map Chord.cs x17.Keys)]) hx17 rfl rfl rfl rfl (fun _ => rfl) trivial rfl) ?_
              refine OkOps.q (triQ (x := .agg [.d (.v (.int .i64 x17.Node)), .d (.v (.int .i64 x17.Scope)), .d (.sl (List.map Chord.cs x17.Keys))]) rfl trivial rfl) ?_
              refine OkOps.m 0 (triAlloc (j := 0) (cs := [.d (.v (.int .i64 0)), .d (.v (.int .i64 0)), .d (.v (.slice none 0 0))]) rfl rfl rfl rfl) ?_
              refine OkOps.w (triStore (cs' := [.d (.v (.int .i64 x17.Node)), .d (.v (.int .i64 x17.Scope)), .d (.sl (List.map Chord.cs x17.Keys))]) rfl rfl rfl rfl rfl rfl rfl rfl rfl) ?_
              refine OkOps.nil ?_
              refine Ok.seq ?_
              refine Ok.seq ?_
              refine Ok.region ?_
              refine OkOps.q (triQ (x := .c (.loc 0 1)) rfl trivial rfl) ?_
              refine OkOps.q (triQ (x := .c (.d (.v (.int .i64 x17.Scope)))) rfl trivial rfl) ?_
              refine OkOps.q (triQ (x := .c (.d (.v (.int .i64 x8)))) rfl trivial rfl) ?_
              refine OkOps.q (triQ (x := .c (.d (.v (.bool (x17.Scope != x8))))) rfl trivial rfl) ?_
              refine OkOps.q (triQ (x := .c (.d (.v (.bool (x17.Scope != x8))))) rfl trivial rfl) ?_
              refine OkOps.q (triQG (x := .c (.loc 0 2)) rfl rfl trivial rfl) ?_
              refine OkOps.q (triQG (x := .c (.d (.sl (List.map Chord.cs x17.Keys)))) rfl rfl ⟨fun h => h, trivial⟩ rfl) ?_
              refine OkOps.q (triQG (x := .c (.d (.sl (List.map Chord.cs keys)))) rfl rfl trivial rfl) ?_
              obtain ⟨x18, hx18, hr⟩ := bind_some hr
              refine OkOps.q (triCallG (x := .c (.d (.v (.bool x18)))) (fun hg => sc_begins_c _ _ (gO_t hx18 hg)) rfl rfl ⟨.inl rfl, .inl rfl, trivial⟩ ⟨fun h => h, ⟨fun h => h, trivial⟩⟩ entry60 rfl rfl rfl) ?_
              refine OkOps.q (triQG (x := .c (.d (.v (.bool (!x18))))) rfl rfl ⟨fun h => h, trivial⟩ rfl) ?_
              refine OkOps.q (triOr rfl rfl (fun h => by rw [h]; rfl) rfl) ?_
              refine OkOps.nil ?_
              refine Ok.cond (b := (x17.Scope != x8) || (!x18)) rfl (fun h19 => ?_) (fun h19 => ?_)
              · have hr := selT h19 hr
                refine Ok.exit ?_
                exact ⟨s12.1, hr, (Conv.mk (tau []) ⟨⟨_, rfl, .inl rfl⟩, ⟨_, rfl, .inl rfl⟩, ⟨_, rfl, .inl rfl⟩, ⟨_, rfl, .inl rfl⟩, ⟨_, rfl, .inl rfl⟩, ⟨_, rfl, .inl rfl⟩, ⟨_, rfl, .inl rfl⟩, ⟨_, rfl, .inl rfl⟩, ⟨_, rfl, .inl rfl⟩, ⟨_, rfl, .inl rfl⟩, trivial⟩ trivial rfl rfl rfl rfl)⟩
              · have hr := selF h19 hr
                refine Ok.skip ?_
                refine Ok.seq ?_
                refine Ok.seq ?_
                refine Ok.region ?_
                refine OkOps.q (triQ (x := .c (.loc 0 2)) rfl trivial rfl) ?_
                refine OkOps.q (triQ (x := .c (.d (.sl (List.map Chord.cs x17.Keys)))) rfl trivial rfl) ?_
                refine OkOps.q (triLen (enc := Chord.cs) x17.Keys rfl rfl trivial rfl) ?_
                refine OkOps.q (triQ (x := .c (.d (.sl (List.map Chord.cs keys)))) rfl trivial rfl) ?_
                refine OkOps.q (triLen (enc := Chord.cs) keys rfl rfl trivial rfl) ?_
                refine OkOps.q (triQ (x := .c (.d (.v (.bool ((x17.Keys.length : Int) == (keys.length : Int)))))) rfl trivial rfl) ?_
                refine OkOps.nil ?_
                refine Ok.cond (b := (x17.Keys.length : Int) == (keys.length : Int)) rfl (fun h20 => ?_) (fun h20 => ?_)
                · have hr := selT h20 hr
                  refine Ok.seq ?_
                  refine Ok.region ?_
                  refine OkOps.q (triQ (x := .c (.loc 0 0)) rfl trivial rfl) ?_
                  refine OkOps.q (triQ (x := .c (.d (.v (.int .i64 x17.Node)))) rfl trivial rfl) ?_
                  refine OkOps.q (triQ (x := .c (.d (.v (.int .i64 x17.Node)))) rfl trivial rfl) ?_
                  refine OkOps.q (triQ (x := .c (.d (.v (.int .i64 2)))) rfl trivial rfl) ?_
                  refine OkOps.nil ?_
                  refine Ok.ret ?_
                  obtain rfl := Option.some.inj hr
                  exact ⟨_, rfl, .inl rfl, trivial⟩
                · have hr := selF h20 hr
                  refine Ok.skip ?_
                  refine Ok.region ?_
                  refine OkOps.q (triQ (x := .c (.d (.v (.bool true)))) rfl trivial rfl) ?_
                  refine OkOps.nil ?_
                  exact ⟨true, hr, (Conv.mk (tau []) ⟨⟨_, rfl, .inl rfl⟩, ⟨_, rfl, .inl rfl⟩, ⟨_, rfl, .inl rfl⟩, ⟨_, rfl, .inl rfl⟩, ⟨_, rfl, .inl rfl⟩, ⟨_, rfl, .inl rfl⟩, ⟨_, rfl, .inl rfl⟩, ⟨_, rfl, .inl rfl⟩, ⟨_, rfl, .inl rfl⟩, ⟨_, rfl, .inl rfl⟩, trivial⟩ trivial rfl rfl rfl rfl)⟩
          · have hr := selF h14 hr
            refine Ok.exit ?_
            exact ⟨s12.1, hr, (Conv.mk (tau []) ⟨⟨_, rfl, .inl rfl⟩, ⟨_, rfl, .inl rfl⟩, ⟨_, rfl, .inl rfl⟩, ⟨_, rfl, .inl rfl⟩, ⟨_, rfl, .inl rfl⟩, ⟨_, rfl, .inl rfl⟩, trivial⟩ trivial rfl rfl rfl rfl)⟩
    · have hr := selF h5 hr
      refine Ok.exit ?_
      exact ⟨(), hr, (Conv.mk (tau []) trivial trivial rfl rfl rfl rfl)⟩
theorem entry58 : Entry Tryd.prog 58 := ⟨_, Tryd.func58, by kernel_rfl, by kernel_rfl⟩
theorem r32_begins_c (l : (List Chord)) (a : (List Chord)) {r : Bool} (hr : r32_begins l a = some r) : Con Tryd.prog 61 [.c (.d (.sl (List.map Chord.cs l))), .c (.d (.sl (List.map Chord.cs a)))] [] (.s (.c (.d (.v (.bool r))))) [] := by
  unfold r32_begins at hr
  refine Con.of_ok 26 0 [.tmp 4] [(0, .s (.c (.d (.sl (List.map Chord.cs l))))), (1, .s (.c (.d (.sl (List.map Chord.cs a)))))] Tryd.func61 rfl rfl rfl rfl rfl rfl rfl rfl fun w g M ρ => ?_
  refine Ok.seq ?_
  refine Ok.region ?_
  refine OkOps.q (triQ (x := .c (.d (.v (.bool false)))) rfl trivial rfl) ?_
  refine OkOps.nil ?_
  refine Ok.seq ?_
  refine Ok.seq ?_
  refine Ok.region ?_
  refine OkOps.q (triQ (x := .c (.d (.sl (List.map Chord.cs l)))) rfl trivial rfl) ?_
  refine OkOps.q (triLen (enc := Chord.cs) l rfl rfl trivial rfl) ?_
  refine OkOps.q (triQ (x := .c (.d (.sl (List.map Chord.cs a)))) rfl trivial rfl) ?_
  refine OkOps.q (triLen (enc := Chord.cs) a rfl rfl trivial rfl) ?_
  refine OkOps.q (triQ (x := .c (.d (.v (.bool (decide ((l.length : Int) < (a.length : Int))))))) rfl trivial rfl) ?_
  refine OkOps.nil ?_
  refine Ok.cond (b := decide ((l.length : Int) < (a.length : Int))) rfl (fun h1 => ?_) (fun h1 => ?_)
  · have hr := selT h1 hr
    refine Ok.seq ?_
    refine Ok.region ?_
    refine OkOps.q (triQ (x := .c (.d (.v (.bool false)))) rfl trivial rfl) ?_
    refine OkOps.nil ?_
    refine Ok.ret ?_
    obtain rfl := Option.some.inj hr
    exact ⟨_, rfl, .inl rfl, trivial⟩
  · have hr := selF h1 hr
    refine Ok.skip ?_
    obtain ⟨k3, hk3, hr⟩ := jn_some hr
    refine Ok.join (fun (s2 : Unit) => ⟨[], [], 0⟩) k3 r (fun s2 hr => ?_) ?_
    · rw [hk3] at hr
      refine Ok.seq ?_
      refine Ok.region ?_
      refine OkOps.q (triQ (x := .c (.d (.v (.bool true)))) rfl trivial rfl) ?_
      refine OkOps.nil ?_
      refine Ok.ret ?_
      obtain rfl := Option.some.inj hr
      exact ⟨_, rfl, .inl rfl, trivial⟩
    · clear hk3
      refine Ok.seq ?_
      refine Ok.region ?_
      refine OkOps.q (triQ (x := .c (.d (.v (.int .i64 0)))) rfl trivial rfl) ?_
      refine OkOps.nil ?_
      refine Ok.block ?_
      refine Ok.loopK (fun (s4 : Int) => ⟨[(0, .s (.c (.d (.sl (List.map Chord.cs l))))), (1, .s (.c (.d (.sl (List.map Chord.cs a))))), (5, .s (.c (.d (.v (.int .i64 s4)))))], [], 0⟩) hr (Conv.mk (tau []) ⟨⟨_, rfl, .inl rfl⟩, ⟨_, rfl, .inl rfl⟩, ⟨_, rfl, .inl rfl⟩, trivial⟩ trivial rfl rfl rfl rfl) ?_
      clear hr
      intro again5 s4 hr
      unfold r32_begins_L1 at hr
      refine Ok.seq ?_
      refine Ok.seq ?_
      refine Ok.region ?_
      refine OkOps.q (triQ (x := .c (.d (.v (.int .i64 s4)))) rfl trivial rfl) ?_
      refine OkOps.q (triQ (x := .c (.d (.sl (List.map Chord.cs a)))) rfl trivial rfl) ?_
      refine OkOps.q (triLen (enc := Chord.cs) a rfl rfl trivial rfl) ?_
      refine OkOps.q (triQ (x := .c (.d (.v (.bool (decide (s4 < (a.length : Int))))))) rfl trivial rfl) ?_
      refine OkOps.nil ?_
      refine Ok.cond (b := decide (s4 < (a.length : Int))) rfl (fun h6 => ?_) (fun h6 => ?_)
      · have hr := selT h6 hr
        refine Ok.skip ?_
        refine Ok.seq ?_
        refine Ok.block ?_
        refine Ok.seq ?_
        refine Ok.regionD (by kernel_rfl) ?_
        refine OkD.q (triQ (x := .c (.d (.sl (List.map Chord.cs l)))) rfl trivial rfl) ?_
        refine OkD.q (triQ (x := .c (.d (.v (.int .i64 s4)))) rfl trivial rfl) ?_
        obtain ⟨x7, hx7, hr⟩ := bind_some hr
        refine OkD.q (triIdx (enc := Chord.cs) (L := l) (row := [.v (.int .i64 x7.Key), .v (.int .i64 x7.Mods)]) hx7 rfl rfl rfl rfl (fun _ => rfl) trivial rfl) ?_
        refine OkD.q (triQ (x := .agg [.d (.v (.int .i64 x7.Key)), .d (.v (.int .i64 x7.Mods))]) rfl trivial rfl) ?_
        refine OkD.q (triQ (x := .c (.d (.sl (List.map Chord.cs a)))) rfl trivial rfl) ?_
        refine OkD.q (triQ (x := .c (.d (.v (.int .i64 s4)))) rfl trivial rfl) ?_
        obtain ⟨x8, hx8, hr⟩ := bind_some hr
        refine OkD.q (triIdx (enc := Chord.cs) (L := a) (row := [.v (.int .i64 x8.Key), .v (.int .i64 x8.Mods)]) hx8 rfl rfl rfl rfl (fun _ => rfl) trivial rfl) ?_
        refine OkD.q (triQ (x := .agg [.d (.v (.int .i64 x8.Key)), .d (.v (.int .i64 x8.Mods))]) rfl trivial rfl) ?_
        refine OkD.q (triNeS (b := ((x7.Key == x8.Key) && (x7.Mods == x8.Mods))) rfl rfl eqok44 rfl trivial rfl) ?_
        refine OkD.nil (by kernel_rfl) ?_
        refine Ok.cond (b := !((x7.Key == x8.Key) && (x7.Mods == x8.Mods))) rfl (fun h9 => ?_) (fun h9 => ?_)
        · have hr := selT h9 hr
          refine Ok.seq ?_
          refine Ok.region ?_
          refine OkOps.q (triQ (x := .c (.d (.v (.bool false)))) rfl trivial rfl) ?_
          refine OkOps.nil ?_
          refine Ok.ret ?_
          obtain rfl := Option.some.inj hr
          exact ⟨_, rfl, .inl rfl, trivial⟩
        · have hr := selF h9 hr
          refine Ok.skip ?_
          refine Ok.region ?_
          refine OkOps.q (triQ (x := .c (.d (.v (.int .i64 s4)))) rfl trivial rfl) ?_
          refine OkOps.q (triQ (x := .c (.d (.v (.int .i64 (IntKind.i64.wrap (s4 + 1)))))) rfl trivial rfl) ?_
          refine OkOps.q (triQ (x := .c (.d (.v (.int .i64 (IntKind.i64.wrap (s4 + 1)))))) rfl trivial rfl) ?_
          refine OkOps.nil ?_
          exact ⟨IntKind.i64.wrap (s4 + 1), hr, (Conv.mk (tau []) ⟨⟨_, rfl, .inl rfl⟩, ⟨_, rfl, .inl rfl⟩, ⟨_, rfl, .inl rfl⟩, trivial⟩ trivial rfl rfl rfl rfl)⟩
      · have hr := selF h6 hr
        refine Ok.exit ?_
        exact ⟨(), hr, (Conv.mk (tau []) trivial trivial rfl rfl rfl rfl)⟩
theorem entry61 : Entry Tryd.prog 61 := ⟨_, Tryd.func61, by kernel_rfl, by kernel_rfl⟩
theorem r32_match_c (a0 : (List Shortcut)) (a1 : (List Int)) (a2 : (List Chord)) (a3 : Int) {r : PendingKeys × Int × Int} (hr : r32_match a0 a1 a2 a3 = some r) : Con Tryd.prog 59 [.c (.d (.sl (List.map Shortcut.cs a0))), .c (.d (.sl (List.map (eInt .i64) a1))), .c (.d (.sl (List.map Chord.cs a2))), .c (.d (.v (.int .i64 a3)))] [] (.tup [.agg [.d (.sl (List.map Chord.cs r.1.Keys)), .d (.v (.int .i64 r.1.Time))], .c (.d (.v (.int .i64 r.2.1))), .c (.d (.v (.int .i64 r.2.2)))]) [] := by
  unfold r32_match at hr
  refine Con.of_ok 66 0 [.cell 8 42, .tmp 9, .tmp 10] [(0, .s (.c (.d (.sl (List.map Shortcut.cs a0))))), (1, .s (.c (.d (.sl (List.map (eInt .i64) a1))))), (2, .s (.c (.d (.sl (List.map Chord.cs a2))))), (3, .s (.c (.d (.v (.int .i64 a3)))))] Tryd.func59 rfl rfl rfl rfl rfl rfl rfl rfl fun w g M ρ => ?_
  refine Ok.seq ?_
  refine Ok.region ?_
  refine OkOps.m 0 (triAlloc (j := 0) (cs := [.d (.v (.slice none 0 0)), .d (.v (.int .i64 0))]) rfl rfl rfl rfl) ?_
  refine OkOps.q (triQ (x := .c (.d (.v (.int .i64 0)))) rfl trivial rfl) ?_
  refine OkOps.q (triQ (x := .c (.d (.v (.int .i64 0)))) rfl trivial rfl) ?_
  refine OkOps.nil ?_
  obtain ⟨k2, hk2, hr⟩ := jn_some hr
  refine Ok.join (fun (s1 : Unit) => ⟨[(8, .s (.c (.loc 0 0)))], [(0, .blk [.d (.v (.slice none 0 0)), .d (.v (.int .i64 0))] 42)], 0⟩) k2 r (fun s1 hr => ?_) ?_
  · rw [hk2] at hr
    refine Ok.seq ?_
    refine Ok.region ?_
    refine OkOps.q (triQ (x := .agg [.d (.v (.slice none 0 0)), .d (.v (.int .i64 0))]) rfl trivial rfl) ?_
    refine OkOps.w (triStore (cs' := [.d (.v (.slice none 0 0)), .d (.v (.int .i64 0))]) rfl rfl rfl rfl rfl rfl rfl rfl rfl) ?_
    refine OkOps.q (triQ (x := .c (.d (.v (.int .i64 0)))) rfl trivial rfl) ?_
    refine OkOps.q (triQ (x := .c (.d (.v (.int .i64 0)))) rfl trivial rfl) ?_
    refine OkOps.nil ?_
    refine Ok.ret ?_
    obtain rfl := Option.some.inj hr
    exact ⟨_, rfl, .inr rfl, trivial⟩
  · clear hk2
    refine Ok.seq ?_
    refine Ok.region ?_
    refine OkOps.q (triQ (x := .c (.d (.v (.int .i64 0)))) rfl trivial rfl) ?_
    refine OkOps.nil ?_
    refine Ok.block ?_
    refine Ok.loopK (fun (s3 : Int) => ⟨[(0, .s (.c (.d (.sl (List.map Shortcut.cs a0))))), (1, .s (.c (.d (.sl (List.map (eInt .i64) a1))))), (2, .s (.c (.d (.sl (List.map Chord.cs a2))))), (3, .s (.c (.d (.v (.int .i64 a3))))), (8, .s (.c (.loc 0 0))), (11, .s (.c (.d (.v (.int .i64 s3)))))], [(0, .blk [.d (.v (.slice none 0 0)), .d (.v (.int .i64 0))] 42)], 0⟩) hr (Conv.mk (tau []) ⟨⟨_, rfl, .inl rfl⟩, ⟨_, rfl, .inl rfl⟩, ⟨_, rfl, .inl rfl⟩, ⟨_, rfl, .inl rfl⟩, ⟨_, rfl, .inl rfl⟩, ⟨_, rfl, .inl rfl⟩, trivial⟩ ⟨rfl, trivial⟩ rfl rfl rfl rfl) ?_
    clear hr
    intro again4 s3 hr
    unfold r32_match_L2 at hr
    refine Ok.seq ?_
    refine Ok.seq ?_
    refine Ok.region ?_
    refine OkOps.q (triQ (x := .c (.d (.v (.int .i64 s3)))) rfl trivial rfl) ?_
    refine OkOps.q (triQ (x := .c (.d (.sl (List.map (eInt .i64) a1)))) rfl trivial rfl) ?_
    refine OkOps.q (triLen (enc := (eInt .i64)) a1 rfl rfl trivial rfl) ?_
    refine OkOps.q (triQ (x := .c (.d (.v (.bool (decide (s3 < (a1.length : Int))))))) rfl trivial rfl) ?_
    refine OkOps.nil ?_
    refine Ok.cond (b := decide (s3 < (a1.length : Int))) rfl (fun h5 => ?_) (fun h5 => ?_)
    · have hr := selT h5 hr
      refine Ok.skip ?_
      obtain ⟨k7, hk7, hr⟩ := jn_some hr
      refine Ok.join (fun (s6 : Unit) => ⟨[(0, .s (.c (.d (.sl (List.map Shortcut.cs a0))))), (1, .s (.c (.d (.sl (List.map (eInt .i64) a1))))), (2, .s (.c (.d (.sl (List.map Chord.cs a2))))), (3, .s (.c (.d (.v (.int .i64 a3))))), (8, .s (.c (.loc 0 0))), (11, .s (.c (.d (.v (.int .i64 s3)))))], [(0, .blk [.d (.v (.slice none 0 0)), .d (.v (.int .i64 0))] 42)], 0⟩) k7 r (fun s6 hr => ?_) ?_
      · rw [hk7] at hr
        refine Ok.region ?_
        refine OkOps.q (triQ (x := .c (.d (.v (.int .i64 s3)))) rfl trivial rfl) ?_
        refine OkOps.q (triQ (x := .c (.d (.v (.int .i64 (IntKind.i64.wrap (s3 + 1)))))) rfl trivial rfl) ?_
        refine OkOps.q (triQ (x := .c (.d (.v (.int .i64 (IntKind.i64.wrap (s3 + 1)))))) rfl trivial rfl) ?_
        refine OkOps.nil ?_
        exact ⟨IntKind.i64.wrap (s3 + 1), hr, (Conv.mk (tau []) ⟨⟨_, rfl, .inl rfl⟩, ⟨_, rfl, .inl rfl⟩, ⟨_, rfl, .inl rfl⟩, ⟨_, rfl, .inl rfl⟩, ⟨_, rfl, .inl rfl⟩, ⟨_, rfl, .inl rfl⟩, trivial⟩ ⟨rfl, trivial⟩ rfl rfl rfl rfl)⟩
      · clear hk7
        refine Ok.block ?_
        refine Ok.seq ?_
        refine Ok.region ?_
        refine OkOps.q (triQ (x := .c (.d (.v (.bool false)))) rfl trivial rfl) ?_
        refine OkOps.nil ?_
        obtain ⟨k9, hk9, hr⟩ := jn_some hr
        refine Ok.join (fun (s8 : Bool) => ⟨[(0, .s (.c (.d (.sl (List.map Shortcut.cs a0))))), (1, .s (.c (.d (.sl (List.map (eInt .i64) a1))))), (2, .s (.c (.d (.sl (List.map Chord.cs a2))))), (3, .s (.c (.d (.v (.int .i64 a3))))), (8, .s (.c (.loc 0 0))), (11, .s (.c (.d (.v (.int .i64 s3))))), (12, .s (.c (.d (.v (.bool s8)))))], [(0, .blk [.d (.v (.slice none 0 0)), .d (.v (.int .i64 0))] 42)], 0⟩) k9 r (fun s8 hr => ?_) ?_
        · rw [hk9] at hr
          refine Ok.seq ?_
          refine Ok.region ?_
          refine OkOps.q (triQ (x := .c (.d (.v (.bool s8)))) rfl trivial rfl) ?_
          refine OkOps.nil ?_
          refine Ok.cond (b := s8) rfl (fun h10 => ?_) (fun h10 => ?_)
          · have hr := selT h10 hr
            refine Ok.seq ?_
            refine Ok.region ?_
            refine OkOps.q (triQ (x := .c (.d (.sl (List.map Chord.cs a2)))) rfl trivial rfl) ?_
            refine OkOps.q (triQ (x := .c (.d (.v (.int .i64 a3)))) rfl trivial rfl) ?_
            refine OkOps.q (triQ (x := .agg [.d (.sl (List.map Chord.cs a2)), .d (.v (.int .i64 a3))]) rfl trivial rfl) ?_
            refine OkOps.w (triStore (cs' := [.d (.sl (List.map Chord.cs a2)), .d (.v (.int .i64 a3))]) rfl rfl rfl rfl rfl rfl rfl rfl rfl) ?_
            refine OkOps.q (triQ (x := .c (.d (.v (.int .i64 0)))) rfl trivial rfl) ?_
            refine OkOps.q (triQ (x := .c (.d (.v (.int .i64 1)))) rfl trivial rfl) ?_
            refine OkOps.nil ?_
            refine Ok.ret ?_
            obtain rfl := Option.some.inj hr
            exact ⟨_, rfl, .inl rfl, trivial⟩
          · have hr := selF h10 hr
            refine Ok.skip ?_
            exact ⟨(), hr, (Conv.mk (tau []) ⟨⟨_, rfl, .inl rfl⟩, ⟨_, rfl, .inl rfl⟩, ⟨_, rfl, .inl rfl⟩, ⟨_, rfl, .inl rfl⟩, ⟨_, rfl, .inl rfl⟩, ⟨_, rfl, .inl rfl⟩, trivial⟩ ⟨rfl, trivial⟩ rfl rfl rfl rfl)⟩
        · clear hk9
          refine Ok.seq ?_
          refine Ok.region ?_
          refine OkOps.q (triQ (x := .c (.d (.v (.int .i64 0)))) rfl trivial rfl) ?_
          refine OkOps.nil ?_
          refine Ok.block ?_
          refine Ok.loopK (fun (s11 : Bool × Int) => ⟨[(0, .s (.c (.d (.sl (List.map Shortcut.cs a0))))), (1, .s (.c (.d (.sl (List.map (eInt .i64) a1))))), (2, .s (.c (.d (.sl (List.map Chord.cs a2))))), (3, .s (.c (.d (.v (.int .i64 a3))))), (8, .s (.c (.loc 0 0))), (11, .s (.c (.d (.v (.int .i64 s3))))), (12, .s (.c (.d (.v (.bool s11.1))))), (13, .s (.c (.d (.v (.int .i64 s11.2)))))], [(0, .blk [.d (.v (.slice none 0 0)), .d (.v (.int .i64 0))] 42)], 0⟩) hr (Conv.mk (tau []) ⟨⟨_, rfl, .inl rfl⟩, ⟨_, rfl, .inl rfl⟩, ⟨_, rfl, .inl rfl⟩, ⟨_, rfl, .inl rfl⟩, ⟨_, rfl, .inl rfl⟩, ⟨_, rfl, .inl rfl⟩, ⟨_, rfl, .inl rfl⟩, ⟨_, rfl, .inl rfl⟩, trivial⟩ ⟨rfl, trivial⟩ rfl rfl rfl rfl) ?_
          clear hr
          intro again12 s11 hr
          unfold r32_match_L1 at hr
          refine Ok.seq ?_
          refine Ok.seq ?_
          refine Ok.region ?_
          refine OkOps.q (triQ (x := .c (.d (.v (.int .i64 s11.2)))) rfl trivial rfl) ?_
          refine OkOps.q (triQ (x := .c (.d (.sl (List.map Shortcut.cs a0)))) rfl trivial rfl) ?_
          refine OkOps.q (triLen (enc := Shortcut.cs) a0 rfl rfl trivial rfl) ?_
          refine OkOps.q (triQ (x := .c (.d (.v (.bool (decide (s11.2 < (a0.length : Int))))))) rfl trivial rfl) ?_
          refine OkOps.nil ?_
          refine Ok.cond (b := decide (s11.2 < (a0.length : Int))) rfl (fun h13 => ?_) (fun h13 => ?_)
          · have hr := selT h13 hr
            refine Ok.skip ?_
            obtain ⟨k15, hk15, hr⟩ := jn_some hr
            refine Ok.join (fun (s14 : Bool) => ⟨[(0, .s (.c (.d (.sl (List.map Shortcut.cs a0))))), (1, .s (.c (.d (.sl (List.map (eInt .i64) a1))))), (2, .s (.c (.d (.sl (List.map Chord.cs a2))))), (3, .s (.c (.d (.v (.int .i64 a3))))), (8, .s (.c (.loc 0 0))), (11, .s (.c (.d (.v (.int .i64 s3))))), (12, .s (.c (.d (.v (.bool s14))))), (13, .s (.c (.d (.v (.int .i64 s11.2)))))], [(0, .blk [.d (.v (.slice none 0 0)), .d (.v (.int .i64 0))] 42)], 0⟩) k15 r (fun s14 hr => ?_) ?_
            · rw [hk15] at hr
              refine Ok.region ?_
              refine OkOps.q (triQ (x := .c (.d (.v (.int .i64 s11.2)))) rfl trivial rfl) ?_
              refine OkOps.q (triQ (x := .c (.d (.v (.int .i64 (IntKind.i64.wrap (s11.2 + 1)))))) rfl trivial rfl) ?_
              refine OkOps.q (triQ (x := .c (.d (.v (.int .i64 (IntKind.i64.wrap (s11.2 + 1)))))) rfl trivial rfl) ?_
              refine OkOps.nil ?_
              exact ⟨(s14, IntKind.i64.wrap (s11.2 + 1)), hr, (Conv.mk (tau []) ⟨⟨_, rfl, .inl rfl⟩, ⟨_, rfl, .inl rfl⟩, ⟨_, rfl, .inl rfl⟩, ⟨_, rfl, .inl rfl⟩, ⟨_, rfl, .inl rfl⟩, ⟨_, rfl, .inl rfl⟩, ⟨_, rfl, .inl rfl⟩, ⟨_, rfl, .inl rfl⟩, trivial⟩ ⟨rfl, trivial⟩ rfl rfl rfl rfl)⟩
            · clear hk15
              refine Ok.block ?_
              refine Ok.seq ?_
              refine Ok.seq ?_
              refine Ok.regionD (by kernel_rfl) ?_
              refine OkD.q (triQ (x := .c (.d (.sl (List.map Shortcut.cs a0)))) rfl trivial rfl) ?_
              refine OkD.q (triQ (x := .c (.d (.v (.int .i64 s11.2)))) rfl trivial rfl) ?_
              obtain ⟨x16, hx16, hr⟩ := bind_some hr
              refine OkD.q (triIdx (enc := Shortcut.cs) (L := a0) (row := [.v (.int .i64 x16.Node), .v (.int .i64 x16.Scope), .sl (List.map Chord.cs x16.Keys)]) hx16 rfl rfl rfl rfl (fun _ => rfl) trivial rfl) ?_
              refine OkD.q (triQ (x := .c (.pt [.v (.int .i64 x16.Scope), .sl (List.map Chord.cs x16.Keys)])) rfl trivial rfl) ?_
              refine OkD.q (triQ (x := .c (.d (.v (.int .i64 x16.Scope)))) rfl trivial rfl) ?_
              refine OkD.q (triQ (x := .c (.d (.sl (List.map (eInt .i64) a1)))) rfl trivial rfl) ?_
              refine OkD.q (triQ (x := .c (.d (.v (.int .i64 s3)))) rfl trivial rfl) ?_
              obtain ⟨x17, hx17, hr⟩ := bind_some hr
              refine OkD.q (triIdx (enc := (eInt .i64)) (L := a1) (row := [.v (.int .i64 x17)]) hx17 rfl rfl rfl rfl (fun _ => rfl) trivial rfl) ?_
              refine OkD.q (triQ (x := .c (.d (.v (.int .i64 x17)))) rfl trivial rfl) ?_
              refine OkD.q (triQ (x := .c (.d (.v (.bool (x16.Scope != x17))))) rfl trivial rfl) ?_
              refine OkD.q (triQ (x := .c (.d (.v (.bool (x16.Scope != x17))))) rfl trivial rfl) ?_
              refine OkD.q (triQG (x := .c (.d (.sl (List.map Shortcut.cs a0)))) rfl rfl trivial rfl) ?_
              refine OkD.q (triQG (x := .c (.d (.v (.int .i64 s11.2)))) rfl rfl trivial rfl) ?_
              obtain ⟨x18, hx18, hr⟩ := bind_some hr
              refine OkD.q (triIdxG (enc := Shortcut.cs) (L := a0) (row := [.v (.int .i64 x18.Node), .v (.int .i64 x18.Scope), .sl (List.map Chord.cs x18.Keys)]) (gO_t hx18) rfl rfl rfl rfl rfl (fun _ => rfl) ⟨fun h => h, ⟨fun h => h, trivial⟩⟩ rfl) ?_
              refine OkD.q (triQG (x := .c (.pt [.sl (List.map Chord.cs x18.Keys)])) rfl rfl ⟨fun h => h, trivial⟩ rfl) ?_
              refine OkD.q (triQG (x := .c (.d (.sl (List.map Chord.cs x18.Keys)))) rfl rfl ⟨fun h => h, trivial⟩ rfl) ?_
              refine OkD.q (triQG (x := .c (.d (.sl (List.map Chord.cs a2)))) rfl rfl trivial rfl) ?_
              obtain ⟨x19, hx19, hr⟩ := bind_some hr
              refine OkD.q (triCallG (x := .c (.d (.v (.bool x19)))) (fun hg => r32_begins_c _ _ (gO_t hx19 hg)) rfl rfl ⟨.inl rfl, .inl rfl, trivial⟩ ⟨fun h => h, ⟨fun h => h, trivial⟩⟩ entry61 rfl rfl rfl) ?_
              refine OkD.q (triQG (x := .c (.d (.v (.bool (!x19))))) rfl rfl ⟨fun h => h, trivial⟩ rfl) ?_
              refine OkD.q (triOr rfl rfl (fun h => by rw [h]; rfl) rfl) ?_
              refine OkD.nil (by kernel_rfl) ?_
              refine Ok.cond (b := (x16.Scope != x17) || (!x19)) rfl (fun h20 => ?_) (fun h20 => ?_)
              · have hr := selT h20 hr
                refine Ok.exit ?_
                exact ⟨s11.1, hr, (Conv.mk (tau []) ⟨⟨_, rfl, .inl rfl⟩, ⟨_, rfl, .inl rfl⟩, ⟨_, rfl, .inl rfl⟩, ⟨_, rfl, .inl rfl⟩, ⟨_, rfl, .inl rfl⟩, ⟨_, rfl, .inl rfl⟩, ⟨_, rfl, .inl rfl⟩, ⟨_, rfl, .inl rfl⟩, trivial⟩ ⟨rfl, trivial⟩ rfl rfl rfl rfl)⟩
              · have hr := selF h20 hr
                refine Ok.skip ?_
                refine Ok.seq ?_
                refine Ok.seq ?_
                refine Ok.region ?_
                refine OkOps.q (triQ (x := .c (.d (.sl (List.map Shortcut.cs a0)))) rfl trivial rfl) ?_
                refine OkOps.q (triQ (x := .c (.d (.v (.int .i64 s11.2)))) rfl trivial rfl) ?_
                obtain ⟨x21, hx21, hr⟩ := bind_some hr
                refine OkOps.q (triIdx (enc := Shortcut.cs) (L := a0) (row := [.v (.int .i64 x21.Node), .v (.int .i64 x21.Scope), .sl (List.map Chord.cs x21.Keys)]) hx21 rfl rfl rfl rfl (fun _ => rfl) trivial rfl) ?_
                refine OkOps.q (triQ (x := .c (.pt [.sl (List.map Chord.cs x21.Keys)])) rfl trivial rfl) ?_
                refine OkOps.q (triQ (x := .c (.d (.sl (List.map Chord.cs x21.Keys)))) rfl trivial rfl) ?_
                refine OkOps.q (triLen (enc := Chord.cs) x21.Keys rfl rfl trivial rfl) ?_
                refine OkOps.q (triQ (x := .c (.d (.sl (List.map Chord.cs a2)))) rfl trivial rfl) ?_
                refine OkOps.q (triLen (enc := Chord.cs) a2 rfl rfl trivial rfl) ?_
                refine OkOps.q (triQ (x := .c (.d (.v (.bool ((x21.Keys.length : Int) == (a2.length : Int)))))) rfl trivial rfl) ?_
                refine OkOps.nil ?_
                refine Ok.cond (b := (x21.Keys.length : Int) == (a2.length : Int)) rfl (fun h22 => ?_) (fun h22 => ?_)
                · have hr := selT h22 hr
                  refine Ok.seq ?_
                  refine Ok.regionD (by kernel_rfl) ?_
                  refine OkD.q (triQ (x := .agg [.d (.v (.slice none 0 0)), .d (.v (.int .i64 0))]) rfl trivial rfl) ?_
                  refine OkD.q (triQ (x := .c (.d (.sl (List.map Shortcut.cs a0)))) rfl trivial rfl) ?_
                  refine OkD.q (triQ (x := .c (.d (.v (.int .i64 s11.2)))) rfl trivial rfl) ?_
                  obtain ⟨x23, hx23, hr⟩ := bind_some hr
                  refine OkD.q (triIdx (enc := Shortcut.cs) (L := a0) (row := [.v (.int .i64 x23.Node), .v (.int .i64 x23.Scope), .sl (List.map Chord.cs x23.Keys)]) hx23 rfl rfl rfl rfl (fun _ => rfl) trivial rfl) ?_
                  refine OkD.q (triQ (x := .c (.pt [.v (.int .i64 x23.Node), .v (.int .i64 x23.Scope), .sl (List.map Chord.cs x23.Keys)])) rfl trivial rfl) ?_
                  refine OkD.q (triQ (x := .c (.d (.v (.int .i64 x23.Node)))) rfl trivial rfl) ?_
                  refine OkD.w (triStore (cs' := [.d (.v (.slice none 0 0)), .d (.v (.int .i64 0))]) rfl rfl rfl rfl rfl rfl rfl rfl rfl) ?_
                  refine OkD.q (triQ (x := .c (.d (.v (.int .i64 x23.Node)))) rfl trivial rfl) ?_
                  refine OkD.q (triQ (x := .c (.d (.v (.int .i64 2)))) rfl trivial rfl) ?_
                  refine OkD.nil (by kernel_rfl) ?_
                  refine Ok.ret ?_
                  obtain rfl := Option.some.inj hr
                  exact ⟨_, rfl, .inr rfl, trivial⟩
                · have hr := selF h22 hr
                  refine Ok.skip ?_
                  refine Ok.region ?_
                  refine OkOps.q (triQ (x := .c (.d (.v (.bool true)))) rfl trivial rfl) ?_
                  refine OkOps.nil ?_
                  exact ⟨true, hr, (Conv.mk (tau []) ⟨⟨_, rfl, .inl rfl⟩, ⟨_, rfl, .inl rfl⟩, ⟨_, rfl, .inl rfl⟩, ⟨_, rfl, .inl rfl⟩, ⟨_, rfl, .inl rfl⟩, ⟨_, rfl, .inl rfl⟩, ⟨_, rfl, .inl rfl⟩, ⟨_, rfl, .inl rfl⟩, trivial⟩ ⟨rfl, trivial⟩ rfl rfl rfl rfl)⟩
          · have hr := selF h13 hr
            refine Ok.exit ?_
            exact ⟨s11.1, hr, (Conv.mk (tau []) ⟨⟨_, rfl, .inl rfl⟩, ⟨_, rfl, .inl rfl⟩, ⟨_, rfl, .inl rfl⟩, ⟨_, rfl, .inl rfl⟩, ⟨_, rfl, .inl rfl⟩, ⟨_, rfl, .inl rfl⟩, ⟨_, rfl, .inl rfl⟩, trivial⟩ ⟨rfl, trivial⟩ rfl rfl rfl rfl)⟩
    · have hr := selF h5 hr
      refine Ok.exit ?_
      exact ⟨(), hr, (Conv.mk (tau []) ⟨⟨_, rfl, .inl rfl⟩, trivial⟩ ⟨rfl, trivial⟩ rfl rfl rfl rfl)⟩
theorem entry59 : Entry Tryd.prog 59 := ⟨_, Tryd.func59, by kernel_rfl, by kernel_rfl⟩
theorem sc_Conflicts_c (l : (List Shortcut)) {r : (List (Int × Int))} (hr : sc_Conflicts l = some r) : Con Tryd.prog 29 [.c (.d (.sl (List.map Shortcut.cs l)))] [] (.s (.c (.d (.sl (List.map (ePair (eInt .i64)) r))))) [] := by
  unfold sc_Conflicts at hr
  refine Con.of_ok 54 0 [.tmp 2] [(0, .s (.c (.d (.sl (List.map Shortcut.cs l)))))] Tryd.func29 rfl rfl rfl rfl rfl rfl rfl rfl fun w g M ρ => ?_
  refine Ok.seq ?_
  refine Ok.region ?_
  refine OkOps.q (triQ (x := .c (.d (.v (.slice none 0 0)))) rfl trivial rfl) ?_
  refine OkOps.nil ?_
  refine Ok.seq ?_
  refine Ok.region ?_
  refine OkOps.q (triQ (x := .c (.d (.v (.slice none 0 0)))) rfl trivial rfl) ?_
  refine OkOps.nil ?_
  obtain ⟨k2, hk2, hr⟩ := jn_some hr
  refine Ok.join (fun (s1 : (List (Int × Int))) => ⟨[(3, .s (.c (.tl 1087 (List.map (ePair (eInt .i64)) s1))))], [(1087, .tail 2)], 0⟩) k2 r (fun s1 hr => ?_) ?_
  · rw [hk2] at hr
    refine Ok.seq ?_
    refine Ok.region ?_
    refine OkOps.q (triQ (x := .c (.tl 1087 (List.map (ePair (eInt .i64)) s1))) rfl trivial rfl) ?_
    refine OkOps.q (triQ (x := .c (.tl 1087 (List.map (ePair (eInt .i64)) s1))) rfl trivial rfl) ?_
    refine OkOps.nil ?_
    refine Ok.ret ?_
    obtain rfl := Option.some.inj hr
    exact ⟨_, rfl, .inr rfl, trivial⟩
  · clear hk2
    refine Ok.seq ?_
    refine Ok.region ?_
    refine OkOps.q (triQ (x := .c (.d (.sl (List.map Shortcut.cs l)))) rfl trivial rfl) ?_
    refine OkOps.q (triLen (enc := Shortcut.cs) l rfl rfl trivial rfl) ?_
    refine OkOps.q (triQ (x := .c (.d (.v (.int .i64 0)))) rfl trivial rfl) ?_
    refine OkOps.nil ?_
    refine Ok.block ?_
    refine Ok.loopK (fun (s3 : (List (Int × Int)) × Int) => ⟨[(0, .s (.c (.d (.sl (List.map Shortcut.cs l))))), (3, .s (.c (.tl 1127 (List.map (ePair (eInt .i64)) s3.1)))), (8, .s (.c (.d (.sl (List.map Shortcut.cs l))))), (9, .s (.c (.d (.v (.int .i64 (l.length : Int)))))), (10, .s (.c (.d (.v (.int .i64 s3.2)))))], [(1127, .tail 2)], 0⟩) hr (Conv.trans (Conv.nil 3 1148 2 0 rfl rfl) (Conv.mk (tau [(1127, 1148)]) ⟨⟨_, rfl, .inl rfl⟩, ⟨_, rfl, .inl rfl⟩, ⟨_, rfl, .inl rfl⟩, ⟨_, rfl, .inl rfl⟩, ⟨_, rfl, .inl rfl⟩, trivial⟩ ⟨rfl, trivial⟩ rfl rfl rfl rfl)) ?_
    clear hr
    intro again4 s3 hr
    unfold sc_Conflicts_L2 at hr
    refine Ok.seq ?_
    refine Ok.region ?_
    refine OkOps.q (triQ (x := .c (.d (.v (.bool (decide (s3.2 < (l.length : Int))))))) rfl trivial rfl) ?_
    refine OkOps.nil ?_
    refine Ok.seq ?_
    refine Ok.cond (b := decide (s3.2 < (l.length : Int))) rfl (fun h5 => ?_) (fun h5 => ?_)
    · have hr := selT h5 hr
      refine Ok.skip ?_
      obtain ⟨k7, hk7, hr⟩ := jn_some hr
      refine Ok.join (fun (s6 : (List (Int × Int))) => ⟨[(0, .s (.c (.d (.sl (List.map Shortcut.cs l))))), (3, .s (.c (.tl 1162 (List.map (ePair (eInt .i64)) s6)))), (8, .s (.c (.d (.sl (List.map Shortcut.cs l))))), (9, .s (.c (.d (.v (.int .i64 (l.length : Int)))))), (10, .s (.c (.d (.v (.int .i64 s3.2)))))], [(1162, .tail 2)], 0⟩) k7 r (fun s6 hr => ?_) ?_
      · rw [hk7] at hr
        refine Ok.region ?_
        refine OkOps.q (triQ (x := .c (.d (.v (.int .i64 (IntKind.i64.wrap (s3.2 + 1)))))) rfl trivial rfl) ?_
        refine OkOps.q (triQ (x := .c (.d (.v (.int .i64 (IntKind.i64.wrap (s3.2 + 1)))))) rfl trivial rfl) ?_
        refine OkOps.nil ?_
        exact ⟨(s6, IntKind.i64.wrap (s3.2 + 1)), hr, (Conv.mk (tau [(1127, 1162)]) ⟨⟨_, rfl, .inl rfl⟩, ⟨_, rfl, .inl rfl⟩, ⟨_, rfl, .inl rfl⟩, ⟨_, rfl, .inl rfl⟩, ⟨_, rfl, .inl rfl⟩, trivial⟩ ⟨rfl, trivial⟩ rfl rfl rfl rfl)⟩
      · clear hk7
        refine Ok.block ?_
        refine Ok.seq ?_
        refine Ok.region ?_
        refine OkOps.q (triQ (x := .c (.d (.v (.int .i64 s3.2)))) rfl trivial rfl) ?_
        obtain ⟨x8, hx8, hr⟩ := bind_some hr
        refine OkOps.q (triIdx (enc := Shortcut.cs) (L := l) (row := [.v (.int .i64 x8.Node), .v (.int .i64 x8.Scope), .sl (List.map Chord.cs x8.Keys)]) hx8 rfl rfl rfl rfl (fun _ => rfl) trivial rfl) ?_
        refine OkOps.q (triQ (x := .agg [.d (.v (.int .i64 x8.Node)), .d (.v (.int .i64 x8.Scope)), .d (.sl (List.map Chord.cs x8.Keys))]) rfl trivial rfl) ?_
        refine OkOps.m 0 (triAlloc (j := 0) (cs := [.d (.v (.int .i64 0)), .d (.v (.int .i64 0)), .d (.v (.slice none 0 0))]) rfl rfl rfl rfl) ?_
        refine OkOps.q (triQ (x := .c (.d (.v (.int .i64 s3.2)))) rfl trivial rfl) ?_
        refine OkOps.w (triStore (cs' := [.d (.v (.int .i64 x8.Node)), .d (.v (.int .i64 x8.Scope)), .d (.sl (List.map Chord.cs x8.Keys))]) rfl rfl rfl rfl rfl rfl rfl rfl rfl) ?_
        refine OkOps.nil ?_
        refine Ok.seq ?_
        refine Ok.region ?_
        refine OkOps.q (triQ (x := .c (.d (.v (.int .i64 s3.2)))) rfl trivial rfl) ?_
        refine OkOps.q (triQ (x := .c (.d (.v (.int .i64 (IntKind.i64.wrap (s3.2 + 1)))))) rfl trivial rfl) ?_
        refine OkOps.q (triQ (x := .c (.d (.v (.int .i64 (IntKind.i64.wrap (s3.2 + 1)))))) rfl trivial rfl) ?_
        refine OkOps.nil ?_
        obtain ⟨k10, hk10, hr⟩ := jn_some hr
        refine Ok.joinEnd (fun (s9 : (List (Int × Int))) => ⟨[(0, .s (.c (.d (.sl (List.map Shortcut.cs l))))), (3, .s (.c (.tl 1169 (List.map (ePair (eInt .i64)) s9)))), (8, .s (.c (.d (.sl (List.map Shortcut.cs l))))), (9, .s (.c (.d (.v (.int .i64 (l.length : Int)))))), (10, .s (.c (.d (.v (.int .i64 s3.2)))))], [(1169, .tail 2)], 0⟩) k10 r (fun s9 hr => ?_) ?_
        · rw [hk10] at hr
          exact ⟨s9, hr, (Conv.mk (tau [(1162, 1169)]) ⟨⟨_, rfl, .inl rfl⟩, ⟨_, rfl, .inl rfl⟩, ⟨_, rfl, .inl rfl⟩, ⟨_, rfl, .inl rfl⟩, ⟨_, rfl, .inl rfl⟩, trivial⟩ ⟨rfl, trivial⟩ rfl rfl rfl rfl)⟩
        · clear hk10
          refine Ok.block ?_
          refine Ok.loopK (fun (s11 : (List (Int × Int)) × Int) => ⟨[(0, .s (.c (.d (.sl (List.map Shortcut.cs l))))), (3, .s (.c (.tl 1172 (List.map (ePair (eInt .i64)) s11.1)))), (4, .s (.c (.d (.v (.int .i64 s3.2))))), (5, .s (.c (.loc 0 0))), (6, .s (.c (.d (.v (.int .i64 s11.2))))), (8, .s (.c (.d (.sl (List.map Shortcut.cs l))))), (9, .s (.c (.d (.v (.int .i64 (l.length : Int)))))), (10, .s (.c (.d (.v (.int .i64 s3.2)))))], [(0, .blk [.d (.v (.int .i64 x8.Node)), .d (.v (.int .i64 x8.Scope)), .d (.sl (List.map Chord.cs x8.Keys))] 47), (1172, .tail 2)], 0⟩) hr (Conv.mk (tau [(1172, 1127)]) ⟨⟨_, rfl, .inl rfl⟩, ⟨_, rfl, .inl rfl⟩, ⟨_, rfl, .inl rfl⟩, ⟨_, rfl, .inl rfl⟩, ⟨_, rfl, .inl rfl⟩, ⟨_, rfl, .inl rfl⟩, ⟨_, rfl, .inl rfl⟩, ⟨_, rfl, .inl rfl⟩, trivial⟩ ⟨rfl, rfl, trivial⟩ rfl rfl rfl rfl) ?_
          clear hr
          intro again12 s11 hr
          unfold sc_Conflicts_L1 at hr
          refine Ok.seq ?_
          refine Ok.seq ?_
          refine Ok.region ?_
          refine OkOps.q (triQ (x := .c (.d (.v (.int .i64 s11.2)))) rfl trivial rfl) ?_
          refine OkOps.q (triQ (x := .c (.d (.sl (List.map Shortcut.cs l)))) rfl trivial rfl) ?_
          refine OkOps.q (triLen (enc := Shortcut.cs) l rfl rfl trivial rfl) ?_
          refine OkOps.q (triQ (x := .c (.d (.v (.bool (decide (s11.2 < (l.length : Int))))))) rfl trivial rfl) ?_
          refine OkOps.nil ?_
          refine Ok.cond (b := decide (s11.2 < (l.length : Int))) rfl (fun h13 => ?_) (fun h13 => ?_)
          · have hr := selT h13 hr
            refine Ok.skip ?_
            obtain ⟨k15, hk15, hr⟩ := jn_some hr
            refine Ok.join (fun (s14 : (List (Int × Int))) => ⟨[(0, .s (.c (.d (.sl (List.map Shortcut.cs l))))), (3, .s (.c (.tl 1175 (List.map (ePair (eInt .i64)) s14)))), (4, .s (.c (.d (.v (.int .i64 s3.2))))), (5, .s (.c (.loc 0 0))), (6, .s (.c (.d (.v (.int .i64 s11.2))))), (8, .s (.c (.d (.sl (List.map Shortcut.cs l))))), (9, .s (.c (.d (.v (.int .i64 (l.length : Int)))))), (10, .s (.c (.d (.v (.int .i64 s3.2)))))], [(0, .blk [.d (.v (.int .i64 x8.Node)), .d (.v (.int .i64 x8.Scope)), .d (.sl (List.map Chord.cs x8.Keys))] 47), (1175, .tail 2)], 0⟩) k15 r (fun s14 hr => ?_) ?_
            · rw [hk15] at hr
              refine Ok.region ?_
              refine OkOps.q (triQ (x := .c (.d (.v (.int .i64 s11.2)))) rfl trivial rfl) ?_
              refine OkOps.q (triQ (x := .c (.d (.v (.int .i64 (IntKind.i64.wrap (s11.2 + 1)))))) rfl trivial rfl) ?_
              refine OkOps.q (triQ (x := .c (.d (.v (.int .i64 (IntKind.i64.wrap (s11.2 + 1)))))) rfl trivial rfl) ?_
              refine OkOps.nil ?_
              exact ⟨(s14, IntKind.i64.wrap (s11.2 + 1)), hr, (Conv.mk (tau [(1172, 1175)]) ⟨⟨_, rfl, .inl rfl⟩, ⟨_, rfl, .inl rfl⟩, ⟨_, rfl, .inl rfl⟩, ⟨_, rfl, .inl rfl⟩, ⟨_, rfl, .inl rfl⟩, ⟨_, rfl, .inl rfl⟩, ⟨_, rfl, .inl rfl⟩, ⟨_, rfl, .inl rfl⟩, trivial⟩ ⟨rfl, rfl, trivial⟩ rfl rfl rfl rfl)⟩
            · clear hk15
              refine Ok.block ?_
              refine Ok.seq ?_
              refine Ok.region ?_
              refine OkOps.q (triQ (x := .c (.d (.sl (List.map Shortcut.cs l)))) rfl trivial rfl) ?_
              refine OkOps.q (triQ (x := .c (.d (.v (.int .i64 s11.2)))) rfl trivial rfl) ?_
              obtain ⟨x16, hx16, hr⟩ := bind_some hr
              refine OkOps.q (triIdx (enc := Shortcut.cs) (L := l) (row := [.v (.int .i64 x16.Node), .v (.int .i64 x16.Scope), .sl (List.map Chord.cs x16.Keys)]) hx16 rfl rfl rfl rfl (fun _ => rfl) trivial rfl) ?_
              refine OkOps.q (triQ (x := .agg [.d (.v (.int .i64 x16.Node)), .d (.v (.int .i64 x16.Scope)), .d (.sl (List.map Chord.cs x16.Keys))]) rfl trivial rfl) ?_
              refine OkOps.m 0 (triAlloc (j := 1) (cs := [.d (.v (.int .i64 0)), .d (.v (.int .i64 0)), .d (.v (.slice none 0 0))]) rfl rfl rfl rfl) ?_
              refine OkOps.w (triStore (cs' := [.d (.v (.int .i64 x16.Node)), .d (.v (.int .i64 x16.Scope)), .d (.sl (List.map Chord.cs x16.Keys))]) rfl rfl rfl rfl rfl rfl rfl rfl rfl) ?_
              refine OkOps.nil ?_
              refine Ok.seq ?_
              refine Ok.region ?_
              refine OkOps.q (triQ (x := .c (.loc 0 1)) rfl trivial rfl) ?_
              refine OkOps.q (triQ (x := .c (.d (.v (.int .i64 x8.Scope)))) rfl trivial rfl) ?_
              refine OkOps.q (triQ (x := .c (.loc 1 1)) rfl trivial rfl) ?_
              refine OkOps.q (triQ (x := .c (.d (.v (.int .i64 x16.Scope)))) rfl trivial rfl) ?_
              refine OkOps.q (triQ (x := .c (.d (.v (.bool (x8.Scope == x16.Scope))))) rfl trivial rfl) ?_
              refine OkOps.q (triQ (x := .c (.d (.v (.bool (x8.Scope == x16.Scope))))) rfl trivial rfl) ?_
              refine OkOps.q (triQG (x := .c (.loc 0 2)) rfl rfl trivial rfl) ?_
              refine OkOps.q (triQG (x := .c (.d (.sl (List.map Chord.cs x8.Keys)))) rfl rfl ⟨fun h => h, trivial⟩ rfl) ?_
              refine OkOps.q (triQG (x := .c (.loc 1 2)) rfl rfl trivial rfl) ?_
              refine OkOps.q (triQG (x := .c (.d (.sl (List.map Chord.cs x16.Keys)))) rfl rfl ⟨fun h => h, trivial⟩ rfl) ?_
              obtain ⟨x17, hx17, hr⟩ := bind_some hr
              refine OkOps.q (triCallG (x := .c (.d (.v (.bool x17)))) (fun hg => sc_begins_c _ _ (gO_t hx17 hg)) rfl rfl ⟨.inl rfl, .inl rfl, trivial⟩ ⟨fun h => h, ⟨fun h => h, trivial⟩⟩ entry60 rfl rfl rfl) ?_
              refine OkOps.q (triQG (x := .c (.d (.v (.bool x17)))) rfl rfl ⟨fun h => h, trivial⟩ rfl) ?_
              refine OkOps.q (triQG (x := .c (.loc 1 2)) rfl rfl trivial rfl) ?_
              refine OkOps.q (triQG (x := .c (.d (.sl (List.map Chord.cs x16.Keys)))) rfl rfl ⟨fun h => h, trivial⟩ rfl) ?_
              refine OkOps.q (triQG (x := .c (.loc 0 2)) rfl rfl trivial rfl) ?_
              refine OkOps.q (triQG (x := .c (.d (.sl (List.map Chord.cs x8.Keys)))) rfl rfl ⟨fun h => h, trivial⟩ rfl) ?_
              obtain ⟨x18, hx18, hr⟩ := bind_some hr
              refine OkOps.q (triCallG (x := .c (.d (.v (.bool x18)))) (fun hg => sc_begins_c _ _ (gO_t hx18 hg)) rfl rfl ⟨.inl rfl, .inl rfl, trivial⟩ ⟨fun h => h, ⟨fun h => h, trivial⟩⟩ entry60 rfl rfl rfl) ?_
              refine OkOps.q (triOrG rfl rfl rfl (fun h => h) (fun h h2 => by rw [h, h2]; rfl) rfl) ?_
              refine OkOps.q (triAnd rfl rfl (fun h => h) rfl) ?_
              refine OkOps.nil ?_
              refine Ok.cond (b := (x8.Scope == x16.Scope) && (x17 || x18)) rfl (fun h19 => ?_) (fun h19 => ?_)
              · have hr := selT h19 hr
                refine Ok.region ?_
                refine OkOps.q (triQ (x := .c (.tl 1172 (List.map (ePair (eInt .i64)) s11.1))) rfl trivial rfl) ?_
                refine OkOps.q (triQ (x := .c (.d (.v (.int .i64 s3.2)))) rfl trivial rfl) ?_
                refine OkOps.q (triQ (x := .c (.d (.v (.int .i64 s11.2)))) rfl trivial rfl) ?_
                refine OkOps.q (triQ (x := .agg [.d (.v (.int .i64 s3.2)), .d (.v (.int .i64 s11.2))]) rfl trivial rfl) ?_
                refine OkOps.m 0 (triBST (sz := 2) (enc := (ePair (eInt .i64))) (j := 2) ([(s3.2, s11.2)]) rfl rfl rfl rfl rfl rfl rfl rfl (fun _ => rfl) trivial rfl rfl) ?_
                obtain ⟨x20, hx20, hr⟩ := bind_some hr
                refine OkOps.m2 0 (triApp (enc := (ePair (eInt .i64))) (L := s11.1) (X := [(s3.2, s11.2)]) (j := 1172) (j' := 3) hx20 rfl rfl rfl rfl rfl rfl (fun _ => rfl) (fun _ => rfl) (by decide) trivial rfl rfl) ?_
                refine OkOps.q (triQ (x := .c (.tl 3 (List.map (ePair (eInt .i64)) x20))) rfl trivial rfl) ?_
                refine OkOps.nil ?_
                exact ⟨x20, hr, (Conv.mk (tau [(1175, 3)]) ⟨⟨_, rfl, .inl rfl⟩, ⟨_, rfl, .inl rfl⟩, ⟨_, rfl, .inl rfl⟩, ⟨_, rfl, .inl rfl⟩, ⟨_, rfl, .inl rfl⟩, ⟨_, rfl, .inl rfl⟩, ⟨_, rfl, .inl rfl⟩, ⟨_, rfl, .inl rfl⟩, trivial⟩ ⟨rfl, rfl, trivial⟩ rfl rfl rfl rfl)⟩
              · have hr := selF h19 hr
                refine Ok.skip ?_
                exact ⟨s11.1, hr, (Conv.mk (tau [(1175, 1172)]) ⟨⟨_, rfl, .inl rfl⟩, ⟨_, rfl, .inl rfl⟩, ⟨_, rfl, .inl rfl⟩, ⟨_, rfl, .inl rfl⟩, ⟨_, rfl, .inl rfl⟩, ⟨_, rfl, .inl rfl⟩, ⟨_, rfl, .inl rfl⟩, ⟨_, rfl, .inl rfl⟩, trivial⟩ ⟨rfl, rfl, trivial⟩ rfl rfl rfl rfl)⟩
          · have hr := selF h13 hr
            refine Ok.exit ?_
            exact ⟨s11.1, hr, (Conv.mk (tau [(1169, 1172)]) ⟨⟨_, rfl, .inl rfl⟩, ⟨_, rfl, .inl rfl⟩, ⟨_, rfl, .inl rfl⟩, ⟨_, rfl, .inl rfl⟩, ⟨_, rfl, .inl rfl⟩, trivial⟩ ⟨rfl, trivial⟩ rfl rfl rfl rfl)⟩
    · have hr := selF h5 hr
      refine Ok.exit ?_
      exact ⟨s3.1, hr, (Conv.mk (tau [(1087, 1127)]) ⟨⟨_, rfl, .inl rfl⟩, trivial⟩ ⟨rfl, trivial⟩ rfl rfl rfl rfl)⟩
theorem entry29 : Entry Tryd.prog 29 := ⟨_, Tryd.func29, by kernel_rfl, by kernel_rfl⟩
theorem r32_Conflicts_c (l : (List Shortcut)) {r : (List (Int × Int))} (hr : r32_Conflicts l = some r) : Con Tryd.prog 30 [.c (.d (.sl (List.map Shortcut.cs l)))] [] (.s (.c (.d (.sl (List.map (ePair (eInt .i64)) r))))) [] := by
  unfold r32_Conflicts at hr
  refine Con.of_ok 64 0 [.tmp 2] [(0, .s (.c (.d (.sl (List.map Shortcut.cs l)))))] Tryd.func30 rfl rfl rfl rfl rfl rfl rfl rfl fun w g M ρ => ?_
  refine Ok.seq ?_
  refine Ok.region ?_
  refine OkOps.q (triQ (x := .c (.d (.v (.slice none 0 0)))) rfl trivial rfl) ?_
  refine OkOps.nil ?_
  refine Ok.seq ?_
  refine Ok.region ?_
  refine OkOps.q (triQ (x := .c (.d (.v (.slice none 0 0)))) rfl trivial rfl) ?_
  refine OkOps.nil ?_
  obtain ⟨k2, hk2, hr⟩ := jn_some hr
  refine Ok.join (fun (s1 : (List (Int × Int))) => ⟨[(3, .s (.c (.tl 1087 (List.map (ePair (eInt .i64)) s1))))], [(1087, .tail 2)], 0⟩) k2 r (fun s1 hr => ?_) ?_
  · rw [hk2] at hr
    refine Ok.seq ?_
    refine Ok.region ?_
    refine OkOps.q (triQ (x := .c (.tl 1087 (List.map (ePair (eInt .i64)) s1))) rfl trivial rfl) ?_
    refine OkOps.q (triQ (x := .c (.tl 1087 (List.map (ePair (eInt .i64)) s1))) rfl trivial rfl) ?_
    refine OkOps.nil ?_
    refine Ok.ret ?_
    obtain rfl := Option.some.inj hr
    exact ⟨_, rfl, .inr rfl, trivial⟩
  · clear hk2
    refine Ok.seq ?_
    refine Ok.region ?_
    refine OkOps.q (triQ (x := .c (.d (.v (.int .i64 0)))) rfl trivial rfl) ?_
    refine OkOps.nil ?_
    refine Ok.block ?_
    refine Ok.loopK (fun (s3 : (List (Int × Int)) × Int) => ⟨[(0, .s (.c (.d (.sl (List.map Shortcut.cs l))))), (3, .s (.c (.tl 1127 (List.map (ePair (eInt .i64)) s3.1)))), (4, .s (.c (.d (.v (.int .i64 s3.2)))))], [(1127, .tail 2)], 0⟩) hr (Conv.trans (Conv.nil 3 1148 2 0 rfl rfl) (Conv.mk (tau [(1127, 1148)]) ⟨⟨_, rfl, .inl rfl⟩, ⟨_, rfl, .inl rfl⟩, ⟨_, rfl, .inl rfl⟩, trivial⟩ ⟨rfl, trivial⟩ rfl rfl rfl rfl)) ?_
    clear hr
    intro again4 s3 hr
    unfold r32_Conflicts_L2 at hr
    refine Ok.seq ?_
    refine Ok.seq ?_
    refine Ok.region ?_
    refine OkOps.q (triQ (x := .c (.d (.v (.int .i64 s3.2)))) rfl trivial rfl) ?_
    refine OkOps.q (triQ (x := .c (.d (.sl (List.map Shortcut.cs l)))) rfl trivial rfl) ?_
    refine OkOps.q (triLen (enc := Shortcut.cs) l rfl rfl trivial rfl) ?_
    refine OkOps.q (triQ (x := .c (.d (.v (.bool (decide (s3.2 < (l.length : Int))))))) rfl trivial rfl) ?_
    refine OkOps.nil ?_
    refine Ok.cond (b := decide (s3.2 < (l.length : Int))) rfl (fun h5 => ?_) (fun h5 => ?_)
    · have hr := selT h5 hr
      refine Ok.skip ?_
      obtain ⟨k7, hk7, hr⟩ := jn_some hr
      refine Ok.join (fun (s6 : (List (Int × Int))) => ⟨[(0, .s (.c (.d (.sl (List.map Shortcut.cs l))))), (3, .s (.c (.tl 1162 (List.map (ePair (eInt .i64)) s6)))), (4, .s (.c (.d (.v (.int .i64 s3.2)))))], [(1162, .tail 2)], 0⟩) k7 r (fun s6 hr => ?_) ?_
      · rw [hk7] at hr
        refine Ok.region ?_
        refine OkOps.q (triQ (x := .c (.d (.v (.int .i64 s3.2)))) rfl trivial rfl) ?_
        refine OkOps.q (triQ (x := .c (.d (.v (.int .i64 (IntKind.i64.wrap (s3.2 + 1)))))) rfl trivial rfl) ?_
        refine OkOps.q (triQ (x := .c (.d (.v (.int .i64 (IntKind.i64.wrap (s3.2 + 1)))))) rfl trivial rfl) ?_
        refine OkOps.nil ?_
        exact ⟨(s6, IntKind.i64.wrap (s3.2 + 1)), hr, (Conv.mk (tau [(1127, 1162)]) ⟨⟨_, rfl, .inl rfl⟩, ⟨_, rfl, .inl rfl⟩, ⟨_, rfl, .inl rfl⟩, trivial⟩ ⟨rfl, trivial⟩ rfl rfl rfl rfl)⟩
      · clear hk7
        refine Ok.block ?_
        refine Ok.seq ?_
        refine Ok.region ?_
        refine OkOps.q (triQ (x := .c (.d (.v (.int .i64 s3.2)))) rfl trivial rfl) ?_
        refine OkOps.q (triQ (x := .c (.d (.v (.int .i64 (IntKind.i64.wrap (s3.2 + 1)))))) rfl trivial rfl) ?_
        refine OkOps.q (triQ (x := .c (.d (.v (.int .i64 (IntKind.i64.wrap (s3.2 + 1)))))) rfl trivial rfl) ?_
        refine OkOps.nil ?_
        obtain ⟨k9, hk9, hr⟩ := jn_some hr
        refine Ok.joinEnd (fun (s8 : (List (Int × Int))) => ⟨[(0, .s (.c (.d (.sl (List.map Shortcut.cs l))))), (3, .s (.c (.tl 1169 (List.map (ePair (eInt .i64)) s8)))), (4, .s (.c (.d (.v (.int .i64 s3.2)))))], [(1169, .tail 2)], 0⟩) k9 r (fun s8 hr => ?_) ?_
        · rw [hk9] at hr
          exact ⟨s8, hr, (Conv.mk (tau [(1162, 1169)]) ⟨⟨_, rfl, .inl rfl⟩, ⟨_, rfl, .inl rfl⟩, ⟨_, rfl, .inl rfl⟩, trivial⟩ ⟨rfl, trivial⟩ rfl rfl rfl rfl)⟩
        · clear hk9
          refine Ok.block ?_
          refine Ok.loopK (fun (s10 : (List (Int × Int)) × Int) => ⟨[(0, .s (.c (.d (.sl (List.map Shortcut.cs l))))), (3, .s (.c (.tl 1172 (List.map (ePair (eInt .i64)) s10.1)))), (4, .s (.c (.d (.v (.int .i64 s3.2))))), (5, .s (.c (.d (.v (.int .i64 s10.2)))))], [(1172, .tail 2)], 0⟩) hr (Conv.mk (tau [(1172, 1127)]) ⟨⟨_, rfl, .inl rfl⟩, ⟨_, rfl, .inl rfl⟩, ⟨_, rfl, .inl rfl⟩, ⟨_, rfl, .inl rfl⟩, trivial⟩ ⟨rfl, trivial⟩ rfl rfl rfl rfl) ?_
          clear hr
          intro again11 s10 hr
          unfold r32_Conflicts_L1 at hr
          refine Ok.seq ?_
          refine Ok.seq ?_
          refine Ok.region ?_
          refine OkOps.q (triQ (x := .c (.d (.v (.int .i64 s10.2)))) rfl trivial rfl) ?_
          refine OkOps.q (triQ (x := .c (.d (.sl (List.map Shortcut.cs l)))) rfl trivial rfl) ?_
          refine OkOps.q (triLen (enc := Shortcut.cs) l rfl rfl trivial rfl) ?_
          refine OkOps.q (triQ (x := .c (.d (.v (.bool (decide (s10.2 < (l.length : Int))))))) rfl trivial rfl) ?_
          refine OkOps.nil ?_
          refine Ok.cond (b := decide (s10.2 < (l.length : Int))) rfl (fun h12 => ?_) (fun h12 => ?_)
          · have hr := selT h12 hr
            refine Ok.skip ?_
            obtain ⟨k14, hk14, hr⟩ := jn_some hr
            refine Ok.join (fun (s13 : (List (Int × Int))) => ⟨[(0, .s (.c (.d (.sl (List.map Shortcut.cs l))))), (3, .s (.c (.tl 1175 (List.map (ePair (eInt .i64)) s13)))), (4, .s (.c (.d (.v (.int .i64 s3.2))))), (5, .s (.c (.d (.v (.int .i64 s10.2)))))], [(1175, .tail 2)], 0⟩) k14 r (fun s13 hr => ?_) ?_
            · rw [hk14] at hr
              refine Ok.region ?_
              refine OkOps.q (triQ (x := .c (.d (.v (.int .i64 s10.2)))) rfl trivial rfl) ?_
              refine OkOps.q (triQ (x := .c (.d (.v (.int .i64 (IntKind.i64.wrap (s10.2 + 1)))))) rfl trivial rfl) ?_
              refine OkOps.q (triQ (x := .c (.d (.v (.int .i64 (IntKind.i64.wrap (s10.2 + 1)))))) rfl trivial rfl) ?_
              refine OkOps.nil ?_
              exact ⟨(s13, IntKind.i64.wrap (s10.2 + 1)), hr, (Conv.mk (tau [(1172, 1175)]) ⟨⟨_, rfl, .inl rfl⟩, ⟨_, rfl, .inl rfl⟩, ⟨_, rfl, .inl rfl⟩, ⟨_, rfl, .inl rfl⟩, trivial⟩ ⟨rfl, trivial⟩ rfl rfl rfl rfl)⟩
            · clear hk14
              refine Ok.block ?_
              refine Ok.seq ?_
              refine Ok.regionD (by kernel_rfl) ?_
              refine OkD.q (triQ (x := .c (.d (.sl (List.map Shortcut.cs l)))) rfl trivial rfl) ?_
              refine OkD.q (triQ (x := .c (.d (.v (.int .i64 s3.2)))) rfl trivial rfl) ?_
              obtain ⟨x15, hx15, hr⟩ := bind_some hr
              refine OkD.q (triIdx (enc := Shortcut.cs) (L := l) (row := [.v (.int .i64 x15.Node), .v (.int .i64 x15.Scope), .sl (List.map Chord.cs x15.Keys)]) hx15 rfl rfl rfl rfl (fun _ => rfl) trivial rfl) ?_
              refine OkD.q (triQ (x := .c (.pt [.v (.int .i64 x15.Scope), .sl (List.map Chord.cs x15.Keys)])) rfl trivial rfl) ?_
              refine OkD.q (triQ (x := .c (.d (.v (.int .i64 x15.Scope)))) rfl trivial rfl) ?_
              refine OkD.q (triQ (x := .c (.d (.sl (List.map Shortcut.cs l)))) rfl trivial rfl) ?_
              refine OkD.q (triQ (x := .c (.d (.v (.int .i64 s10.2)))) rfl trivial rfl) ?_
              obtain ⟨x16, hx16, hr⟩ := bind_some hr
              refine OkD.q (triIdx (enc := Shortcut.cs) (L := l) (row := [.v (.int .i64 x16.Node), .v (.int .i64 x16.Scope), .sl (List.map Chord.cs x16.Keys)]) hx16 rfl rfl rfl rfl (fun _ => rfl) trivial rfl) ?_
              refine OkD.q (triQ (x := .c (.pt [.v (.int .i64 x16.Scope), .sl (List.map Chord.cs x16.Keys)])) rfl trivial rfl) ?_
              refine OkD.q (triQ (x := .c (.d (.v (.int .i64 x16.Scope)))) rfl trivial rfl) ?_
              refine OkD.q (triQ (x := .c (.d (.v (.bool (x15.Scope == x16.Scope))))) rfl trivial rfl) ?_
              refine OkD.q (triQ (x := .c (.d (.v (.bool (x15.Scope == x16.Scope))))) rfl trivial rfl) ?_
              refine OkD.q (triQG (x := .c (.d (.sl (List.map Shortcut.cs l)))) rfl rfl trivial rfl) ?_
              refine OkD.q (triQG (x := .c (.d (.v (.int .i64 s3.2)))) rfl rfl trivial rfl) ?_
              obtain ⟨x17, hx17, hr⟩ := bind_some hr
              refine OkD.q (triIdxG (enc := Shortcut.cs) (L := l) (row := [.v (.int .i64 x17.Node), .v (.int .i64 x17.Scope), .sl (List.map Chord.cs x17.Keys)]) (gO_t hx17) rfl rfl rfl rfl rfl (fun _ => rfl) ⟨fun h => h, ⟨fun h => h, trivial⟩⟩ rfl) ?_
              refine OkD.q (triQG (x := .c (.pt [.sl (List.map Chord.cs x17.Keys)])) rfl rfl ⟨fun h => h, trivial⟩ rfl) ?_
              refine OkD.q (triQG (x := .c (.d (.sl (List.map Chord.cs x17.Keys)))) rfl rfl ⟨fun h => h, trivial⟩ rfl) ?_
              refine OkD.q (triQG (x := .c (.d (.sl (List.map Shortcut.cs l)))) rfl rfl trivial rfl) ?_
              refine OkD.q (triQG (x := .c (.d (.v (.int .i64 s10.2)))) rfl rfl trivial rfl) ?_
              obtain ⟨x18, hx18, hr⟩ := bind_some hr
              refine OkD.q (triIdxG (enc := Shortcut.cs) (L := l) (row := [.v (.int .i64 x18.Node), .v (.int .i64 x18.Scope), .sl (List.map Chord.cs x18.Keys)]) (gO_t hx18) rfl rfl rfl rfl rfl (fun _ => rfl) ⟨fun h => h, ⟨fun h => h, trivial⟩⟩ rfl) ?_
              refine OkD.q (triQG (x := .c (.pt [.sl (List.map Chord.cs x18.Keys)])) rfl rfl ⟨fun h => h, trivial⟩ rfl) ?_
              refine OkD.q (triQG (x := .c (.d (.sl (List.map Chord.cs x18.Keys)))) rfl rfl ⟨fun h => h, trivial⟩ rfl) ?_
              obtain ⟨x19, hx19, hr⟩ := bind_some hr
              refine OkD.q (triCallG (x := .c (.d (.v (.bool x19)))) (fun hg => r32_begins_c _ _ (gO_t hx19 hg)) rfl rfl ⟨.inl rfl, .inl rfl, trivial⟩ ⟨fun h => h, ⟨fun h => h, trivial⟩⟩ entry61 rfl rfl rfl) ?_
              refine OkD.q (triQG (x := .c (.d (.v (.bool x19)))) rfl rfl ⟨fun h => h, trivial⟩ rfl) ?_
              refine OkD.q (triQG (x := .c (.d (.sl (List.map Shortcut.cs l)))) rfl rfl trivial rfl) ?_
              refine OkD.q (triQG (x := .c (.d (.v (.int .i64 s10.2)))) rfl rfl trivial rfl) ?_
              obtain ⟨x20, hx20, hr⟩ := bind_some hr
              refine OkD.q (triIdxG (enc := Shortcut.cs) (L := l) (row := [.v (.int .i64 x20.Node), .v (.int .i64 x20.Scope), .sl (List.map Chord.cs x20.Keys)]) (gO_t hx20) rfl rfl rfl rfl rfl (fun _ => rfl) ⟨fun h => h, ⟨fun h => h, trivial⟩⟩ rfl) ?_
              refine OkD.q (triQG (x := .c (.pt [.sl (List.map Chord.cs x20.Keys)])) rfl rfl ⟨fun h => h, trivial⟩ rfl) ?_
              refine OkD.q (triQG (x := .c (.d (.sl (List.map Chord.cs x20.Keys)))) rfl rfl ⟨fun h => h, trivial⟩ rfl) ?_
              refine OkD.q (triQG (x := .c (.d (.sl (List.map Shortcut.cs l)))) rfl rfl trivial rfl) ?_
              refine OkD.q (triQG (x := .c (.d (.v (.int .i64 s3.2)))) rfl rfl trivial rfl) ?_
              obtain ⟨x21, hx21, hr⟩ := bind_some hr
              refine OkD.q (triIdxG (enc := Shortcut.cs) (L := l) (row := [.v (.int .i64 x21.Node), .v (.int .i64 x21.Scope), .sl (List.map Chord.cs x21.Keys)]) (gO_t hx21) rfl rfl rfl rfl rfl (fun _ => rfl) ⟨fun h => h, ⟨fun h => h, trivial⟩⟩ rfl) ?_
              refine OkD.q (triQG (x := .c (.pt [.sl (List.map Chord.cs x21.Keys)])) rfl rfl ⟨fun h => h, trivial⟩ rfl) ?_
              refine OkD.q (triQG (x := .c (.d (.sl (List.map Chord.cs x21.Keys)))) rfl rfl ⟨fun h => h, trivial⟩ rfl) ?_
              obtain ⟨x22, hx22, hr⟩ := bind_some hr
              refine OkD.q (triCallG (x := .c (.d (.v (.bool x22)))) (fun hg => r32_begins_c _ _ (gO_t hx22 hg)) rfl rfl ⟨.inl rfl, .inl rfl, trivial⟩ ⟨fun h => h, ⟨fun h => h, trivial⟩⟩ entry61 rfl rfl rfl) ?_
              refine OkD.q (triOrG rfl rfl rfl (fun h => h) (fun h h2 => by rw [h, h2]; rfl) rfl) ?_
              refine OkD.q (triAnd rfl rfl (fun h => h) rfl) ?_
              refine OkD.nil (by kernel_rfl) ?_
              refine Ok.cond (b := (x15.Scope == x16.Scope) && (x19 || x22)) rfl (fun h23 => ?_) (fun h23 => ?_)
              · have hr := selT h23 hr
                refine Ok.region ?_
                refine OkOps.q (triQ (x := .c (.tl 1172 (List.map (ePair (eInt .i64)) s10.1))) rfl trivial rfl) ?_
                refine OkOps.q (triQ (x := .c (.d (.v (.int .i64 s3.2)))) rfl trivial rfl) ?_
                refine OkOps.q (triQ (x := .c (.d (.v (.int .i64 s10.2)))) rfl trivial rfl) ?_
                refine OkOps.q (triQ (x := .agg [.d (.v (.int .i64 s3.2)), .d (.v (.int .i64 s10.2))]) rfl trivial rfl) ?_
                refine OkOps.m 0 (triBST (sz := 2) (enc := (ePair (eInt .i64))) (j := 0) ([(s3.2, s10.2)]) rfl rfl rfl rfl rfl rfl rfl rfl (fun _ => rfl) trivial rfl rfl) ?_
                obtain ⟨x24, hx24, hr⟩ := bind_some hr
                refine OkOps.m2 0 (triApp (enc := (ePair (eInt .i64))) (L := s10.1) (X := [(s3.2, s10.2)]) (j := 1172) (j' := 1) hx24 rfl rfl rfl rfl rfl rfl (fun _ => rfl) (fun _ => rfl) (by decide) trivial rfl rfl) ?_
                refine OkOps.q (triQ (x := .c (.tl 1 (List.map (ePair (eInt .i64)) x24))) rfl trivial rfl) ?_
                refine OkOps.nil ?_
                exact ⟨x24, hr, (Conv.mk (tau [(1175, 1)]) ⟨⟨_, rfl, .inl rfl⟩, ⟨_, rfl, .inl rfl⟩, ⟨_, rfl, .inl rfl⟩, ⟨_, rfl, .inl rfl⟩, trivial⟩ ⟨rfl, trivial⟩ rfl rfl rfl rfl)⟩
              · have hr := selF h23 hr
                refine Ok.skip ?_
                exact ⟨s10.1, hr, (Conv.mk (tau [(1175, 1172)]) ⟨⟨_, rfl, .inl rfl⟩, ⟨_, rfl, .inl rfl⟩, ⟨_, rfl, .inl rfl⟩, ⟨_, rfl, .inl rfl⟩, trivial⟩ ⟨rfl, trivial⟩ rfl rfl rfl rfl)⟩
          · have hr := selF h12 hr
            refine Ok.exit ?_
            exact ⟨s10.1, hr, (Conv.mk (tau [(1169, 1172)]) ⟨⟨_, rfl, .inl rfl⟩, ⟨_, rfl, .inl rfl⟩, ⟨_, rfl, .inl rfl⟩, trivial⟩ ⟨rfl, trivial⟩ rfl rfl rfl rfl)⟩
    · have hr := selF h5 hr
      refine Ok.exit ?_
      exact ⟨s3.1, hr, (Conv.mk (tau [(1087, 1127)]) ⟨⟨_, rfl, .inl rfl⟩, trivial⟩ ⟨rfl, trivial⟩ rfl rfl rfl rfl)⟩
theorem entry30 : Entry Tryd.prog 30 := ⟨_, Tryd.func30, by kernel_rfl, by kernel_rfl⟩
theorem l32_samePairs_c (a : (List (Int × Int))) (b : (List (Int × Int))) {r : Bool} (hr : l32_samePairs a b = some r) : Con Tryd.prog 28 [.c (.d (.sl (List.map (ePair (eInt .i64)) a))), .c (.d (.sl (List.map (ePair (eInt .i64)) b)))] [] (.s (.c (.d (.v (.bool r))))) [] := by
  unfold l32_samePairs at hr
  refine Con.of_ok 26 0 [.tmp 4] [(0, .s (.c (.d (.sl (List.map (ePair (eInt .i64)) a))))), (1, .s (.c (.d (.sl (List.map (ePair (eInt .i64)) b)))))] Tryd.func28 rfl rfl rfl rfl rfl rfl rfl rfl fun w g M ρ => ?_
  refine Ok.seq ?_
  refine Ok.region ?_
  refine OkOps.q (triQ (x := .c (.d (.v (.bool false)))) rfl trivial rfl) ?_
  refine OkOps.nil ?_
  refine Ok.seq ?_
  refine Ok.seq ?_
  refine Ok.region ?_
  refine OkOps.q (triQ (x := .c (.d (.sl (List.map (ePair (eInt .i64)) a)))) rfl trivial rfl) ?_
  refine OkOps.q (triLen (enc := (ePair (eInt .i64))) a rfl rfl trivial rfl) ?_
  refine OkOps.q (triQ (x := .c (.d (.sl (List.map (ePair (eInt .i64)) b)))) rfl trivial rfl) ?_
  refine OkOps.q (triLen (enc := (ePair (eInt .i64))) b rfl rfl trivial rfl) ?_
  refine OkOps.q (triQ (x := .c (.d (.v (.bool ((a.length : Int) != (b.length : Int)))))) rfl trivial rfl) ?_
  refine OkOps.nil ?_
  refine Ok.cond (b := (a.length : Int) != (b.length : Int)) rfl (fun h1 => ?_) (fun h1 => ?_)
  · have hr := selT h1 hr
    refine Ok.seq ?_
    refine Ok.region ?_
    refine OkOps.q (triQ (x := .c (.d (.v (.bool false)))) rfl trivial rfl) ?_
    refine OkOps.nil ?_
    refine Ok.ret ?_
    obtain rfl := Option.some.inj hr
    exact ⟨_, rfl, .inl rfl, trivial⟩
  · have hr := selF h1 hr
    refine Ok.skip ?_
    obtain ⟨k3, hk3, hr⟩ := jn_some hr
    refine Ok.join (fun (s2 : Unit) => ⟨[], [], 0⟩) k3 r (fun s2 hr => ?_) ?_
    · rw [hk3] at hr
      refine Ok.seq ?_
      refine Ok.region ?_
      refine OkOps.q (triQ (x := .c (.d (.v (.bool true)))) rfl trivial rfl) ?_
      refine OkOps.nil ?_
      refine Ok.ret ?_
      obtain rfl := Option.some.inj hr
      exact ⟨_, rfl, .inl rfl, trivial⟩
    · clear hk3
      refine Ok.seq ?_
      refine Ok.region ?_
      refine OkOps.q (triQ (x := .c (.d (.v (.int .i64 0)))) rfl trivial rfl) ?_
      refine OkOps.nil ?_
      refine Ok.block ?_
      refine Ok.loopK (fun (s4 : Int) => ⟨[(0, .s (.c (.d (.sl (List.map (ePair (eInt .i64)) a))))), (1, .s (.c (.d (.sl (List.map (ePair (eInt .i64)) b))))), (5, .s (.c (.d (.v (.int .i64 s4)))))], [], 0⟩) hr (Conv.mk (tau []) ⟨⟨_, rfl, .inl rfl⟩, ⟨_, rfl, .inl rfl⟩, ⟨_, rfl, .inl rfl⟩, trivial⟩ trivial rfl rfl rfl rfl) ?_
      clear hr
      intro again5 s4 hr
      unfold l32_samePairs_L1 at hr
      refine Ok.seq ?_
      refine Ok.seq ?_
      refine Ok.region ?_
      refine OkOps.q (triQ (x := .c (.d (.v (.int .i64 s4)))) rfl trivial rfl) ?_
      refine OkOps.q (triQ (x := .c (.d (.sl (List.map (ePair (eInt .i64)) a)))) rfl trivial rfl) ?_
      refine OkOps.q (triLen (enc := (ePair (eInt .i64))) a rfl rfl trivial rfl) ?_
      refine OkOps.q (triQ (x := .c (.d (.v (.bool (decide (s4 < (a.length : Int))))))) rfl trivial rfl) ?_
      refine OkOps.nil ?_
      refine Ok.cond (b := decide (s4 < (a.length : Int))) rfl (fun h6 => ?_) (fun h6 => ?_)
      · have hr := selT h6 hr
        refine Ok.skip ?_
        refine Ok.seq ?_
        refine Ok.block ?_
        refine Ok.seq ?_
        refine Ok.regionD (by kernel_rfl) ?_
        refine OkD.q (triQ (x := .c (.d (.sl (List.map (ePair (eInt .i64)) a)))) rfl trivial rfl) ?_
        refine OkD.q (triQ (x := .c (.d (.v (.int .i64 s4)))) rfl trivial rfl) ?_
        obtain ⟨x7, hx7, hr⟩ := bind_some hr
        refine OkD.q (triIdx (enc := (ePair (eInt .i64))) (L := a) (row := [.v (.int .i64 x7.1), .v (.int .i64 x7.2)]) hx7 rfl rfl rfl rfl (fun _ => rfl) trivial rfl) ?_
        refine OkD.q (triQ (x := .agg [.d (.v (.int .i64 x7.1)), .d (.v (.int .i64 x7.2))]) rfl trivial rfl) ?_
        refine OkD.q (triQ (x := .c (.d (.sl (List.map (ePair (eInt .i64)) b)))) rfl trivial rfl) ?_
        refine OkD.q (triQ (x := .c (.d (.v (.int .i64 s4)))) rfl trivial rfl) ?_
        obtain ⟨x8, hx8, hr⟩ := bind_some hr
        refine OkD.q (triIdx (enc := (ePair (eInt .i64))) (L := b) (row := [.v (.int .i64 x8.1), .v (.int .i64 x8.2)]) hx8 rfl rfl rfl rfl (fun _ => rfl) trivial rfl) ?_
        refine OkD.q (triQ (x := .agg [.d (.v (.int .i64 x8.1)), .d (.v (.int .i64 x8.2))]) rfl trivial rfl) ?_
        refine OkD.q (triNeA rfl rfl eqok118 trivial rfl) ?_
        refine OkD.nil (by kernel_rfl) ?_
        refine Ok.cond (b := !((x7.1 == x8.1) && (x7.2 == x8.2))) rfl (fun h9 => ?_) (fun h9 => ?_)
        · have hr := selT h9 hr
          refine Ok.seq ?_
          refine Ok.region ?_
          refine OkOps.q (triQ (x := .c (.d (.v (.bool false)))) rfl trivial rfl) ?_
          refine OkOps.nil ?_
          refine Ok.ret ?_
          obtain rfl := Option.some.inj hr
          exact ⟨_, rfl, .inl rfl, trivial⟩
        · have hr := selF h9 hr
          refine Ok.skip ?_
          refine Ok.region ?_
          refine OkOps.q (triQ (x := .c (.d (.v (.int .i64 s4)))) rfl trivial rfl) ?_
          refine OkOps.q (triQ (x := .c (.d (.v (.int .i64 (IntKind.i64.wrap (s4 + 1)))))) rfl trivial rfl) ?_
          refine OkOps.q (triQ (x := .c (.d (.v (.int .i64 (IntKind.i64.wrap (s4 + 1)))))) rfl trivial rfl) ?_
          refine OkOps.nil ?_
          exact ⟨IntKind.i64.wrap (s4 + 1), hr, (Conv.mk (tau []) ⟨⟨_, rfl, .inl rfl⟩, ⟨_, rfl, .inl rfl⟩, ⟨_, rfl, .inl rfl⟩, trivial⟩ trivial rfl rfl rfl rfl)⟩
      · have hr := selF h6 hr
        refine Ok.exit ?_
        exact ⟨(), hr, (Conv.mk (tau []) trivial trivial rfl rfl rfl rfl)⟩
theorem entry28 : Entry Tryd.prog 28 := ⟨_, Tryd.func28, by kernel_rfl, by kernel_rfl⟩
theorem l32_small_c (t : Int) {r : Bool} (hr : l32_small t = some r) : Con Tryd.prog 27 [.c (.d (.v (.int .i64 t)))] [] (.s (.c (.d (.v (.bool r))))) [] := by
  unfold l32_small at hr
  refine Con.of_ok 9 0 [.tmp 2] [(0, .s (.c (.d (.v (.int .i64 t)))))] Tryd.func27 rfl rfl rfl rfl rfl rfl rfl rfl fun w g M ρ => ?_
  refine Ok.seq ?_
  refine Ok.region ?_
  refine OkOps.q (triQ (x := .c (.d (.v (.bool false)))) rfl trivial rfl) ?_
  refine OkOps.nil ?_
  refine Ok.seq ?_
  refine Ok.region ?_
  refine OkOps.q (triQ (x := .c (.d (.v (.int .i64 t)))) rfl trivial rfl) ?_
  refine OkOps.q (triQ (x := .c (.d (.v (.bool (decide (t ≥ (-1152921504606846976))))))) rfl trivial rfl) ?_
  refine OkOps.q (triQ (x := .c (.d (.v (.bool (decide (t ≥ (-1152921504606846976))))))) rfl trivial rfl) ?_
  refine OkOps.q (triQG (x := .c (.d (.v (.int .i64 t)))) rfl rfl trivial rfl) ?_
  refine OkOps.q (triQG (x := .c (.d (.v (.bool (decide (t ≤ 1152921504606846976)))))) rfl rfl ⟨fun h => h, trivial⟩ rfl) ?_
  refine OkOps.q (triAnd rfl rfl (fun h => h) rfl) ?_
  refine OkOps.q (triQ (x := .c (.d (.v (.bool ((decide (t ≥ (-1152921504606846976))) && (decide (t ≤ 1152921504606846976))))))) rfl trivial rfl) ?_
  refine OkOps.nil ?_
  refine Ok.ret ?_
  obtain rfl := Option.some.inj hr
  exact ⟨_, rfl, .inl rfl, trivial⟩
theorem entry27 : Entry Tryd.prog 27 := ⟨_, Tryd.func27, by kernel_rfl, by kernel_rfl⟩
theorem l32_table_c (p_s : widgetrybase_Src) {r : (List Shortcut) × widgetrybase_Src} (hr : l32_table p_s = some r) : Con Tryd.prog 21 [.c (.loc 0 0)] [(0, .blk [.d (.sl (List.map (eInt .i64) p_s.L)), .d (.v (.int .i64 p_s.At))] 96)] (.s (.c (.own 2000))) [(0, .blk [.d (.sl (List.map (eInt .i64) r.2.L)), .d (.v (.int .i64 r.2.At))] 96), (2000, .vec 3 (List.map Shortcut.cs r.1))] := by
  unfold l32_table at hr
  refine Con.of_ok 22 0 [.tmp 2] [(0, .s (.c (.loc 0 0)))] Tryd.func21 rfl rfl rfl rfl rfl rfl rfl rfl fun w g M ρ => ?_
  refine Ok.seq ?_
  refine Ok.region ?_
  refine OkOps.q (triQ (x := .c (.d (.v (.slice none 0 0)))) rfl trivial rfl) ?_
  refine OkOps.nil ?_
  refine Ok.seq ?_
  refine Ok.region ?_
  refine OkOps.q (triQ (x := .c (.d (.v (.slice none 0 0)))) rfl trivial rfl) ?_
  refine OkOps.conv (Conv.nilV (enc := Shortcut.cs) 3 1 3 0 rfl rfl) ?_
  refine OkOps.nil ?_
  obtain ⟨k2, hk2, hr⟩ := jn_some hr
  refine Ok.join (fun (s1 : (List Shortcut) × (List Int) × Int) => ⟨[(3, .s (.c (.own 1003)))], [(0, .blk [.d (.sl (List.map (eInt .i64) s1.2.1)), .d (.v (.int .i64 s1.2.2))] 96), (1003, .vec 3 (List.map Shortcut.cs s1.1))], 0⟩) k2 r (fun s1 hr => ?_) ?_
  · rw [hk2] at hr
    refine Ok.seq ?_
    refine Ok.region ?_
    refine OkOps.q (triQ (x := .c (.own 1003)) rfl trivial rfl) ?_
    refine OkOps.q (triQ (x := .c (.own 1003)) rfl trivial rfl) ?_
    refine OkOps.nil ?_
    refine Ok.conv (T := ⟨[(2, .s (.c (.own 2000)))], [(0, .blk [.d (.sl (List.map (eInt .i64) s1.2.1)), .d (.v (.int .i64 s1.2.2))] 96), (2000, .vec 3 (List.map Shortcut.cs s1.1))], 0⟩) (Conv.mk (tau [(2000, 1003)]) ⟨⟨_, rfl, .inl rfl⟩, trivial⟩ ⟨rfl, rfl, trivial⟩ rfl rfl rfl rfl) ?_
    refine Ok.ret ?_
    obtain rfl := Option.some.inj hr
    exact ⟨_, rfl, .inl rfl, ⟨rfl, rfl, trivial⟩⟩
  · clear hk2
    refine Ok.seq ?_
    refine Ok.region ?_
    refine OkOps.q (triQ (x := .c (.loc 0 0)) rfl trivial rfl) ?_
    obtain ⟨x3, hx3, hr⟩ := bind_some hr
    refine OkOps.m 0 (triCall (tau [(0, 0)]) (.s (.c (.d (.v (.int .i64 x3.1))))) [(0, .blk [.d (.sl (List.map (eInt .i64) x3.2.L)), .d (.v (.int .i64 x3.2.At))] 96)] (b_Src_N_c _ _ hx3) rfl ⟨.inl rfl, .inl rfl, trivial⟩ trivial entry15 ⟨rfl, trivial⟩ rfl rfl rfl rfl trivial rfl rfl rfl) ?_
    refine OkOps.q (triQ (x := .c (.d (.v (.int .i64 x3.1)))) rfl trivial rfl) ?_
    refine OkOps.nil ?_
    refine Ok.block ?_
    refine Ok.loopK (fun (s4 : (List Shortcut) × Int × (List Int) × Int) => ⟨[(0, .s (.c (.loc 0 0))), (3, .s (.c (.own 1005))), (4, .s (.c (.d (.v (.int .i64 s4.2.1)))))], [(0, .blk [.d (.sl (List.map (eInt .i64) s4.2.2.1)), .d (.v (.int .i64 s4.2.2.2))] 96), (1005, .vec 3 (List.map Shortcut.cs s4.1))], 0⟩) hr (Conv.mk (tau [(1005, 1)]) ⟨⟨_, rfl, .inl rfl⟩, ⟨_, rfl, .inl rfl⟩, ⟨_, rfl, .inl rfl⟩, trivial⟩ ⟨rfl, rfl, trivial⟩ rfl rfl rfl rfl) ?_
    clear hr
    intro again5 s4 hr
    unfold l32_table_L1 at hr
    refine Ok.seq ?_
    refine Ok.seq ?_
    refine Ok.region ?_
    refine OkOps.q (triQ (x := .c (.d (.v (.int .i64 s4.2.1)))) rfl trivial rfl) ?_
    refine OkOps.q (triQ (x := .c (.d (.v (.bool (decide (s4.2.1 > 0)))))) rfl trivial rfl) ?_
    refine OkOps.nil ?_
    refine Ok.cond (b := decide (s4.2.1 > 0)) rfl (fun h6 => ?_) (fun h6 => ?_)
    · have hr := selT h6 hr
      refine Ok.skip ?_
      refine Ok.seq ?_
      refine Ok.block ?_
      refine Ok.region ?_
      refine OkOps.q (triQ (x := .c (.own 1005)) rfl trivial rfl) ?_
      refine OkOps.q (triQ (x := .c (.loc 0 0)) rfl trivial rfl) ?_
      obtain ⟨x7, hx7, hr⟩ := bind_some hr
      refine OkOps.m 0 (triCall (tau [(0, 0)]) (.s (.c (.d (.v (.int .i64 x7.1))))) [(0, .blk [.d (.sl (List.map (eInt .i64) x7.2.L)), .d (.v (.int .i64 x7.2.At))] 96)] (b_Src_Range_c _ _ _ hx7) rfl ⟨.inl rfl, .inl rfl, .inl rfl, trivial⟩ trivial entry54 ⟨rfl, trivial⟩ rfl rfl rfl rfl trivial rfl rfl rfl) ?_
      refine OkOps.q (triQ (x := .c (.loc 0 0)) rfl trivial rfl) ?_
      obtain ⟨x8, hx8, hr⟩ := bind_some hr
      refine OkOps.m 0 (triCall (tau [(0, 0)]) (.s (.c (.d (.v (.int .i64 x8.1))))) [(0, .blk [.d (.sl (List.map (eInt .i64) x8.2.L)), .d (.v (.int .i64 x8.2.At))] 96)] (b_Src_Range_c _ _ _ hx8) rfl ⟨.inl rfl, .inl rfl, .inl rfl, trivial⟩ trivial entry54 ⟨rfl, trivial⟩ rfl rfl rfl rfl trivial rfl rfl rfl) ?_
      refine OkOps.q (triQ (x := .c (.loc 0 0)) rfl trivial rfl) ?_
      obtain ⟨x9, hx9, hr⟩ := bind_some hr
      refine OkOps.m 0 (triCall (tau [(0, 0)]) (.s (.c (.d (.sl (List.map Chord.cs x9.1))))) [(0, .blk [.d (.sl (List.map (eInt .i64) x9.2.L)), .d (.v (.int .i64 x9.2.At))] 96)] (b_Src_Chords_c _ hx9) rfl ⟨.inl rfl, trivial⟩ trivial entry45 ⟨rfl, trivial⟩ rfl rfl rfl rfl trivial rfl rfl rfl) ?_
      refine OkOps.q (triQ (x := .agg [.d (.v (.int .i64 x7.1)), .d (.v (.int .i64 x8.1)), .d (.sl (List.map Chord.cs x9.1))]) rfl trivial rfl) ?_
      refine OkOps.m 0 (triBST (sz := 3) (enc := Shortcut.cs) (j := 2) ([(Shortcut.mk x7.1 x8.1 x9.1)]) rfl rfl rfl rfl rfl rfl rfl rfl (fun _ => rfl) trivial rfl rfl) ?_
      obtain ⟨x10, hx10, hr⟩ := bind_some hr
      refine OkOps.m2 0 (triAppV (enc := Shortcut.cs) (L := s4.1) (X := [(Shortcut.mk x7.1 x8.1 x9.1)]) (j := 1005) (j' := 3) hx10 rfl rfl rfl rfl rfl rfl (fun _ => rfl) (fun _ => rfl) trivial rfl rfl) ?_
      refine OkOps.q (triQ (x := .c (.own 3)) rfl trivial rfl) ?_
      refine OkOps.nil ?_
      refine Ok.region ?_
      refine OkOps.q (triQ (x := .c (.d (.v (.int .i64 s4.2.1)))) rfl trivial rfl) ?_
      refine OkOps.q (triQ (x := .c (.d (.v (.int .i64 (IntKind.i64.wrap (s4.2.1 - 1)))))) rfl trivial rfl) ?_
      refine OkOps.q (triQ (x := .c (.d (.v (.int .i64 (IntKind.i64.wrap (s4.2.1 - 1)))))) rfl trivial rfl) ?_
      refine OkOps.nil ?_
      exact ⟨(x10, IntKind.i64.wrap (s4.2.1 - 1), x9.2.L, x9.2.At), hr, (Conv.mk (tau [(1005, 3)]) ⟨⟨_, rfl, .inl rfl⟩, ⟨_, rfl, .inl rfl⟩, ⟨_, rfl, .inl rfl⟩, trivial⟩ ⟨rfl, rfl, trivial⟩ rfl rfl rfl rfl)⟩
    · have hr := selF h6 hr
      refine Ok.exit ?_
      exact ⟨(s4.1, s4.2.2.1, s4.2.2.2), hr, (Conv.mk (tau [(1003, 1005)]) ⟨⟨_, rfl, .inl rfl⟩, trivial⟩ ⟨rfl, rfl, trivial⟩ rfl rfl rfl rfl)⟩
theorem entry21 : Entry Tryd.prog 21 := ⟨_, Tryd.func21, by kernel_rfl, by kernel_rfl⟩
theorem slices_Clone_Sl_Chord_Chord_c (s : (List Chord)) {r : (List Chord)} (hr : slices_Clone_Sl_Chord_Chord s = some r) : Con Tryd.prog 57 [.c (.d (.sl (List.map Chord.cs s)))] [] (.s (.c (.tl 2000 (List.map Chord.cs r)))) [(2000, .tail 2)] := by
  unfold slices_Clone_Sl_Chord_Chord at hr
  refine Con.of_ok 8 0 [.tmp 2] [(0, .s (.c (.d (.sl (List.map Chord.cs s)))))] Tryd.func57 rfl rfl rfl rfl rfl rfl rfl rfl fun w g M ρ => ?_
  refine Ok.seq ?_
  refine Ok.region ?_
  refine OkOps.q (triQ (x := .c (.d (.v (.slice none 0 0)))) rfl trivial rfl) ?_
  refine OkOps.nil ?_
  refine Ok.seq ?_
  refine Ok.seq ?_
  refine Ok.region ?_
  refine OkOps.q (triQ (x := .c (.d (.sl (List.map Chord.cs s)))) rfl trivial rfl) ?_
  refine OkOps.eqNil (e := 44) rfl (by kernel_rfl) trivial rfl (fun b hb => ?_)
  refine OkOps.nil ?_
  refine Ok.cond (b := b) rfl (fun h => ?_) (fun h => ?_)
  · obtain rfl : s = [] := by simpa using hb h
    obtain rfl : r = [] := ((appO_spec hr).2 : _)
    refine Ok.seq ?_
    refine Ok.region ?_
    refine OkOps.q (triQ (x := .c (.d (.v (.slice none 0 0)))) rfl trivial rfl) ?_
    refine OkOps.nil ?_
    refine Ok.conv (Conv.nil 2 2000 2 0 rfl rfl) ?_
    refine Ok.ret ?_
    exact ⟨_, rfl, .inl rfl, ⟨rfl, trivial⟩⟩
  · refine Ok.skip ?_
    refine Ok.seq ?_
    refine Ok.region ?_
    refine OkOps.m 0 (triBST (sz := 2) (enc := Chord.cs) (j := 0) [] rfl rfl rfl rfl rfl rfl rfl rfl (fun _ => rfl) trivial rfl rfl) ?_
    refine OkOps.q (triQ (x := .c (.d (.sl (List.map Chord.cs s)))) rfl trivial rfl) ?_
    refine OkOps.m2 0 (triApp (enc := Chord.cs) (L := []) (X := s) (j := 0) (j' := 2000) hr rfl rfl rfl rfl rfl rfl (fun _ => rfl) (fun _ => rfl) (by decide) trivial rfl rfl) ?_
    refine OkOps.q (triQ (x := .c (.tl 2000 (List.map Chord.cs r))) rfl trivial rfl) ?_
    refine OkOps.nil ?_
    refine Ok.ret ?_
    exact ⟨_, rfl, .inl rfl, ⟨rfl, trivial⟩⟩
theorem entry57 : Entry Tryd.prog 57 := ⟨_, Tryd.func57, by kernel_rfl, by kernel_rfl⟩
theorem sc_Feed_c (a0 : PendingKeys) (a1 : (List Shortcut)) (a2 : (List Int)) (a3 : Chord) (a4 : Int) {r : PendingKeys × Int × Int} (hr : sc_Feed a0 a1 a2 a3 a4 = some r) : Con Tryd.prog 24 [.agg [.d (.sl (List.map Chord.cs a0.Keys)), .d (.v (.int .i64 a0.Time))], .c (.d (.sl (List.map Shortcut.cs a1))), .c (.d (.sl (List.map (eInt .i64) a2))), .agg [.d (.v (.int .i64 a3.Key)), .d (.v (.int .i64 a3.Mods))], .c (.d (.v (.int .i64 a4)))] [] (.tup [.agg [.d (.sl (List.map Chord.cs r.1.Keys)), .d (.v (.int .i64 r.1.Time))], .c (.d (.v (.int .i64 r.2.1))), .c (.d (.v (.int .i64 r.2.2)))]) [] := by
  unfold sc_Feed at hr
  refine Con.of_ok 91 0 [.cell 10 42, .tmp 11, .tmp 12] [(0, .s (.agg [.d (.sl (List.map Chord.cs a0.Keys)), .d (.v (.int .i64 a0.Time))])), (1, .s (.c (.d (.sl (List.map Shortcut.cs a1))))), (2, .s (.c (.d (.sl (List.map (eInt .i64) a2))))), (3, .s (.agg [.d (.v (.int .i64 a3.Key)), .d (.v (.int .i64 a3.Mods))])), (4, .s (.c (.d (.v (.int .i64 a4)))))] Tryd.func24 rfl rfl rfl rfl rfl rfl rfl rfl fun w g M ρ => ?_
  refine Ok.seq ?_
  refine Ok.region ?_
  refine OkOps.m 0 (triBox (j := 0) (cs := [.d (.sl (List.map Chord.cs a0.Keys)), .d (.v (.int .i64 a0.Time))]) rfl rfl rfl rfl rfl) ?_
  refine OkOps.m 0 (triBox (j := 1) (cs := [.d (.v (.int .i64 a3.Key)), .d (.v (.int .i64 a3.Mods))]) rfl rfl rfl rfl rfl) ?_
  refine OkOps.m 0 (triAlloc (j := 2) (cs := [.d (.v (.slice none 0 0)), .d (.v (.int .i64 0))]) rfl rfl rfl rfl) ?_
  refine OkOps.q (triQ (x := .c (.d (.v (.int .i64 0)))) rfl trivial rfl) ?_
  refine OkOps.q (triQ (x := .c (.d (.v (.int .i64 0)))) rfl trivial rfl) ?_
  refine OkOps.nil ?_
  obtain ⟨k2, hk2, hr⟩ := jn_some hr
  refine Ok.join (fun (s1 : Int × Int) => ⟨[(1, .s (.c (.d (.sl (List.map Shortcut.cs a1))))), (2, .s (.c (.d (.sl (List.map (eInt .i64) a2))))), (4, .s (.c (.d (.v (.int .i64 a4))))), (5, .s (.c (.loc 0 0))), (8, .s (.c (.loc 1 0))), (10, .s (.c (.loc 2 0)))], [(0, .blk [.d (.sl (List.map Chord.cs a0.Keys)), .d (.v (.int .i64 a0.Time))] 42), (1, .blk [.d (.v (.int .i64 s1.1)), .d (.v (.int .i64 s1.2))] 44), (2, .blk [.d (.v (.slice none 0 0)), .d (.v (.int .i64 0))] 42)], 0⟩) k2 r (fun s1 hr => ?_) ?_
  · rw [hk2] at hr
    refine Ok.seq ?_
    refine Ok.region ?_
    refine OkOps.q (triQ (x := .c (.loc 0 0)) rfl trivial rfl) ?_
    refine OkOps.q (triQ (x := .c (.d (.sl (List.map Chord.cs a0.Keys)))) rfl trivial rfl) ?_
    refine OkOps.q (triQ (x := .c (.d (.sl (List.map Chord.cs a0.Keys)))) rfl trivial rfl) ?_
    refine OkOps.nil ?_
    obtain ⟨k4, hk4, hr⟩ := jn_some hr
    refine Ok.join (fun (s3 : (List Chord)) => ⟨[(1, .s (.c (.d (.sl (List.map Shortcut.cs a1))))), (2, .s (.c (.d (.sl (List.map (eInt .i64) a2))))), (4, .s (.c (.d (.v (.int .i64 a4))))), (8, .s (.c (.loc 1 0))), (10, .s (.c (.loc 2 0))), (13, .s (.c (.d (.sl (List.map Chord.cs s3)))))], [(1, .blk [.d (.v (.int .i64 s1.1)), .d (.v (.int .i64 s1.2))] 44), (2, .blk [.d (.v (.slice none 0 0)), .d (.v (.int .i64 0))] 42)], 0⟩) k4 r (fun s3 hr => ?_) ?_
    · rw [hk4] at hr
      refine Ok.seq ?_
      refine Ok.regionD (by kernel_rfl) ?_
      refine OkD.q (triQ (x := .c (.d (.sl (List.map Chord.cs s3)))) rfl trivial rfl) ?_
      obtain ⟨x5, hx5, hr⟩ := bind_some hr
      refine OkD.m 0 (triCall (tau [(2000, 3)]) (.s (.c (.tl 3 (List.map Chord.cs x5)))) [(3, .tail 2)] (slices_Clone_Sl_Chord_Chord_c _ hx5) rfl ⟨.inl rfl, trivial⟩ trivial entry57 trivial rfl rfl rfl rfl ⟨rfl, trivial⟩ rfl rfl rfl) ?_
      refine OkD.q (triQ (x := .agg [.d (.v (.int .i64 s1.1)), .d (.v (.int .i64 s1.2))]) rfl trivial rfl) ?_
      refine OkD.m 0 (triBST (sz := 2) (enc := Chord.cs) (j := 4) ([(Chord.mk s1.1 s1.2)]) rfl rfl rfl rfl rfl rfl rfl rfl (fun _ => rfl) trivial rfl rfl) ?_
      obtain ⟨x6, hx6, hr⟩ := bind_some hr
      refine OkD.m2 0 (triApp (enc := Chord.cs) (L := x5) (X := [(Chord.mk s1.1 s1.2)]) (j := 3) (j' := 5) hx6 rfl rfl rfl rfl rfl rfl (fun _ => rfl) (fun _ => rfl) (by decide) trivial rfl rfl) ?_
      refine OkD.m 0 (triBST (sz := 1) (enc := (eSl Chord.cs)) (j := 6) ([x6]) rfl rfl rfl rfl rfl rfl rfl rfl (fun _ => rfl) trivial rfl rfl) ?_
      refine OkD.q (triQ (x := .c (.tl 6 (List.map (eSl Chord.cs) ([x6])))) rfl trivial rfl) ?_
      refine OkD.nil (by kernel_rfl) ?_
      obtain ⟨k8, hk8, hr⟩ := jn_some hr
      refine Ok.join (fun (s7 : (List (List Chord))) => ⟨[(1, .s (.c (.d (.sl (List.map Shortcut.cs a1))))), (2, .s (.c (.d (.sl (List.map (eInt .i64) a2))))), (4, .s (.c (.d (.v (.int .i64 a4))))), (10, .s (.c (.loc 2 0))), (14, .s (.c (.tl 1000 (List.map (eSl Chord.cs) s7))))], [(2, .blk [.d (.v (.slice none 0 0)), .d (.v (.int .i64 0))] 42), (1000, .tail 1)], 0⟩) k8 r (fun s7 hr => ?_) ?_
      · rw [hk8] at hr
        obtain ⟨k10, hk10, hr⟩ := jn_some hr
        refine Ok.join (fun (s9 : Unit) => ⟨[(10, .s (.c (.loc 2 0)))], [(2, .blk [.d (.v (.slice none 0 0)), .d (.v (.int .i64 0))] 42)], 0⟩) k10 r (fun s9 hr => ?_) ?_
        · rw [hk10] at hr
          refine Ok.seq ?_
          refine Ok.region ?_
          refine OkOps.q (triQ (x := .agg [.d (.v (.slice none 0 0)), .d (.v (.int .i64 0))]) rfl trivial rfl) ?_
          refine OkOps.w (triStore (cs' := [.d (.v (.slice none 0 0)), .d (.v (.int .i64 0))]) rfl rfl rfl rfl rfl rfl rfl rfl rfl) ?_
          refine OkOps.q (triQ (x := .c (.d (.v (.int .i64 0)))) rfl trivial rfl) ?_
          refine OkOps.q (triQ (x := .c (.d (.v (.int .i64 0)))) rfl trivial rfl) ?_
          refine OkOps.nil ?_
          refine Ok.ret ?_
          obtain rfl := Option.some.inj hr
          exact ⟨_, rfl, .inr rfl, trivial⟩
        · clear hk10
          refine Ok.seq ?_
          refine Ok.region ?_
          refine OkOps.q (triQ (x := .c (.tl 1000 (List.map (eSl Chord.cs) s7))) rfl trivial rfl) ?_
          refine OkOps.q (triLen (enc := (eSl Chord.cs)) s7 rfl rfl trivial rfl) ?_
          refine OkOps.q (triQ (x := .c (.d (.v (.int .i64 0)))) rfl trivial rfl) ?_
          refine OkOps.nil ?_
          refine Ok.block ?_
          refine Ok.loopK (fun (s11 : Int) => ⟨[(1, .s (.c (.d (.sl (List.map Shortcut.cs a1))))), (2, .s (.c (.d (.sl (List.map (eInt .i64) a2))))), (4, .s (.c (.d (.v (.int .i64 a4))))), (10, .s (.c (.loc 2 0))), (64, .s (.c (.tl 1000 (List.map (eSl Chord.cs) s7)))), (65, .s (.c (.d (.v (.int .i64 (s7.length : Int)))))), (66, .s (.c (.d (.v (.int .i64 s11)))))], [(2, .blk [.d (.v (.slice none 0 0)), .d (.v (.int .i64 0))] 42), (1000, .tail 1)], 0⟩) hr (Conv.mk (tau []) ⟨⟨_, rfl, .inl rfl⟩, ⟨_, rfl, .inl rfl⟩, ⟨_, rfl, .inl rfl⟩, ⟨_, rfl, .inl rfl⟩, ⟨_, rfl, .inl rfl⟩, ⟨_, rfl, .inl rfl⟩, ⟨_, rfl, .inl rfl⟩, trivial⟩ ⟨rfl, rfl, trivial⟩ rfl rfl rfl rfl) ?_
          clear hr
          intro again12 s11 hr
          unfold sc_Feed_L1 at hr
          refine Ok.seq ?_
          refine Ok.region ?_
          refine OkOps.q (triQ (x := .c (.d (.v (.bool (decide (s11 < (s7.length : Int))))))) rfl trivial rfl) ?_
          refine OkOps.nil ?_
          refine Ok.seq ?_
          refine Ok.cond (b := decide (s11 < (s7.length : Int))) rfl (fun h13 => ?_) (fun h13 => ?_)
          · have hr := selT h13 hr
            refine Ok.skip ?_
            refine Ok.seq ?_
            refine Ok.block ?_
            refine Ok.seq ?_
            refine Ok.region ?_
            obtain ⟨x14, hx14, hr⟩ := bind_some hr
            refine OkOps.q (triIdx (enc := (eSl Chord.cs)) (L := s7) (row := [.sl (List.map Chord.cs x14)]) hx14 rfl rfl rfl rfl (fun _ => rfl) trivial rfl) ?_
            refine OkOps.q (triQ (x := .c (.d (.sl (List.map Chord.cs x14)))) rfl trivial rfl) ?_
            refine OkOps.q (triQ (x := .c (.d (.sl (List.map Chord.cs x14)))) rfl trivial rfl) ?_
            refine OkOps.nil ?_
            refine Ok.seq ?_
            refine Ok.region ?_
            refine OkOps.q (triQ (x := .c (.d (.sl (List.map Shortcut.cs a1)))) rfl trivial rfl) ?_
            refine OkOps.q (triQ (x := .c (.d (.sl (List.map (eInt .i64) a2)))) rfl trivial rfl) ?_
            refine OkOps.q (triQ (x := .c (.d (.sl (List.map Chord.cs x14)))) rfl trivial rfl) ?_
            obtain ⟨x15, hx15, hr⟩ := bind_some hr
            refine OkOps.q (triCall (tau []) (.tup [.c (.d (.v (.int .i64 x15.1))), .c (.d (.v (.int .i64 x15.2)))]) [] (sc_find_c _ _ _ hx15) rfl ⟨.inl rfl, .inl rfl, .inl rfl, trivial⟩ trivial entry58 trivial rfl rfl rfl rfl trivial rfl rfl rfl) ?_
            refine OkOps.q (triMv (v := .tup [.c (.d (.v (.int .i64 x15.1))), .c (.d (.v (.int .i64 x15.2)))]) rfl rfl) ?_
            refine OkOps.q (triQ (x := .c (.d (.v (.int .i64 x15.1)))) rfl trivial rfl) ?_
            refine OkOps.q (triQ (x := .c (.d (.v (.int .i64 x15.2)))) rfl trivial rfl) ?_
            refine OkOps.q (triQ (x := .c (.d (.v (.int .i64 x15.1)))) rfl trivial rfl) ?_
            refine OkOps.q (triQ (x := .c (.d (.v (.int .i64 x15.2)))) rfl trivial rfl) ?_
            refine OkOps.nil ?_
            refine Ok.seq ?_
            refine Ok.region ?_
            refine OkOps.q (triQ (x := .c (.d (.v (.int .i64 x15.2)))) rfl trivial rfl) ?_
            refine OkOps.nil ?_
            refine Ok.block ?_
            refine Ok.seq ?_
            refine Ok.region ?_
            refine OkOps.q (triQ (x := .c (.d (.v (.bool (x15.2 == 2))))) rfl trivial rfl) ?_
            refine OkOps.q (triQ (x := .c (.d (.v (.bool (x15.2 == 2))))) rfl trivial rfl) ?_
            refine OkOps.nil ?_
            refine Ok.cond (b := x15.2 == 2) rfl (fun h16 => ?_) (fun h16 => ?_)
            · have hr := selT h16 hr
              refine Ok.seq ?_
              refine Ok.region ?_
              refine OkOps.q (triQ (x := .agg [.d (.v (.slice none 0 0)), .d (.v (.int .i64 0))]) rfl trivial rfl) ?_
              refine OkOps.q (triQ (x := .c (.d (.v (.int .i64 x15.1)))) rfl trivial rfl) ?_
              refine OkOps.q (triQ (x := .c (.d (.v (.int .i64 x15.2)))) rfl trivial rfl) ?_
              refine OkOps.w (triStore (cs' := [.d (.v (.slice none 0 0)), .d (.v (.int .i64 0))]) rfl rfl rfl rfl rfl rfl rfl rfl rfl) ?_
              refine OkOps.q (triQ (x := .c (.d (.v (.int .i64 x15.1)))) rfl trivial rfl) ?_
              refine OkOps.q (triQ (x := .c (.d (.v (.int .i64 x15.2)))) rfl trivial rfl) ?_
              refine OkOps.nil ?_
              refine Ok.ret ?_
              obtain rfl := Option.some.inj hr
              exact ⟨_, rfl, .inr rfl, trivial⟩
            · have hr := selF h16 hr
              refine Ok.seq ?_
              refine Ok.region ?_
              refine OkOps.q (triQ (x := .c (.d (.v (.bool (x15.2 == 1))))) rfl trivial rfl) ?_
              refine OkOps.q (triQ (x := .c (.d (.v (.bool (x15.2 == 1))))) rfl trivial rfl) ?_
              refine OkOps.nil ?_
              refine Ok.cond (b := x15.2 == 1) rfl (fun h17 => ?_) (fun h17 => ?_)
              · have hr := selT h17 hr
                refine Ok.seq ?_
                refine Ok.region ?_
                refine OkOps.q (triQ (x := .c (.d (.sl (List.map Chord.cs x14)))) rfl trivial rfl) ?_
                refine OkOps.q (triQ (x := .c (.d (.v (.int .i64 a4)))) rfl trivial rfl) ?_
                refine OkOps.q (triQ (x := .agg [.d (.sl (List.map Chord.cs x14)), .d (.v (.int .i64 a4))]) rfl trivial rfl) ?_
                refine OkOps.q (triQ (x := .c (.d (.v (.int .i64 x15.2)))) rfl trivial rfl) ?_
                refine OkOps.w (triStore (cs' := [.d (.sl (List.map Chord.cs x14)), .d (.v (.int .i64 a4))]) rfl rfl rfl rfl rfl rfl rfl rfl rfl) ?_
                refine OkOps.q (triQ (x := .c (.d (.v (.int .i64 0)))) rfl trivial rfl) ?_
                refine OkOps.q (triQ (x := .c (.d (.v (.int .i64 x15.2)))) rfl trivial rfl) ?_
                refine OkOps.nil ?_
                refine Ok.ret ?_
                obtain rfl := Option.some.inj hr
                exact ⟨_, rfl, .inl rfl, trivial⟩
              · have hr := selF h17 hr
                refine Ok.skip ?_
                refine Ok.region ?_
                refine OkOps.q (triQ (x := .c (.d (.v (.int .i64 (IntKind.i64.wrap (s11 + 1)))))) rfl trivial rfl) ?_
                refine OkOps.q (triQ (x := .c (.d (.v (.int .i64 (IntKind.i64.wrap (s11 + 1)))))) rfl trivial rfl) ?_
                refine OkOps.nil ?_
                exact ⟨IntKind.i64.wrap (s11 + 1), hr, (Conv.mk (tau []) ⟨⟨_, rfl, .inl rfl⟩, ⟨_, rfl, .inl rfl⟩, ⟨_, rfl, .inl rfl⟩, ⟨_, rfl, .inl rfl⟩, ⟨_, rfl, .inl rfl⟩, ⟨_, rfl, .inl rfl⟩, ⟨_, rfl, .inl rfl⟩, trivial⟩ ⟨rfl, rfl, trivial⟩ rfl rfl rfl rfl)⟩
          · have hr := selF h13 hr
            refine Ok.exit ?_
            exact ⟨(), hr, (Conv.mk (tau []) ⟨⟨_, rfl, .inl rfl⟩, trivial⟩ ⟨rfl, trivial⟩ rfl rfl rfl rfl)⟩
      · clear hk8
        refine Ok.seq ?_
        refine Ok.region ?_
        refine OkOps.q (triQ (x := .c (.d (.sl (List.map Chord.cs s3)))) rfl trivial rfl) ?_
        refine OkOps.q (triLen (enc := Chord.cs) s3 rfl rfl trivial rfl) ?_
        refine OkOps.q (triQ (x := .c (.d (.v (.bool (decide ((s3.length : Int) > 0)))))) rfl trivial rfl) ?_
        refine OkOps.nil ?_
        refine Ok.cond (b := decide ((s3.length : Int) > 0)) rfl (fun h18 => ?_) (fun h18 => ?_)
        · have hr := selT h18 hr
          refine Ok.region ?_
          refine OkOps.q (triQ (x := .c (.tl 6 (List.map (eSl Chord.cs) ([x6])))) rfl trivial rfl) ?_
          refine OkOps.q (triQ (x := .agg [.d (.v (.int .i64 s1.1)), .d (.v (.int .i64 s1.2))]) rfl trivial rfl) ?_
          refine OkOps.m 0 (triBST (sz := 2) (enc := Chord.cs) (j := 7) ([(Chord.mk s1.1 s1.2)]) rfl rfl rfl rfl rfl rfl rfl rfl (fun _ => rfl) trivial rfl rfl) ?_
          refine OkOps.m 0 (triBST (sz := 1) (enc := (eSl Chord.cs)) (j := 8) ([[(Chord.mk s1.1 s1.2)]]) rfl rfl rfl rfl rfl rfl rfl rfl (fun _ => rfl) trivial rfl rfl) ?_
          obtain ⟨x19, hx19, hr⟩ := bind_some hr
          refine OkOps.m2 0 (triApp (enc := (eSl Chord.cs)) (L := [x6]) (X := [[(Chord.mk s1.1 s1.2)]]) (j := 6) (j' := 9) hx19 rfl rfl rfl rfl rfl rfl (fun _ => rfl) (fun _ => rfl) (by decide) trivial rfl rfl) ?_
          refine OkOps.q (triQ (x := .c (.tl 9 (List.map (eSl Chord.cs) x19))) rfl trivial rfl) ?_
          refine OkOps.nil ?_
          exact ⟨x19, hr, (Conv.mk (tau [(1000, 9)]) ⟨⟨_, rfl, .inl rfl⟩, ⟨_, rfl, .inl rfl⟩, ⟨_, rfl, .inl rfl⟩, ⟨_, rfl, .inl rfl⟩, ⟨_, rfl, .inl rfl⟩, trivial⟩ ⟨rfl, rfl, trivial⟩ rfl rfl rfl rfl)⟩
        · have hr := selF h18 hr
          refine Ok.skip ?_
          exact ⟨[x6], hr, (Conv.mk (tau [(1000, 6)]) ⟨⟨_, rfl, .inl rfl⟩, ⟨_, rfl, .inl rfl⟩, ⟨_, rfl, .inl rfl⟩, ⟨_, rfl, .inl rfl⟩, ⟨_, rfl, .inl rfl⟩, trivial⟩ ⟨rfl, rfl, trivial⟩ rfl rfl rfl rfl)⟩
    · clear hk4
      refine Ok.seq ?_
      refine Ok.region ?_
      refine OkOps.q (triQ (x := .c (.d (.v (.int .i64 a4)))) rfl trivial rfl) ?_
      refine OkOps.q (triQ (x := .c (.loc 0 1)) rfl trivial rfl) ?_
      refine OkOps.q (triQ (x := .c (.d (.v (.int .i64 a0.Time)))) rfl trivial rfl) ?_
      refine OkOps.q (triQ (x := .c (.d (.v (.bool (decide (a4 < a0.Time)))))) rfl trivial rfl) ?_
      refine OkOps.q (triQ (x := .c (.d (.v (.bool (decide (a4 < a0.Time)))))) rfl trivial rfl) ?_
      refine OkOps.q (triQG (x := .c (.d (.v (.int .i64 a4)))) rfl rfl trivial rfl) ?_
      refine OkOps.q (triQG (x := .c (.d (.v (.int .u64 (IntKind.u64.wrap a4))))) rfl rfl ⟨fun h => h, trivial⟩ rfl) ?_
      refine OkOps.q (triQG (x := .c (.loc 0 1)) rfl rfl trivial rfl) ?_
      refine OkOps.q (triQG (x := .c (.d (.v (.int .i64 a0.Time)))) rfl rfl ⟨fun h => h, trivial⟩ rfl) ?_
      refine OkOps.q (triQG (x := .c (.d (.v (.int .u64 (IntKind.u64.wrap a0.Time))))) rfl rfl ⟨fun h => h, trivial⟩ rfl) ?_
      refine OkOps.q (triQG (x := .c (.d (.v (.int .u64 (IntKind.u64.wrap ((IntKind.u64.wrap a4) - (IntKind.u64.wrap a0.Time))))))) rfl rfl ⟨fun h => h, ⟨fun h => h, trivial⟩⟩ rfl) ?_
      refine OkOps.q (triQG (x := .c (.d (.v (.bool (decide ((IntKind.u64.wrap ((IntKind.u64.wrap a4) - (IntKind.u64.wrap a0.Time))) > 1500)))))) rfl rfl ⟨fun h => h, trivial⟩ rfl) ?_
      refine OkOps.q (triOr rfl rfl (fun h => by rw [h]; rfl) rfl) ?_
      refine OkOps.nil ?_
      refine Ok.cond (b := (decide (a4 < a0.Time)) || (decide ((IntKind.u64.wrap ((IntKind.u64.wrap a4) - (IntKind.u64.wrap a0.Time))) > 1500))) rfl (fun h20 => ?_) (fun h20 => ?_)
      · have hr := selT h20 hr
        refine Ok.region ?_
        refine OkOps.q (triQ (x := .c (.d (.v (.slice none 0 0)))) rfl trivial rfl) ?_
        refine OkOps.nil ?_
        exact ⟨([] : (List Chord)), hr, (Conv.mk (tau []) ⟨⟨_, rfl, .inl rfl⟩, ⟨_, rfl, .inl rfl⟩, ⟨_, rfl, .inl rfl⟩, ⟨_, rfl, .inl rfl⟩, ⟨_, rfl, .inl rfl⟩, ⟨_, rfl, .inr rfl⟩, trivial⟩ ⟨rfl, rfl, trivial⟩ rfl rfl rfl rfl)⟩
      · have hr := selF h20 hr
        refine Ok.skip ?_
        exact ⟨a0.Keys, hr, (Conv.mk (tau []) ⟨⟨_, rfl, .inl rfl⟩, ⟨_, rfl, .inl rfl⟩, ⟨_, rfl, .inl rfl⟩, ⟨_, rfl, .inl rfl⟩, ⟨_, rfl, .inl rfl⟩, ⟨_, rfl, .inl rfl⟩, trivial⟩ ⟨rfl, rfl, trivial⟩ rfl rfl rfl rfl)⟩
  · clear hk2
    refine Ok.seq ?_
    refine Ok.region ?_
    refine OkOps.q (triQ (x := .c (.loc 1 0)) rfl trivial rfl) ?_
    refine OkOps.q (triQ (x := .c (.d (.v (.int .i64 a3.Key)))) rfl trivial rfl) ?_
    refine OkOps.q (triQ (x := .c (.d (.v (.bool (decide (a3.Key ≥ 65)))))) rfl trivial rfl) ?_
    refine OkOps.q (triQ (x := .c (.d (.v (.bool (decide (a3.Key ≥ 65)))))) rfl trivial rfl) ?_
    refine OkOps.q (triQG (x := .c (.loc 1 0)) rfl rfl trivial rfl) ?_
    refine OkOps.q (triQG (x := .c (.d (.v (.int .i64 a3.Key)))) rfl rfl ⟨fun h => h, trivial⟩ rfl) ?_
    refine OkOps.q (triQG (x := .c (.d (.v (.bool (decide (a3.Key ≤ 90)))))) rfl rfl ⟨fun h => h, trivial⟩ rfl) ?_
    refine OkOps.q (triAnd rfl rfl (fun h => h) rfl) ?_
    refine OkOps.nil ?_
    refine Ok.cond (b := (decide (a3.Key ≥ 65)) && (decide (a3.Key ≤ 90))) rfl (fun h21 => ?_) (fun h21 => ?_)
    · have hr := selT h21 hr
      refine Ok.seq ?_
      refine Ok.region ?_
      refine OkOps.q (triQ (x := .c (.loc 1 0)) rfl trivial rfl) ?_
      refine OkOps.q (triQ (x := .c (.d (.v (.int .i64 a3.Key)))) rfl trivial rfl) ?_
      refine OkOps.q (triQ (x := .c (.d (.v (.int .i64 (IntKind.i64.wrap (a3.Key + 32)))))) rfl trivial rfl) ?_
      refine OkOps.q (triQ (x := .c (.loc 1 0)) rfl trivial rfl) ?_
      refine OkOps.w (triStore (cs' := [.d (.v (.int .i64 (IntKind.i64.wrap (a3.Key + 32)))), .d (.v (.int .i64 a3.Mods))]) rfl rfl rfl rfl rfl rfl rfl rfl rfl) ?_
      refine OkOps.nil ?_
      refine Ok.region ?_
      refine OkOps.q (triQ (x := .c (.loc 1 1)) rfl trivial rfl) ?_
      refine OkOps.q (triQ (x := .c (.d (.v (.int .i64 a3.Mods)))) rfl trivial rfl) ?_
      refine OkOps.q (triQ (x := .c (.d (.v (.int .i64 (bOr .i64 a3.Mods 4))))) rfl trivial rfl) ?_
      refine OkOps.q (triQ (x := .c (.loc 1 1)) rfl trivial rfl) ?_
      refine OkOps.w (triStore (cs' := [.d (.v (.int .i64 (IntKind.i64.wrap (a3.Key + 32)))), .d (.v (.int .i64 (bOr .i64 a3.Mods 4)))]) rfl rfl rfl rfl rfl rfl rfl rfl rfl) ?_
      refine OkOps.nil ?_
      exact ⟨(IntKind.i64.wrap (a3.Key + 32), bOr .i64 a3.Mods 4), hr, (Conv.mk (tau []) ⟨⟨_, rfl, .inl rfl⟩, ⟨_, rfl, .inl rfl⟩, ⟨_, rfl, .inl rfl⟩, ⟨_, rfl, .inl rfl⟩, ⟨_, rfl, .inl rfl⟩, ⟨_, rfl, .inl rfl⟩, trivial⟩ ⟨rfl, rfl, rfl, trivial⟩ rfl rfl rfl rfl)⟩
    · have hr := selF h21 hr
      refine Ok.skip ?_
      exact ⟨(a3.Key, a3.Mods), hr, (Conv.mk (tau []) ⟨⟨_, rfl, .inl rfl⟩, ⟨_, rfl, .inl rfl⟩, ⟨_, rfl, .inl rfl⟩, ⟨_, rfl, .inl rfl⟩, ⟨_, rfl, .inl rfl⟩, ⟨_, rfl, .inl rfl⟩, trivial⟩ ⟨rfl, rfl, rfl, trivial⟩ rfl rfl rfl rfl)⟩
theorem entry24 : Entry Tryd.prog 24 := ⟨_, Tryd.func24, by kernel_rfl, by kernel_rfl⟩
theorem r32_Feed_c (a0 : PendingKeys) (a1 : (List Shortcut)) (a2 : (List Int)) (a3 : Chord) (a4 : Int) {r : PendingKeys × Int × Int} (hr : r32_Feed a0 a1 a2 a3 a4 = some r) : Con Tryd.prog 25 [.agg [.d (.sl (List.map Chord.cs a0.Keys)), .d (.v (.int .i64 a0.Time))], .c (.d (.sl (List.map Shortcut.cs a1))), .c (.d (.sl (List.map (eInt .i64) a2))), .agg [.d (.v (.int .i64 a3.Key)), .d (.v (.int .i64 a3.Mods))], .c (.d (.v (.int .i64 a4)))] [] (.tup [.agg [.d (.sl (List.map Chord.cs r.1.Keys)), .d (.v (.int .i64 r.1.Time))], .c (.d (.v (.int .i64 r.2.1))), .c (.d (.v (.int .i64 r.2.2)))]) [] := by
  unfold r32_Feed at hr
  refine Con.of_ok 77 0 [.cell 10 42, .tmp 11, .tmp 12] [(0, .s (.agg [.d (.sl (List.map Chord.cs a0.Keys)), .d (.v (.int .i64 a0.Time))])), (1, .s (.c (.d (.sl (List.map Shortcut.cs a1))))), (2, .s (.c (.d (.sl (List.map (eInt .i64) a2))))), (3, .s (.agg [.d (.v (.int .i64 a3.Key)), .d (.v (.int .i64 a3.Mods))])), (4, .s (.c (.d (.v (.int .i64 a4)))))] Tryd.func25 rfl rfl rfl rfl rfl rfl rfl rfl fun w g M ρ => ?_
  refine Ok.seq ?_
  refine Ok.region ?_
  refine OkOps.m 0 (triBox (j := 0) (cs := [.d (.sl (List.map Chord.cs a0.Keys)), .d (.v (.int .i64 a0.Time))]) rfl rfl rfl rfl rfl) ?_
  refine OkOps.m 0 (triBox (j := 1) (cs := [.d (.v (.int .i64 a3.Key)), .d (.v (.int .i64 a3.Mods))]) rfl rfl rfl rfl rfl) ?_
  refine OkOps.m 0 (triAlloc (j := 2) (cs := [.d (.v (.slice none 0 0)), .d (.v (.int .i64 0))]) rfl rfl rfl rfl) ?_
  refine OkOps.q (triQ (x := .c (.d (.v (.int .i64 0)))) rfl trivial rfl) ?_
  refine OkOps.q (triQ (x := .c (.d (.v (.int .i64 0)))) rfl trivial rfl) ?_
  refine OkOps.nil ?_
  obtain ⟨k2, hk2, hr⟩ := jn_some hr
  refine Ok.join (fun (s1 : Int × Int) => ⟨[(1, .s (.c (.d (.sl (List.map Shortcut.cs a1))))), (2, .s (.c (.d (.sl (List.map (eInt .i64) a2))))), (4, .s (.c (.d (.v (.int .i64 a4))))), (5, .s (.c (.loc 0 0))), (8, .s (.c (.loc 1 0))), (10, .s (.c (.loc 2 0)))], [(0, .blk [.d (.sl (List.map Chord.cs a0.Keys)), .d (.v (.int .i64 a0.Time))] 42), (1, .blk [.d (.v (.int .i64 s1.1)), .d (.v (.int .i64 s1.2))] 44), (2, .blk [.d (.v (.slice none 0 0)), .d (.v (.int .i64 0))] 42)], 0⟩) k2 r (fun s1 hr => ?_) ?_
  · rw [hk2] at hr
    refine Ok.seq ?_
    refine Ok.region ?_
    refine OkOps.q (triQ (x := .c (.d (.v (.slice none 0 0)))) rfl trivial rfl) ?_
    refine OkOps.nil ?_
    obtain ⟨k4, hk4, hr⟩ := jn_some hr
    refine Ok.join (fun (s3 : (List Chord)) => ⟨[(1, .s (.c (.d (.sl (List.map Shortcut.cs a1))))), (2, .s (.c (.d (.sl (List.map (eInt .i64) a2))))), (4, .s (.c (.d (.v (.int .i64 a4))))), (8, .s (.c (.loc 1 0))), (10, .s (.c (.loc 2 0))), (13, .s (.c (.tl 1000 (List.map Chord.cs s3))))], [(1, .blk [.d (.v (.int .i64 s1.1)), .d (.v (.int .i64 s1.2))] 44), (2, .blk [.d (.v (.slice none 0 0)), .d (.v (.int .i64 0))] 42), (1000, .tail 2)], 0⟩) k4 r (fun s3 hr => ?_) ?_
    · rw [hk4] at hr
      obtain ⟨k6, hk6, hr⟩ := jn_some hr
      refine Ok.join (fun (s5 : Unit) => ⟨[(1, .s (.c (.d (.sl (List.map Shortcut.cs a1))))), (2, .s (.c (.d (.sl (List.map (eInt .i64) a2))))), (4, .s (.c (.d (.v (.int .i64 a4))))), (8, .s (.c (.loc 1 0))), (10, .s (.c (.loc 2 0)))], [(1, .blk [.d (.v (.int .i64 s1.1)), .d (.v (.int .i64 s1.2))] 44), (2, .blk [.d (.v (.slice none 0 0)), .d (.v (.int .i64 0))] 42)], 0⟩) k6 r (fun s5 hr => ?_) ?_
      · rw [hk6] at hr
        refine Ok.seq ?_
        refine Ok.region ?_
        refine OkOps.q (triQ (x := .c (.d (.sl (List.map Shortcut.cs a1)))) rfl trivial rfl) ?_
        refine OkOps.q (triQ (x := .c (.d (.sl (List.map (eInt .i64) a2)))) rfl trivial rfl) ?_
        refine OkOps.q (triQ (x := .agg [.d (.v (.int .i64 s1.1)), .d (.v (.int .i64 s1.2))]) rfl trivial rfl) ?_
        refine OkOps.m 0 (triBST (sz := 2) (enc := Chord.cs) (j := 3) ([(Chord.mk s1.1 s1.2)]) rfl rfl rfl rfl rfl rfl rfl rfl (fun _ => rfl) trivial rfl rfl) ?_
        refine OkOps.q (triQ (x := .c (.d (.v (.int .i64 a4)))) rfl trivial rfl) ?_
        obtain ⟨x7, hx7, hr⟩ := bind_some hr
        refine OkOps.q (triCall (tau []) (.tup [.agg [.d (.sl (List.map Chord.cs x7.1.Keys)), .d (.v (.int .i64 x7.1.Time))], .c (.d (.v (.int .i64 x7.2.1))), .c (.d (.v (.int .i64 x7.2.2)))]) [] (r32_match_c _ _ _ _ hx7) rfl ⟨.inl rfl, .inl rfl, .inr rfl, .inl rfl, trivial⟩ trivial entry59 trivial rfl rfl rfl rfl trivial rfl rfl rfl) ?_
        refine OkOps.q (triQ (x := .agg [.d (.sl (List.map Chord.cs x7.1.Keys)), .d (.v (.int .i64 x7.1.Time))]) rfl trivial rfl) ?_
        refine OkOps.q (triQ (x := .c (.d (.v (.int .i64 x7.2.1)))) rfl trivial rfl) ?_
        refine OkOps.q (triQ (x := .c (.d (.v (.int .i64 x7.2.2)))) rfl trivial rfl) ?_
        refine OkOps.w (triStore (cs' := [.d (.sl (List.map Chord.cs x7.1.Keys)), .d (.v (.int .i64 x7.1.Time))]) rfl rfl rfl rfl rfl rfl rfl rfl rfl) ?_
        refine OkOps.q (triQ (x := .c (.d (.v (.int .i64 x7.2.1)))) rfl trivial rfl) ?_
        refine OkOps.q (triQ (x := .c (.d (.v (.int .i64 x7.2.2)))) rfl trivial rfl) ?_
        refine OkOps.nil ?_
        refine Ok.ret ?_
        obtain rfl := Option.some.inj hr
        exact ⟨_, rfl, .inl rfl, trivial⟩
      · clear hk6
        refine Ok.seq ?_
        refine Ok.region ?_
        refine OkOps.q (triQ (x := .c (.tl 1000 (List.map Chord.cs s3))) rfl trivial rfl) ?_
        refine OkOps.q (triLen (enc := Chord.cs) s3 rfl rfl trivial rfl) ?_
        refine OkOps.q (triQ (x := .c (.d (.v (.bool (decide ((s3.length : Int) > 0)))))) rfl trivial rfl) ?_
        refine OkOps.nil ?_
        refine Ok.cond (b := decide ((s3.length : Int) > 0)) rfl (fun h8 => ?_) (fun h8 => ?_)
        · have hr := selT h8 hr
          refine Ok.seq ?_
          refine Ok.region ?_
          refine OkOps.q (triQ (x := .c (.d (.sl (List.map Shortcut.cs a1)))) rfl trivial rfl) ?_
          refine OkOps.q (triQ (x := .c (.d (.sl (List.map (eInt .i64) a2)))) rfl trivial rfl) ?_
          refine OkOps.q (triQ (x := .c (.tl 1000 (List.map Chord.cs s3))) rfl trivial rfl) ?_
          refine OkOps.q (triQ (x := .agg [.d (.v (.int .i64 s1.1)), .d (.v (.int .i64 s1.2))]) rfl trivial rfl) ?_
          refine OkOps.m 0 (triBST (sz := 2) (enc := Chord.cs) (j := 4) ([(Chord.mk s1.1 s1.2)]) rfl rfl rfl rfl rfl rfl rfl rfl (fun _ => rfl) trivial rfl rfl) ?_
          obtain ⟨x9, hx9, hr⟩ := bind_some hr
          refine OkOps.m2 0 (triApp (enc := Chord.cs) (L := s3) (X := [(Chord.mk s1.1 s1.2)]) (j := 1000) (j' := 5) hx9 rfl rfl rfl rfl rfl rfl (fun _ => rfl) (fun _ => rfl) (by decide) trivial rfl rfl) ?_
          refine OkOps.q (triQ (x := .c (.d (.v (.int .i64 a4)))) rfl trivial rfl) ?_
          obtain ⟨x10, hx10, hr⟩ := bind_some hr
          refine OkOps.q (triCall (tau []) (.tup [.agg [.d (.sl (List.map Chord.cs x10.1.Keys)), .d (.v (.int .i64 x10.1.Time))], .c (.d (.v (.int .i64 x10.2.1))), .c (.d (.v (.int .i64 x10.2.2)))]) [] (r32_match_c _ _ _ _ hx10) rfl ⟨.inl rfl, .inl rfl, .inr rfl, .inl rfl, trivial⟩ trivial entry59 trivial rfl rfl rfl rfl trivial rfl rfl rfl) ?_
          refine OkOps.q (triMv (v := .tup [.agg [.d (.sl (List.map Chord.cs x10.1.Keys)), .d (.v (.int .i64 x10.1.Time))], .c (.d (.v (.int .i64 x10.2.1))), .c (.d (.v (.int .i64 x10.2.2)))]) rfl rfl) ?_
          refine OkOps.q (triQ (x := .agg [.d (.sl (List.map Chord.cs x10.1.Keys)), .d (.v (.int .i64 x10.1.Time))]) rfl trivial rfl) ?_
          refine OkOps.q (triQ (x := .c (.d (.v (.int .i64 x10.2.1)))) rfl trivial rfl) ?_
          refine OkOps.q (triQ (x := .c (.d (.v (.int .i64 x10.2.2)))) rfl trivial rfl) ?_
          refine OkOps.m 0 (triAlloc (j := 6) (cs := [.d (.v (.slice none 0 0)), .d (.v (.int .i64 0))]) rfl rfl rfl rfl) ?_
          refine OkOps.w (triStore (cs' := [.d (.sl (List.map Chord.cs x10.1.Keys)), .d (.v (.int .i64 x10.1.Time))]) rfl rfl rfl rfl rfl rfl rfl rfl rfl) ?_
          refine OkOps.q (triQ (x := .c (.d (.v (.int .i64 x10.2.1)))) rfl trivial rfl) ?_
          refine OkOps.q (triQ (x := .c (.d (.v (.int .i64 x10.2.2)))) rfl trivial rfl) ?_
          refine OkOps.nil ?_
          refine Ok.seq ?_
          refine Ok.region ?_
          refine OkOps.q (triQ (x := .c (.d (.v (.int .i64 x10.2.2)))) rfl trivial rfl) ?_
          refine OkOps.q (triQ (x := .c (.d (.v (.bool (x10.2.2 != 0))))) rfl trivial rfl) ?_
          refine OkOps.nil ?_
          refine Ok.cond (b := x10.2.2 != 0) rfl (fun h11 => ?_) (fun h11 => ?_)
          · have hr := selT h11 hr
            refine Ok.seq ?_
            refine Ok.region ?_
            refine OkOps.q (triQ (x := .agg [.d (.sl (List.map Chord.cs x10.1.Keys)), .d (.v (.int .i64 x10.1.Time))]) rfl trivial rfl) ?_
            refine OkOps.q (triQ (x := .c (.d (.v (.int .i64 x10.2.1)))) rfl trivial rfl) ?_
            refine OkOps.q (triQ (x := .c (.d (.v (.int .i64 x10.2.2)))) rfl trivial rfl) ?_
            refine OkOps.w (triStore (cs' := [.d (.sl (List.map Chord.cs x10.1.Keys)), .d (.v (.int .i64 x10.1.Time))]) rfl rfl rfl rfl rfl rfl rfl rfl rfl) ?_
            refine OkOps.q (triQ (x := .c (.d (.v (.int .i64 x10.2.1)))) rfl trivial rfl) ?_
            refine OkOps.q (triQ (x := .c (.d (.v (.int .i64 x10.2.2)))) rfl trivial rfl) ?_
            refine OkOps.nil ?_
            refine Ok.ret ?_
            obtain rfl := Option.some.inj hr
            exact ⟨_, rfl, .inl rfl, trivial⟩
          · have hr := selF h11 hr
            refine Ok.skip ?_
            exact ⟨(), hr, (Conv.mk (tau []) ⟨⟨_, rfl, .inl rfl⟩, ⟨_, rfl, .inl rfl⟩, ⟨_, rfl, .inl rfl⟩, ⟨_, rfl, .inl rfl⟩, ⟨_, rfl, .inl rfl⟩, trivial⟩ ⟨rfl, rfl, trivial⟩ rfl rfl rfl rfl)⟩
        · have hr := selF h8 hr
          refine Ok.skip ?_
          exact ⟨(), hr, (Conv.mk (tau []) ⟨⟨_, rfl, .inl rfl⟩, ⟨_, rfl, .inl rfl⟩, ⟨_, rfl, .inl rfl⟩, ⟨_, rfl, .inl rfl⟩, ⟨_, rfl, .inl rfl⟩, trivial⟩ ⟨rfl, rfl, trivial⟩ rfl rfl rfl rfl)⟩
    · clear hk4
      refine Ok.seq ?_
      refine Ok.region ?_
      refine OkOps.q (triQ (x := .c (.d (.v (.int .i64 a4)))) rfl trivial rfl) ?_
      refine OkOps.q (triQ (x := .c (.loc 0 1)) rfl trivial rfl) ?_
      refine OkOps.q (triQ (x := .c (.d (.v (.int .i64 a0.Time)))) rfl trivial rfl) ?_
      refine OkOps.q (triQ (x := .c (.d (.v (.bool (decide (a4 ≥ a0.Time)))))) rfl trivial rfl) ?_
      refine OkOps.q (triQ (x := .c (.d (.v (.bool (decide (a4 ≥ a0.Time)))))) rfl trivial rfl) ?_
      refine OkOps.q (triQG (x := .c (.d (.v (.int .i64 a4)))) rfl rfl trivial rfl) ?_
      refine OkOps.q (triQG (x := .c (.loc 0 1)) rfl rfl trivial rfl) ?_
      refine OkOps.q (triQG (x := .c (.d (.v (.int .i64 a0.Time)))) rfl rfl ⟨fun h => h, trivial⟩ rfl) ?_
      refine OkOps.q (triQG (x := .c (.d (.v (.int .i64 (IntKind.i64.wrap (a4 - a0.Time)))))) rfl rfl ⟨fun h => h, ⟨fun h => h, trivial⟩⟩ rfl) ?_
      refine OkOps.q (triQG (x := .c (.d (.v (.bool (decide ((IntKind.i64.wrap (a4 - a0.Time)) ≤ 1500)))))) rfl rfl ⟨fun h => h, trivial⟩ rfl) ?_
      refine OkOps.q (triAnd rfl rfl (fun h => h) rfl) ?_
      refine OkOps.nil ?_
      refine Ok.cond (b := (decide (a4 ≥ a0.Time)) && (decide ((IntKind.i64.wrap (a4 - a0.Time)) ≤ 1500))) rfl (fun h12 => ?_) (fun h12 => ?_)
      · have hr := selT h12 hr
        refine Ok.region ?_
        refine OkOps.q (triQ (x := .c (.d (.v (.slice none 0 0)))) rfl trivial rfl) ?_
        refine OkOps.q (triQ (x := .c (.loc 0 0)) rfl trivial rfl) ?_
        refine OkOps.q (triQ (x := .c (.d (.sl (List.map Chord.cs a0.Keys)))) rfl trivial rfl) ?_
        obtain ⟨x13, hx13, hr⟩ := bind_some hr
        refine OkOps.m 0 (triApp0 (sz := 2) (enc := Chord.cs) (X := a0.Keys) (j' := 7) hx13 rfl rfl rfl rfl rfl (fun _ => rfl) (fun _ => rfl) (by decide) trivial rfl rfl) ?_
        refine OkOps.q (triQ (x := .c (.tl 7 (List.map Chord.cs x13))) rfl trivial rfl) ?_
        refine OkOps.nil ?_
        exact ⟨x13, hr, (Conv.mk (tau [(1000, 7)]) ⟨⟨_, rfl, .inl rfl⟩, ⟨_, rfl, .inl rfl⟩, ⟨_, rfl, .inl rfl⟩, ⟨_, rfl, .inl rfl⟩, ⟨_, rfl, .inl rfl⟩, ⟨_, rfl, .inl rfl⟩, trivial⟩ ⟨rfl, rfl, rfl, trivial⟩ rfl rfl rfl rfl)⟩
      · have hr := selF h12 hr
        refine Ok.skip ?_
        exact ⟨([] : (List Chord)), hr, (Conv.trans (Conv.nil 13 1001 2 0 rfl rfl) (Conv.mk (tau [(1000, 1001)]) ⟨⟨_, rfl, .inl rfl⟩, ⟨_, rfl, .inl rfl⟩, ⟨_, rfl, .inl rfl⟩, ⟨_, rfl, .inl rfl⟩, ⟨_, rfl, .inl rfl⟩, ⟨_, rfl, .inl rfl⟩, trivial⟩ ⟨rfl, rfl, rfl, trivial⟩ rfl rfl rfl rfl))⟩
  · clear hk2
    refine Ok.seq ?_
    refine Ok.region ?_
    refine OkOps.q (triQ (x := .c (.loc 1 0)) rfl trivial rfl) ?_
    refine OkOps.q (triQ (x := .c (.d (.v (.int .i64 a3.Key)))) rfl trivial rfl) ?_
    refine OkOps.q (triQ (x := .c (.d (.v (.bool (decide (a3.Key ≥ 65)))))) rfl trivial rfl) ?_
    refine OkOps.q (triQ (x := .c (.d (.v (.bool (decide (a3.Key ≥ 65)))))) rfl trivial rfl) ?_
    refine OkOps.q (triQG (x := .c (.loc 1 0)) rfl rfl trivial rfl) ?_
    refine OkOps.q (triQG (x := .c (.d (.v (.int .i64 a3.Key)))) rfl rfl ⟨fun h => h, trivial⟩ rfl) ?_
    refine OkOps.q (triQG (x := .c (.d (.v (.bool (decide (a3.Key ≤ 90)))))) rfl rfl ⟨fun h => h, trivial⟩ rfl) ?_
    refine OkOps.q (triAnd rfl rfl (fun h => h) rfl) ?_
    refine OkOps.nil ?_
    refine Ok.cond (b := (decide (a3.Key ≥ 65)) && (decide (a3.Key ≤ 90))) rfl (fun h14 => ?_) (fun h14 => ?_)
    · have hr := selT h14 hr
      refine Ok.seq ?_
      refine Ok.region ?_
      refine OkOps.q (triQ (x := .c (.loc 1 0)) rfl trivial rfl) ?_
      refine OkOps.q (triQ (x := .c (.d (.v (.int .i64 a3.Key)))) rfl trivial rfl) ?_
      refine OkOps.q (triQ (x := .c (.d (.v (.int .i64 (IntKind.i64.wrap (a3.Key + 32)))))) rfl trivial rfl) ?_
      refine OkOps.q (triQ (x := .c (.loc 1 0)) rfl trivial rfl) ?_
      refine OkOps.w (triStore (cs' := [.d (.v (.int .i64 (IntKind.i64.wrap (a3.Key + 32)))), .d (.v (.int .i64 a3.Mods))]) rfl rfl rfl rfl rfl rfl rfl rfl rfl) ?_
      refine OkOps.nil ?_
      refine Ok.region ?_
      refine OkOps.q (triQ (x := .c (.loc 1 1)) rfl trivial rfl) ?_
      refine OkOps.q (triQ (x := .c (.d (.v (.int .i64 a3.Mods)))) rfl trivial rfl) ?_
      refine OkOps.q (triQ (x := .c (.d (.v (.int .i64 (bOr .i64 a3.Mods 4))))) rfl trivial rfl) ?_
      refine OkOps.q (triQ (x := .c (.loc 1 1)) rfl trivial rfl) ?_
      refine OkOps.w (triStore (cs' := [.d (.v (.int .i64 (IntKind.i64.wrap (a3.Key + 32)))), .d (.v (.int .i64 (bOr .i64 a3.Mods 4)))]) rfl rfl rfl rfl rfl rfl rfl rfl rfl) ?_
      refine OkOps.nil ?_
      exact ⟨(IntKind.i64.wrap (a3.Key + 32), bOr .i64 a3.Mods 4), hr, (Conv.mk (tau []) ⟨⟨_, rfl, .inl rfl⟩, ⟨_, rfl, .inl rfl⟩, ⟨_, rfl, .inl rfl⟩, ⟨_, rfl, .inl rfl⟩, ⟨_, rfl, .inl rfl⟩, ⟨_, rfl, .inl rfl⟩, trivial⟩ ⟨rfl, rfl, rfl, trivial⟩ rfl rfl rfl rfl)⟩
    · have hr := selF h14 hr
      refine Ok.skip ?_
      exact ⟨(a3.Key, a3.Mods), hr, (Conv.mk (tau []) ⟨⟨_, rfl, .inl rfl⟩, ⟨_, rfl, .inl rfl⟩, ⟨_, rfl, .inl rfl⟩, ⟨_, rfl, .inl rfl⟩, ⟨_, rfl, .inl rfl⟩, ⟨_, rfl, .inl rfl⟩, trivial⟩ ⟨rfl, rfl, rfl, trivial⟩ rfl rfl rfl rfl)⟩
theorem entry25 : Entry Tryd.prog 25 := ⟨_, Tryd.func25, by kernel_rfl, by kernel_rfl⟩
end Go.Proofs.YtodddfoehcfcnaaDoor

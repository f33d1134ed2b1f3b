import Derived.Test.YtodddfoehcfcnaaDoorA4
import Derived.Test.YtodddfoehcfcnaaDoorW3
import Derived.Test.YtodddfoehcfcnaaDoorProg
import Derived.KernelRfl
set_option maxRecDepth 100000
namespace Go.Proofs.YtodddfoehcfcnaaDoor
open Go Go.E2
theorem l32_ShortcutLetters_c (a0 : (List Str)) (a1 : (List Int)) {r : Bool} (hr : l32_ShortcutLetters a0 a1 = some r) : Con Tryd.prog 3 [.c (.d (.sl (List.map eStr a0))), .c (.d (.sl (List.map (eInt .i64) a1)))] [] (.s (.c (.d (.v (.bool r))))) [] := by
  unfold l32_ShortcutLetters at hr
  refine Con.of_ok 101 0 [.tmp 4] [(0, .s (.c (.d (.sl (List.map eStr a0))))), (1, .s (.c (.d (.sl (List.map (eInt .i64) a1)))))] Tryd.func3 rfl rfl rfl rfl rfl rfl rfl rfl fun w g M ρ => ?_
  refine Ok.seq ?_
  refine Ok.region ?_
  refine OkOps.q (triQ (x := .c (.d (.v (.bool false)))) rfl trivial rfl) ?_
  refine OkOps.nil ?_
  refine Ok.seq ?_
  refine Ok.seq ?_
  refine Ok.region ?_
  refine OkOps.q (triQ (x := .c (.d (.sl (List.map eStr a0)))) rfl trivial rfl) ?_
  refine OkOps.q (triLen (enc := eStr) a0 rfl rfl trivial rfl) ?_
  refine OkOps.q (triQ (x := .c (.d (.v (.bool (decide ((a0.length : Int) > 10)))))) rfl trivial rfl) ?_
  refine OkOps.nil ?_
  refine Ok.cond (b := decide ((a0.length : Int) > 10)) rfl (fun h1 => ?_) (fun h1 => ?_)
  · have hr := selT h1 hr
    refine Ok.seq ?_
    refine Ok.region ?_
    refine OkOps.q (triQ (x := .c (.d (.v (.bool true)))) rfl trivial rfl) ?_
    refine OkOps.nil ?_
    refine Ok.ret ?_
    obtain rfl := Option.some.inj hr
    exact ⟨_, rfl, .inl rfl, trivial⟩
  · have hr := selF h1 hr
    refine Ok.skip ?_
    obtain ⟨k3, hk3, hr⟩ := jn_some hr
    refine Ok.join (fun (s2 : Unit) => ⟨[(0, .s (.c (.d (.sl (List.map eStr a0))))), (1, .s (.c (.d (.sl (List.map (eInt .i64) a1)))))], [], 0⟩) k3 r (fun s2 hr => ?_) ?_
    · rw [hk3] at hr
      refine Ok.seq ?_
      refine Ok.region ?_
      refine OkOps.q (triQ (x := .c (.d (.sl (List.map (eInt .i64) a1)))) rfl trivial rfl) ?_
      obtain ⟨x4, hx4, hr⟩ := bind_some hr
      refine OkOps.m 0 (triCall (tau [(0, 0)]) (.s (.c (.loc 0 0))) [(0, .blk [.d (.sl (List.map (eInt .i64) x4.L)), .d (.v (.int .i64 x4.At))] 96)] (b_New_c _ hx4) rfl ⟨.inl rfl, trivial⟩ trivial entry14 trivial rfl rfl rfl rfl ⟨rfl, trivial⟩ rfl rfl rfl) ?_
      refine OkOps.q (triQ (x := .c (.loc 0 0)) rfl trivial rfl) ?_
      refine OkOps.nil ?_
      refine Ok.seq ?_
      refine Ok.region ?_
      refine OkOps.q (triQ (x := .c (.d (.v (.slice none 0 0)))) rfl trivial rfl) ?_
      refine OkOps.nil ?_
      obtain ⟨k6, hk6, hr⟩ := jn_some hr
      refine Ok.join (fun (s5 : (List Str)) => ⟨[(0, .s (.c (.d (.sl (List.map eStr a0))))), (7, .s (.c (.tl 1004 (List.map eStr s5))))], [(1004, .tail 1)], 0⟩) k6 r (fun s5 hr => ?_) ?_
      · rw [hk6] at hr
        refine Ok.seq ?_
        refine Ok.region ?_
        refine OkOps.q (triQ (x := .c (.d (.sl (List.map eStr a0)))) rfl trivial rfl) ?_
        refine OkOps.q (triQ (x := .c (.tl 1004 (List.map eStr s5))) rfl trivial rfl) ?_
        refine OkOps.m 0 (triBST (sz := 1) (enc := (eSl eStr)) (j := 1) ([a0, s5]) rfl rfl rfl rfl rfl rfl rfl rfl (fun _ => rfl) trivial rfl rfl) ?_
        refine OkOps.q (triQ (x := .c (.tl 1 (List.map (eSl eStr) ([a0, s5])))) rfl trivial rfl) ?_
        refine OkOps.nil ?_
        obtain ⟨k8, hk8, hr⟩ := jn_some hr
        refine Ok.join (fun (s7 : Unit) => ⟨[], [], 0⟩) k8 r (fun s7 hr => ?_) ?_
        · rw [hk8] at hr
          refine Ok.seq ?_
          refine Ok.region ?_
          obtain ⟨x9, hx9, hr⟩ := bind_some hr
          refine OkOps.q (triCall (tau []) (.s (.c (.d (.v (.bool x9))))) [] (l32_awake_c  hx9) rfl trivial trivial entry19 trivial rfl rfl rfl rfl trivial rfl rfl rfl) ?_
          refine OkOps.q (triQ (x := .c (.d (.v (.bool x9)))) rfl trivial rfl) ?_
          refine OkOps.nil ?_
          refine Ok.ret ?_
          obtain rfl := Option.some.inj hr
          exact ⟨_, rfl, .inl rfl, trivial⟩
        · clear hk8
          refine Ok.seq ?_
          refine Ok.region ?_
          refine OkOps.q (triQ (x := .c (.d (.v (.int .i64 0)))) rfl trivial rfl) ?_
          refine OkOps.nil ?_
          refine Ok.block ?_
          refine Ok.loopK (fun (s10 : Int) => ⟨[(9, .s (.c (.tl 1 (List.map (eSl eStr) ([a0, s5]))))), (10, .s (.c (.d (.v (.int .i64 s10)))))], [(1, .tail 1)], 0⟩) hr (Conv.mk (tau []) ⟨⟨_, rfl, .inl rfl⟩, ⟨_, rfl, .inl rfl⟩, trivial⟩ ⟨rfl, trivial⟩ rfl rfl rfl rfl) ?_
          clear hr
          intro again11 s10 hr
          unfold l32_ShortcutLetters_L2 at hr
          refine Ok.seq ?_
          refine Ok.seq ?_
          refine Ok.region ?_
          refine OkOps.q (triQ (x := .c (.d (.v (.int .i64 s10)))) rfl trivial rfl) ?_
          refine OkOps.q (triQ (x := .c (.tl 1 (List.map (eSl eStr) ([a0, s5])))) rfl trivial rfl) ?_
          refine OkOps.q (triLen (enc := (eSl eStr)) ([a0, s5]) rfl rfl trivial rfl) ?_
          refine OkOps.q (triQ (x := .c (.d (.v (.bool (decide (s10 < (([a0, s5]).length : Int))))))) rfl trivial rfl) ?_
          refine OkOps.nil ?_
          refine Ok.cond (b := decide (s10 < (([a0, s5]).length : Int))) rfl (fun h12 => ?_) (fun h12 => ?_)
          · have hr := selT h12 hr
            refine Ok.skip ?_
            obtain ⟨k14, hk14, hr⟩ := jn_some hr
            refine Ok.join (fun (s13 : Unit) => ⟨[(9, .s (.c (.tl 1 (List.map (eSl eStr) ([a0, s5]))))), (10, .s (.c (.d (.v (.int .i64 s10)))))], [(1, .tail 1)], 0⟩) k14 r (fun s13 hr => ?_) ?_
            · rw [hk14] at hr
              refine Ok.region ?_
              refine OkOps.q (triQ (x := .c (.d (.v (.int .i64 s10)))) rfl trivial rfl) ?_
              refine OkOps.q (triQ (x := .c (.d (.v (.int .i64 (IntKind.i64.wrap (s10 + 1)))))) rfl trivial rfl) ?_
              refine OkOps.q (triQ (x := .c (.d (.v (.int .i64 (IntKind.i64.wrap (s10 + 1)))))) rfl trivial rfl) ?_
              refine OkOps.nil ?_
              exact ⟨IntKind.i64.wrap (s10 + 1), hr, (Conv.mk (tau []) ⟨⟨_, rfl, .inl rfl⟩, ⟨_, rfl, .inl rfl⟩, trivial⟩ ⟨rfl, trivial⟩ rfl rfl rfl rfl)⟩
            · clear hk14
              refine Ok.block ?_
              refine Ok.seq ?_
              refine Ok.region ?_
              refine OkOps.q (triQ (x := .c (.tl 1 (List.map (eSl eStr) ([a0, s5])))) rfl trivial rfl) ?_
              refine OkOps.q (triQ (x := .c (.d (.v (.int .i64 s10)))) rfl trivial rfl) ?_
              obtain ⟨x15, hx15, hr⟩ := bind_some hr
              refine OkOps.q (triIdx (enc := (eSl eStr)) (L := [a0, s5]) (row := [.sl (List.map eStr x15)]) hx15 rfl rfl rfl rfl (fun _ => rfl) trivial rfl) ?_
              refine OkOps.q (triQ (x := .c (.d (.sl (List.map eStr x15)))) rfl trivial rfl) ?_
              obtain ⟨x16, hx16, hr⟩ := bind_some hr
              refine OkOps.q (triCall (tau []) (.tup [.c (.d (.sl (List.map (eInt .i64) x16.1))), .c (.d (.v (.int .i64 x16.2)))]) [] (sc_Mnemonics_c _ hx16) rfl ⟨.inl rfl, trivial⟩ trivial entry17 trivial rfl rfl rfl rfl trivial rfl rfl rfl) ?_
              refine OkOps.q (triMv (v := .tup [.c (.d (.sl (List.map (eInt .i64) x16.1))), .c (.d (.v (.int .i64 x16.2)))]) rfl rfl) ?_
              refine OkOps.q (triQ (x := .c (.d (.sl (List.map (eInt .i64) x16.1)))) rfl trivial rfl) ?_
              refine OkOps.q (triQ (x := .c (.d (.v (.int .i64 x16.2)))) rfl trivial rfl) ?_
              refine OkOps.q (triQ (x := .c (.d (.sl (List.map (eInt .i64) x16.1)))) rfl trivial rfl) ?_
              refine OkOps.q (triQ (x := .c (.d (.v (.int .i64 x16.2)))) rfl trivial rfl) ?_
              refine OkOps.nil ?_
              refine Ok.seq ?_
              refine Ok.region ?_
              refine OkOps.q (triQ (x := .c (.tl 1 (List.map (eSl eStr) ([a0, s5])))) rfl trivial rfl) ?_
              refine OkOps.q (triQ (x := .c (.d (.v (.int .i64 s10)))) rfl trivial rfl) ?_
              obtain ⟨x17, hx17, hr⟩ := bind_some hr
              refine OkOps.q (triIdx (enc := (eSl eStr)) (L := [a0, s5]) (row := [.sl (List.map eStr x17)]) hx17 rfl rfl rfl rfl (fun _ => rfl) trivial rfl) ?_
              refine OkOps.q (triQ (x := .c (.d (.sl (List.map eStr x17)))) rfl trivial rfl) ?_
              obtain ⟨x18, hx18, hr⟩ := bind_some hr
              refine OkOps.q (triCall (tau []) (.tup [.c (.d (.sl (List.map (eInt .i64) x18.1))), .c (.d (.v (.int .i64 x18.2)))]) [] (r32_Mnemonics_c _ hx18) rfl ⟨.inl rfl, trivial⟩ trivial entry18 trivial rfl rfl rfl rfl trivial rfl rfl rfl) ?_
              refine OkOps.q (triMv (v := .tup [.c (.d (.sl (List.map (eInt .i64) x18.1))), .c (.d (.v (.int .i64 x18.2)))]) rfl rfl) ?_
              refine OkOps.q (triQ (x := .c (.d (.sl (List.map (eInt .i64) x18.1)))) rfl trivial rfl) ?_
              refine OkOps.q (triQ (x := .c (.d (.v (.int .i64 x18.2)))) rfl trivial rfl) ?_
              refine OkOps.q (triQ (x := .c (.d (.sl (List.map (eInt .i64) x18.1)))) rfl trivial rfl) ?_
              refine OkOps.q (triQ (x := .c (.d (.v (.int .i64 x18.2)))) rfl trivial rfl) ?_
              refine OkOps.nil ?_
              refine Ok.seq ?_
              refine Ok.seq ?_
              refine Ok.region ?_
              refine OkOps.q (triQ (x := .c (.d (.v (.int .i64 x16.2)))) rfl trivial rfl) ?_
              refine OkOps.q (triQ (x := .c (.d (.v (.int .i64 x18.2)))) rfl trivial rfl) ?_
              refine OkOps.q (triQ (x := .c (.d (.v (.bool (x16.2 != x18.2))))) rfl trivial rfl) ?_
              refine OkOps.q (triQ (x := .c (.d (.v (.bool (x16.2 != x18.2))))) rfl trivial rfl) ?_
              refine OkOps.q (triQG (x := .c (.d (.sl (List.map (eInt .i64) x16.1)))) rfl rfl trivial rfl) ?_
              refine OkOps.q (triLenG (enc := (eInt .i64)) x16.1 rfl rfl rfl ⟨fun h => h, trivial⟩ rfl) ?_
              refine OkOps.q (triQG (x := .c (.d (.sl (List.map (eInt .i64) x18.1)))) rfl rfl trivial rfl) ?_
              refine OkOps.q (triLenG (enc := (eInt .i64)) x18.1 rfl rfl rfl ⟨fun h => h, trivial⟩ rfl) ?_
              refine OkOps.q (triQG (x := .c (.d (.v (.bool ((x16.1.length : Int) != (x18.1.length : Int)))))) rfl rfl ⟨fun h => h, ⟨fun h => h, trivial⟩⟩ rfl) ?_
              refine OkOps.q (triOr rfl rfl (fun h => by rw [h]; rfl) rfl) ?_
              refine OkOps.nil ?_
              refine Ok.cond (b := (x16.2 != x18.2) || ((x16.1.length : Int) != (x18.1.length : Int))) rfl (fun h19 => ?_) (fun h19 => ?_)
              · have hr := selT h19 hr
                refine Ok.seq ?_
                refine Ok.region ?_
                refine OkOps.q (triQ (x := .c (.d (.v (.bool false)))) rfl trivial rfl) ?_
                refine OkOps.nil ?_
                refine Ok.ret ?_
                obtain rfl := Option.some.inj hr
                exact ⟨_, rfl, .inl rfl, trivial⟩
              · have hr := selF h19 hr
                refine Ok.skip ?_
                refine Ok.seq ?_
                refine Ok.region ?_
                refine OkOps.q (triQ (x := .c (.d (.v (.int .i64 0)))) rfl trivial rfl) ?_
                refine OkOps.nil ?_
                obtain ⟨k21, hk21, hr⟩ := jn_some hr
                refine Ok.joinEnd (fun (s20 : Unit) => ⟨[(9, .s (.c (.tl 1 (List.map (eSl eStr) ([a0, s5]))))), (10, .s (.c (.d (.v (.int .i64 s10)))))], [(1, .tail 1)], 0⟩) k21 r (fun s20 hr => ?_) ?_
                · rw [hk21] at hr
                  exact ⟨(), hr, (Conv.mk (tau []) ⟨⟨_, rfl, .inl rfl⟩, ⟨_, rfl, .inl rfl⟩, trivial⟩ ⟨rfl, trivial⟩ rfl rfl rfl rfl)⟩
                · clear hk21
                  refine Ok.block ?_
                  refine Ok.loopK (fun (s22 : Int) => ⟨[(9, .s (.c (.tl 1 (List.map (eSl eStr) ([a0, s5]))))), (10, .s (.c (.d (.v (.int .i64 s10))))), (11, .s (.c (.d (.sl (List.map (eInt .i64) x16.1))))), (13, .s (.c (.d (.sl (List.map (eInt .i64) x18.1))))), (15, .s (.c (.d (.v (.int .i64 s22)))))], [(1, .tail 1)], 0⟩) hr (Conv.mk (tau []) ⟨⟨_, rfl, .inl rfl⟩, ⟨_, rfl, .inl rfl⟩, ⟨_, rfl, .inl rfl⟩, ⟨_, rfl, .inl rfl⟩, ⟨_, rfl, .inl rfl⟩, trivial⟩ ⟨rfl, trivial⟩ rfl rfl rfl rfl) ?_
                  clear hr
                  intro again23 s22 hr
                  unfold l32_ShortcutLetters_L1 at hr
                  refine Ok.seq ?_
                  refine Ok.seq ?_
                  refine Ok.region ?_
                  refine OkOps.q (triQ (x := .c (.d (.v (.int .i64 s22)))) rfl trivial rfl) ?_
                  refine OkOps.q (triQ (x := .c (.d (.sl (List.map (eInt .i64) x16.1)))) rfl trivial rfl) ?_
                  refine OkOps.q (triLen (enc := (eInt .i64)) x16.1 rfl rfl trivial rfl) ?_
                  refine OkOps.q (triQ (x := .c (.d (.v (.bool (decide (s22 < (x16.1.length : Int))))))) rfl trivial rfl) ?_
                  refine OkOps.nil ?_
                  refine Ok.cond (b := decide (s22 < (x16.1.length : Int))) rfl (fun h24 => ?_) (fun h24 => ?_)
                  · have hr := selT h24 hr
                    refine Ok.skip ?_
                    refine Ok.seq ?_
                    refine Ok.block ?_
                    refine Ok.seq ?_
                    refine Ok.regionD (by kernel_rfl) ?_
                    refine OkD.q (triQ (x := .c (.d (.sl (List.map (eInt .i64) x16.1)))) rfl trivial rfl) ?_
                    refine OkD.q (triQ (x := .c (.d (.v (.int .i64 s22)))) rfl trivial rfl) ?_
                    obtain ⟨x25, hx25, hr⟩ := bind_some hr
                    refine OkD.q (triIdx (enc := (eInt .i64)) (L := x16.1) (row := [.v (.int .i64 x25)]) hx25 rfl rfl rfl rfl (fun _ => rfl) trivial rfl) ?_
                    refine OkD.q (triQ (x := .c (.d (.v (.int .i64 x25)))) rfl trivial rfl) ?_
                    refine OkD.q (triQ (x := .c (.d (.sl (List.map (eInt .i64) x18.1)))) rfl trivial rfl) ?_
                    refine OkD.q (triQ (x := .c (.d (.v (.int .i64 s22)))) rfl trivial rfl) ?_
                    obtain ⟨x26, hx26, hr⟩ := bind_some hr
                    refine OkD.q (triIdx (enc := (eInt .i64)) (L := x18.1) (row := [.v (.int .i64 x26)]) hx26 rfl rfl rfl rfl (fun _ => rfl) trivial rfl) ?_
                    refine OkD.q (triQ (x := .c (.d (.v (.int .i64 x26)))) rfl trivial rfl) ?_
                    refine OkD.q (triQ (x := .c (.d (.v (.bool (x25 != x26))))) rfl trivial rfl) ?_
                    refine OkD.nil (by kernel_rfl) ?_
                    refine Ok.cond (b := x25 != x26) rfl (fun h27 => ?_) (fun h27 => ?_)
                    · have hr := selT h27 hr
                      refine Ok.seq ?_
                      refine Ok.region ?_
                      refine OkOps.q (triQ (x := .c (.d (.v (.bool false)))) rfl trivial rfl) ?_
                      refine OkOps.nil ?_
                      refine Ok.ret ?_
                      obtain rfl := Option.some.inj hr
                      exact ⟨_, rfl, .inl rfl, trivial⟩
                    · have hr := selF h27 hr
                      refine Ok.skip ?_
                      refine Ok.region ?_
                      refine OkOps.q (triQ (x := .c (.d (.v (.int .i64 s22)))) rfl trivial rfl) ?_
                      refine OkOps.q (triQ (x := .c (.d (.v (.int .i64 (IntKind.i64.wrap (s22 + 1)))))) rfl trivial rfl) ?_
                      refine OkOps.q (triQ (x := .c (.d (.v (.int .i64 (IntKind.i64.wrap (s22 + 1)))))) rfl trivial rfl) ?_
                      refine OkOps.nil ?_
                      exact ⟨IntKind.i64.wrap (s22 + 1), hr, (Conv.mk (tau []) ⟨⟨_, rfl, .inl rfl⟩, ⟨_, rfl, .inl rfl⟩, ⟨_, rfl, .inl rfl⟩, ⟨_, rfl, .inl rfl⟩, ⟨_, rfl, .inl rfl⟩, trivial⟩ ⟨rfl, trivial⟩ rfl rfl rfl rfl)⟩
                  · have hr := selF h24 hr
                    refine Ok.exit ?_
                    exact ⟨(), hr, (Conv.mk (tau []) ⟨⟨_, rfl, .inl rfl⟩, ⟨_, rfl, .inl rfl⟩, trivial⟩ ⟨rfl, trivial⟩ rfl rfl rfl rfl)⟩
          · have hr := selF h12 hr
            refine Ok.exit ?_
            exact ⟨(), hr, (Conv.mk (tau []) trivial trivial rfl rfl rfl rfl)⟩
      · clear hk6
        refine Ok.seq ?_
        refine Ok.region ?_
        refine OkOps.q (triQ (x := .c (.loc 0 0)) rfl trivial rfl) ?_
        obtain ⟨x28, hx28, hr⟩ := bind_some hr
        refine OkOps.m 0 (triCall (tau [(0, 0)]) (.s (.c (.d (.v (.int .i64 x28.1))))) [(0, .blk [.d (.sl (List.map (eInt .i64) x28.2.L)), .d (.v (.int .i64 x28.2.At))] 96)] (b_Src_N_c _ _ hx28) rfl ⟨.inl rfl, .inl rfl, trivial⟩ trivial entry15 ⟨rfl, trivial⟩ rfl rfl rfl rfl trivial rfl rfl rfl) ?_
        refine OkOps.q (triQ (x := .c (.d (.v (.int .i64 x28.1)))) rfl trivial rfl) ?_
        refine OkOps.nil ?_
        refine Ok.block ?_
        refine Ok.loopK (fun (s29 : (List Str) × Int × (List Int) × Int) => ⟨[(0, .s (.c (.d (.sl (List.map eStr a0))))), (6, .s (.c (.loc 0 0))), (7, .s (.c (.tl 1007 (List.map eStr s29.1)))), (8, .s (.c (.d (.v (.int .i64 s29.2.1)))))], [(0, .blk [.d (.sl (List.map (eInt .i64) s29.2.2.1)), .d (.v (.int .i64 s29.2.2.2))] 96), (1007, .tail 1)], 0⟩) hr (Conv.trans (Conv.nil 7 1009 1 0 rfl rfl) (Conv.mk (tau [(1007, 1009)]) ⟨⟨_, rfl, .inl rfl⟩, ⟨_, rfl, .inl rfl⟩, ⟨_, rfl, .inl rfl⟩, ⟨_, rfl, .inl rfl⟩, trivial⟩ ⟨rfl, rfl, trivial⟩ rfl rfl rfl rfl)) ?_
        clear hr
        intro again30 s29 hr
        unfold l32_ShortcutLetters_L3 at hr
        refine Ok.seq ?_
        refine Ok.seq ?_
        refine Ok.region ?_
        refine OkOps.q (triQ (x := .c (.d (.v (.int .i64 s29.2.1)))) rfl trivial rfl) ?_
        refine OkOps.q (triQ (x := .c (.d (.v (.bool (decide (s29.2.1 > 0)))))) rfl trivial rfl) ?_
        refine OkOps.nil ?_
        refine Ok.cond (b := decide (s29.2.1 > 0)) rfl (fun h31 => ?_) (fun h31 => ?_)
        · have hr := selT h31 hr
          refine Ok.skip ?_
          refine Ok.seq ?_
          refine Ok.block ?_
          refine Ok.region ?_
          refine OkOps.q (triQ (x := .c (.tl 1007 (List.map eStr s29.1))) rfl trivial rfl) ?_
          refine OkOps.q (triQ (x := .c (.loc 0 0)) rfl trivial rfl) ?_
          obtain ⟨x32, hx32, hr⟩ := bind_some hr
          refine OkOps.m 0 (triCall (tau [(0, 0)]) (.s (.c (.d (.v (.string x32.1))))) [(0, .blk [.d (.sl (List.map (eInt .i64) x32.2.L)), .d (.v (.int .i64 x32.2.At))] 96)] (b_Src_Word_c _ _ hx32) rfl ⟨.inl rfl, .inl rfl, trivial⟩ trivial entry16 ⟨rfl, trivial⟩ rfl rfl rfl rfl trivial rfl rfl rfl) ?_
          refine OkOps.m 0 (triBST (sz := 1) (enc := eStr) (j := 2) ([(ByteArray.mk #[]), (ByteArray.mk #[65]), (ByteArray.mk #[66]), (ByteArray.mk #[32, 49]), (ByteArray.mk #[45])]) rfl rfl rfl rfl rfl rfl rfl rfl (fun _ => rfl) trivial rfl rfl) ?_
          refine OkOps.q (triQ (x := .c (.loc 0 0)) rfl trivial rfl) ?_
          obtain ⟨x33, hx33, hr⟩ := bind_some hr
          refine OkOps.m 0 (triCall (tau [(0, 0)]) (.s (.c (.d (.v (.int .i64 x33.1))))) [(0, .blk [.d (.sl (List.map (eInt .i64) x33.2.L)), .d (.v (.int .i64 x33.2.At))] 96)] (b_Src_N_c _ _ hx33) rfl ⟨.inl rfl, .inl rfl, trivial⟩ trivial entry15 ⟨rfl, trivial⟩ rfl rfl rfl rfl trivial rfl rfl rfl) ?_
          obtain ⟨x34, hx34, hr⟩ := bind_some hr
          refine OkOps.q (triIdx (enc := eStr) (L := [(ByteArray.mk #[]), (ByteArray.mk #[65]), (ByteArray.mk #[66]), (ByteArray.mk #[32, 49]), (ByteArray.mk #[45])]) (row := [.v (.string x34)]) hx34 rfl rfl rfl rfl (fun _ => rfl) trivial rfl) ?_
          refine OkOps.q (triQ (x := .c (.d (.v (.string x34)))) rfl trivial rfl) ?_
          obtain ⟨x35, hx35, hr⟩ := bind_some hr
          refine OkOps.q (triCat hx35 rfl rfl trivial rfl) ?_
          refine OkOps.m 0 (triBST (sz := 1) (enc := eStr) (j := 3) ([x35]) rfl rfl rfl rfl rfl rfl rfl rfl (fun _ => rfl) trivial rfl rfl) ?_
          obtain ⟨x36, hx36, hr⟩ := bind_some hr
          refine OkOps.m2 0 (triApp (enc := eStr) (L := s29.1) (X := [x35]) (j := 1007) (j' := 4) hx36 rfl rfl rfl rfl rfl rfl (fun _ => rfl) (fun _ => rfl) (by decide) trivial rfl rfl) ?_
          refine OkOps.q (triQ (x := .c (.tl 4 (List.map eStr x36))) rfl trivial rfl) ?_
          refine OkOps.nil ?_
          refine Ok.region ?_
          refine OkOps.q (triQ (x := .c (.d (.v (.int .i64 s29.2.1)))) rfl trivial rfl) ?_
          refine OkOps.q (triQ (x := .c (.d (.v (.int .i64 (IntKind.i64.wrap (s29.2.1 - 1)))))) rfl trivial rfl) ?_
          refine OkOps.q (triQ (x := .c (.d (.v (.int .i64 (IntKind.i64.wrap (s29.2.1 - 1)))))) rfl trivial rfl) ?_
          refine OkOps.nil ?_
          exact ⟨(x36, IntKind.i64.wrap (s29.2.1 - 1), x33.2.L, x33.2.At), hr, (Conv.mk (tau [(1007, 4)]) ⟨⟨_, rfl, .inl rfl⟩, ⟨_, rfl, .inl rfl⟩, ⟨_, rfl, .inl rfl⟩, ⟨_, rfl, .inl rfl⟩, trivial⟩ ⟨rfl, rfl, trivial⟩ rfl rfl rfl rfl)⟩
        · have hr := selF h31 hr
          refine Ok.exit ?_
          exact ⟨s29.1, hr, (Conv.mk (tau [(1004, 1007)]) ⟨⟨_, rfl, .inl rfl⟩, ⟨_, rfl, .inl rfl⟩, trivial⟩ ⟨rfl, trivial⟩ rfl rfl rfl rfl)⟩
    · clear hk3
      refine Ok.seq ?_
      refine Ok.region ?_
      refine OkOps.q (triQ (x := .c (.d (.v (.int .i64 0)))) rfl trivial rfl) ?_
      refine OkOps.nil ?_
      refine Ok.block ?_
      refine Ok.loopK (fun (s37 : Int) => ⟨[(0, .s (.c (.d (.sl (List.map eStr a0))))), (1, .s (.c (.d (.sl (List.map (eInt .i64) a1))))), (5, .s (.c (.d (.v (.int .i64 s37)))))], [], 0⟩) hr (Conv.mk (tau []) ⟨⟨_, rfl, .inl rfl⟩, ⟨_, rfl, .inl rfl⟩, ⟨_, rfl, .inl rfl⟩, trivial⟩ trivial rfl rfl rfl rfl) ?_
      clear hr
      intro again38 s37 hr
      unfold l32_ShortcutLetters_L4 at hr
      refine Ok.seq ?_
      refine Ok.seq ?_
      refine Ok.region ?_
      refine OkOps.q (triQ (x := .c (.d (.v (.int .i64 s37)))) rfl trivial rfl) ?_
      refine OkOps.q (triQ (x := .c (.d (.sl (List.map eStr a0)))) rfl trivial rfl) ?_
      refine OkOps.q (triLen (enc := eStr) a0 rfl rfl trivial rfl) ?_
      refine OkOps.q (triQ (x := .c (.d (.v (.bool (decide (s37 < (a0.length : Int))))))) rfl trivial rfl) ?_
      refine OkOps.nil ?_
      refine Ok.cond (b := decide (s37 < (a0.length : Int))) rfl (fun h39 => ?_) (fun h39 => ?_)
      · have hr := selT h39 hr
        refine Ok.skip ?_
        refine Ok.seq ?_
        refine Ok.block ?_
        refine Ok.seq ?_
        refine Ok.region ?_
        refine OkOps.q (triQ (x := .c (.d (.sl (List.map eStr a0)))) rfl trivial rfl) ?_
        refine OkOps.q (triQ (x := .c (.d (.v (.int .i64 s37)))) rfl trivial rfl) ?_
        obtain ⟨x40, hx40, hr⟩ := bind_some hr
        refine OkOps.q (triIdx (enc := eStr) (L := a0) (row := [.v (.string x40)]) hx40 rfl rfl rfl rfl (fun _ => rfl) trivial rfl) ?_
        refine OkOps.q (triQ (x := .c (.d (.v (.string x40)))) rfl trivial rfl) ?_
        refine OkOps.q (triQ (x := .c (.d (.v (.int .i64 (x40.size : Int))))) rfl trivial rfl) ?_
        refine OkOps.q (triQ (x := .c (.d (.v (.bool (decide ((x40.size : Int) > 20)))))) rfl trivial rfl) ?_
        refine OkOps.nil ?_
        refine Ok.cond (b := decide ((x40.size : Int) > 20)) rfl (fun h41 => ?_) (fun h41 => ?_)
        · have hr := selT h41 hr
          refine Ok.seq ?_
          refine Ok.region ?_
          refine OkOps.q (triQ (x := .c (.d (.v (.bool true)))) rfl trivial rfl) ?_
          refine OkOps.nil ?_
          refine Ok.ret ?_
          obtain rfl := Option.some.inj hr
          exact ⟨_, rfl, .inl rfl, trivial⟩
        · have hr := selF h41 hr
          refine Ok.skip ?_
          refine Ok.region ?_
          refine OkOps.q (triQ (x := .c (.d (.v (.int .i64 s37)))) rfl trivial rfl) ?_
          refine OkOps.q (triQ (x := .c (.d (.v (.int .i64 (IntKind.i64.wrap (s37 + 1)))))) rfl trivial rfl) ?_
          refine OkOps.q (triQ (x := .c (.d (.v (.int .i64 (IntKind.i64.wrap (s37 + 1)))))) rfl trivial rfl) ?_
          refine OkOps.nil ?_
          exact ⟨IntKind.i64.wrap (s37 + 1), hr, (Conv.mk (tau []) ⟨⟨_, rfl, .inl rfl⟩, ⟨_, rfl, .inl rfl⟩, ⟨_, rfl, .inl rfl⟩, trivial⟩ trivial rfl rfl rfl rfl)⟩
      · have hr := selF h39 hr
        refine Ok.exit ?_
        exact ⟨(), hr, (Conv.mk (tau []) ⟨⟨_, rfl, .inl rfl⟩, ⟨_, rfl, .inl rfl⟩, trivial⟩ trivial rfl rfl rfl rfl)⟩
theorem entry3 : Entry Tryd.prog 3 := ⟨_, Tryd.func3, by kernel_rfl, by kernel_rfl⟩
theorem l32_ShortcutDistinct_c (a0 : (List Int)) {r : Bool} (hr : l32_ShortcutDistinct a0 = some r) : Con Tryd.prog 4 [.c (.d (.sl (List.map (eInt .i64) a0)))] [] (.s (.c (.d (.v (.bool r))))) [] := by
  unfold l32_ShortcutDistinct at hr
  refine Con.of_ok 168 0 [.tmp 2] [(0, .s (.c (.d (.sl (List.map (eInt .i64) a0)))))] Tryd.func4 rfl rfl rfl rfl rfl rfl rfl rfl fun w g M ρ => ?_
  refine Ok.seq ?_
  refine Ok.region ?_
  refine OkOps.q (triQ (x := .c (.d (.v (.bool false)))) rfl trivial rfl) ?_
  refine OkOps.nil ?_
  refine Ok.seq ?_
  refine Ok.region ?_
  refine OkOps.q (triQ (x := .c (.d (.sl (List.map (eInt .i64) a0)))) rfl trivial rfl) ?_
  obtain ⟨x1, hx1, hr⟩ := bind_some hr
  refine OkOps.m 0 (triCall (tau [(0, 0)]) (.s (.c (.loc 0 0))) [(0, .blk [.d (.sl (List.map (eInt .i64) x1.L)), .d (.v (.int .i64 x1.At))] 96)] (b_New_c _ hx1) rfl ⟨.inl rfl, trivial⟩ trivial entry14 trivial rfl rfl rfl rfl ⟨rfl, trivial⟩ rfl rfl rfl) ?_
  refine OkOps.q (triQ (x := .c (.loc 0 0)) rfl trivial rfl) ?_
  refine OkOps.nil ?_
  refine Ok.seq ?_
  refine Ok.region ?_
  refine OkOps.q (triQ (x := .c (.d (.v (.slice none 0 0)))) rfl trivial rfl) ?_
  refine OkOps.nil ?_
  obtain ⟨k3, hk3, hr⟩ := jn_some hr
  refine Ok.join (fun (s2 : (List Str)) => ⟨[(4, .s (.c (.tl 1004 (List.map eStr s2))))], [(1004, .tail 1)], 0⟩) k3 r (fun s2 hr => ?_) ?_
  · rw [hk3] at hr
    refine Ok.seq ?_
    refine Ok.region ?_
    refine OkOps.q (triQ (x := .c (.tl 1004 (List.map eStr s2))) rfl trivial rfl) ?_
    obtain ⟨x4, hx4, hr⟩ := bind_some hr
    refine OkOps.q (triCall (tau []) (.tup [.c (.d (.sl (List.map (eInt .i64) x4.1))), .c (.d (.v (.int .i64 x4.2)))]) [] (sc_Mnemonics_c _ hx4) rfl ⟨.inr rfl, trivial⟩ trivial entry17 trivial rfl rfl rfl rfl trivial rfl rfl rfl) ?_
    refine OkOps.q (triMv (v := .tup [.c (.d (.sl (List.map (eInt .i64) x4.1))), .c (.d (.v (.int .i64 x4.2)))]) rfl rfl) ?_
    refine OkOps.q (triQ (x := .c (.d (.sl (List.map (eInt .i64) x4.1)))) rfl trivial rfl) ?_
    refine OkOps.q (triQ (x := .c (.d (.v (.int .i64 x4.2)))) rfl trivial rfl) ?_
    refine OkOps.q (triQ (x := .c (.d (.sl (List.map (eInt .i64) x4.1)))) rfl trivial rfl) ?_
    refine OkOps.q (triQ (x := .c (.d (.v (.int .i64 x4.2)))) rfl trivial rfl) ?_
    refine OkOps.nil ?_
    refine Ok.seq ?_
    refine Ok.seq ?_
    refine Ok.region ?_
    refine OkOps.q (triQ (x := .c (.d (.v (.int .i64 x4.2)))) rfl trivial rfl) ?_
    refine OkOps.q (triQ (x := .c (.d (.v (.bool (x4.2 != 0))))) rfl trivial rfl) ?_
    refine OkOps.q (triQ (x := .c (.d (.v (.bool (x4.2 != 0))))) rfl trivial rfl) ?_
    refine OkOps.q (triQG (x := .c (.d (.sl (List.map (eInt .i64) x4.1)))) rfl rfl trivial rfl) ?_
    refine OkOps.q (triLenG (enc := (eInt .i64)) x4.1 rfl rfl rfl ⟨fun h => h, trivial⟩ rfl) ?_
    refine OkOps.q (triQG (x := .c (.tl 1004 (List.map eStr s2))) rfl rfl trivial rfl) ?_
    refine OkOps.q (triLenG (enc := eStr) s2 rfl rfl rfl ⟨fun h => h, trivial⟩ rfl) ?_
    refine OkOps.q (triQG (x := .c (.d (.v (.bool ((x4.1.length : Int) != (s2.length : Int)))))) rfl rfl ⟨fun h => h, ⟨fun h => h, trivial⟩⟩ rfl) ?_
    refine OkOps.q (triOr rfl rfl (fun h => by rw [h]; rfl) rfl) ?_
    refine OkOps.nil ?_
    refine Ok.cond (b := (x4.2 != 0) || ((x4.1.length : Int) != (s2.length : Int))) rfl (fun h5 => ?_) (fun h5 => ?_)
    · have hr := selT h5 hr
      refine Ok.seq ?_
      refine Ok.region ?_
      refine OkOps.q (triQ (x := .c (.d (.v (.bool false)))) rfl trivial rfl) ?_
      refine OkOps.nil ?_
      refine Ok.ret ?_
      obtain rfl := Option.some.inj hr
      exact ⟨_, rfl, .inl rfl, trivial⟩
    · have hr := selF h5 hr
      refine Ok.skip ?_
      refine Ok.seq ?_
      refine Ok.region ?_
      refine OkOps.q (triQ (x := .c (.d (.v (.slice none 0 0)))) rfl trivial rfl) ?_
      refine OkOps.nil ?_
      obtain ⟨k7, hk7, hr⟩ := jn_some hr
      refine Ok.join (fun (s6 : (List Int)) => ⟨[(4, .s (.c (.tl 1004 (List.map eStr s2)))), (6, .s (.c (.d (.sl (List.map (eInt .i64) x4.1))))), (8, .s (.c (.tl 1013 (List.map (eInt .i32) s6))))], [(1004, .tail 1), (1013, .tail 1)], 0⟩) k7 r (fun s6 hr => ?_) ?_
      · rw [hk7] at hr
        obtain ⟨k9, hk9, hr⟩ := jn_some hr
        refine Ok.join (fun (s8 : Unit) => ⟨[(4, .s (.c (.tl 1004 (List.map eStr s2)))), (6, .s (.c (.d (.sl (List.map (eInt .i64) x4.1))))), (8, .s (.c (.tl 1013 (List.map (eInt .i32) s6))))], [(1004, .tail 1), (1013, .tail 1)], 0⟩) k9 r (fun s8 hr => ?_) ?_
        · rw [hk9] at hr
          obtain ⟨k11, hk11, hr⟩ := jn_some hr
          refine Ok.join (fun (s10 : Unit) => ⟨[], [], 0⟩) k11 r (fun s10 hr => ?_) ?_
          · rw [hk11] at hr
            refine Ok.seq ?_
            refine Ok.region ?_
            obtain ⟨x12, hx12, hr⟩ := bind_some hr
            refine OkOps.q (triCall (tau []) (.s (.c (.d (.v (.bool x12))))) [] (l32_awake_c  hx12) rfl trivial trivial entry19 trivial rfl rfl rfl rfl trivial rfl rfl rfl) ?_
            refine OkOps.q (triQ (x := .c (.d (.v (.bool x12)))) rfl trivial rfl) ?_
            refine OkOps.nil ?_
            refine Ok.ret ?_
            obtain rfl := Option.some.inj hr
            exact ⟨_, rfl, .inl rfl, trivial⟩
          · clear hk11
            refine Ok.seq ?_
            refine Ok.region ?_
            refine OkOps.q (triQ (x := .c (.d (.v (.int .i64 0)))) rfl trivial rfl) ?_
            refine OkOps.nil ?_
            refine Ok.block ?_
            refine Ok.loopK (fun (s13 : Int) => ⟨[(4, .s (.c (.tl 1004 (List.map eStr s2)))), (6, .s (.c (.d (.sl (List.map (eInt .i64) x4.1))))), (8, .s (.c (.tl 1013 (List.map (eInt .i32) s6)))), (13, .s (.c (.d (.v (.int .i64 s13)))))], [(1004, .tail 1), (1013, .tail 1)], 0⟩) hr (Conv.mk (tau []) ⟨⟨_, rfl, .inl rfl⟩, ⟨_, rfl, .inl rfl⟩, ⟨_, rfl, .inl rfl⟩, ⟨_, rfl, .inl rfl⟩, trivial⟩ ⟨rfl, rfl, trivial⟩ rfl rfl rfl rfl) ?_
            clear hr
            intro again14 s13 hr
            unfold l32_ShortcutDistinct_L3 at hr
            refine Ok.seq ?_
            refine Ok.seq ?_
            refine Ok.region ?_
            refine OkOps.q (triQ (x := .c (.d (.v (.int .i64 s13)))) rfl trivial rfl) ?_
            refine OkOps.q (triQ (x := .c (.d (.sl (List.map (eInt .i64) x4.1)))) rfl trivial rfl) ?_
            refine OkOps.q (triLen (enc := (eInt .i64)) x4.1 rfl rfl trivial rfl) ?_
            refine OkOps.q (triQ (x := .c (.d (.v (.bool (decide (s13 < (x4.1.length : Int))))))) rfl trivial rfl) ?_
            refine OkOps.nil ?_
            refine Ok.cond (b := decide (s13 < (x4.1.length : Int))) rfl (fun h15 => ?_) (fun h15 => ?_)
            · have hr := selT h15 hr
              refine Ok.skip ?_
              obtain ⟨k17, hk17, hr⟩ := jn_some hr
              refine Ok.join (fun (s16 : Unit) => ⟨[(4, .s (.c (.tl 1004 (List.map eStr s2)))), (6, .s (.c (.d (.sl (List.map (eInt .i64) x4.1))))), (8, .s (.c (.tl 1013 (List.map (eInt .i32) s6)))), (13, .s (.c (.d (.v (.int .i64 s13)))))], [(1004, .tail 1), (1013, .tail 1)], 0⟩) k17 r (fun s16 hr => ?_) ?_
              · rw [hk17] at hr
                refine Ok.region ?_
                refine OkOps.q (triQ (x := .c (.d (.v (.int .i64 s13)))) rfl trivial rfl) ?_
                refine OkOps.q (triQ (x := .c (.d (.v (.int .i64 (IntKind.i64.wrap (s13 + 1)))))) rfl trivial rfl) ?_
                refine OkOps.q (triQ (x := .c (.d (.v (.int .i64 (IntKind.i64.wrap (s13 + 1)))))) rfl trivial rfl) ?_
                refine OkOps.nil ?_
                exact ⟨IntKind.i64.wrap (s13 + 1), hr, (Conv.mk (tau []) ⟨⟨_, rfl, .inl rfl⟩, ⟨_, rfl, .inl rfl⟩, ⟨_, rfl, .inl rfl⟩, ⟨_, rfl, .inl rfl⟩, trivial⟩ ⟨rfl, rfl, trivial⟩ rfl rfl rfl rfl)⟩
              · clear hk17
                refine Ok.block ?_
                refine Ok.seq ?_
                refine Ok.region ?_
                refine OkOps.q (triQ (x := .c (.tl 1004 (List.map eStr s2))) rfl trivial rfl) ?_
                refine OkOps.q (triQ (x := .c (.d (.v (.int .i64 s13)))) rfl trivial rfl) ?_
                obtain ⟨x18, hx18, hr⟩ := bind_some hr
                refine OkOps.q (triIdx (enc := eStr) (L := s2) (row := [.v (.string x18)]) hx18 rfl rfl rfl rfl (fun _ => rfl) trivial rfl) ?_
                refine OkOps.q (triQ (x := .c (.d (.v (.string x18)))) rfl trivial rfl) ?_
                refine OkOps.q (triRunes rfl rfl trivial rfl) ?_
                refine OkOps.q (triQ (x := .c (.d (.sl (List.map (eInt .i32) (runes x18))))) rfl trivial rfl) ?_
                refine OkOps.nil ?_
                refine Ok.seq ?_
                refine Ok.region ?_
                refine OkOps.q (triQ (x := .c (.d (.v (.int .i64 0)))) rfl trivial rfl) ?_
                refine OkOps.nil ?_
                obtain ⟨k20, hk20, hr⟩ := jn_some hr
                refine Ok.joinEnd (fun (s19 : Unit) => ⟨[(4, .s (.c (.tl 1004 (List.map eStr s2)))), (6, .s (.c (.d (.sl (List.map (eInt .i64) x4.1))))), (8, .s (.c (.tl 1013 (List.map (eInt .i32) s6)))), (13, .s (.c (.d (.v (.int .i64 s13)))))], [(1004, .tail 1), (1013, .tail 1)], 0⟩) k20 r (fun s19 hr => ?_) ?_
                · rw [hk20] at hr
                  exact ⟨(), hr, (Conv.mk (tau []) ⟨⟨_, rfl, .inl rfl⟩, ⟨_, rfl, .inl rfl⟩, ⟨_, rfl, .inl rfl⟩, ⟨_, rfl, .inl rfl⟩, trivial⟩ ⟨rfl, rfl, trivial⟩ rfl rfl rfl rfl)⟩
                · clear hk20
                  refine Ok.block ?_
                  refine Ok.loopK (fun (s21 : Int) => ⟨[(4, .s (.c (.tl 1004 (List.map eStr s2)))), (6, .s (.c (.d (.sl (List.map (eInt .i64) x4.1))))), (8, .s (.c (.tl 1013 (List.map (eInt .i32) s6)))), (13, .s (.c (.d (.v (.int .i64 s13))))), (14, .s (.c (.d (.sl (List.map (eInt .i32) (runes x18)))))), (15, .s (.c (.d (.v (.int .i64 s21)))))], [(1004, .tail 1), (1013, .tail 1)], 0⟩) hr (Conv.mk (tau []) ⟨⟨_, rfl, .inl rfl⟩, ⟨_, rfl, .inl rfl⟩, ⟨_, rfl, .inl rfl⟩, ⟨_, rfl, .inl rfl⟩, ⟨_, rfl, .inl rfl⟩, ⟨_, rfl, .inl rfl⟩, trivial⟩ ⟨rfl, rfl, trivial⟩ rfl rfl rfl rfl) ?_
                  clear hr
                  intro again22 s21 hr
                  unfold l32_ShortcutDistinct_L2 at hr
                  refine Ok.seq ?_
                  refine Ok.seq ?_
                  refine Ok.region ?_
                  refine OkOps.q (triQ (x := .c (.d (.v (.int .i64 s21)))) rfl trivial rfl) ?_
                  refine OkOps.q (triQ (x := .c (.d (.sl (List.map (eInt .i32) (runes x18))))) rfl trivial rfl) ?_
                  refine OkOps.q (triLen (enc := (eInt .i32)) (runes x18) rfl rfl trivial rfl) ?_
                  refine OkOps.q (triQ (x := .c (.d (.v (.bool (decide (s21 < ((runes x18).length : Int))))))) rfl trivial rfl) ?_
                  refine OkOps.q (triQ (x := .c (.d (.v (.bool (decide (s21 < ((runes x18).length : Int))))))) rfl trivial rfl) ?_
                  refine OkOps.q (triQG (x := .c (.d (.sl (List.map (eInt .i64) x4.1)))) rfl rfl trivial rfl) ?_
                  refine OkOps.q (triQG (x := .c (.d (.v (.int .i64 s13)))) rfl rfl trivial rfl) ?_
                  obtain ⟨x23, hx23, hr⟩ := bind_some hr
                  refine OkOps.q (triIdxG (enc := (eInt .i64)) (L := x4.1) (row := [.v (.int .i64 x23)]) (gO_t hx23) rfl rfl rfl rfl rfl (fun _ => rfl) ⟨fun h => h, ⟨fun h => h, trivial⟩⟩ rfl) ?_
                  refine OkOps.q (triQG (x := .c (.d (.v (.int .i64 x23)))) rfl rfl ⟨fun h => h, trivial⟩ rfl) ?_
                  refine OkOps.q (triQG (x := .c (.d (.v (.bool (decide (x23 < 0)))))) rfl rfl ⟨fun h => h, trivial⟩ rfl) ?_
                  refine OkOps.q (triAnd rfl rfl (fun h => h) rfl) ?_
                  refine OkOps.nil ?_
                  refine Ok.cond (b := (decide (s21 < ((runes x18).length : Int))) && (decide (x23 < 0))) rfl (fun h24 => ?_) (fun h24 => ?_)
                  · have hr := selT h24 hr
                    refine Ok.skip ?_
                    obtain ⟨k26, hk26, hr⟩ := jn_some hr
                    refine Ok.join (fun (s25 : Unit) => ⟨[(4, .s (.c (.tl 1004 (List.map eStr s2)))), (6, .s (.c (.d (.sl (List.map (eInt .i64) x4.1))))), (8, .s (.c (.tl 1013 (List.map (eInt .i32) s6)))), (13, .s (.c (.d (.v (.int .i64 s13))))), (14, .s (.c (.d (.sl (List.map (eInt .i32) (runes x18)))))), (15, .s (.c (.d (.v (.int .i64 s21)))))], [(1004, .tail 1), (1013, .tail 1)], 0⟩) k26 r (fun s25 hr => ?_) ?_
                    · rw [hk26] at hr
                      refine Ok.region ?_
                      refine OkOps.q (triQ (x := .c (.d (.v (.int .i64 s21)))) rfl trivial rfl) ?_
                      refine OkOps.q (triQ (x := .c (.d (.v (.int .i64 (IntKind.i64.wrap (s21 + 1)))))) rfl trivial rfl) ?_
                      refine OkOps.q (triQ (x := .c (.d (.v (.int .i64 (IntKind.i64.wrap (s21 + 1)))))) rfl trivial rfl) ?_
                      refine OkOps.nil ?_
                      exact ⟨IntKind.i64.wrap (s21 + 1), hr, (Conv.mk (tau []) ⟨⟨_, rfl, .inl rfl⟩, ⟨_, rfl, .inl rfl⟩, ⟨_, rfl, .inl rfl⟩, ⟨_, rfl, .inl rfl⟩, ⟨_, rfl, .inl rfl⟩, ⟨_, rfl, .inl rfl⟩, trivial⟩ ⟨rfl, rfl, trivial⟩ rfl rfl rfl rfl)⟩
                    · clear hk26
                      refine Ok.block ?_
                      refine Ok.seq ?_
                      refine Ok.region ?_
                      refine OkOps.q (triQ (x := .c (.d (.sl (List.map (eInt .i32) (runes x18))))) rfl trivial rfl) ?_
                      refine OkOps.q (triQ (x := .c (.d (.v (.int .i64 s21)))) rfl trivial rfl) ?_
                      obtain ⟨x27, hx27, hr⟩ := bind_some hr
                      refine OkOps.q (triIdx (enc := (eInt .i32)) (L := runes x18) (row := [.v (.int .i32 x27)]) hx27 rfl rfl rfl rfl (fun _ => rfl) trivial rfl) ?_
                      refine OkOps.q (triQ (x := .c (.d (.v (.int .i32 x27)))) rfl trivial rfl) ?_
                      obtain ⟨x28, hx28, hr⟩ := bind_some hr
                      refine OkOps.q (triCall (tau []) (.s (.c (.d (.v (.int .i32 x28))))) [] (l32_fold_c _ hx28) rfl ⟨.inl rfl, trivial⟩ trivial entry20 trivial rfl rfl rfl rfl trivial rfl rfl rfl) ?_
                      refine OkOps.q (triQ (x := .c (.d (.v (.bool (x28 != 0))))) rfl trivial rfl) ?_
                      refine OkOps.q (triQ (x := .c (.d (.v (.bool (x28 != 0))))) rfl trivial rfl) ?_
                      refine OkOps.nil ?_
                      obtain ⟨k30, hk30, hr⟩ := jn_some hr
                      refine Ok.join (fun (s29 : Bool) => ⟨[(4, .s (.c (.tl 1004 (List.map eStr s2)))), (6, .s (.c (.d (.sl (List.map (eInt .i64) x4.1))))), (8, .s (.c (.tl 1013 (List.map (eInt .i32) s6)))), (13, .s (.c (.d (.v (.int .i64 s13))))), (14, .s (.c (.d (.sl (List.map (eInt .i32) (runes x18)))))), (15, .s (.c (.d (.v (.int .i64 s21))))), (16, .s (.c (.d (.v (.bool s29)))))], [(1004, .tail 1), (1013, .tail 1)], 0⟩) k30 r (fun s29 hr => ?_) ?_
                      · rw [hk30] at hr
                        refine Ok.seq ?_
                        refine Ok.region ?_
                        refine OkOps.q (triQ (x := .c (.d (.v (.bool s29)))) rfl trivial rfl) ?_
                        refine OkOps.nil ?_
                        refine Ok.cond (b := s29) rfl (fun h31 => ?_) (fun h31 => ?_)
                        · have hr := selT h31 hr
                          refine Ok.seq ?_
                          refine Ok.region ?_
                          refine OkOps.q (triQ (x := .c (.d (.v (.bool false)))) rfl trivial rfl) ?_
                          refine OkOps.nil ?_
                          refine Ok.ret ?_
                          obtain rfl := Option.some.inj hr
                          exact ⟨_, rfl, .inl rfl, trivial⟩
                        · have hr := selF h31 hr
                          refine Ok.skip ?_
                          exact ⟨(), hr, (Conv.mk (tau []) ⟨⟨_, rfl, .inl rfl⟩, ⟨_, rfl, .inl rfl⟩, ⟨_, rfl, .inl rfl⟩, ⟨_, rfl, .inl rfl⟩, ⟨_, rfl, .inl rfl⟩, ⟨_, rfl, .inl rfl⟩, trivial⟩ ⟨rfl, rfl, trivial⟩ rfl rfl rfl rfl)⟩
                      · clear hk30
                        refine Ok.seq ?_
                        refine Ok.region ?_
                        refine OkOps.q (triQ (x := .c (.d (.v (.int .i64 0)))) rfl trivial rfl) ?_
                        refine OkOps.nil ?_
                        refine Ok.block ?_
                        refine Ok.loopK (fun (s32 : Bool × Int) => ⟨[(4, .s (.c (.tl 1004 (List.map eStr s2)))), (6, .s (.c (.d (.sl (List.map (eInt .i64) x4.1))))), (8, .s (.c (.tl 1013 (List.map (eInt .i32) s6)))), (13, .s (.c (.d (.v (.int .i64 s13))))), (14, .s (.c (.d (.sl (List.map (eInt .i32) (runes x18)))))), (15, .s (.c (.d (.v (.int .i64 s21))))), (16, .s (.c (.d (.v (.bool s32.1))))), (17, .s (.c (.d (.v (.int .i64 s32.2)))))], [(1004, .tail 1), (1013, .tail 1)], 0⟩) hr (Conv.mk (tau []) ⟨⟨_, rfl, .inl rfl⟩, ⟨_, rfl, .inl rfl⟩, ⟨_, rfl, .inl rfl⟩, ⟨_, rfl, .inl rfl⟩, ⟨_, rfl, .inl rfl⟩, ⟨_, rfl, .inl rfl⟩, ⟨_, rfl, .inl rfl⟩, ⟨_, rfl, .inl rfl⟩, trivial⟩ ⟨rfl, rfl, trivial⟩ rfl rfl rfl rfl) ?_
                        clear hr
                        intro again33 s32 hr
                        unfold l32_ShortcutDistinct_L1 at hr
                        refine Ok.seq ?_
                        refine Ok.seq ?_
                        refine Ok.region ?_
                        refine OkOps.q (triQ (x := .c (.d (.v (.int .i64 s32.2)))) rfl trivial rfl) ?_
                        refine OkOps.q (triQ (x := .c (.tl 1013 (List.map (eInt .i32) s6))) rfl trivial rfl) ?_
                        refine OkOps.q (triLen (enc := (eInt .i32)) s6 rfl rfl trivial rfl) ?_
                        refine OkOps.q (triQ (x := .c (.d (.v (.bool (decide (s32.2 < (s6.length : Int))))))) rfl trivial rfl) ?_
                        refine OkOps.nil ?_
                        refine Ok.cond (b := decide (s32.2 < (s6.length : Int))) rfl (fun h34 => ?_) (fun h34 => ?_)
                        · have hr := selT h34 hr
                          refine Ok.skip ?_
                          refine Ok.seq ?_
                          refine Ok.block ?_
                          refine Ok.regionD (by kernel_rfl) ?_
                          refine OkD.q (triQ (x := .c (.d (.v (.bool s32.1)))) rfl trivial rfl) ?_
                          refine OkD.q (triQ (x := .c (.d (.v (.bool s32.1)))) rfl trivial rfl) ?_
                          refine OkD.q (triQG (x := .c (.tl 1013 (List.map (eInt .i32) s6))) rfl rfl trivial rfl) ?_
                          refine OkD.q (triQG (x := .c (.d (.v (.int .i64 s32.2)))) rfl rfl trivial rfl) ?_
                          obtain ⟨x35, hx35, hr⟩ := bind_some hr
                          refine OkD.q (triIdxG (enc := (eInt .i32)) (L := s6) (row := [.v (.int .i32 x35)]) (gO_t hx35) rfl rfl rfl rfl rfl (fun _ => rfl) ⟨fun h => h, ⟨fun h => h, trivial⟩⟩ rfl) ?_
                          refine OkD.q (triQG (x := .c (.d (.v (.int .i32 x35)))) rfl rfl ⟨fun h => h, trivial⟩ rfl) ?_
                          refine OkD.q (triQG (x := .c (.d (.sl (List.map (eInt .i32) (runes x18))))) rfl rfl trivial rfl) ?_
                          refine OkD.q (triQG (x := .c (.d (.v (.int .i64 s21)))) rfl rfl trivial rfl) ?_
                          obtain ⟨x36, hx36, hr⟩ := bind_some hr
                          refine OkD.q (triIdxG (enc := (eInt .i32)) (L := runes x18) (row := [.v (.int .i32 x36)]) (gO_t hx36) rfl rfl rfl rfl rfl (fun _ => rfl) ⟨fun h => h, ⟨fun h => h, trivial⟩⟩ rfl) ?_
                          refine OkD.q (triQG (x := .c (.d (.v (.int .i32 x36)))) rfl rfl ⟨fun h => h, trivial⟩ rfl) ?_
                          obtain ⟨x37, hx37, hr⟩ := bind_some hr
                          refine OkD.q (triCallG (x := .c (.d (.v (.int .i32 x37)))) (fun hg => l32_fold_c _ (gO_t hx37 hg)) rfl rfl ⟨.inl rfl, trivial⟩ ⟨fun h => h, trivial⟩ entry20 rfl rfl rfl) ?_
                          refine OkD.q (triQG (x := .c (.d (.v (.bool (x35 != x37))))) rfl rfl ⟨fun h => h, ⟨fun h => h, trivial⟩⟩ rfl) ?_
                          refine OkD.q (triAnd rfl rfl (fun h => h) rfl) ?_
                          refine OkD.q (triQ (x := .c (.d (.v (.bool (s32.1 && (x35 != x37)))))) rfl trivial rfl) ?_
                          refine OkD.nil (by kernel_rfl) ?_
                          refine Ok.region ?_
                          refine OkOps.q (triQ (x := .c (.d (.v (.int .i64 s32.2)))) rfl trivial rfl) ?_
                          refine OkOps.q (triQ (x := .c (.d (.v (.int .i64 (IntKind.i64.wrap (s32.2 + 1)))))) rfl trivial rfl) ?_
                          refine OkOps.q (triQ (x := .c (.d (.v (.int .i64 (IntKind.i64.wrap (s32.2 + 1)))))) rfl trivial rfl) ?_
                          refine OkOps.nil ?_
                          exact ⟨(s32.1 && (x35 != x37), IntKind.i64.wrap (s32.2 + 1)), hr, (Conv.mk (tau []) ⟨⟨_, rfl, .inl rfl⟩, ⟨_, rfl, .inl rfl⟩, ⟨_, rfl, .inl rfl⟩, ⟨_, rfl, .inl rfl⟩, ⟨_, rfl, .inl rfl⟩, ⟨_, rfl, .inl rfl⟩, ⟨_, rfl, .inl rfl⟩, ⟨_, rfl, .inl rfl⟩, trivial⟩ ⟨rfl, rfl, trivial⟩ rfl rfl rfl rfl)⟩
                        · have hr := selF h34 hr
                          refine Ok.exit ?_
                          exact ⟨s32.1, hr, (Conv.mk (tau []) ⟨⟨_, rfl, .inl rfl⟩, ⟨_, rfl, .inl rfl⟩, ⟨_, rfl, .inl rfl⟩, ⟨_, rfl, .inl rfl⟩, ⟨_, rfl, .inl rfl⟩, ⟨_, rfl, .inl rfl⟩, ⟨_, rfl, .inl rfl⟩, trivial⟩ ⟨rfl, rfl, trivial⟩ rfl rfl rfl rfl)⟩
                  · have hr := selF h24 hr
                    refine Ok.exit ?_
                    exact ⟨(), hr, (Conv.mk (tau []) ⟨⟨_, rfl, .inl rfl⟩, ⟨_, rfl, .inl rfl⟩, ⟨_, rfl, .inl rfl⟩, ⟨_, rfl, .inl rfl⟩, trivial⟩ ⟨rfl, rfl, trivial⟩ rfl rfl rfl rfl)⟩
            · have hr := selF h15 hr
              refine Ok.exit ?_
              exact ⟨(), hr, (Conv.mk (tau []) trivial trivial rfl rfl rfl rfl)⟩
        · clear hk9
          refine Ok.seq ?_
          refine Ok.region ?_
          refine OkOps.q (triQ (x := .c (.d (.v (.int .i64 0)))) rfl trivial rfl) ?_
          refine OkOps.nil ?_
          refine Ok.block ?_
          refine Ok.loopK (fun (s38 : Int) => ⟨[(4, .s (.c (.tl 1004 (List.map eStr s2)))), (6, .s (.c (.d (.sl (List.map (eInt .i64) x4.1))))), (8, .s (.c (.tl 1013 (List.map (eInt .i32) s6)))), (11, .s (.c (.d (.v (.int .i64 s38)))))], [(1004, .tail 1), (1013, .tail 1)], 0⟩) hr (Conv.mk (tau []) ⟨⟨_, rfl, .inl rfl⟩, ⟨_, rfl, .inl rfl⟩, ⟨_, rfl, .inl rfl⟩, ⟨_, rfl, .inl rfl⟩, trivial⟩ ⟨rfl, rfl, trivial⟩ rfl rfl rfl rfl) ?_
          clear hr
          intro again39 s38 hr
          unfold l32_ShortcutDistinct_L5 at hr
          refine Ok.seq ?_
          refine Ok.seq ?_
          refine Ok.region ?_
          refine OkOps.q (triQ (x := .c (.d (.v (.int .i64 s38)))) rfl trivial rfl) ?_
          refine OkOps.q (triQ (x := .c (.tl 1013 (List.map (eInt .i32) s6))) rfl trivial rfl) ?_
          refine OkOps.q (triLen (enc := (eInt .i32)) s6 rfl rfl trivial rfl) ?_
          refine OkOps.q (triQ (x := .c (.d (.v (.bool (decide (s38 < (s6.length : Int))))))) rfl trivial rfl) ?_
          refine OkOps.nil ?_
          refine Ok.cond (b := decide (s38 < (s6.length : Int))) rfl (fun h40 => ?_) (fun h40 => ?_)
          · have hr := selT h40 hr
            refine Ok.skip ?_
            obtain ⟨k42, hk42, hr⟩ := jn_some hr
            refine Ok.join (fun (s41 : Unit) => ⟨[(4, .s (.c (.tl 1004 (List.map eStr s2)))), (6, .s (.c (.d (.sl (List.map (eInt .i64) x4.1))))), (8, .s (.c (.tl 1013 (List.map (eInt .i32) s6)))), (11, .s (.c (.d (.v (.int .i64 s38)))))], [(1004, .tail 1), (1013, .tail 1)], 0⟩) k42 r (fun s41 hr => ?_) ?_
            · rw [hk42] at hr
              refine Ok.region ?_
              refine OkOps.q (triQ (x := .c (.d (.v (.int .i64 s38)))) rfl trivial rfl) ?_
              refine OkOps.q (triQ (x := .c (.d (.v (.int .i64 (IntKind.i64.wrap (s38 + 1)))))) rfl trivial rfl) ?_
              refine OkOps.q (triQ (x := .c (.d (.v (.int .i64 (IntKind.i64.wrap (s38 + 1)))))) rfl trivial rfl) ?_
              refine OkOps.nil ?_
              exact ⟨IntKind.i64.wrap (s38 + 1), hr, (Conv.mk (tau []) ⟨⟨_, rfl, .inl rfl⟩, ⟨_, rfl, .inl rfl⟩, ⟨_, rfl, .inl rfl⟩, ⟨_, rfl, .inl rfl⟩, trivial⟩ ⟨rfl, rfl, trivial⟩ rfl rfl rfl rfl)⟩
            · clear hk42
              refine Ok.block ?_
              obtain ⟨k44, hk44, hr⟩ := jn_some hr
              refine Ok.join (fun (s43 : Unit) => ⟨[(4, .s (.c (.tl 1004 (List.map eStr s2)))), (6, .s (.c (.d (.sl (List.map (eInt .i64) x4.1))))), (8, .s (.c (.tl 1013 (List.map (eInt .i32) s6)))), (11, .s (.c (.d (.v (.int .i64 s38)))))], [(1004, .tail 1), (1013, .tail 1)], 0⟩) k44 r (fun s43 hr => ?_) ?_
              · rw [hk44] at hr
                refine Ok.seq ?_
                refine Ok.region ?_
                refine OkOps.q (triQ (x := .c (.tl 1013 (List.map (eInt .i32) s6))) rfl trivial rfl) ?_
                refine OkOps.q (triQ (x := .c (.d (.v (.int .i64 s38)))) rfl trivial rfl) ?_
                obtain ⟨x45, hx45, hr⟩ := bind_some hr
                refine OkOps.q (triIdx (enc := (eInt .i32)) (L := s6) (row := [.v (.int .i32 x45)]) hx45 rfl rfl rfl rfl (fun _ => rfl) trivial rfl) ?_
                refine OkOps.q (triQ (x := .c (.d (.v (.int .i32 x45)))) rfl trivial rfl) ?_
                refine OkOps.q (triQ (x := .c (.d (.v (.bool (x45 == 0))))) rfl trivial rfl) ?_
                refine OkOps.nil ?_
                refine Ok.cond (b := x45 == 0) rfl (fun h46 => ?_) (fun h46 => ?_)
                · have hr := selT h46 hr
                  refine Ok.seq ?_
                  refine Ok.region ?_
                  refine OkOps.q (triQ (x := .c (.d (.v (.bool false)))) rfl trivial rfl) ?_
                  refine OkOps.nil ?_
                  refine Ok.ret ?_
                  obtain rfl := Option.some.inj hr
                  exact ⟨_, rfl, .inl rfl, trivial⟩
                · have hr := selF h46 hr
                  refine Ok.skip ?_
                  exact ⟨(), hr, (Conv.mk (tau []) ⟨⟨_, rfl, .inl rfl⟩, ⟨_, rfl, .inl rfl⟩, ⟨_, rfl, .inl rfl⟩, ⟨_, rfl, .inl rfl⟩, trivial⟩ ⟨rfl, rfl, trivial⟩ rfl rfl rfl rfl)⟩
              · clear hk44
                refine Ok.seq ?_
                refine Ok.region ?_
                refine OkOps.q (triQ (x := .c (.d (.v (.int .i64 0)))) rfl trivial rfl) ?_
                refine OkOps.nil ?_
                refine Ok.block ?_
                refine Ok.loopK (fun (s47 : Int) => ⟨[(4, .s (.c (.tl 1004 (List.map eStr s2)))), (6, .s (.c (.d (.sl (List.map (eInt .i64) x4.1))))), (8, .s (.c (.tl 1013 (List.map (eInt .i32) s6)))), (11, .s (.c (.d (.v (.int .i64 s38))))), (12, .s (.c (.d (.v (.int .i64 s47)))))], [(1004, .tail 1), (1013, .tail 1)], 0⟩) hr (Conv.mk (tau []) ⟨⟨_, rfl, .inl rfl⟩, ⟨_, rfl, .inl rfl⟩, ⟨_, rfl, .inl rfl⟩, ⟨_, rfl, .inl rfl⟩, ⟨_, rfl, .inl rfl⟩, trivial⟩ ⟨rfl, rfl, trivial⟩ rfl rfl rfl rfl) ?_
                clear hr
                intro again48 s47 hr
                unfold l32_ShortcutDistinct_L4 at hr
                refine Ok.seq ?_
                refine Ok.seq ?_
                refine Ok.region ?_
                refine OkOps.q (triQ (x := .c (.d (.v (.int .i64 s47)))) rfl trivial rfl) ?_
                refine OkOps.q (triQ (x := .c (.d (.v (.int .i64 s38)))) rfl trivial rfl) ?_
                refine OkOps.q (triQ (x := .c (.d (.v (.bool (decide (s47 < s38)))))) rfl trivial rfl) ?_
                refine OkOps.nil ?_
                refine Ok.cond (b := decide (s47 < s38)) rfl (fun h49 => ?_) (fun h49 => ?_)
                · have hr := selT h49 hr
                  refine Ok.skip ?_
                  refine Ok.seq ?_
                  refine Ok.block ?_
                  refine Ok.seq ?_
                  refine Ok.regionD (by kernel_rfl) ?_
                  refine OkD.q (triQ (x := .c (.tl 1013 (List.map (eInt .i32) s6))) rfl trivial rfl) ?_
                  refine OkD.q (triQ (x := .c (.d (.v (.int .i64 s47)))) rfl trivial rfl) ?_
                  obtain ⟨x50, hx50, hr⟩ := bind_some hr
                  refine OkD.q (triIdx (enc := (eInt .i32)) (L := s6) (row := [.v (.int .i32 x50)]) hx50 rfl rfl rfl rfl (fun _ => rfl) trivial rfl) ?_
                  refine OkD.q (triQ (x := .c (.d (.v (.int .i32 x50)))) rfl trivial rfl) ?_
                  refine OkD.q (triQ (x := .c (.tl 1013 (List.map (eInt .i32) s6))) rfl trivial rfl) ?_
                  refine OkD.q (triQ (x := .c (.d (.v (.int .i64 s38)))) rfl trivial rfl) ?_
                  obtain ⟨x51, hx51, hr⟩ := bind_some hr
                  refine OkD.q (triIdx (enc := (eInt .i32)) (L := s6) (row := [.v (.int .i32 x51)]) hx51 rfl rfl rfl rfl (fun _ => rfl) trivial rfl) ?_
                  refine OkD.q (triQ (x := .c (.d (.v (.int .i32 x51)))) rfl trivial rfl) ?_
                  refine OkD.q (triQ (x := .c (.d (.v (.bool (x50 == x51))))) rfl trivial rfl) ?_
                  refine OkD.nil (by kernel_rfl) ?_
                  refine Ok.cond (b := x50 == x51) rfl (fun h52 => ?_) (fun h52 => ?_)
                  · have hr := selT h52 hr
                    refine Ok.seq ?_
                    refine Ok.region ?_
                    refine OkOps.q (triQ (x := .c (.d (.v (.bool false)))) rfl trivial rfl) ?_
                    refine OkOps.nil ?_
                    refine Ok.ret ?_
                    obtain rfl := Option.some.inj hr
                    exact ⟨_, rfl, .inl rfl, trivial⟩
                  · have hr := selF h52 hr
                    refine Ok.skip ?_
                    refine Ok.region ?_
                    refine OkOps.q (triQ (x := .c (.d (.v (.int .i64 s47)))) rfl trivial rfl) ?_
                    refine OkOps.q (triQ (x := .c (.d (.v (.int .i64 (IntKind.i64.wrap (s47 + 1)))))) rfl trivial rfl) ?_
                    refine OkOps.q (triQ (x := .c (.d (.v (.int .i64 (IntKind.i64.wrap (s47 + 1)))))) rfl trivial rfl) ?_
                    refine OkOps.nil ?_
                    exact ⟨IntKind.i64.wrap (s47 + 1), hr, (Conv.mk (tau []) ⟨⟨_, rfl, .inl rfl⟩, ⟨_, rfl, .inl rfl⟩, ⟨_, rfl, .inl rfl⟩, ⟨_, rfl, .inl rfl⟩, ⟨_, rfl, .inl rfl⟩, trivial⟩ ⟨rfl, rfl, trivial⟩ rfl rfl rfl rfl)⟩
                · have hr := selF h49 hr
                  refine Ok.exit ?_
                  exact ⟨(), hr, (Conv.mk (tau []) ⟨⟨_, rfl, .inl rfl⟩, ⟨_, rfl, .inl rfl⟩, ⟨_, rfl, .inl rfl⟩, ⟨_, rfl, .inl rfl⟩, trivial⟩ ⟨rfl, rfl, trivial⟩ rfl rfl rfl rfl)⟩
          · have hr := selF h40 hr
            refine Ok.exit ?_
            exact ⟨(), hr, (Conv.mk (tau []) ⟨⟨_, rfl, .inl rfl⟩, ⟨_, rfl, .inl rfl⟩, ⟨_, rfl, .inl rfl⟩, trivial⟩ ⟨rfl, rfl, trivial⟩ rfl rfl rfl rfl)⟩
      · clear hk7
        refine Ok.seq ?_
        refine Ok.region ?_
        refine OkOps.q (triQ (x := .c (.d (.v (.int .i64 0)))) rfl trivial rfl) ?_
        refine OkOps.nil ?_
        refine Ok.block ?_
        refine Ok.loopK (fun (s53 : (List Int) × Int) => ⟨[(4, .s (.c (.tl 1004 (List.map eStr s2)))), (6, .s (.c (.d (.sl (List.map (eInt .i64) x4.1))))), (8, .s (.c (.tl 1018 (List.map (eInt .i32) s53.1)))), (9, .s (.c (.d (.v (.int .i64 s53.2)))))], [(1004, .tail 1), (1018, .tail 1)], 0⟩) hr (Conv.trans (Conv.nil 8 1021 1 0 rfl rfl) (Conv.mk (tau [(1018, 1021)]) ⟨⟨_, rfl, .inl rfl⟩, ⟨_, rfl, .inl rfl⟩, ⟨_, rfl, .inl rfl⟩, ⟨_, rfl, .inl rfl⟩, trivial⟩ ⟨rfl, rfl, trivial⟩ rfl rfl rfl rfl)) ?_
        clear hr
        intro again54 s53 hr
        unfold l32_ShortcutDistinct_L6 at hr
        refine Ok.seq ?_
        refine Ok.seq ?_
        refine Ok.region ?_
        refine OkOps.q (triQ (x := .c (.d (.v (.int .i64 s53.2)))) rfl trivial rfl) ?_
        refine OkOps.q (triQ (x := .c (.d (.sl (List.map (eInt .i64) x4.1)))) rfl trivial rfl) ?_
        refine OkOps.q (triLen (enc := (eInt .i64)) x4.1 rfl rfl trivial rfl) ?_
        refine OkOps.q (triQ (x := .c (.d (.v (.bool (decide (s53.2 < (x4.1.length : Int))))))) rfl trivial rfl) ?_
        refine OkOps.nil ?_
        refine Ok.cond (b := decide (s53.2 < (x4.1.length : Int))) rfl (fun h55 => ?_) (fun h55 => ?_)
        · have hr := selT h55 hr
          refine Ok.skip ?_
          obtain ⟨k57, hk57, hr⟩ := jn_some hr
          refine Ok.join (fun (s56 : (List Int)) => ⟨[(4, .s (.c (.tl 1004 (List.map eStr s2)))), (6, .s (.c (.d (.sl (List.map (eInt .i64) x4.1))))), (8, .s (.c (.tl 1022 (List.map (eInt .i32) s56)))), (9, .s (.c (.d (.v (.int .i64 s53.2)))))], [(1004, .tail 1), (1022, .tail 1)], 0⟩) k57 r (fun s56 hr => ?_) ?_
          · rw [hk57] at hr
            refine Ok.region ?_
            refine OkOps.q (triQ (x := .c (.d (.v (.int .i64 s53.2)))) rfl trivial rfl) ?_
            refine OkOps.q (triQ (x := .c (.d (.v (.int .i64 (IntKind.i64.wrap (s53.2 + 1)))))) rfl trivial rfl) ?_
            refine OkOps.q (triQ (x := .c (.d (.v (.int .i64 (IntKind.i64.wrap (s53.2 + 1)))))) rfl trivial rfl) ?_
            refine OkOps.nil ?_
            exact ⟨(s56, IntKind.i64.wrap (s53.2 + 1)), hr, (Conv.mk (tau [(1018, 1022)]) ⟨⟨_, rfl, .inl rfl⟩, ⟨_, rfl, .inl rfl⟩, ⟨_, rfl, .inl rfl⟩, ⟨_, rfl, .inl rfl⟩, trivial⟩ ⟨rfl, rfl, trivial⟩ rfl rfl rfl rfl)⟩
          · clear hk57
            refine Ok.block ?_
            refine Ok.seq ?_
            refine Ok.region ?_
            refine OkOps.q (triQ (x := .c (.tl 1004 (List.map eStr s2))) rfl trivial rfl) ?_
            refine OkOps.q (triQ (x := .c (.d (.v (.int .i64 s53.2)))) rfl trivial rfl) ?_
            obtain ⟨x58, hx58, hr⟩ := bind_some hr
            refine OkOps.q (triIdx (enc := eStr) (L := s2) (row := [.v (.string x58)]) hx58 rfl rfl rfl rfl (fun _ => rfl) trivial rfl) ?_
            refine OkOps.q (triQ (x := .c (.d (.v (.string x58)))) rfl trivial rfl) ?_
            refine OkOps.q (triRunes rfl rfl trivial rfl) ?_
            refine OkOps.q (triQ (x := .c (.d (.sl (List.map (eInt .i32) (runes x58))))) rfl trivial rfl) ?_
            refine OkOps.nil ?_
            refine Ok.seq ?_
            refine Ok.seq ?_
            refine Ok.region ?_
            refine OkOps.q (triQ (x := .c (.d (.sl (List.map (eInt .i64) x4.1)))) rfl trivial rfl) ?_
            refine OkOps.q (triQ (x := .c (.d (.v (.int .i64 s53.2)))) rfl trivial rfl) ?_
            obtain ⟨x59, hx59, hr⟩ := bind_some hr
            refine OkOps.q (triIdx (enc := (eInt .i64)) (L := x4.1) (row := [.v (.int .i64 x59)]) hx59 rfl rfl rfl rfl (fun _ => rfl) trivial rfl) ?_
            refine OkOps.q (triQ (x := .c (.d (.v (.int .i64 x59)))) rfl trivial rfl) ?_
            refine OkOps.q (triQ (x := .c (.d (.v (.bool (decide (x59 < (-1))))))) rfl trivial rfl) ?_
            refine OkOps.q (triQ (x := .c (.d (.v (.bool (decide (x59 < (-1))))))) rfl trivial rfl) ?_
            refine OkOps.q (triQG (x := .c (.d (.sl (List.map (eInt .i64) x4.1)))) rfl rfl trivial rfl) ?_
            refine OkOps.q (triQG (x := .c (.d (.v (.int .i64 s53.2)))) rfl rfl trivial rfl) ?_
            obtain ⟨x60, hx60, hr⟩ := bind_some hr
            refine OkOps.q (triIdxG (enc := (eInt .i64)) (L := x4.1) (row := [.v (.int .i64 x60)]) (gO_t hx60) rfl rfl rfl rfl rfl (fun _ => rfl) ⟨fun h => h, ⟨fun h => h, trivial⟩⟩ rfl) ?_
            refine OkOps.q (triQG (x := .c (.d (.v (.int .i64 x60)))) rfl rfl ⟨fun h => h, trivial⟩ rfl) ?_
            refine OkOps.q (triQG (x := .c (.d (.sl (List.map (eInt .i32) (runes x58))))) rfl rfl trivial rfl) ?_
            refine OkOps.q (triLenG (enc := (eInt .i32)) (runes x58) rfl rfl rfl ⟨fun h => h, trivial⟩ rfl) ?_
            refine OkOps.q (triQG (x := .c (.d (.v (.bool (decide (x60 ≥ ((runes x58).length : Int))))))) rfl rfl ⟨fun h => h, ⟨fun h => h, trivial⟩⟩ rfl) ?_
            refine OkOps.q (triOr rfl rfl (fun h => by rw [h]; rfl) rfl) ?_
            refine OkOps.nil ?_
            refine Ok.cond (b := (decide (x59 < (-1))) || (decide (x60 ≥ ((runes x58).length : Int)))) rfl (fun h61 => ?_) (fun h61 => ?_)
            · have hr := selT h61 hr
              refine Ok.seq ?_
              refine Ok.region ?_
              refine OkOps.q (triQ (x := .c (.d (.v (.bool false)))) rfl trivial rfl) ?_
              refine OkOps.nil ?_
              refine Ok.ret ?_
              obtain rfl := Option.some.inj hr
              exact ⟨_, rfl, .inl rfl, trivial⟩
            · have hr := selF h61 hr
              refine Ok.skip ?_
              refine Ok.seq ?_
              refine Ok.region ?_
              refine OkOps.q (triQ (x := .c (.d (.sl (List.map (eInt .i64) x4.1)))) rfl trivial rfl) ?_
              refine OkOps.q (triQ (x := .c (.d (.v (.int .i64 s53.2)))) rfl trivial rfl) ?_
              obtain ⟨x62, hx62, hr⟩ := bind_some hr
              refine OkOps.q (triIdx (enc := (eInt .i64)) (L := x4.1) (row := [.v (.int .i64 x62)]) hx62 rfl rfl rfl rfl (fun _ => rfl) trivial rfl) ?_
              refine OkOps.q (triQ (x := .c (.d (.v (.int .i64 x62)))) rfl trivial rfl) ?_
              refine OkOps.q (triQ (x := .c (.d (.v (.bool (decide (x62 ≥ 0)))))) rfl trivial rfl) ?_
              refine OkOps.nil ?_
              refine Ok.cond (b := decide (x62 ≥ 0)) rfl (fun h63 => ?_) (fun h63 => ?_)
              · have hr := selT h63 hr
                refine Ok.region ?_
                refine OkOps.q (triQ (x := .c (.tl 1018 (List.map (eInt .i32) s53.1))) rfl trivial rfl) ?_
                refine OkOps.q (triQ (x := .c (.d (.sl (List.map (eInt .i32) (runes x58))))) rfl trivial rfl) ?_
                refine OkOps.q (triQ (x := .c (.d (.sl (List.map (eInt .i64) x4.1)))) rfl trivial rfl) ?_
                refine OkOps.q (triQ (x := .c (.d (.v (.int .i64 s53.2)))) rfl trivial rfl) ?_
                obtain ⟨x64, hx64, hr⟩ := bind_some hr
                refine OkOps.q (triIdx (enc := (eInt .i64)) (L := x4.1) (row := [.v (.int .i64 x64)]) hx64 rfl rfl rfl rfl (fun _ => rfl) trivial rfl) ?_
                refine OkOps.q (triQ (x := .c (.d (.v (.int .i64 x64)))) rfl trivial rfl) ?_
                obtain ⟨x65, hx65, hr⟩ := bind_some hr
                refine OkOps.q (triIdx (enc := (eInt .i32)) (L := runes x58) (row := [.v (.int .i32 x65)]) hx65 rfl rfl rfl rfl (fun _ => rfl) trivial rfl) ?_
                refine OkOps.q (triQ (x := .c (.d (.v (.int .i32 x65)))) rfl trivial rfl) ?_
                obtain ⟨x66, hx66, hr⟩ := bind_some hr
                refine OkOps.q (triCall (tau []) (.s (.c (.d (.v (.int .i32 x66))))) [] (l32_fold_c _ hx66) rfl ⟨.inl rfl, trivial⟩ trivial entry20 trivial rfl rfl rfl rfl trivial rfl rfl rfl) ?_
                refine OkOps.m 0 (triBST (sz := 1) (enc := (eInt .i32)) (j := 1) ([x66]) rfl rfl rfl rfl rfl rfl rfl rfl (fun _ => rfl) trivial rfl rfl) ?_
                obtain ⟨x67, hx67, hr⟩ := bind_some hr
                refine OkOps.m2 0 (triApp (enc := (eInt .i32)) (L := s53.1) (X := [x66]) (j := 1018) (j' := 2) hx67 rfl rfl rfl rfl rfl rfl (fun _ => rfl) (fun _ => rfl) (by decide) trivial rfl rfl) ?_
                refine OkOps.q (triQ (x := .c (.tl 2 (List.map (eInt .i32) x67))) rfl trivial rfl) ?_
                refine OkOps.nil ?_
                exact ⟨x67, hr, (Conv.mk (tau [(1022, 2)]) ⟨⟨_, rfl, .inl rfl⟩, ⟨_, rfl, .inl rfl⟩, ⟨_, rfl, .inl rfl⟩, ⟨_, rfl, .inl rfl⟩, trivial⟩ ⟨rfl, rfl, trivial⟩ rfl rfl rfl rfl)⟩
              · have hr := selF h63 hr
                refine Ok.skip ?_
                exact ⟨s53.1, hr, (Conv.mk (tau [(1022, 1018)]) ⟨⟨_, rfl, .inl rfl⟩, ⟨_, rfl, .inl rfl⟩, ⟨_, rfl, .inl rfl⟩, ⟨_, rfl, .inl rfl⟩, trivial⟩ ⟨rfl, rfl, trivial⟩ rfl rfl rfl rfl)⟩
        · have hr := selF h55 hr
          refine Ok.exit ?_
          exact ⟨s53.1, hr, (Conv.mk (tau [(1013, 1018)]) ⟨⟨_, rfl, .inl rfl⟩, ⟨_, rfl, .inl rfl⟩, ⟨_, rfl, .inl rfl⟩, trivial⟩ ⟨rfl, rfl, trivial⟩ rfl rfl rfl rfl)⟩
  · clear hk3
    refine Ok.seq ?_
    refine Ok.region ?_
    refine OkOps.q (triQ (x := .c (.loc 0 0)) rfl trivial rfl) ?_
    obtain ⟨x68, hx68, hr⟩ := bind_some hr
    refine OkOps.m 0 (triCall (tau [(0, 0)]) (.s (.c (.d (.v (.int .i64 x68.1))))) [(0, .blk [.d (.sl (List.map (eInt .i64) x68.2.L)), .d (.v (.int .i64 x68.2.At))] 96)] (b_Src_N_c _ _ hx68) rfl ⟨.inl rfl, .inl rfl, trivial⟩ trivial entry15 ⟨rfl, trivial⟩ rfl rfl rfl rfl trivial rfl rfl rfl) ?_
    refine OkOps.q (triQ (x := .c (.d (.v (.int .i64 x68.1)))) rfl trivial rfl) ?_
    refine OkOps.nil ?_
    refine Ok.block ?_
    refine Ok.loopK (fun (s69 : (List Str) × Int × (List Int) × Int) => ⟨[(3, .s (.c (.loc 0 0))), (4, .s (.c (.tl 1025 (List.map eStr s69.1)))), (5, .s (.c (.d (.v (.int .i64 s69.2.1)))))], [(0, .blk [.d (.sl (List.map (eInt .i64) s69.2.2.1)), .d (.v (.int .i64 s69.2.2.2))] 96), (1025, .tail 1)], 0⟩) hr (Conv.trans (Conv.nil 4 1027 1 0 rfl rfl) (Conv.mk (tau [(1025, 1027)]) ⟨⟨_, rfl, .inl rfl⟩, ⟨_, rfl, .inl rfl⟩, ⟨_, rfl, .inl rfl⟩, trivial⟩ ⟨rfl, rfl, trivial⟩ rfl rfl rfl rfl)) ?_
    clear hr
    intro again70 s69 hr
    unfold l32_ShortcutDistinct_L7 at hr
    refine Ok.seq ?_
    refine Ok.seq ?_
    refine Ok.region ?_
    refine OkOps.q (triQ (x := .c (.d (.v (.int .i64 s69.2.1)))) rfl trivial rfl) ?_
    refine OkOps.q (triQ (x := .c (.d (.v (.bool (decide (s69.2.1 > 0)))))) rfl trivial rfl) ?_
    refine OkOps.nil ?_
    refine Ok.cond (b := decide (s69.2.1 > 0)) rfl (fun h71 => ?_) (fun h71 => ?_)
    · have hr := selT h71 hr
      refine Ok.skip ?_
      refine Ok.seq ?_
      refine Ok.block ?_
      refine Ok.region ?_
      refine OkOps.q (triQ (x := .c (.tl 1025 (List.map eStr s69.1))) rfl trivial rfl) ?_
      refine OkOps.q (triQ (x := .c (.loc 0 0)) rfl trivial rfl) ?_
      obtain ⟨x72, hx72, hr⟩ := bind_some hr
      refine OkOps.m 0 (triCall (tau [(0, 0)]) (.s (.c (.d (.v (.string x72.1))))) [(0, .blk [.d (.sl (List.map (eInt .i64) x72.2.L)), .d (.v (.int .i64 x72.2.At))] 96)] (b_Src_Word_c _ _ hx72) rfl ⟨.inl rfl, .inl rfl, trivial⟩ trivial entry16 ⟨rfl, trivial⟩ rfl rfl rfl rfl trivial rfl rfl rfl) ?_
      refine OkOps.m 0 (triBST (sz := 1) (enc := eStr) (j := 3) ([(ByteArray.mk #[]), (ByteArray.mk #[65]), (ByteArray.mk #[66, 57]), (ByteArray.mk #[32]), (ByteArray.mk #[67])]) rfl rfl rfl rfl rfl rfl rfl rfl (fun _ => rfl) trivial rfl rfl) ?_
      refine OkOps.q (triQ (x := .c (.loc 0 0)) rfl trivial rfl) ?_
      obtain ⟨x73, hx73, hr⟩ := bind_some hr
      refine OkOps.m 0 (triCall (tau [(0, 0)]) (.s (.c (.d (.v (.int .i64 x73.1))))) [(0, .blk [.d (.sl (List.map (eInt .i64) x73.2.L)), .d (.v (.int .i64 x73.2.At))] 96)] (b_Src_N_c _ _ hx73) rfl ⟨.inl rfl, .inl rfl, trivial⟩ trivial entry15 ⟨rfl, trivial⟩ rfl rfl rfl rfl trivial rfl rfl rfl) ?_
      obtain ⟨x74, hx74, hr⟩ := bind_some hr
      refine OkOps.q (triIdx (enc := eStr) (L := [(ByteArray.mk #[]), (ByteArray.mk #[65]), (ByteArray.mk #[66, 57]), (ByteArray.mk #[32]), (ByteArray.mk #[67])]) (row := [.v (.string x74)]) hx74 rfl rfl rfl rfl (fun _ => rfl) trivial rfl) ?_
      refine OkOps.q (triQ (x := .c (.d (.v (.string x74)))) rfl trivial rfl) ?_
      obtain ⟨x75, hx75, hr⟩ := bind_some hr
      refine OkOps.q (triCat hx75 rfl rfl trivial rfl) ?_
      refine OkOps.m 0 (triBST (sz := 1) (enc := eStr) (j := 4) ([x75]) rfl rfl rfl rfl rfl rfl rfl rfl (fun _ => rfl) trivial rfl rfl) ?_
      obtain ⟨x76, hx76, hr⟩ := bind_some hr
      refine OkOps.m2 0 (triApp (enc := eStr) (L := s69.1) (X := [x75]) (j := 1025) (j' := 5) hx76 rfl rfl rfl rfl rfl rfl (fun _ => rfl) (fun _ => rfl) (by decide) trivial rfl rfl) ?_
      refine OkOps.q (triQ (x := .c (.tl 5 (List.map eStr x76))) rfl trivial rfl) ?_
      refine OkOps.nil ?_
      refine Ok.region ?_
      refine OkOps.q (triQ (x := .c (.d (.v (.int .i64 s69.2.1)))) rfl trivial rfl) ?_
      refine OkOps.q (triQ (x := .c (.d (.v (.int .i64 (IntKind.i64.wrap (s69.2.1 - 1)))))) rfl trivial rfl) ?_
      refine OkOps.q (triQ (x := .c (.d (.v (.int .i64 (IntKind.i64.wrap (s69.2.1 - 1)))))) rfl trivial rfl) ?_
      refine OkOps.nil ?_
      exact ⟨(x76, IntKind.i64.wrap (s69.2.1 - 1), x73.2.L, x73.2.At), hr, (Conv.mk (tau [(1025, 5)]) ⟨⟨_, rfl, .inl rfl⟩, ⟨_, rfl, .inl rfl⟩, ⟨_, rfl, .inl rfl⟩, trivial⟩ ⟨rfl, rfl, trivial⟩ rfl rfl rfl rfl)⟩
    · have hr := selF h71 hr
      refine Ok.exit ?_
      exact ⟨s69.1, hr, (Conv.mk (tau [(1004, 1025)]) ⟨⟨_, rfl, .inl rfl⟩, trivial⟩ ⟨rfl, trivial⟩ rfl rfl rfl rfl)⟩
theorem entry4 : Entry Tryd.prog 4 := ⟨_, Tryd.func4, by kernel_rfl, by kernel_rfl⟩
theorem l32_ShortcutFeeds_c (a0 : PendingKeys) (a1 : (List Shortcut)) (a2 : (List Int)) (a3 : Chord) (a4 : Int) {r : Bool} (hr : l32_ShortcutFeeds a0 a1 a2 a3 a4 = some r) : Con Tryd.prog 6 [.agg [.d (.sl (List.map Chord.cs a0.Keys)), .d (.v (.int .i64 a0.Time))], .c (.d (.sl (List.map Shortcut.cs a1))), .c (.d (.sl (List.map (eInt .i64) a2))), .agg [.d (.v (.int .i64 a3.Key)), .d (.v (.int .i64 a3.Mods))], .c (.d (.v (.int .i64 a4)))] [] (.s (.c (.d (.v (.bool r))))) [] := by
  unfold l32_ShortcutFeeds at hr
  refine Con.of_ok 114 0 [.tmp 10] [(0, .s (.agg [.d (.sl (List.map Chord.cs a0.Keys)), .d (.v (.int .i64 a0.Time))])), (1, .s (.c (.d (.sl (List.map Shortcut.cs a1))))), (2, .s (.c (.d (.sl (List.map (eInt .i64) a2))))), (3, .s (.agg [.d (.v (.int .i64 a3.Key)), .d (.v (.int .i64 a3.Mods))])), (4, .s (.c (.d (.v (.int .i64 a4)))))] Tryd.func6 rfl rfl rfl rfl rfl rfl rfl rfl fun w g M ρ => ?_
  refine Ok.seq ?_
  refine Ok.region ?_
  refine OkOps.m 0 (triBox (j := 0) (cs := [.d (.sl (List.map Chord.cs a0.Keys)), .d (.v (.int .i64 a0.Time))]) rfl rfl rfl rfl rfl) ?_
  refine OkOps.m 0 (triBox (j := 1) (cs := [.d (.v (.int .i64 a3.Key)), .d (.v (.int .i64 a3.Mods))]) rfl rfl rfl rfl rfl) ?_
  refine OkOps.q (triQ (x := .c (.d (.v (.bool false)))) rfl trivial rfl) ?_
  refine OkOps.nil ?_
  refine Ok.seq ?_
  refine Ok.seq ?_
  refine Ok.region ?_
  refine OkOps.q (triQ (x := .c (.loc 0 0)) rfl trivial rfl) ?_
  refine OkOps.q (triQ (x := .c (.d (.sl (List.map Chord.cs a0.Keys)))) rfl trivial rfl) ?_
  refine OkOps.q (triLen (enc := Chord.cs) a0.Keys rfl rfl trivial rfl) ?_
  refine OkOps.q (triQ (x := .c (.d (.v (.bool (decide ((a0.Keys.length : Int) > 20)))))) rfl trivial rfl) ?_
  refine OkOps.q (triQ (x := .c (.d (.v (.bool (decide ((a0.Keys.length : Int) > 20)))))) rfl trivial rfl) ?_
  refine OkOps.q (triQG (x := .c (.d (.sl (List.map Shortcut.cs a1)))) rfl rfl trivial rfl) ?_
  refine OkOps.q (triLenG (enc := Shortcut.cs) a1 rfl rfl rfl ⟨fun h => h, trivial⟩ rfl) ?_
  refine OkOps.q (triQG (x := .c (.d (.v (.bool (decide ((a1.length : Int) > 20)))))) rfl rfl ⟨fun h => h, trivial⟩ rfl) ?_
  refine OkOps.q (triOr rfl rfl (fun h => by rw [h]; rfl) rfl) ?_
  refine OkOps.q (triQ (x := .c (.d (.v (.bool ((decide ((a0.Keys.length : Int) > 20)) || (decide ((a1.length : Int) > 20))))))) rfl trivial rfl) ?_
  refine OkOps.q (triQG (x := .c (.d (.sl (List.map (eInt .i64) a2)))) rfl rfl trivial rfl) ?_
  refine OkOps.q (triLenG (enc := (eInt .i64)) a2 rfl rfl rfl ⟨fun h => h, trivial⟩ rfl) ?_
  refine OkOps.q (triQG (x := .c (.d (.v (.bool (decide ((a2.length : Int) > 20)))))) rfl rfl ⟨fun h => h, trivial⟩ rfl) ?_
  refine OkOps.q (triOr rfl rfl (fun h => by rw [h]; rfl) rfl) ?_
  refine OkOps.q (triQ (x := .c (.d (.v (.bool (((decide ((a0.Keys.length : Int) > 20)) || (decide ((a1.length : Int) > 20))) || (decide ((a2.length : Int) > 20))))))) rfl trivial rfl) ?_
  refine OkOps.q (triQG (x := .c (.loc 0 1)) rfl rfl trivial rfl) ?_
  refine OkOps.q (triQG (x := .c (.d (.v (.int .i64 a0.Time)))) rfl rfl ⟨fun h => h, trivial⟩ rfl) ?_
  obtain ⟨x1, hx1, hr⟩ := bind_some hr
  refine OkOps.q (triCallG (x := .c (.d (.v (.bool x1)))) (fun hg => l32_small_c _ (gO_t hx1 hg)) rfl rfl ⟨.inl rfl, trivial⟩ ⟨fun h => h, trivial⟩ entry27 rfl rfl rfl) ?_
  refine OkOps.q (triQG (x := .c (.d (.v (.bool (!x1))))) rfl rfl ⟨fun h => h, trivial⟩ rfl) ?_
  refine OkOps.q (triOr rfl rfl (fun h => by rw [h]; rfl) rfl) ?_
  refine OkOps.q (triQ (x := .c (.d (.v (.bool ((((decide ((a0.Keys.length : Int) > 20)) || (decide ((a1.length : Int) > 20))) || (decide ((a2.length : Int) > 20))) || (!x1)))))) rfl trivial rfl) ?_
  refine OkOps.q (triQG (x := .c (.d (.v (.int .i64 a4)))) rfl rfl trivial rfl) ?_
  obtain ⟨x2, hx2, hr⟩ := bind_some hr
  refine OkOps.q (triCallG (x := .c (.d (.v (.bool x2)))) (fun hg => l32_small_c _ (gO_t hx2 hg)) rfl rfl ⟨.inl rfl, trivial⟩ ⟨fun h => h, trivial⟩ entry27 rfl rfl rfl) ?_
  refine OkOps.q (triQG (x := .c (.d (.v (.bool (!x2))))) rfl rfl ⟨fun h => h, trivial⟩ rfl) ?_
  refine OkOps.q (triOr rfl rfl (fun h => by rw [h]; rfl) rfl) ?_
  refine OkOps.nil ?_
  refine Ok.cond (b := ((((decide ((a0.Keys.length : Int) > 20)) || (decide ((a1.length : Int) > 20))) || (decide ((a2.length : Int) > 20))) || (!x1)) || (!x2)) rfl (fun h3 => ?_) (fun h3 => ?_)
  · have hr := selT h3 hr
    refine Ok.seq ?_
    refine Ok.region ?_
    refine OkOps.q (triQ (x := .c (.d (.v (.bool true)))) rfl trivial rfl) ?_
    refine OkOps.nil ?_
    refine Ok.ret ?_
    obtain rfl := Option.some.inj hr
    exact ⟨_, rfl, .inl rfl, trivial⟩
  · have hr := selF h3 hr
    refine Ok.skip ?_
    obtain ⟨k5, hk5, hr⟩ := jn_some hr
    refine Ok.join (fun (s4 : Unit) => ⟨[(1, .s (.c (.d (.sl (List.map Shortcut.cs a1))))), (2, .s (.c (.d (.sl (List.map (eInt .i64) a2))))), (4, .s (.c (.d (.v (.int .i64 a4))))), (5, .s (.c (.loc 0 0))), (8, .s (.c (.loc 1 0)))], [(0, .blk [.d (.sl (List.map Chord.cs a0.Keys)), .d (.v (.int .i64 a0.Time))] 42), (1, .blk [.d (.v (.int .i64 a3.Key)), .d (.v (.int .i64 a3.Mods))] 44)], 0⟩) k5 r (fun s4 hr => ?_) ?_
    · rw [hk5] at hr
      refine Ok.seq ?_
      refine Ok.region ?_
      refine OkOps.q (triQ (x := .agg [.d (.sl (List.map Chord.cs a0.Keys)), .d (.v (.int .i64 a0.Time))]) rfl trivial rfl) ?_
      refine OkOps.q (triQ (x := .c (.d (.sl (List.map Shortcut.cs a1)))) rfl trivial rfl) ?_
      refine OkOps.q (triQ (x := .c (.d (.sl (List.map (eInt .i64) a2)))) rfl trivial rfl) ?_
      refine OkOps.q (triQ (x := .agg [.d (.v (.int .i64 a3.Key)), .d (.v (.int .i64 a3.Mods))]) rfl trivial rfl) ?_
      refine OkOps.q (triQ (x := .c (.d (.v (.int .i64 a4)))) rfl trivial rfl) ?_
      obtain ⟨x6, hx6, hr⟩ := bind_some hr
      refine OkOps.q (triCall (tau []) (.tup [.agg [.d (.sl (List.map Chord.cs x6.1.Keys)), .d (.v (.int .i64 x6.1.Time))], .c (.d (.v (.int .i64 x6.2.1))), .c (.d (.v (.int .i64 x6.2.2)))]) [] (sc_Feed_c _ _ _ _ _ hx6) rfl ⟨.inl rfl, .inl rfl, .inl rfl, .inl rfl, .inl rfl, trivial⟩ trivial entry24 trivial rfl rfl rfl rfl trivial rfl rfl rfl) ?_
      refine OkOps.q (triMv (v := .tup [.agg [.d (.sl (List.map Chord.cs x6.1.Keys)), .d (.v (.int .i64 x6.1.Time))], .c (.d (.v (.int .i64 x6.2.1))), .c (.d (.v (.int .i64 x6.2.2)))]) rfl rfl) ?_
      refine OkOps.q (triQ (x := .agg [.d (.sl (List.map Chord.cs x6.1.Keys)), .d (.v (.int .i64 x6.1.Time))]) rfl trivial rfl) ?_
      refine OkOps.q (triQ (x := .c (.d (.v (.int .i64 x6.2.1)))) rfl trivial rfl) ?_
      refine OkOps.q (triQ (x := .c (.d (.v (.int .i64 x6.2.2)))) rfl trivial rfl) ?_
      refine OkOps.m 0 (triAlloc (j := 2) (cs := [.d (.v (.slice none 0 0)), .d (.v (.int .i64 0))]) rfl rfl rfl rfl) ?_
      refine OkOps.w (triStore (cs' := [.d (.sl (List.map Chord.cs x6.1.Keys)), .d (.v (.int .i64 x6.1.Time))]) rfl rfl rfl rfl rfl rfl rfl rfl rfl) ?_
      refine OkOps.q (triQ (x := .c (.d (.v (.int .i64 x6.2.1)))) rfl trivial rfl) ?_
      refine OkOps.q (triQ (x := .c (.d (.v (.int .i64 x6.2.2)))) rfl trivial rfl) ?_
      refine OkOps.nil ?_
      refine Ok.seq ?_
      refine Ok.region ?_
      refine OkOps.q (triQ (x := .agg [.d (.sl (List.map Chord.cs a0.Keys)), .d (.v (.int .i64 a0.Time))]) rfl trivial rfl) ?_
      refine OkOps.q (triQ (x := .c (.d (.sl (List.map Shortcut.cs a1)))) rfl trivial rfl) ?_
      refine OkOps.q (triQ (x := .c (.d (.sl (List.map (eInt .i64) a2)))) rfl trivial rfl) ?_
      refine OkOps.q (triQ (x := .agg [.d (.v (.int .i64 a3.Key)), .d (.v (.int .i64 a3.Mods))]) rfl trivial rfl) ?_
      refine OkOps.q (triQ (x := .c (.d (.v (.int .i64 a4)))) rfl trivial rfl) ?_
      obtain ⟨x7, hx7, hr⟩ := bind_some hr
      refine OkOps.q (triCall (tau []) (.tup [.agg [.d (.sl (List.map Chord.cs x7.1.Keys)), .d (.v (.int .i64 x7.1.Time))], .c (.d (.v (.int .i64 x7.2.1))), .c (.d (.v (.int .i64 x7.2.2)))]) [] (r32_Feed_c _ _ _ _ _ hx7) rfl ⟨.inl rfl, .inl rfl, .inl rfl, .inl rfl, .inl rfl, trivial⟩ trivial entry25 trivial rfl rfl rfl rfl trivial rfl rfl rfl) ?_
      refine OkOps.q (triMv (v := .tup [.agg [.d (.sl (List.map Chord.cs x7.1.Keys)), .d (.v (.int .i64 x7.1.Time))], .c (.d (.v (.int .i64 x7.2.1))), .c (.d (.v (.int .i64 x7.2.2)))]) rfl rfl) ?_
      refine OkOps.q (triQ (x := .agg [.d (.sl (List.map Chord.cs x7.1.Keys)), .d (.v (.int .i64 x7.1.Time))]) rfl trivial rfl) ?_
      refine OkOps.q (triQ (x := .c (.d (.v (.int .i64 x7.2.1)))) rfl trivial rfl) ?_
      refine OkOps.q (triQ (x := .c (.d (.v (.int .i64 x7.2.2)))) rfl trivial rfl) ?_
      refine OkOps.m 0 (triAlloc (j := 3) (cs := [.d (.v (.slice none 0 0)), .d (.v (.int .i64 0))]) rfl rfl rfl rfl) ?_
      refine OkOps.w (triStore (cs' := [.d (.sl (List.map Chord.cs x7.1.Keys)), .d (.v (.int .i64 x7.1.Time))]) rfl rfl rfl rfl rfl rfl rfl rfl rfl) ?_
      refine OkOps.q (triQ (x := .c (.d (.v (.int .i64 x7.2.1)))) rfl trivial rfl) ?_
      refine OkOps.q (triQ (x := .c (.d (.v (.int .i64 x7.2.2)))) rfl trivial rfl) ?_
      refine OkOps.nil ?_
      refine Ok.seq ?_
      refine Ok.region ?_
      refine OkOps.q (triQ (x := .c (.loc 2 0)) rfl trivial rfl) ?_
      refine OkOps.q (triQ (x := .c (.d (.sl (List.map Chord.cs x6.1.Keys)))) rfl trivial rfl) ?_
      refine OkOps.q (triQ (x := .c (.loc 3 0)) rfl trivial rfl) ?_
      refine OkOps.q (triQ (x := .c (.d (.sl (List.map Chord.cs x7.1.Keys)))) rfl trivial rfl) ?_
      obtain ⟨x8, hx8, hr⟩ := bind_some hr
      refine OkOps.q (triCall (tau []) (.s (.c (.d (.v (.bool x8))))) [] (l32_same_c _ _ hx8) rfl ⟨.inl rfl, .inl rfl, trivial⟩ trivial entry26 trivial rfl rfl rfl rfl trivial rfl rfl rfl) ?_
      refine OkOps.q (triQ (x := .c (.d (.v (.bool x8)))) rfl trivial rfl) ?_
      refine OkOps.q (triQG (x := .c (.loc 3 0)) rfl rfl trivial rfl) ?_
      refine OkOps.q (triQG (x := .c (.d (.sl (List.map Chord.cs x7.1.Keys)))) rfl rfl ⟨fun h => h, trivial⟩ rfl) ?_
      refine OkOps.q (triLenG (enc := Chord.cs) x7.1.Keys rfl rfl rfl ⟨fun h => h, trivial⟩ rfl) ?_
      refine OkOps.q (triQG (x := .c (.d (.v (.bool ((x7.1.Keys.length : Int) == 0))))) rfl rfl ⟨fun h => h, trivial⟩ rfl) ?_
      refine OkOps.q (triQG (x := .c (.d (.v (.bool ((x7.1.Keys.length : Int) == 0))))) rfl rfl ⟨fun h => h, trivial⟩ rfl) ?_
      refine OkOps.q (triQG (x := .c (.loc 2 1)) rfl rfl trivial rfl) ?_
      refine OkOps.q (triQG (x := .c (.d (.v (.int .i64 x6.1.Time)))) rfl rfl ⟨fun h => h, trivial⟩ rfl) ?_
      refine OkOps.q (triQG (x := .c (.loc 3 1)) rfl rfl trivial rfl) ?_
      refine OkOps.q (triQG (x := .c (.d (.v (.int .i64 x7.1.Time)))) rfl rfl ⟨fun h => h, trivial⟩ rfl) ?_
      refine OkOps.q (triQG (x := .c (.d (.v (.bool (x6.1.Time == x7.1.Time))))) rfl rfl ⟨fun h => h, ⟨fun h => h, trivial⟩⟩ rfl) ?_
      refine OkOps.q (triOrG rfl rfl rfl (fun h => h) (fun h h2 => by rw [h, h2]; rfl) rfl) ?_
      refine OkOps.q (triAnd rfl rfl (fun h => h) rfl) ?_
      refine OkOps.q (triQ (x := .c (.d (.v (.bool (x8 && (((x7.1.Keys.length : Int) == 0) || (x6.1.Time == x7.1.Time))))))) rfl trivial rfl) ?_
      refine OkOps.q (triQG (x := .c (.d (.v (.int .i64 x6.2.1)))) rfl rfl trivial rfl) ?_
      refine OkOps.q (triQG (x := .c (.d (.v (.int .i64 x7.2.1)))) rfl rfl trivial rfl) ?_
      refine OkOps.q (triQG (x := .c (.d (.v (.bool (x6.2.1 == x7.2.1))))) rfl rfl ⟨fun h => h, ⟨fun h => h, trivial⟩⟩ rfl) ?_
      refine OkOps.q (triAnd rfl rfl (fun h => h) rfl) ?_
      refine OkOps.q (triQ (x := .c (.d (.v (.bool ((x8 && (((x7.1.Keys.length : Int) == 0) || (x6.1.Time == x7.1.Time))) && (x6.2.1 == x7.2.1)))))) rfl trivial rfl) ?_
      refine OkOps.q (triQG (x := .c (.d (.v (.int .i64 x6.2.2)))) rfl rfl trivial rfl) ?_
      refine OkOps.q (triQG (x := .c (.d (.v (.int .i64 x7.2.2)))) rfl rfl trivial rfl) ?_
      refine OkOps.q (triQG (x := .c (.d (.v (.bool (x6.2.2 == x7.2.2))))) rfl rfl ⟨fun h => h, ⟨fun h => h, trivial⟩⟩ rfl) ?_
      refine OkOps.q (triAnd rfl rfl (fun h => h) rfl) ?_
      refine OkOps.q (triQ (x := .c (.d (.v (.bool (((x8 && (((x7.1.Keys.length : Int) == 0) || (x6.1.Time == x7.1.Time))) && (x6.2.1 == x7.2.1)) && (x6.2.2 == x7.2.2)))))) rfl trivial rfl) ?_
      refine OkOps.q (triQG (x := .c (.d (.sl (List.map Shortcut.cs a1)))) rfl rfl trivial rfl) ?_
      obtain ⟨x9, hx9, hr⟩ := bind_some hr
      refine OkOps.q (triCallG (x := .c (.d (.sl (List.map (ePair (eInt .i64)) x9)))) (fun hg => sc_Conflicts_c _ (gO_t hx9 hg)) rfl rfl ⟨.inl rfl, trivial⟩ ⟨fun h => h, trivial⟩ entry29 rfl rfl rfl) ?_
      refine OkOps.q (triQG (x := .c (.d (.sl (List.map Shortcut.cs a1)))) rfl rfl trivial rfl) ?_
      obtain ⟨x10, hx10, hr⟩ := bind_some hr
      refine OkOps.q (triCallG (x := .c (.d (.sl (List.map (ePair (eInt .i64)) x10)))) (fun hg => r32_Conflicts_c _ (gO_t hx10 hg)) rfl rfl ⟨.inl rfl, trivial⟩ ⟨fun h => h, trivial⟩ entry30 rfl rfl rfl) ?_
      obtain ⟨x11, hx11, hr⟩ := bind_some hr
      refine OkOps.q (triCallG (x := .c (.d (.v (.bool x11)))) (fun hg => l32_samePairs_c _ _ (gO_t hx11 hg)) rfl rfl ⟨.inl rfl, .inl rfl, trivial⟩ ⟨fun h => h, ⟨fun h => h, trivial⟩⟩ entry28 rfl rfl rfl) ?_
      refine OkOps.q (triAnd rfl rfl (fun h => h) rfl) ?_
      refine OkOps.q (triQ (x := .c (.d (.v (.bool ((((x8 && (((x7.1.Keys.length : Int) == 0) || (x6.1.Time == x7.1.Time))) && (x6.2.1 == x7.2.1)) && (x6.2.2 == x7.2.2)) && x11))))) rfl trivial rfl) ?_
      obtain ⟨x12, hx12, hr⟩ := bind_some hr
      refine OkOps.q (triCallG (x := .c (.d (.v (.bool x12)))) (fun hg => l32_awake_c  (gO_t hx12 hg)) rfl rfl trivial trivial entry19 rfl rfl rfl) ?_
      refine OkOps.q (triAnd rfl rfl (fun h => h) rfl) ?_
      refine OkOps.q (triQ (x := .c (.d (.v (.bool (((((x8 && (((x7.1.Keys.length : Int) == 0) || (x6.1.Time == x7.1.Time))) && (x6.2.1 == x7.2.1)) && (x6.2.2 == x7.2.2)) && x11) && x12))))) rfl trivial rfl) ?_
      refine OkOps.nil ?_
      refine Ok.ret ?_
      obtain rfl := Option.some.inj hr
      exact ⟨_, rfl, .inl rfl, trivial⟩
    · clear hk5
      refine Ok.seq ?_
      refine Ok.region ?_
      refine OkOps.q (triQ (x := .c (.d (.v (.int .i64 0)))) rfl trivial rfl) ?_
      refine OkOps.nil ?_
      refine Ok.block ?_
      refine Ok.loopK (fun (s13 : Int) => ⟨[(1, .s (.c (.d (.sl (List.map Shortcut.cs a1))))), (2, .s (.c (.d (.sl (List.map (eInt .i64) a2))))), (4, .s (.c (.d (.v (.int .i64 a4))))), (5, .s (.c (.loc 0 0))), (8, .s (.c (.loc 1 0))), (11, .s (.c (.d (.v (.int .i64 s13)))))], [(0, .blk [.d (.sl (List.map Chord.cs a0.Keys)), .d (.v (.int .i64 a0.Time))] 42), (1, .blk [.d (.v (.int .i64 a3.Key)), .d (.v (.int .i64 a3.Mods))] 44)], 0⟩) hr (Conv.mk (tau []) ⟨⟨_, rfl, .inl rfl⟩, ⟨_, rfl, .inl rfl⟩, ⟨_, rfl, .inl rfl⟩, ⟨_, rfl, .inl rfl⟩, ⟨_, rfl, .inl rfl⟩, ⟨_, rfl, .inl rfl⟩, trivial⟩ ⟨rfl, rfl, trivial⟩ rfl rfl rfl rfl) ?_
      clear hr
      intro again14 s13 hr
      unfold l32_ShortcutFeeds_L1 at hr
      refine Ok.seq ?_
      refine Ok.seq ?_
      refine Ok.region ?_
      refine OkOps.q (triQ (x := .c (.d (.v (.int .i64 s13)))) rfl trivial rfl) ?_
      refine OkOps.q (triQ (x := .c (.d (.sl (List.map Shortcut.cs a1)))) rfl trivial rfl) ?_
      refine OkOps.q (triLen (enc := Shortcut.cs) a1 rfl rfl trivial rfl) ?_
      refine OkOps.q (triQ (x := .c (.d (.v (.bool (decide (s13 < (a1.length : Int))))))) rfl trivial rfl) ?_
      refine OkOps.nil ?_
      refine Ok.cond (b := decide (s13 < (a1.length : Int))) rfl (fun h15 => ?_) (fun h15 => ?_)
      · have hr := selT h15 hr
        refine Ok.skip ?_
        refine Ok.seq ?_
        refine Ok.block ?_
        refine Ok.seq ?_
        refine Ok.region ?_
        refine OkOps.q (triQ (x := .c (.d (.sl (List.map Shortcut.cs a1)))) rfl trivial rfl) ?_
        refine OkOps.q (triQ (x := .c (.d (.v (.int .i64 s13)))) rfl trivial rfl) ?_
        obtain ⟨x16, hx16, hr⟩ := bind_some hr
        refine OkOps.q (triIdx (enc := Shortcut.cs) (L := a1) (row := [.v (.int .i64 x16.Node), .v (.int .i64 x16.Scope), .sl (List.map Chord.cs x16.Keys)]) hx16 rfl rfl rfl rfl (fun _ => rfl) trivial rfl) ?_
        refine OkOps.q (triQ (x := .c (.pt [.sl (List.map Chord.cs x16.Keys)])) rfl trivial rfl) ?_
        refine OkOps.q (triQ (x := .c (.d (.sl (List.map Chord.cs x16.Keys)))) rfl trivial rfl) ?_
        refine OkOps.q (triLen (enc := Chord.cs) x16.Keys rfl rfl trivial rfl) ?_
        refine OkOps.q (triQ (x := .c (.d (.v (.bool (decide ((x16.Keys.length : Int) > 20)))))) rfl trivial rfl) ?_
        refine OkOps.nil ?_
        refine Ok.cond (b := decide ((x16.Keys.length : Int) > 20)) rfl (fun h17 => ?_) (fun h17 => ?_)
        · have hr := selT h17 hr
          refine Ok.seq ?_
          refine Ok.region ?_
          refine OkOps.q (triQ (x := .c (.d (.v (.bool true)))) rfl trivial rfl) ?_
          refine OkOps.nil ?_
          refine Ok.ret ?_
          obtain rfl := Option.some.inj hr
          exact ⟨_, rfl, .inl rfl, trivial⟩
        · have hr := selF h17 hr
          refine Ok.skip ?_
          refine Ok.region ?_
          refine OkOps.q (triQ (x := .c (.d (.v (.int .i64 s13)))) rfl trivial rfl) ?_
          refine OkOps.q (triQ (x := .c (.d (.v (.int .i64 (IntKind.i64.wrap (s13 + 1)))))) rfl trivial rfl) ?_
          refine OkOps.q (triQ (x := .c (.d (.v (.int .i64 (IntKind.i64.wrap (s13 + 1)))))) rfl trivial rfl) ?_
          refine OkOps.nil ?_
          exact ⟨IntKind.i64.wrap (s13 + 1), hr, (Conv.mk (tau []) ⟨⟨_, rfl, .inl rfl⟩, ⟨_, rfl, .inl rfl⟩, ⟨_, rfl, .inl rfl⟩, ⟨_, rfl, .inl rfl⟩, ⟨_, rfl, .inl rfl⟩, ⟨_, rfl, .inl rfl⟩, trivial⟩ ⟨rfl, rfl, trivial⟩ rfl rfl rfl rfl)⟩
      · have hr := selF h15 hr
        refine Ok.exit ?_
        exact ⟨(), hr, (Conv.mk (tau []) ⟨⟨_, rfl, .inl rfl⟩, ⟨_, rfl, .inl rfl⟩, ⟨_, rfl, .inl rfl⟩, ⟨_, rfl, .inl rfl⟩, ⟨_, rfl, .inl rfl⟩, trivial⟩ ⟨rfl, rfl, trivial⟩ rfl rfl rfl rfl)⟩
theorem entry6 : Entry Tryd.prog 6 := ⟨_, Tryd.func6, by kernel_rfl, by kernel_rfl⟩
theorem l32_ShortcutFires_c (a0 : (List Int)) {r : Bool} (hr : l32_ShortcutFires a0 = some r) : Con Tryd.prog 7 [.c (.d (.sl (List.map (eInt .i64) a0)))] [] (.s (.c (.d (.v (.bool r))))) [] := by
  unfold l32_ShortcutFires at hr
  refine Con.of_ok 124 0 [.tmp 2] [(0, .s (.c (.d (.sl (List.map (eInt .i64) a0)))))] Tryd.func7 rfl rfl rfl rfl rfl rfl rfl rfl fun w g M ρ => ?_
  refine Ok.seq ?_
  refine Ok.region ?_
  refine OkOps.q (triQ (x := .c (.d (.v (.bool false)))) rfl trivial rfl) ?_
  refine OkOps.nil ?_
  refine Ok.seq ?_
  refine Ok.region ?_
  refine OkOps.q (triQ (x := .c (.d (.sl (List.map (eInt .i64) a0)))) rfl trivial rfl) ?_
  obtain ⟨x1, hx1, hr⟩ := bind_some hr
  refine OkOps.m 0 (triCall (tau [(0, 0)]) (.s (.c (.loc 0 0))) [(0, .blk [.d (.sl (List.map (eInt .i64) x1.L)), .d (.v (.int .i64 x1.At))] 96)] (b_New_c _ hx1) rfl ⟨.inl rfl, trivial⟩ trivial entry14 trivial rfl rfl rfl rfl ⟨rfl, trivial⟩ rfl rfl rfl) ?_
  refine OkOps.q (triQ (x := .c (.loc 0 0)) rfl trivial rfl) ?_
  refine OkOps.nil ?_
  refine Ok.seq ?_
  refine Ok.region ?_
  refine OkOps.q (triQ (x := .c (.loc 0 0)) rfl trivial rfl) ?_
  obtain ⟨x2, hx2, hr⟩ := bind_some hr
  refine OkOps.m2 0 (triCall (tau [(0, 0), (2000, 1)]) (.s (.c (.own 1))) [(0, .blk [.d (.sl (List.map (eInt .i64) x2.2.L)), .d (.v (.int .i64 x2.2.At))] 96), (1, .vec 3 (List.map Shortcut.cs x2.1))] (l32_table_c _ hx2) rfl ⟨.inl rfl, trivial⟩ trivial entry21 ⟨rfl, trivial⟩ rfl rfl rfl rfl ⟨rfl, trivial⟩ rfl rfl rfl) ?_
  refine OkOps.q (triQ (x := .c (.own 1)) rfl trivial rfl) ?_
  refine OkOps.nil ?_
  obtain ⟨k4, hk4, hr⟩ := jn_some hr
  refine Ok.join (fun (s3 : (List Shortcut)) => ⟨[(4, .s (.c (.own 1)))], [(1, .vec 3 (List.map Shortcut.cs s3))], 0⟩) k4 r (fun s3 hr => ?_) ?_
  · rw [hk4] at hr
    refine Ok.seq ?_
    refine Ok.seq ?_
    refine Ok.region ?_
    refine OkOps.q (triQ (x := .c (.own 1)) rfl trivial rfl) ?_
    refine OkOps.conv (Conv.freeze (enc := Shortcut.cs) (L := s3) [4, 32] 1 2 3 0 ⟨rfl, rfl, trivial⟩ rfl (fun _ => rfl) rfl) ?_
    obtain ⟨x5, hx5, hr⟩ := bind_some hr
    refine OkOps.q (triCall (tau []) (.s (.c (.d (.sl (List.map (ePair (eInt .i64)) x5))))) [] (sc_Conflicts_c _ hx5) rfl ⟨.inr rfl, trivial⟩ trivial entry29 trivial rfl rfl rfl rfl trivial rfl rfl rfl) ?_
    refine OkOps.q (triLen (enc := (ePair (eInt .i64))) x5 rfl rfl trivial rfl) ?_
    refine OkOps.q (triQ (x := .c (.d (.v (.bool (decide ((x5.length : Int) > 0)))))) rfl trivial rfl) ?_
    refine OkOps.nil ?_
    refine Ok.cond (b := decide ((x5.length : Int) > 0)) rfl (fun h6 => ?_) (fun h6 => ?_)
    · have hr := selT h6 hr
      refine Ok.seq ?_
      refine Ok.region ?_
      refine OkOps.q (triQ (x := .c (.tl 2 (List.map Shortcut.cs s3))) rfl trivial rfl) ?_
      obtain ⟨x7, hx7, hr⟩ := bind_some hr
      refine OkOps.q (triCall (tau []) (.s (.c (.d (.sl (List.map (ePair (eInt .i64)) x7))))) [] (r32_Conflicts_c _ hx7) rfl ⟨.inr rfl, trivial⟩ trivial entry30 trivial rfl rfl rfl rfl trivial rfl rfl rfl) ?_
      refine OkOps.q (triLen (enc := (ePair (eInt .i64))) x7 rfl rfl trivial rfl) ?_
      refine OkOps.q (triQ (x := .c (.d (.v (.bool (decide ((x7.length : Int) > 0)))))) rfl trivial rfl) ?_
      refine OkOps.q (triQ (x := .c (.d (.v (.bool (decide ((x7.length : Int) > 0)))))) rfl trivial rfl) ?_
      obtain ⟨x8, hx8, hr⟩ := bind_some hr
      refine OkOps.q (triCallG (x := .c (.d (.v (.bool x8)))) (fun hg => l32_awake_c  (gO_t hx8 hg)) rfl rfl trivial trivial entry19 rfl rfl rfl) ?_
      refine OkOps.q (triAnd rfl rfl (fun h => h) rfl) ?_
      refine OkOps.q (triQ (x := .c (.d (.v (.bool ((decide ((x7.length : Int) > 0)) && x8))))) rfl trivial rfl) ?_
      refine OkOps.nil ?_
      refine Ok.ret ?_
      obtain rfl := Option.some.inj hr
      exact ⟨_, rfl, .inl rfl, trivial⟩
    · have hr := selF h6 hr
      refine Ok.skip ?_
      obtain ⟨k10, hk10, hr⟩ := jn_some hr
      refine Ok.join (fun (s9 : Unit) => ⟨[], [], 0⟩) k10 r (fun s9 hr => ?_) ?_
      · rw [hk10] at hr
        refine Ok.seq ?_
        refine Ok.region ?_
        obtain ⟨x11, hx11, hr⟩ := bind_some hr
        refine OkOps.q (triCall (tau []) (.s (.c (.d (.v (.bool x11))))) [] (l32_awake_c  hx11) rfl trivial trivial entry19 trivial rfl rfl rfl rfl trivial rfl rfl rfl) ?_
        refine OkOps.q (triQ (x := .c (.d (.v (.bool x11)))) rfl trivial rfl) ?_
        refine OkOps.nil ?_
        refine Ok.ret ?_
        obtain rfl := Option.some.inj hr
        exact ⟨_, rfl, .inl rfl, trivial⟩
      · clear hk10
        refine Ok.seq ?_
        refine Ok.region ?_
        refine OkOps.q (triQ (x := .c (.d (.v (.int .i64 0)))) rfl trivial rfl) ?_
        refine OkOps.nil ?_
        refine Ok.block ?_
        refine Ok.loopK (fun (s12 : Int) => ⟨[(4, .s (.c (.tl 2 (List.map Shortcut.cs s3)))), (6, .s (.c (.d (.v (.int .i64 s12)))))], [(2, .tail 3)], 0⟩) hr (Conv.mk (tau []) ⟨⟨_, rfl, .inl rfl⟩, ⟨_, rfl, .inl rfl⟩, trivial⟩ ⟨rfl, trivial⟩ rfl rfl rfl rfl) ?_
        clear hr
        intro again13 s12 hr
        unfold l32_ShortcutFires_L2 at hr
        refine Ok.seq ?_
        refine Ok.seq ?_
        refine Ok.region ?_
        refine OkOps.q (triQ (x := .c (.d (.v (.int .i64 s12)))) rfl trivial rfl) ?_
        refine OkOps.q (triQ (x := .c (.tl 2 (List.map Shortcut.cs s3))) rfl trivial rfl) ?_
        refine OkOps.q (triLen (enc := Shortcut.cs) s3 rfl rfl trivial rfl) ?_
        refine OkOps.q (triQ (x := .c (.d (.v (.bool (decide (s12 < (s3.length : Int))))))) rfl trivial rfl) ?_
        refine OkOps.nil ?_
        refine Ok.cond (b := decide (s12 < (s3.length : Int))) rfl (fun h14 => ?_) (fun h14 => ?_)
        · have hr := selT h14 hr
          refine Ok.skip ?_
          obtain ⟨k16, hk16, hr⟩ := jn_some hr
          refine Ok.join (fun (s15 : Unit) => ⟨[(4, .s (.c (.tl 2 (List.map Shortcut.cs s3)))), (6, .s (.c (.d (.v (.int .i64 s12)))))], [(2, .tail 3)], 0⟩) k16 r (fun s15 hr => ?_) ?_
          · rw [hk16] at hr
            refine Ok.region ?_
            refine OkOps.q (triQ (x := .c (.d (.v (.int .i64 s12)))) rfl trivial rfl) ?_
            refine OkOps.q (triQ (x := .c (.d (.v (.int .i64 (IntKind.i64.wrap (s12 + 1)))))) rfl trivial rfl) ?_
            refine OkOps.q (triQ (x := .c (.d (.v (.int .i64 (IntKind.i64.wrap (s12 + 1)))))) rfl trivial rfl) ?_
            refine OkOps.nil ?_
            exact ⟨IntKind.i64.wrap (s12 + 1), hr, (Conv.mk (tau []) ⟨⟨_, rfl, .inl rfl⟩, ⟨_, rfl, .inl rfl⟩, trivial⟩ ⟨rfl, trivial⟩ rfl rfl rfl rfl)⟩
          · clear hk16
            refine Ok.block ?_
            refine Ok.seq ?_
            refine Ok.region ?_
            refine OkOps.m 0 (triAlloc (j := 3) (cs := [.d (.v (.slice none 0 0)), .d (.v (.int .i64 0))]) rfl rfl rfl rfl) ?_
            refine OkOps.nil ?_
            refine Ok.seq ?_
            refine Ok.region ?_
            refine OkOps.q (triQ (x := .c (.d (.v (.int .i64 0)))) rfl trivial rfl) ?_
            refine OkOps.nil ?_
            obtain ⟨k18, hk18, hr⟩ := jn_some hr
            refine Ok.joinEnd (fun (s17 : Unit) => ⟨[(4, .s (.c (.tl 2 (List.map Shortcut.cs s3)))), (6, .s (.c (.d (.v (.int .i64 s12)))))], [(2, .tail 3)], 0⟩) k18 r (fun s17 hr => ?_) ?_
            · rw [hk18] at hr
              exact ⟨(), hr, (Conv.mk (tau []) ⟨⟨_, rfl, .inl rfl⟩, ⟨_, rfl, .inl rfl⟩, trivial⟩ ⟨rfl, trivial⟩ rfl rfl rfl rfl)⟩
            · clear hk18
              refine Ok.block ?_
              refine Ok.loopK (fun (s19 : Int × (List Chord) × Int) => ⟨[(4, .s (.c (.tl 2 (List.map Shortcut.cs s3)))), (6, .s (.c (.d (.v (.int .i64 s12))))), (7, .s (.c (.loc 3 0))), (8, .s (.c (.d (.v (.int .i64 s19.1)))))], [(2, .tail 3), (3, .blk [.d (.sl (List.map Chord.cs s19.2.1)), .d (.v (.int .i64 s19.2.2))] 42)], 0⟩) hr (Conv.trans (Conv.norm 3 [.d (.v (.slice none 0 0)), .d (.v (.int .i64 0))] [.d (.sl (List.map Chord.cs ([] : (List Chord)))), .d (.v (.int .i64 0))] 42 0 rfl rfl) (Conv.mk (tau []) ⟨⟨_, rfl, .inl rfl⟩, ⟨_, rfl, .inl rfl⟩, ⟨_, rfl, .inl rfl⟩, ⟨_, rfl, .inl rfl⟩, trivial⟩ ⟨rfl, rfl, trivial⟩ rfl rfl rfl rfl)) ?_
              clear hr
              intro again20 s19 hr
              unfold l32_ShortcutFires_L1 at hr
              refine Ok.seq ?_
              refine Ok.seq ?_
              refine Ok.region ?_
              refine OkOps.q (triQ (x := .c (.d (.v (.int .i64 s19.1)))) rfl trivial rfl) ?_
              refine OkOps.q (triQ (x := .c (.tl 2 (List.map Shortcut.cs s3))) rfl trivial rfl) ?_
              refine OkOps.q (triQ (x := .c (.d (.v (.int .i64 s12)))) rfl trivial rfl) ?_
              obtain ⟨x21, hx21, hr⟩ := bind_some hr
              refine OkOps.q (triIdx (enc := Shortcut.cs) (L := s3) (row := [.v (.int .i64 x21.Node), .v (.int .i64 x21.Scope), .sl (List.map Chord.cs x21.Keys)]) hx21 rfl rfl rfl rfl (fun _ => rfl) trivial rfl) ?_
              refine OkOps.q (triQ (x := .c (.pt [.sl (List.map Chord.cs x21.Keys)])) rfl trivial rfl) ?_
              refine OkOps.q (triQ (x := .c (.d (.sl (List.map Chord.cs x21.Keys)))) rfl trivial rfl) ?_
              refine OkOps.q (triLen (enc := Chord.cs) x21.Keys rfl rfl trivial rfl) ?_
              refine OkOps.q (triQ (x := .c (.d (.v (.bool (decide (s19.1 < (x21.Keys.length : Int))))))) rfl trivial rfl) ?_
              refine OkOps.nil ?_
              refine Ok.cond (b := decide (s19.1 < (x21.Keys.length : Int))) rfl (fun h22 => ?_) (fun h22 => ?_)
              · have hr := selT h22 hr
                refine Ok.skip ?_
                refine Ok.seq ?_
                refine Ok.block ?_
                refine Ok.seq ?_
                refine Ok.region ?_
                refine OkOps.q (triQ (x := .c (.d (.v (.int .i64 0)))) rfl trivial rfl) ?_
                refine OkOps.q (triQ (x := .c (.d (.v (.int .i64 0)))) rfl trivial rfl) ?_
                refine OkOps.nil ?_
                refine Ok.seq ?_
                refine Ok.regionD (by kernel_rfl) ?_
                refine OkD.q (triQ (x := .agg [.d (.sl (List.map Chord.cs s19.2.1)), .d (.v (.int .i64 s19.2.2))]) rfl trivial rfl) ?_
                refine OkD.q (triQ (x := .c (.tl 2 (List.map Shortcut.cs s3))) rfl trivial rfl) ?_
                refine OkD.m 0 (triBST (sz := 1) (enc := (eInt .i64)) (j := 4) ([1]) rfl rfl rfl rfl rfl rfl rfl rfl (fun _ => rfl) trivial rfl rfl) ?_
                refine OkD.q (triQ (x := .c (.tl 2 (List.map Shortcut.cs s3))) rfl trivial rfl) ?_
                refine OkD.q (triQ (x := .c (.d (.v (.int .i64 s12)))) rfl trivial rfl) ?_
                obtain ⟨x23, hx23, hr⟩ := bind_some hr
                refine OkD.q (triIdx (enc := Shortcut.cs) (L := s3) (row := [.v (.int .i64 x23.Node), .v (.int .i64 x23.Scope), .sl (List.map Chord.cs x23.Keys)]) hx23 rfl rfl rfl rfl (fun _ => rfl) trivial rfl) ?_
                refine OkD.q (triQ (x := .c (.pt [.sl (List.map Chord.cs x23.Keys)])) rfl trivial rfl) ?_
                refine OkD.q (triQ (x := .c (.d (.sl (List.map Chord.cs x23.Keys)))) rfl trivial rfl) ?_
                refine OkD.q (triQ (x := .c (.d (.v (.int .i64 s19.1)))) rfl trivial rfl) ?_
                obtain ⟨x24, hx24, hr⟩ := bind_some hr
                refine OkD.q (triIdx (enc := Chord.cs) (L := x23.Keys) (row := [.v (.int .i64 x24.Key), .v (.int .i64 x24.Mods)]) hx24 rfl rfl rfl rfl (fun _ => rfl) trivial rfl) ?_
                refine OkD.q (triQ (x := .agg [.d (.v (.int .i64 x24.Key)), .d (.v (.int .i64 x24.Mods))]) rfl trivial rfl) ?_
                refine OkD.q (triQ (x := .c (.d (.v (.int .i64 s19.1)))) rfl trivial rfl) ?_
                refine OkD.q (triQ (x := .c (.d (.v (.int .i64 (IntKind.i64.wrap (s19.1 * 1500)))))) rfl trivial rfl) ?_
                obtain ⟨x25, hx25, hr⟩ := bind_some hr
                refine OkD.q (triCall (tau []) (.tup [.agg [.d (.sl (List.map Chord.cs x25.1.Keys)), .d (.v (.int .i64 x25.1.Time))], .c (.d (.v (.int .i64 x25.2.1))), .c (.d (.v (.int .i64 x25.2.2)))]) [] (sc_Feed_c _ _ _ _ _ hx25) rfl ⟨.inl rfl, .inr rfl, .inr rfl, .inl rfl, .inl rfl, trivial⟩ trivial entry24 trivial rfl rfl rfl rfl trivial rfl rfl rfl) ?_
                refine OkD.q (triMv (v := .tup [.agg [.d (.sl (List.map Chord.cs x25.1.Keys)), .d (.v (.int .i64 x25.1.Time))], .c (.d (.v (.int .i64 x25.2.1))), .c (.d (.v (.int .i64 x25.2.2)))]) rfl rfl) ?_
                refine OkD.q (triQ (x := .agg [.d (.sl (List.map Chord.cs x25.1.Keys)), .d (.v (.int .i64 x25.1.Time))]) rfl trivial rfl) ?_
                refine OkD.q (triQ (x := .c (.d (.v (.int .i64 x25.2.1)))) rfl trivial rfl) ?_
                refine OkD.q (triQ (x := .c (.d (.v (.int .i64 x25.2.2)))) rfl trivial rfl) ?_
                refine OkD.w (triStore (cs' := [.d (.sl (List.map Chord.cs x25.1.Keys)), .d (.v (.int .i64 x25.1.Time))]) rfl rfl rfl rfl rfl rfl rfl rfl rfl) ?_
                refine OkD.q (triQ (x := .c (.d (.v (.int .i64 x25.2.1)))) rfl trivial rfl) ?_
                refine OkD.q (triQ (x := .c (.d (.v (.int .i64 x25.2.2)))) rfl trivial rfl) ?_
                refine OkD.nil (by kernel_rfl) ?_
                refine Ok.seq ?_
                refine Ok.region ?_
                refine OkOps.q (triQ (x := .c (.d (.v (.int .i64 s19.1)))) rfl trivial rfl) ?_
                refine OkOps.q (triQ (x := .c (.tl 2 (List.map Shortcut.cs s3))) rfl trivial rfl) ?_
                refine OkOps.q (triQ (x := .c (.d (.v (.int .i64 s12)))) rfl trivial rfl) ?_
                obtain ⟨x26, hx26, hr⟩ := bind_some hr
                refine OkOps.q (triIdx (enc := Shortcut.cs) (L := s3) (row := [.v (.int .i64 x26.Node), .v (.int .i64 x26.Scope), .sl (List.map Chord.cs x26.Keys)]) hx26 rfl rfl rfl rfl (fun _ => rfl) trivial rfl) ?_
                refine OkOps.q (triQ (x := .c (.pt [.sl (List.map Chord.cs x26.Keys)])) rfl trivial rfl) ?_
                refine OkOps.q (triQ (x := .c (.d (.sl (List.map Chord.cs x26.Keys)))) rfl trivial rfl) ?_
                refine OkOps.q (triLen (enc := Chord.cs) x26.Keys rfl rfl trivial rfl) ?_
                refine OkOps.q (triQ (x := .c (.d (.v (.int .i64 (IntKind.i64.wrap ((x26.Keys.length : Int) - 1)))))) rfl trivial rfl) ?_
                refine OkOps.q (triQ (x := .c (.d (.v (.bool (s19.1 == (IntKind.i64.wrap ((x26.Keys.length : Int) - 1))))))) rfl trivial rfl) ?_
                refine OkOps.q (triQ (x := .c (.d (.v (.bool (s19.1 == (IntKind.i64.wrap ((x26.Keys.length : Int) - 1))))))) rfl trivial rfl) ?_
                refine OkOps.nil ?_
                refine Ok.seq ?_
                refine Ok.region ?_
                refine OkOps.q (triQ (x := .c (.d (.v (.bool (s19.1 == (IntKind.i64.wrap ((x26.Keys.length : Int) - 1))))))) rfl trivial rfl) ?_
                refine OkOps.q (triQ (x := .c (.d (.v (.bool (s19.1 == (IntKind.i64.wrap ((x26.Keys.length : Int) - 1))))))) rfl trivial rfl) ?_
                refine OkOps.q (triQG (x := .c (.d (.v (.int .i64 x25.2.1)))) rfl rfl trivial rfl) ?_
                refine OkOps.q (triQG (x := .c (.d (.v (.int .i64 s12)))) rfl rfl trivial rfl) ?_
                refine OkOps.q (triQG (x := .c (.d (.v (.int .i64 (IntKind.i64.wrap (s12 + 1)))))) rfl rfl ⟨fun h => h, trivial⟩ rfl) ?_
                refine OkOps.q (triQG (x := .c (.d (.v (.bool (x25.2.1 != (IntKind.i64.wrap (s12 + 1))))))) rfl rfl ⟨fun h => h, ⟨fun h => h, trivial⟩⟩ rfl) ?_
                refine OkOps.q (triQG (x := .c (.d (.v (.bool (x25.2.1 != (IntKind.i64.wrap (s12 + 1))))))) rfl rfl ⟨fun h => h, trivial⟩ rfl) ?_
                refine OkOps.q (triQG (x := .c (.d (.v (.int .i64 x25.2.2)))) rfl rfl trivial rfl) ?_
                refine OkOps.q (triQG (x := .c (.d (.v (.bool (x25.2.2 != 2))))) rfl rfl ⟨fun h => h, trivial⟩ rfl) ?_
                refine OkOps.q (triOrG rfl rfl rfl (fun h => h) (fun h h2 => by rw [h, h2]; rfl) rfl) ?_
                refine OkOps.q (triQG (x := .c (.d (.v (.bool ((x25.2.1 != (IntKind.i64.wrap (s12 + 1))) || (x25.2.2 != 2)))))) rfl rfl ⟨fun h => h, trivial⟩ rfl) ?_
                refine OkOps.q (triQG (x := .c (.loc 3 0)) rfl rfl trivial rfl) ?_
                refine OkOps.q (triQG (x := .c (.d (.sl (List.map Chord.cs x25.1.Keys)))) rfl rfl ⟨fun h => h, trivial⟩ rfl) ?_
                refine OkOps.q (triLenG (enc := Chord.cs) x25.1.Keys rfl rfl rfl ⟨fun h => h, trivial⟩ rfl) ?_
                refine OkOps.q (triQG (x := .c (.d (.v (.bool (decide ((x25.1.Keys.length : Int) > 0)))))) rfl rfl ⟨fun h => h, trivial⟩ rfl) ?_
                refine OkOps.q (triOrG rfl rfl rfl (fun h => h) (fun h h2 => by rw [h, h2]; rfl) rfl) ?_
                refine OkOps.q (triAnd rfl rfl (fun h => h) rfl) ?_
                refine OkOps.q (triQ (x := .c (.d (.v (.bool ((s19.1 == (IntKind.i64.wrap ((x26.Keys.length : Int) - 1))) && (((x25.2.1 != (IntKind.i64.wrap (s12 + 1))) || (x25.2.2 != 2)) || (decide ((x25.1.Keys.length : Int) > 0)))))))) rfl trivial rfl) ?_
                refine OkOps.q (triQG (x := .c (.d (.v (.bool (s19.1 == (IntKind.i64.wrap ((x26.Keys.length : Int) - 1))))))) rfl rfl trivial rfl) ?_
                refine OkOps.q (triQG (x := .c (.d (.v (.bool (!(s19.1 == (IntKind.i64.wrap ((x26.Keys.length : Int) - 1)))))))) rfl rfl ⟨fun h => h, trivial⟩ rfl) ?_
                refine OkOps.q (triQG (x := .c (.d (.v (.bool (!(s19.1 == (IntKind.i64.wrap ((x26.Keys.length : Int) - 1)))))))) rfl rfl ⟨fun h => h, trivial⟩ rfl) ?_
                refine OkOps.q (triQG (x := .c (.d (.v (.int .i64 x25.2.1)))) rfl rfl trivial rfl) ?_
                refine OkOps.q (triQG (x := .c (.d (.v (.bool (x25.2.1 != 0))))) rfl rfl ⟨fun h => h, trivial⟩ rfl) ?_
                refine OkOps.q (triQG (x := .c (.d (.v (.bool (x25.2.1 != 0))))) rfl rfl ⟨fun h => h, trivial⟩ rfl) ?_
                refine OkOps.q (triQG (x := .c (.d (.v (.int .i64 x25.2.2)))) rfl rfl trivial rfl) ?_
                refine OkOps.q (triQG (x := .c (.d (.v (.bool (x25.2.2 != 1))))) rfl rfl ⟨fun h => h, trivial⟩ rfl) ?_
                refine OkOps.q (triOrG rfl rfl rfl (fun h => h) (fun h h2 => by rw [h, h2]; rfl) rfl) ?_
                refine OkOps.q (triQG (x := .c (.d (.v (.bool ((x25.2.1 != 0) || (x25.2.2 != 1)))))) rfl rfl ⟨fun h => h, trivial⟩ rfl) ?_
                refine OkOps.q (triQG (x := .c (.loc 3 0)) rfl rfl trivial rfl) ?_
                refine OkOps.q (triQG (x := .c (.d (.sl (List.map Chord.cs x25.1.Keys)))) rfl rfl ⟨fun h => h, trivial⟩ rfl) ?_
                refine OkOps.q (triLenG (enc := Chord.cs) x25.1.Keys rfl rfl rfl ⟨fun h => h, trivial⟩ rfl) ?_
                refine OkOps.q (triQG (x := .c (.d (.v (.int .i64 s19.1)))) rfl rfl trivial rfl) ?_
                refine OkOps.q (triQG (x := .c (.d (.v (.int .i64 (IntKind.i64.wrap (s19.1 + 1)))))) rfl rfl ⟨fun h => h, trivial⟩ rfl) ?_
                refine OkOps.q (triQG (x := .c (.d (.v (.bool ((x25.1.Keys.length : Int) != (IntKind.i64.wrap (s19.1 + 1))))))) rfl rfl ⟨fun h => h, ⟨fun h => h, trivial⟩⟩ rfl) ?_
                refine OkOps.q (triOrG rfl rfl rfl (fun h => h) (fun h h2 => by rw [h, h2]; rfl) rfl) ?_
                refine OkOps.q (triAndG rfl rfl rfl (fun h => h) (fun h h2 => by rw [h, h2]; rfl) rfl) ?_
                refine OkOps.q (triOr rfl rfl (fun h => by rw [h]; rfl) rfl) ?_
                refine OkOps.nil ?_
                refine Ok.cond (b := ((s19.1 == (IntKind.i64.wrap ((x26.Keys.length : Int) - 1))) && (((x25.2.1 != (IntKind.i64.wrap (s12 + 1))) || (x25.2.2 != 2)) || (decide ((x25.1.Keys.length : Int) > 0)))) || ((!(s19.1 == (IntKind.i64.wrap ((x26.Keys.length : Int) - 1)))) && (((x25.2.1 != 0) || (x25.2.2 != 1)) || ((x25.1.Keys.length : Int) != (IntKind.i64.wrap (s19.1 + 1)))))) rfl (fun h27 => ?_) (fun h27 => ?_)
                · have hr := selT h27 hr
                  refine Ok.seq ?_
                  refine Ok.region ?_
                  refine OkOps.q (triQ (x := .c (.d (.v (.bool false)))) rfl trivial rfl) ?_
                  refine OkOps.nil ?_
                  refine Ok.ret ?_
                  obtain rfl := Option.some.inj hr
                  exact ⟨_, rfl, .inl rfl, trivial⟩
                · have hr := selF h27 hr
                  refine Ok.skip ?_
                  refine Ok.region ?_
                  refine OkOps.q (triQ (x := .c (.d (.v (.int .i64 s19.1)))) rfl trivial rfl) ?_
                  refine OkOps.q (triQ (x := .c (.d (.v (.int .i64 (IntKind.i64.wrap (s19.1 + 1)))))) rfl trivial rfl) ?_
                  refine OkOps.q (triQ (x := .c (.d (.v (.int .i64 (IntKind.i64.wrap (s19.1 + 1)))))) rfl trivial rfl) ?_
                  refine OkOps.nil ?_
                  exact ⟨(IntKind.i64.wrap (s19.1 + 1), x25.1.Keys, x25.1.Time), hr, (Conv.mk (tau []) ⟨⟨_, rfl, .inl rfl⟩, ⟨_, rfl, .inl rfl⟩, ⟨_, rfl, .inl rfl⟩, ⟨_, rfl, .inl rfl⟩, trivial⟩ ⟨rfl, rfl, trivial⟩ rfl rfl rfl rfl)⟩
              · have hr := selF h22 hr
                refine Ok.exit ?_
                exact ⟨(), hr, (Conv.mk (tau []) ⟨⟨_, rfl, .inl rfl⟩, ⟨_, rfl, .inl rfl⟩, trivial⟩ ⟨rfl, trivial⟩ rfl rfl rfl rfl)⟩
        · have hr := selF h14 hr
          refine Ok.exit ?_
          exact ⟨(), hr, (Conv.mk (tau []) trivial trivial rfl rfl rfl rfl)⟩
  · clear hk4
    refine Ok.seq ?_
    refine Ok.region ?_
    refine OkOps.q (triQ (x := .c (.d (.v (.int .i64 0)))) rfl trivial rfl) ?_
    refine OkOps.nil ?_
    refine Ok.block ?_
    refine Ok.loopK (fun (s28 : Int × (List Shortcut)) => ⟨[(4, .s (.c (.own 1))), (5, .s (.c (.d (.v (.int .i64 s28.1)))))], [(1, .vec 3 (List.map Shortcut.cs s28.2))], 0⟩) hr (Conv.mk (tau []) ⟨⟨_, rfl, .inl rfl⟩, ⟨_, rfl, .inl rfl⟩, trivial⟩ ⟨rfl, trivial⟩ rfl rfl rfl rfl) ?_
    clear hr
    intro again29 s28 hr
    unfold l32_ShortcutFires_L3 at hr
    refine Ok.seq ?_
    refine Ok.seq ?_
    refine Ok.region ?_
    refine OkOps.q (triQ (x := .c (.d (.v (.int .i64 s28.1)))) rfl trivial rfl) ?_
    refine OkOps.q (triQ (x := .c (.own 1)) rfl trivial rfl) ?_
    refine OkOps.q (triLenV (enc := Shortcut.cs) s28.2 rfl rfl rfl rfl) ?_
    refine OkOps.q (triQ (x := .c (.d (.v (.bool (decide (s28.1 < (s28.2.length : Int))))))) rfl trivial rfl) ?_
    refine OkOps.nil ?_
    refine Ok.cond (b := decide (s28.1 < (s28.2.length : Int))) rfl (fun h30 => ?_) (fun h30 => ?_)
    · have hr := selT h30 hr
      refine Ok.skip ?_
      refine Ok.seq ?_
      refine Ok.block ?_
      refine Ok.region ?_
      refine OkOps.q (triQ (x := .c (.own 1)) rfl trivial rfl) ?_
      refine OkOps.q (triQ (x := .c (.d (.v (.int .i64 s28.1)))) rfl trivial rfl) ?_
      refine OkOps.q (triQ (x := .c (.own 1)) rfl trivial rfl) ?_
      refine OkOps.q (triQ (x := .c (.d (.v (.int .i64 s28.1)))) rfl trivial rfl) ?_
      refine OkOps.q (triQ (x := .c (.d (.v (.int .i64 s28.1)))) rfl trivial rfl) ?_
      refine OkOps.q (triQ (x := .c (.d (.v (.int .i64 (IntKind.i64.wrap (s28.1 + 1)))))) rfl trivial rfl) ?_
      obtain ⟨x31, hx31, hr⟩ := bind_some hr
      refine OkOps.q (triIdxV (enc := Shortcut.cs) (L := s28.2) hx31 rfl rfl rfl rfl trivial rfl) ?_
      refine OkOps.q (triFldV (o := 1) (enc := Shortcut.cs) (L := s28.2) rfl rfl rfl (by have := (ixO_spec hx31).2; omega) rfl) ?_
      obtain ⟨x32, hx32, hr⟩ := bind_some hr
      refine OkOps.w (triStoreVF (n := 1) (enc := Shortcut.cs) (L := s28.2) (z := (Shortcut.mk x32.Node 1 x32.Keys)) hx32 rfl rfl rfl rfl rfl rfl rfl rfl (by decide) (fun _ => rfl) rfl) ?_
      obtain ⟨x33, hx33, hr⟩ := bind_some hr
      refine OkOps.q (triIdxV (enc := Shortcut.cs) (L := List.set s28.2 x31 (Shortcut.mk x32.Node 1 x32.Keys)) hx33 rfl rfl rfl rfl trivial rfl) ?_
      refine OkOps.q (triFldV (o := 0) (enc := Shortcut.cs) (L := List.set s28.2 x31 (Shortcut.mk x32.Node 1 x32.Keys)) rfl rfl rfl (by have := (ixO_spec hx33).2; omega) rfl) ?_
      obtain ⟨x34, hx34, hr⟩ := bind_some hr
      refine OkOps.w (triStoreVF (n := 1) (enc := Shortcut.cs) (L := List.set s28.2 x31 (Shortcut.mk x32.Node 1 x32.Keys)) (z := (Shortcut.mk (IntKind.i64.wrap (s28.1 + 1)) x34.Scope x34.Keys)) hx34 rfl rfl rfl rfl rfl rfl rfl rfl (by decide) (fun _ => rfl) rfl) ?_
      refine OkOps.nil ?_
      refine Ok.region ?_
      refine OkOps.q (triQ (x := .c (.d (.v (.int .i64 s28.1)))) rfl trivial rfl) ?_
      refine OkOps.q (triQ (x := .c (.d (.v (.int .i64 (IntKind.i64.wrap (s28.1 + 1)))))) rfl trivial rfl) ?_
      refine OkOps.q (triQ (x := .c (.d (.v (.int .i64 (IntKind.i64.wrap (s28.1 + 1)))))) rfl trivial rfl) ?_
      refine OkOps.nil ?_
      exact ⟨(IntKind.i64.wrap (s28.1 + 1), List.set (List.set s28.2 x31 (Shortcut.mk x32.Node 1 x32.Keys)) x33 (Shortcut.mk (IntKind.i64.wrap (s28.1 + 1)) x34.Scope x34.Keys)), hr, (Conv.mk (tau []) ⟨⟨_, rfl, .inl rfl⟩, ⟨_, rfl, .inl rfl⟩, trivial⟩ ⟨rfl, trivial⟩ rfl rfl rfl rfl)⟩
    · have hr := selF h30 hr
      refine Ok.exit ?_
      exact ⟨s28.2, hr, (Conv.mk (tau []) ⟨⟨_, rfl, .inl rfl⟩, trivial⟩ ⟨rfl, trivial⟩ rfl rfl rfl rfl)⟩
theorem entry7 : Entry Tryd.prog 7 := ⟨_, Tryd.func7, by kernel_rfl, by kernel_rfl⟩
theorem l32_ShortcutSession_c (a0 : (List Int)) {r : Bool} (hr : l32_ShortcutSession a0 = some r) : Con Tryd.prog 5 [.c (.d (.sl (List.map (eInt .i64) a0)))] [] (.s (.c (.d (.v (.bool r))))) [] := by
  unfold l32_ShortcutSession at hr
  refine Con.of_ok 114 0 [.tmp 2] [(0, .s (.c (.d (.sl (List.map (eInt .i64) a0)))))] Tryd.func5 rfl rfl rfl rfl rfl rfl rfl rfl fun w g M ρ => ?_
  refine Ok.seq ?_
  refine Ok.region ?_
  refine OkOps.q (triQ (x := .c (.d (.v (.bool false)))) rfl trivial rfl) ?_
  refine OkOps.nil ?_
  refine Ok.seq ?_
  refine Ok.region ?_
  refine OkOps.q (triQ (x := .c (.d (.sl (List.map (eInt .i64) a0)))) rfl trivial rfl) ?_
  obtain ⟨x1, hx1, hr⟩ := bind_some hr
  refine OkOps.m 0 (triCall (tau [(0, 0)]) (.s (.c (.loc 0 0))) [(0, .blk [.d (.sl (List.map (eInt .i64) x1.L)), .d (.v (.int .i64 x1.At))] 96)] (b_New_c _ hx1) rfl ⟨.inl rfl, trivial⟩ trivial entry14 trivial rfl rfl rfl rfl ⟨rfl, trivial⟩ rfl rfl rfl) ?_
  refine OkOps.q (triQ (x := .c (.loc 0 0)) rfl trivial rfl) ?_
  refine OkOps.nil ?_
  refine Ok.seq ?_
  refine Ok.region ?_
  refine OkOps.q (triQ (x := .c (.loc 0 0)) rfl trivial rfl) ?_
  obtain ⟨x2, hx2, hr⟩ := bind_some hr
  refine OkOps.m2 0 (triCall (tau [(0, 0), (2000, 1)]) (.s (.c (.own 1))) [(0, .blk [.d (.sl (List.map (eInt .i64) x2.2.L)), .d (.v (.int .i64 x2.2.At))] 96), (1, .vec 3 (List.map Shortcut.cs x2.1))] (l32_table_c _ hx2) rfl ⟨.inl rfl, trivial⟩ trivial entry21 ⟨rfl, trivial⟩ rfl rfl rfl rfl ⟨rfl, trivial⟩ rfl rfl rfl) ?_
  refine OkOps.q (triQ (x := .c (.own 1)) rfl trivial rfl) ?_
  refine OkOps.conv (Conv.freeze (enc := Shortcut.cs) (L := x2.1) [4, 19] 1 2 3 0 ⟨rfl, rfl, trivial⟩ rfl (fun _ => rfl) rfl) ?_
  refine OkOps.nil ?_
  refine Ok.seq ?_
  refine Ok.region ?_
  refine OkOps.m 0 (triBST (sz := 1) (enc := (eInt .i64)) (j := 3) ([1]) rfl rfl rfl rfl rfl rfl rfl rfl (fun _ => rfl) trivial rfl rfl) ?_
  refine OkOps.m 0 (triBST (sz := 1) (enc := (eInt .i64)) (j := 4) ([2, 1]) rfl rfl rfl rfl rfl rfl rfl rfl (fun _ => rfl) trivial rfl rfl) ?_
  refine OkOps.m 0 (triBST (sz := 1) (enc := (eInt .i64)) (j := 5) ([3, 1]) rfl rfl rfl rfl rfl rfl rfl rfl (fun _ => rfl) trivial rfl rfl) ?_
  refine OkOps.m 0 (triBST (sz := 1) (enc := (eInt .i64)) (j := 6) ([3, 2, 1]) rfl rfl rfl rfl rfl rfl rfl rfl (fun _ => rfl) trivial rfl rfl) ?_
  refine OkOps.m 0 (triBST (sz := 1) (enc := (eInt .i64)) (j := 7) ([] : List Int) rfl rfl rfl rfl rfl rfl rfl rfl (fun _ => rfl) trivial rfl rfl) ?_
  refine OkOps.m 0 (triBST (sz := 1) (enc := (eSl (eInt .i64))) (j := 8) ([[1], [2, 1], [3, 1], [3, 2, 1], ([] : List Int)]) rfl rfl rfl rfl rfl rfl rfl rfl (fun _ => rfl) trivial rfl rfl) ?_
  refine OkOps.q (triQ (x := .c (.loc 0 0)) rfl trivial rfl) ?_
  obtain ⟨x3, hx3, hr⟩ := bind_some hr
  refine OkOps.m 0 (triCall (tau [(0, 0)]) (.s (.c (.d (.v (.int .i64 x3.1))))) [(0, .blk [.d (.sl (List.map (eInt .i64) x3.2.L)), .d (.v (.int .i64 x3.2.At))] 96)] (b_Src_N_c _ _ hx3) rfl ⟨.inl rfl, .inl rfl, trivial⟩ trivial entry15 ⟨rfl, trivial⟩ rfl rfl rfl rfl trivial rfl rfl rfl) ?_
  obtain ⟨x4, hx4, hr⟩ := bind_some hr
  refine OkOps.q (triIdx (enc := (eSl (eInt .i64))) (L := [[1], [2, 1], [3, 1], [3, 2, 1], ([] : List Int)]) (row := [.sl (List.map (eInt .i64) x4)]) hx4 rfl rfl rfl rfl (fun _ => rfl) trivial rfl) ?_
  refine OkOps.q (triQ (x := .c (.d (.sl (List.map (eInt .i64) x4)))) rfl trivial rfl) ?_
  refine OkOps.q (triQ (x := .c (.d (.sl (List.map (eInt .i64) x4)))) rfl trivial rfl) ?_
  refine OkOps.nil ?_
  refine Ok.seq ?_
  refine Ok.region ?_
  refine OkOps.m 0 (triAlloc (j := 9) (cs := [.d (.v (.slice none 0 0)), .d (.v (.int .i64 0))]) rfl rfl rfl rfl) ?_
  refine OkOps.m 0 (triAlloc (j := 10) (cs := [.d (.v (.slice none 0 0)), .d (.v (.int .i64 0))]) rfl rfl rfl rfl) ?_
  refine OkOps.nil ?_
  refine Ok.seq ?_
  refine Ok.region ?_
  refine OkOps.q (triQ (x := .c (.d (.v (.int .i64 0)))) rfl trivial rfl) ?_
  refine OkOps.nil ?_
  obtain ⟨k6, hk6, hr⟩ := jn_some hr
  refine Ok.join (fun (s5 : Unit) => ⟨[], [], 0⟩) k6 r (fun s5 hr => ?_) ?_
  · rw [hk6] at hr
    refine Ok.seq ?_
    refine Ok.region ?_
    obtain ⟨x7, hx7, hr⟩ := bind_some hr
    refine OkOps.q (triCall (tau []) (.s (.c (.d (.v (.bool x7))))) [] (l32_awake_c  hx7) rfl trivial trivial entry19 trivial rfl rfl rfl rfl trivial rfl rfl rfl) ?_
    refine OkOps.q (triQ (x := .c (.d (.v (.bool x7)))) rfl trivial rfl) ?_
    refine OkOps.nil ?_
    refine Ok.ret ?_
    obtain rfl := Option.some.inj hr
    exact ⟨_, rfl, .inl rfl, trivial⟩
  · clear hk6
    refine Ok.seq ?_
    refine Ok.region ?_
    refine OkOps.q (triQ (x := .c (.d (.v (.int .i64 0)))) rfl trivial rfl) ?_
    refine OkOps.nil ?_
    refine Ok.block ?_
    refine Ok.loopK (fun (s8 : Int × Int × (List Int) × Int × (List Chord) × Int × (List Chord) × Int) => ⟨[(3, .s (.c (.loc 0 0))), (4, .s (.c (.tl 2 (List.map Shortcut.cs x2.1)))), (5, .s (.c (.d (.sl (List.map (eInt .i64) x4))))), (6, .s (.c (.loc 9 0))), (7, .s (.c (.loc 10 0))), (8, .s (.c (.d (.v (.int .i64 s8.1))))), (9, .s (.c (.d (.v (.int .i64 s8.2.1)))))], [(0, .blk [.d (.sl (List.map (eInt .i64) s8.2.2.1)), .d (.v (.int .i64 s8.2.2.2.1))] 96), (2, .tail 3), (9, .blk [.d (.sl (List.map Chord.cs s8.2.2.2.2.1)), .d (.v (.int .i64 s8.2.2.2.2.2.1))] 42), (10, .blk [.d (.sl (List.map Chord.cs s8.2.2.2.2.2.2.1)), .d (.v (.int .i64 s8.2.2.2.2.2.2.2))] 42)], 0⟩) hr (Conv.trans (Conv.norm 9 [.d (.v (.slice none 0 0)), .d (.v (.int .i64 0))] [.d (.sl (List.map Chord.cs ([] : (List Chord)))), .d (.v (.int .i64 0))] 42 0 rfl rfl) (Conv.trans (Conv.norm 10 [.d (.v (.slice none 0 0)), .d (.v (.int .i64 0))] [.d (.sl (List.map Chord.cs ([] : (List Chord)))), .d (.v (.int .i64 0))] 42 0 rfl rfl) (Conv.mk (tau []) ⟨⟨_, rfl, .inl rfl⟩, ⟨_, rfl, .inl rfl⟩, ⟨_, rfl, .inl rfl⟩, ⟨_, rfl, .inl rfl⟩, ⟨_, rfl, .inl rfl⟩, ⟨_, rfl, .inl rfl⟩, ⟨_, rfl, .inl rfl⟩, trivial⟩ ⟨rfl, rfl, rfl, rfl, trivial⟩ rfl rfl rfl rfl))) ?_
    clear hr
    intro again9 s8 hr
    unfold l32_ShortcutSession_L1 at hr
    refine Ok.seq ?_
    refine Ok.seq ?_
    refine Ok.region ?_
    refine OkOps.q (triQ (x := .c (.d (.v (.int .i64 s8.2.1)))) rfl trivial rfl) ?_
    refine OkOps.q (triQ (x := .c (.d (.v (.bool (decide (s8.2.1 < 20)))))) rfl trivial rfl) ?_
    refine OkOps.q (triQ (x := .c (.d (.v (.bool (decide (s8.2.1 < 20)))))) rfl trivial rfl) ?_
    refine OkOps.q (triQG (x := .c (.d (.v (.int .i64 s8.2.1)))) rfl rfl trivial rfl) ?_
    refine OkOps.q (triQG (x := .c (.d (.v (.bool (decide (s8.2.1 < 4)))))) rfl rfl ⟨fun h => h, trivial⟩ rfl) ?_
    refine OkOps.q (triQG (x := .c (.d (.v (.bool (decide (s8.2.1 < 4)))))) rfl rfl ⟨fun h => h, trivial⟩ rfl) ?_
    refine OkOps.q (triQG (x := .c (.loc 0 0)) rfl rfl trivial rfl) ?_
    obtain ⟨x10, hx10, hr⟩ := bind_some hr
    refine OkOps.m 0 (triCallGW (tau [(0, 0)]) (.c (.d (.v (.bool x10.1)))) [(0, .blk [.d (.sl (List.map (eInt .i64) x10.2.L)), .d (.v (.int .i64 x10.2.At))] 96)] (fun hg => b_Src_More_c _ (selT hg hx10)) (fun hg => by cases selF hg hx10; rfl) rfl rfl ⟨.inl rfl, trivial⟩ ⟨fun h => h, trivial⟩ entry22 ⟨rfl, trivial⟩ rfl rfl rfl rfl rfl rfl rfl rfl) ?_
    refine OkOps.q (triOrG rfl rfl rfl (fun h => h) (fun h h2 => by rw [h, h2]; rfl) rfl) ?_
    refine OkOps.q (triAnd rfl rfl (fun h => h) rfl) ?_
    refine OkOps.nil ?_
    refine Ok.cond (b := (decide (s8.2.1 < 20)) && ((decide (s8.2.1 < 4)) || x10.1)) rfl (fun h11 => ?_) (fun h11 => ?_)
    · have hr := selT h11 hr
      refine Ok.skip ?_
      refine Ok.seq ?_
      refine Ok.block ?_
      refine Ok.seq ?_
      refine Ok.region ?_
      refine OkOps.q (triQ (x := .c (.d (.v (.int .i64 s8.1)))) rfl trivial rfl) ?_
      refine OkOps.m 0 (triBST (sz := 1) (enc := (eInt .i64)) (j := 11) ([0, 10, 1500, 1501, 800]) rfl rfl rfl rfl rfl rfl rfl rfl (fun _ => rfl) trivial rfl rfl) ?_
      refine OkOps.q (triQ (x := .c (.loc 0 0)) rfl trivial rfl) ?_
      obtain ⟨x12, hx12, hr⟩ := bind_some hr
      refine OkOps.m 0 (triCall (tau [(0, 0)]) (.s (.c (.d (.v (.int .i64 x12.1))))) [(0, .blk [.d (.sl (List.map (eInt .i64) x12.2.L)), .d (.v (.int .i64 x12.2.At))] 96)] (b_Src_N_c _ _ hx12) rfl ⟨.inl rfl, .inl rfl, trivial⟩ trivial entry15 ⟨rfl, trivial⟩ rfl rfl rfl rfl trivial rfl rfl rfl) ?_
      obtain ⟨x13, hx13, hr⟩ := bind_some hr
      refine OkOps.q (triIdx (enc := (eInt .i64)) (L := [0, 10, 1500, 1501, 800]) (row := [.v (.int .i64 x13)]) hx13 rfl rfl rfl rfl (fun _ => rfl) trivial rfl) ?_
      refine OkOps.q (triQ (x := .c (.d (.v (.int .i64 x13)))) rfl trivial rfl) ?_
      refine OkOps.q (triQ (x := .c (.d (.v (.int .i64 (IntKind.i64.wrap (s8.1 + x13)))))) rfl trivial rfl) ?_
      refine OkOps.q (triQ (x := .c (.d (.v (.int .i64 (IntKind.i64.wrap (s8.1 + x13)))))) rfl trivial rfl) ?_
      refine OkOps.nil ?_
      refine Ok.seq ?_
      refine Ok.region ?_
      refine OkOps.q (triQ (x := .c (.loc 0 0)) rfl trivial rfl) ?_
      obtain ⟨x14, hx14, hr⟩ := bind_some hr
      refine OkOps.m 0 (triCall (tau [(0, 0)]) (.s (.agg [.d (.v (.int .i64 x14.1.Key)), .d (.v (.int .i64 x14.1.Mods))])) [(0, .blk [.d (.sl (List.map (eInt .i64) x14.2.L)), .d (.v (.int .i64 x14.2.At))] 96)] (b_Src_Chord_c _ hx14) rfl ⟨.inl rfl, trivial⟩ trivial entry23 ⟨rfl, trivial⟩ rfl rfl rfl rfl trivial rfl rfl rfl) ?_
      refine OkOps.m 0 (triAlloc (j := 12) (cs := [.d (.v (.int .i64 0)), .d (.v (.int .i64 0))]) rfl rfl rfl rfl) ?_
      refine OkOps.w (triStore (cs' := [.d (.v (.int .i64 x14.1.Key)), .d (.v (.int .i64 x14.1.Mods))]) rfl rfl rfl rfl rfl rfl rfl rfl rfl) ?_
      refine OkOps.nil ?_
      obtain ⟨k16, hk16, hr⟩ := jn_some hr
      refine Ok.join (fun (s15 : (List Int) × Int × Int × Int) => ⟨[(3, .s (.c (.loc 0 0))), (4, .s (.c (.tl 2 (List.map Shortcut.cs x2.1)))), (5, .s (.c (.d (.sl (List.map (eInt .i64) x4))))), (6, .s (.c (.loc 9 0))), (7, .s (.c (.loc 10 0))), (8, .s (.c (.d (.v (.int .i64 (IntKind.i64.wrap (s8.1 + x13))))))), (9, .s (.c (.d (.v (.int .i64 s8.2.1))))), (10, .s (.c (.loc 12 0)))], [(0, .blk [.d (.sl (List.map (eInt .i64) s15.1)), .d (.v (.int .i64 s15.2.1))] 96), (2, .tail 3), (9, .blk [.d (.sl (List.map Chord.cs s8.2.2.2.2.1)), .d (.v (.int .i64 s8.2.2.2.2.2.1))] 42), (10, .blk [.d (.sl (List.map Chord.cs s8.2.2.2.2.2.2.1)), .d (.v (.int .i64 s8.2.2.2.2.2.2.2))] 42), (12, .blk [.d (.v (.int .i64 s15.2.2.1)), .d (.v (.int .i64 s15.2.2.2))] 44)], 0⟩) k16 r (fun s15 hr => ?_) ?_
      · rw [hk16] at hr
        refine Ok.seq ?_
        refine Ok.region ?_
        refine OkOps.q (triQ (x := .c (.d (.v (.int .i64 0)))) rfl trivial rfl) ?_
        refine OkOps.q (triQ (x := .c (.d (.v (.int .i64 0)))) rfl trivial rfl) ?_
        refine OkOps.q (triQ (x := .c (.d (.v (.int .i64 0)))) rfl trivial rfl) ?_
        refine OkOps.q (triQ (x := .c (.d (.v (.int .i64 0)))) rfl trivial rfl) ?_
        refine OkOps.nil ?_
        refine Ok.seq ?_
        refine Ok.region ?_
        refine OkOps.q (triQ (x := .agg [.d (.sl (List.map Chord.cs s8.2.2.2.2.1)), .d (.v (.int .i64 s8.2.2.2.2.2.1))]) rfl trivial rfl) ?_
        refine OkOps.q (triQ (x := .c (.tl 2 (List.map Shortcut.cs x2.1))) rfl trivial rfl) ?_
        refine OkOps.q (triQ (x := .c (.d (.sl (List.map (eInt .i64) x4)))) rfl trivial rfl) ?_
        refine OkOps.q (triQ (x := .agg [.d (.v (.int .i64 s15.2.2.1)), .d (.v (.int .i64 s15.2.2.2))]) rfl trivial rfl) ?_
        refine OkOps.q (triQ (x := .c (.d (.v (.int .i64 (IntKind.i64.wrap (s8.1 + x13)))))) rfl trivial rfl) ?_
        obtain ⟨x17, hx17, hr⟩ := bind_some hr
        refine OkOps.q (triCall (tau []) (.tup [.agg [.d (.sl (List.map Chord.cs x17.1.Keys)), .d (.v (.int .i64 x17.1.Time))], .c (.d (.v (.int .i64 x17.2.1))), .c (.d (.v (.int .i64 x17.2.2)))]) [] (sc_Feed_c _ _ _ _ _ hx17) rfl ⟨.inl rfl, .inr rfl, .inl rfl, .inl rfl, .inl rfl, trivial⟩ trivial entry24 trivial rfl rfl rfl rfl trivial rfl rfl rfl) ?_
        refine OkOps.q (triMv (v := .tup [.agg [.d (.sl (List.map Chord.cs x17.1.Keys)), .d (.v (.int .i64 x17.1.Time))], .c (.d (.v (.int .i64 x17.2.1))), .c (.d (.v (.int .i64 x17.2.2)))]) rfl rfl) ?_
        refine OkOps.q (triQ (x := .agg [.d (.sl (List.map Chord.cs x17.1.Keys)), .d (.v (.int .i64 x17.1.Time))]) rfl trivial rfl) ?_
        refine OkOps.q (triQ (x := .c (.d (.v (.int .i64 x17.2.1)))) rfl trivial rfl) ?_
        refine OkOps.q (triQ (x := .c (.d (.v (.int .i64 x17.2.2)))) rfl trivial rfl) ?_
        refine OkOps.w (triStore (cs' := [.d (.sl (List.map Chord.cs x17.1.Keys)), .d (.v (.int .i64 x17.1.Time))]) rfl rfl rfl rfl rfl rfl rfl rfl rfl) ?_
        refine OkOps.q (triQ (x := .c (.d (.v (.int .i64 x17.2.1)))) rfl trivial rfl) ?_
        refine OkOps.q (triQ (x := .c (.d (.v (.int .i64 x17.2.2)))) rfl trivial rfl) ?_
        refine OkOps.nil ?_
        refine Ok.seq ?_
        refine Ok.region ?_
        refine OkOps.q (triQ (x := .agg [.d (.sl (List.map Chord.cs s8.2.2.2.2.2.2.1)), .d (.v (.int .i64 s8.2.2.2.2.2.2.2))]) rfl trivial rfl) ?_
        refine OkOps.q (triQ (x := .c (.tl 2 (List.map Shortcut.cs x2.1))) rfl trivial rfl) ?_
        refine OkOps.q (triQ (x := .c (.d (.sl (List.map (eInt .i64) x4)))) rfl trivial rfl) ?_
        refine OkOps.q (triQ (x := .agg [.d (.v (.int .i64 s15.2.2.1)), .d (.v (.int .i64 s15.2.2.2))]) rfl trivial rfl) ?_
        refine OkOps.q (triQ (x := .c (.d (.v (.int .i64 (IntKind.i64.wrap (s8.1 + x13)))))) rfl trivial rfl) ?_
        obtain ⟨x18, hx18, hr⟩ := bind_some hr
        refine OkOps.q (triCall (tau []) (.tup [.agg [.d (.sl (List.map Chord.cs x18.1.Keys)), .d (.v (.int .i64 x18.1.Time))], .c (.d (.v (.int .i64 x18.2.1))), .c (.d (.v (.int .i64 x18.2.2)))]) [] (r32_Feed_c _ _ _ _ _ hx18) rfl ⟨.inl rfl, .inr rfl, .inl rfl, .inl rfl, .inl rfl, trivial⟩ trivial entry25 trivial rfl rfl rfl rfl trivial rfl rfl rfl) ?_
        refine OkOps.q (triMv (v := .tup [.agg [.d (.sl (List.map Chord.cs x18.1.Keys)), .d (.v (.int .i64 x18.1.Time))], .c (.d (.v (.int .i64 x18.2.1))), .c (.d (.v (.int .i64 x18.2.2)))]) rfl rfl) ?_
        refine OkOps.q (triQ (x := .agg [.d (.sl (List.map Chord.cs x18.1.Keys)), .d (.v (.int .i64 x18.1.Time))]) rfl trivial rfl) ?_
        refine OkOps.q (triQ (x := .c (.d (.v (.int .i64 x18.2.1)))) rfl trivial rfl) ?_
        refine OkOps.q (triQ (x := .c (.d (.v (.int .i64 x18.2.2)))) rfl trivial rfl) ?_
        refine OkOps.w (triStore (cs' := [.d (.sl (List.map Chord.cs x18.1.Keys)), .d (.v (.int .i64 x18.1.Time))]) rfl rfl rfl rfl rfl rfl rfl rfl rfl) ?_
        refine OkOps.q (triQ (x := .c (.d (.v (.int .i64 x18.2.1)))) rfl trivial rfl) ?_
        refine OkOps.q (triQ (x := .c (.d (.v (.int .i64 x18.2.2)))) rfl trivial rfl) ?_
        refine OkOps.nil ?_
        refine Ok.seq ?_
        refine Ok.region ?_
        refine OkOps.q (triQ (x := .c (.loc 9 0)) rfl trivial rfl) ?_
        refine OkOps.q (triQ (x := .c (.d (.sl (List.map Chord.cs x17.1.Keys)))) rfl trivial rfl) ?_
        refine OkOps.q (triQ (x := .c (.loc 10 0)) rfl trivial rfl) ?_
        refine OkOps.q (triQ (x := .c (.d (.sl (List.map Chord.cs x18.1.Keys)))) rfl trivial rfl) ?_
        obtain ⟨x19, hx19, hr⟩ := bind_some hr
        refine OkOps.q (triCall (tau []) (.s (.c (.d (.v (.bool x19))))) [] (l32_same_c _ _ hx19) rfl ⟨.inl rfl, .inl rfl, trivial⟩ trivial entry26 trivial rfl rfl rfl rfl trivial rfl rfl rfl) ?_
        refine OkOps.q (triQ (x := .c (.d (.v (.bool (!x19))))) rfl trivial rfl) ?_
        refine OkOps.q (triQ (x := .c (.d (.v (.bool (!x19))))) rfl trivial rfl) ?_
        refine OkOps.q (triQG (x := .c (.d (.v (.int .i64 x17.2.1)))) rfl rfl trivial rfl) ?_
        refine OkOps.q (triQG (x := .c (.d (.v (.int .i64 x18.2.1)))) rfl rfl trivial rfl) ?_
        refine OkOps.q (triQG (x := .c (.d (.v (.bool (x17.2.1 != x18.2.1))))) rfl rfl ⟨fun h => h, ⟨fun h => h, trivial⟩⟩ rfl) ?_
        refine OkOps.q (triOr rfl rfl (fun h => by rw [h]; rfl) rfl) ?_
        refine OkOps.q (triQ (x := .c (.d (.v (.bool ((!x19) || (x17.2.1 != x18.2.1)))))) rfl trivial rfl) ?_
        refine OkOps.q (triQG (x := .c (.d (.v (.int .i64 x17.2.2)))) rfl rfl trivial rfl) ?_
        refine OkOps.q (triQG (x := .c (.d (.v (.int .i64 x18.2.2)))) rfl rfl trivial rfl) ?_
        refine OkOps.q (triQG (x := .c (.d (.v (.bool (x17.2.2 != x18.2.2))))) rfl rfl ⟨fun h => h, ⟨fun h => h, trivial⟩⟩ rfl) ?_
        refine OkOps.q (triOr rfl rfl (fun h => by rw [h]; rfl) rfl) ?_
        refine OkOps.nil ?_
        refine Ok.cond (b := ((!x19) || (x17.2.1 != x18.2.1)) || (x17.2.2 != x18.2.2)) rfl (fun h20 => ?_) (fun h20 => ?_)
        · have hr := selT h20 hr
          refine Ok.seq ?_
          refine Ok.region ?_
          refine OkOps.q (triQ (x := .c (.d (.v (.bool false)))) rfl trivial rfl) ?_
          refine OkOps.nil ?_
          refine Ok.ret ?_
          obtain rfl := Option.some.inj hr
          exact ⟨_, rfl, .inl rfl, trivial⟩
        · have hr := selF h20 hr
          refine Ok.skip ?_
          refine Ok.region ?_
          refine OkOps.q (triQ (x := .c (.d (.v (.int .i64 s8.2.1)))) rfl trivial rfl) ?_
          refine OkOps.q (triQ (x := .c (.d (.v (.int .i64 (IntKind.i64.wrap (s8.2.1 + 1)))))) rfl trivial rfl) ?_
          refine OkOps.q (triQ (x := .c (.d (.v (.int .i64 (IntKind.i64.wrap (s8.2.1 + 1)))))) rfl trivial rfl) ?_
          refine OkOps.nil ?_
          exact ⟨(IntKind.i64.wrap (s8.1 + x13), IntKind.i64.wrap (s8.2.1 + 1), s15.1, s15.2.1, x17.1.Keys, x17.1.Time, x18.1.Keys, x18.1.Time), hr, (Conv.mk (tau []) ⟨⟨_, rfl, .inl rfl⟩, ⟨_, rfl, .inl rfl⟩, ⟨_, rfl, .inl rfl⟩, ⟨_, rfl, .inl rfl⟩, ⟨_, rfl, .inl rfl⟩, ⟨_, rfl, .inl rfl⟩, ⟨_, rfl, .inl rfl⟩, trivial⟩ ⟨rfl, rfl, rfl, rfl, trivial⟩ rfl rfl rfl rfl)⟩
      · clear hk16
        refine Ok.seq ?_
        refine Ok.region ?_
        refine OkOps.q (triQ (x := .c (.tl 2 (List.map Shortcut.cs x2.1))) rfl trivial rfl) ?_
        refine OkOps.q (triLen (enc := Shortcut.cs) x2.1 rfl rfl trivial rfl) ?_
        refine OkOps.q (triQ (x := .c (.d (.v (.bool (decide ((x2.1.length : Int) > 0)))))) rfl trivial rfl) ?_
        refine OkOps.q (triQ (x := .c (.d (.v (.bool (decide ((x2.1.length : Int) > 0)))))) rfl trivial rfl) ?_
        refine OkOps.q (triQG (x := .c (.loc 0 0)) rfl rfl trivial rfl) ?_
        obtain ⟨x21, hx21, hr⟩ := bind_some hr
        refine OkOps.m 0 (triCallGW (tau [(0, 0)]) (.c (.d (.v (.int .i64 x21.1)))) [(0, .blk [.d (.sl (List.map (eInt .i64) x21.2.L)), .d (.v (.int .i64 x21.2.At))] 96)] (fun hg => b_Src_N_c _ _ (selT hg hx21)) (fun hg => by cases selF hg hx21; rfl) rfl rfl ⟨.inl rfl, .inl rfl, trivial⟩ ⟨fun h => h, trivial⟩ entry15 ⟨rfl, trivial⟩ rfl rfl rfl rfl rfl rfl rfl rfl) ?_
        refine OkOps.q (triQG (x := .c (.d (.v (.bool (decide (x21.1 > 0)))))) rfl rfl ⟨fun h => h, trivial⟩ rfl) ?_
        refine OkOps.q (triAnd rfl rfl (fun h => h) rfl) ?_
        refine OkOps.nil ?_
        refine Ok.cond (b := (decide ((x2.1.length : Int) > 0)) && (decide (x21.1 > 0))) rfl (fun h22 => ?_) (fun h22 => ?_)
        · have hr := selT h22 hr
          refine Ok.seq ?_
          refine Ok.region ?_
          refine OkOps.q (triQ (x := .c (.tl 2 (List.map Shortcut.cs x2.1))) rfl trivial rfl) ?_
          refine OkOps.q (triQ (x := .c (.loc 0 0)) rfl trivial rfl) ?_
          refine OkOps.q (triQ (x := .c (.tl 2 (List.map Shortcut.cs x2.1))) rfl trivial rfl) ?_
          refine OkOps.q (triLen (enc := Shortcut.cs) x2.1 rfl rfl trivial rfl) ?_
          obtain ⟨x23, hx23, hr⟩ := bind_some hr
          refine OkOps.m 0 (triCall (tau [(0, 0)]) (.s (.c (.d (.v (.int .i64 x23.1))))) [(0, .blk [.d (.sl (List.map (eInt .i64) x23.2.L)), .d (.v (.int .i64 x23.2.At))] 96)] (b_Src_N_c _ _ hx23) rfl ⟨.inl rfl, .inl rfl, trivial⟩ trivial entry15 ⟨rfl, trivial⟩ rfl rfl rfl rfl trivial rfl rfl rfl) ?_
          obtain ⟨x24, hx24, hr⟩ := bind_some hr
          refine OkOps.q (triIdx (enc := Shortcut.cs) (L := x2.1) (row := [.v (.int .i64 x24.Node), .v (.int .i64 x24.Scope), .sl (List.map Chord.cs x24.Keys)]) hx24 rfl rfl rfl rfl (fun _ => rfl) trivial rfl) ?_
          refine OkOps.q (triQ (x := .c (.pt [.sl (List.map Chord.cs x24.Keys)])) rfl trivial rfl) ?_
          refine OkOps.q (triQ (x := .c (.d (.sl (List.map Chord.cs x24.Keys)))) rfl trivial rfl) ?_
          refine OkOps.q (triQ (x := .c (.d (.sl (List.map Chord.cs x24.Keys)))) rfl trivial rfl) ?_
          refine OkOps.nil ?_
          refine Ok.region ?_
          refine OkOps.q (triQ (x := .c (.d (.sl (List.map Chord.cs x24.Keys)))) rfl trivial rfl) ?_
          refine OkOps.q (triQ (x := .c (.loc 10 0)) rfl trivial rfl) ?_
          refine OkOps.q (triQ (x := .c (.d (.sl (List.map Chord.cs s8.2.2.2.2.2.2.1)))) rfl trivial rfl) ?_
          refine OkOps.q (triLen (enc := Chord.cs) s8.2.2.2.2.2.2.1 rfl rfl trivial rfl) ?_
          refine OkOps.q (triQ (x := .c (.d (.sl (List.map Chord.cs x24.Keys)))) rfl trivial rfl) ?_
          refine OkOps.q (triLen (enc := Chord.cs) x24.Keys rfl rfl trivial rfl) ?_
          refine OkOps.q (triQ (x := .c (.d (.v (.int .i64 (IntKind.i64.wrap ((x24.Keys.length : Int) - 1)))))) rfl trivial rfl) ?_
          refine OkOps.q (triQ (x := .c (.d (.v (.int .i64 (mnI (s8.2.2.2.2.2.2.1.length : Int) (IntKind.i64.wrap ((x24.Keys.length : Int) - 1))))))) rfl trivial rfl) ?_
          obtain ⟨x25, hx25, hr⟩ := bind_some hr
          refine OkOps.q (triIdx (enc := Chord.cs) (L := x24.Keys) (row := [.v (.int .i64 x25.Key), .v (.int .i64 x25.Mods)]) hx25 rfl rfl rfl rfl (fun _ => rfl) trivial rfl) ?_
          refine OkOps.q (triQ (x := .agg [.d (.v (.int .i64 x25.Key)), .d (.v (.int .i64 x25.Mods))]) rfl trivial rfl) ?_
          refine OkOps.w (triStore (cs' := [.d (.v (.int .i64 x25.Key)), .d (.v (.int .i64 x25.Mods))]) rfl rfl rfl rfl rfl rfl rfl rfl rfl) ?_
          refine OkOps.nil ?_
          exact ⟨(x23.2.L, x23.2.At, x25.Key, x25.Mods), hr, (Conv.mk (tau []) ⟨⟨_, rfl, .inl rfl⟩, ⟨_, rfl, .inl rfl⟩, ⟨_, rfl, .inl rfl⟩, ⟨_, rfl, .inl rfl⟩, ⟨_, rfl, .inl rfl⟩, ⟨_, rfl, .inl rfl⟩, ⟨_, rfl, .inl rfl⟩, ⟨_, rfl, .inl rfl⟩, trivial⟩ ⟨rfl, rfl, rfl, rfl, rfl, trivial⟩ rfl rfl rfl rfl)⟩
        · have hr := selF h22 hr
          refine Ok.skip ?_
          exact ⟨(x21.2.L, x21.2.At, x14.1.Key, x14.1.Mods), hr, (Conv.mk (tau []) ⟨⟨_, rfl, .inl rfl⟩, ⟨_, rfl, .inl rfl⟩, ⟨_, rfl, .inl rfl⟩, ⟨_, rfl, .inl rfl⟩, ⟨_, rfl, .inl rfl⟩, ⟨_, rfl, .inl rfl⟩, ⟨_, rfl, .inl rfl⟩, ⟨_, rfl, .inl rfl⟩, trivial⟩ ⟨rfl, rfl, rfl, rfl, rfl, trivial⟩ rfl rfl rfl rfl)⟩
    · have hr := selF h11 hr
      refine Ok.exit ?_
      exact ⟨(), hr, (Conv.mk (tau []) trivial trivial rfl rfl rfl rfl)⟩
theorem entry5 : Entry Tryd.prog 5 := ⟨_, Tryd.func5, by kernel_rfl, by kernel_rfl⟩
end Go.Proofs.YtodddfoehcfcnaaDoor

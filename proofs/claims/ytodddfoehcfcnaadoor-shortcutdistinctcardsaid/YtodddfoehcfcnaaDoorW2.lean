import Derived.Test.YtodddfoehcfcnaaDoorA2
import Derived.Test.YtodddfoehcfcnaaDoorW1
import Derived.Test.YtodddfoehcfcnaaDoorProg
import Derived.KernelRfl
set_option maxRecDepth 100000
namespace Go.Proofs.YtodddfoehcfcnaaDoor
open Go Go.E2
theorem sc_letter_c (p_r : Int) {r : Int} (hr : sc_letter p_r = some r) : Con Tryd.prog 88 [.c (.d (.v (.int .i32 p_r)))] [] (.s (.c (.d (.v (.int .i64 r))))) [] := by
  unfold sc_letter at hr
  refine Con.of_ok 34 0 [.tmp 2] [(0, .s (.c (.d (.v (.int .i32 p_r)))))] Tryd.func88 rfl rfl rfl rfl rfl rfl rfl rfl fun w g M ρ => ?_
  refine Ok.seq ?_
  refine Ok.region ?_
  refine OkOps.q (triQ (x := .c (.d (.v (.int .i64 0)))) rfl trivial rfl) ?_
  refine OkOps.nil ?_
  refine Ok.seq ?_
  refine Ok.block ?_
  refine Ok.seq ?_
  refine Ok.region ?_
  refine OkOps.q (triQ (x := .c (.d (.v (.int .i32 p_r)))) rfl trivial rfl) ?_
  refine OkOps.q (triQ (x := .c (.d (.v (.bool (decide (p_r ≥ 97)))))) rfl trivial rfl) ?_
  refine OkOps.q (triQ (x := .c (.d (.v (.bool (decide (p_r ≥ 97)))))) rfl trivial rfl) ?_
  refine OkOps.q (triQG (x := .c (.d (.v (.int .i32 p_r)))) rfl rfl trivial rfl) ?_
  refine OkOps.q (triQG (x := .c (.d (.v (.bool (decide (p_r ≤ 122)))))) rfl rfl ⟨fun h => h, trivial⟩ rfl) ?_
  refine OkOps.q (triAnd rfl rfl (fun h => h) rfl) ?_
  refine OkOps.q (triQ (x := .c (.d (.v (.bool ((decide (p_r ≥ 97)) && (decide (p_r ≤ 122))))))) rfl trivial rfl) ?_
  refine OkOps.nil ?_
  refine Ok.cond (b := (decide (p_r ≥ 97)) && (decide (p_r ≤ 122))) rfl (fun h1 => ?_) (fun h1 => ?_)
  · have hr := selT h1 hr
    refine Ok.seq ?_
    refine Ok.region ?_
    refine OkOps.q (triQ (x := .c (.d (.v (.int .i32 p_r)))) rfl trivial rfl) ?_
    refine OkOps.q (triQ (x := .c (.d (.v (.int .i32 (IntKind.i32.wrap (p_r - 97)))))) rfl trivial rfl) ?_
    refine OkOps.q (triQ (x := .c (.d (.v (.int .i64 (IntKind.i64.wrap (IntKind.i32.wrap (p_r - 97))))))) rfl trivial rfl) ?_
    refine OkOps.q (triQ (x := .c (.d (.v (.int .i64 (IntKind.i64.wrap (IntKind.i32.wrap (p_r - 97))))))) rfl trivial rfl) ?_
    refine OkOps.nil ?_
    refine Ok.ret ?_
    obtain rfl := Option.some.inj hr
    exact ⟨_, rfl, .inl rfl, trivial⟩
  · have hr := selF h1 hr
    refine Ok.seq ?_
    refine Ok.region ?_
    refine OkOps.q (triQ (x := .c (.d (.v (.int .i32 p_r)))) rfl trivial rfl) ?_
    refine OkOps.q (triQ (x := .c (.d (.v (.bool (decide (p_r ≥ 65)))))) rfl trivial rfl) ?_
    refine OkOps.q (triQ (x := .c (.d (.v (.bool (decide (p_r ≥ 65)))))) rfl trivial rfl) ?_
    refine OkOps.q (triQG (x := .c (.d (.v (.int .i32 p_r)))) rfl rfl trivial rfl) ?_
    refine OkOps.q (triQG (x := .c (.d (.v (.bool (decide (p_r ≤ 90)))))) rfl rfl ⟨fun h => h, trivial⟩ rfl) ?_
    refine OkOps.q (triAnd rfl rfl (fun h => h) rfl) ?_
    refine OkOps.q (triQ (x := .c (.d (.v (.bool ((decide (p_r ≥ 65)) && (decide (p_r ≤ 90))))))) rfl trivial rfl) ?_
    refine OkOps.nil ?_
    refine Ok.cond (b := (decide (p_r ≥ 65)) && (decide (p_r ≤ 90))) rfl (fun h2 => ?_) (fun h2 => ?_)
    · have hr := selT h2 hr
      refine Ok.seq ?_
      refine Ok.region ?_
      refine OkOps.q (triQ (x := .c (.d (.v (.int .i32 p_r)))) rfl trivial rfl) ?_
      refine OkOps.q (triQ (x := .c (.d (.v (.int .i32 (IntKind.i32.wrap (p_r - 65)))))) rfl trivial rfl) ?_
      refine OkOps.q (triQ (x := .c (.d (.v (.int .i64 (IntKind.i64.wrap (IntKind.i32.wrap (p_r - 65))))))) rfl trivial rfl) ?_
      refine OkOps.q (triQ (x := .c (.d (.v (.int .i64 (IntKind.i64.wrap (IntKind.i32.wrap (p_r - 65))))))) rfl trivial rfl) ?_
      refine OkOps.nil ?_
      refine Ok.ret ?_
      obtain rfl := Option.some.inj hr
      exact ⟨_, rfl, .inl rfl, trivial⟩
    · have hr := selF h2 hr
      refine Ok.seq ?_
      refine Ok.region ?_
      refine OkOps.q (triQ (x := .c (.d (.v (.int .i32 p_r)))) rfl trivial rfl) ?_
      refine OkOps.q (triQ (x := .c (.d (.v (.bool (decide (p_r ≥ 48)))))) rfl trivial rfl) ?_
      refine OkOps.q (triQ (x := .c (.d (.v (.bool (decide (p_r ≥ 48)))))) rfl trivial rfl) ?_
      refine OkOps.q (triQG (x := .c (.d (.v (.int .i32 p_r)))) rfl rfl trivial rfl) ?_
      refine OkOps.q (triQG (x := .c (.d (.v (.bool (decide (p_r ≤ 57)))))) rfl rfl ⟨fun h => h, trivial⟩ rfl) ?_
      refine OkOps.q (triAnd rfl rfl (fun h => h) rfl) ?_
      refine OkOps.q (triQ (x := .c (.d (.v (.bool ((decide (p_r ≥ 48)) && (decide (p_r ≤ 57))))))) rfl trivial rfl) ?_
      refine OkOps.nil ?_
      refine Ok.cond (b := (decide (p_r ≥ 48)) && (decide (p_r ≤ 57))) rfl (fun h3 => ?_) (fun h3 => ?_)
      · have hr := selT h3 hr
        refine Ok.seq ?_
        refine Ok.region ?_
        refine OkOps.q (triQ (x := .c (.d (.v (.int .i32 p_r)))) rfl trivial rfl) ?_
        refine OkOps.q (triQ (x := .c (.d (.v (.int .i32 (IntKind.i32.wrap (p_r - 48)))))) rfl trivial rfl) ?_
        refine OkOps.q (triQ (x := .c (.d (.v (.int .i64 (IntKind.i64.wrap (IntKind.i32.wrap (p_r - 48))))))) rfl trivial rfl) ?_
        refine OkOps.q (triQ (x := .c (.d (.v (.int .i64 (IntKind.i64.wrap ((IntKind.i64.wrap (IntKind.i32.wrap (p_r - 48))) + 26)))))) rfl trivial rfl) ?_
        refine OkOps.q (triQ (x := .c (.d (.v (.int .i64 (IntKind.i64.wrap ((IntKind.i64.wrap (IntKind.i32.wrap (p_r - 48))) + 26)))))) rfl trivial rfl) ?_
        refine OkOps.nil ?_
        refine Ok.ret ?_
        obtain rfl := Option.some.inj hr
        exact ⟨_, rfl, .inl rfl, trivial⟩
      · have hr := selF h3 hr
        refine Ok.skip ?_
        refine Ok.seq ?_
        refine Ok.region ?_
        refine OkOps.q (triQ (x := .c (.d (.v (.int .i64 (-1))))) rfl trivial rfl) ?_
        refine OkOps.nil ?_
        refine Ok.ret ?_
        obtain rfl := Option.some.inj hr
        exact ⟨_, rfl, .inl rfl, trivial⟩
theorem entry88 : Entry Tryd.prog 88 := ⟨_, Tryd.func88, by kernel_rfl, by kernel_rfl⟩
theorem sc_choices_c (label : Str) {r : (List shortcut_choice)} (hr : sc_choices label = some r) : Con Tryd.prog 49 [.c (.d (.v (.string label)))] [] (.s (.c (.d (.sl (List.map shortcut_choice.cs r))))) [] := by
  unfold sc_choices at hr
  refine Con.of_ok 36 0 [.tmp 2] [(0, .s (.c (.d (.v (.string label)))))] Tryd.func49 rfl rfl rfl rfl rfl rfl rfl rfl fun w g M ρ => ?_
  refine Ok.seq ?_
  refine Ok.region ?_
  refine OkOps.q (triQ (x := .c (.d (.v (.slice none 0 0)))) rfl trivial rfl) ?_
  refine OkOps.nil ?_
  refine Ok.seq ?_
  refine Ok.region ?_
  refine OkOps.q (triQ (x := .c (.d (.v (.slice none 0 0)))) rfl trivial rfl) ?_
  refine OkOps.nil ?_
  refine Ok.seq ?_
  refine Ok.region ?_
  refine OkOps.m 0 (triAlloc (j := 0) (cs := ([] ++ (arrC 36 dBool (fun _ => false) ++ []))) rfl rfl rfl rfl) ?_
  refine OkOps.nil ?_
  obtain ⟨k2, hk2, hr⟩ := jn_some hr
  refine Ok.join (fun (s1 : (List shortcut_choice)) => ⟨[(3, .s (.c (.tl 1008 (List.map shortcut_choice.cs s1))))], [(1008, .tail 2)], 0⟩) k2 r (fun s1 hr => ?_) ?_
  · rw [hk2] at hr
    refine Ok.seq ?_
    refine Ok.region ?_
    refine OkOps.q (triQ (x := .c (.tl 1008 (List.map shortcut_choice.cs s1))) rfl trivial rfl) ?_
    refine OkOps.q (triQ (x := .c (.tl 1008 (List.map shortcut_choice.cs s1))) rfl trivial rfl) ?_
    refine OkOps.nil ?_
    refine Ok.ret ?_
    obtain rfl := Option.some.inj hr
    exact ⟨_, rfl, .inr rfl, trivial⟩
  · clear hk2
    refine Ok.seq ?_
    refine Ok.region ?_
    refine OkOps.q (triQ (x := .c (.d (.v (.string label)))) rfl trivial rfl) ?_
    refine OkOps.q (triRunes rfl rfl trivial rfl) ?_
    refine OkOps.q (triLen (enc := (eInt .i32)) (runes label) rfl rfl trivial rfl) ?_
    refine OkOps.q (triQ (x := .c (.d (.v (.int .i64 0)))) rfl trivial rfl) ?_
    refine OkOps.nil ?_
    refine Ok.block ?_
    refine Ok.loopK (fun (s3 : (List shortcut_choice) × Int × (Nat → Bool)) => ⟨[(3, .s (.c (.tl 1013 (List.map shortcut_choice.cs s3.1)))), (4, .s (.c (.loc 0 0))), (9, .s (.c (.d (.sl (List.map (eInt .i32) (runes label)))))), (10, .s (.c (.d (.v (.int .i64 ((runes label).length : Int)))))), (11, .s (.c (.d (.v (.int .i64 s3.2.1)))))], [(0, .blk ([] ++ (arrC 36 dBool s3.2.2 ++ [])) 101), (1013, .tail 2)], 0⟩) hr (Conv.trans (Conv.nil 3 1016 2 0 rfl rfl) (Conv.mk (tau [(1013, 1016)]) ⟨⟨_, rfl, .inl rfl⟩, ⟨_, rfl, .inl rfl⟩, ⟨_, rfl, .inl rfl⟩, ⟨_, rfl, .inl rfl⟩, ⟨_, rfl, .inl rfl⟩, trivial⟩ ⟨rfl, rfl, trivial⟩ rfl rfl rfl rfl)) ?_
    clear hr
    intro again4 s3 hr
    unfold sc_choices_L1 at hr
    refine Ok.seq ?_
    refine Ok.region ?_
    refine OkOps.q (triQ (x := .c (.d (.v (.bool (decide (s3.2.1 < ((runes label).length : Int))))))) rfl trivial rfl) ?_
    refine OkOps.nil ?_
    refine Ok.seq ?_
    refine Ok.cond (b := decide (s3.2.1 < ((runes label).length : Int))) rfl (fun h5 => ?_) (fun h5 => ?_)
    · have hr := selT h5 hr
      refine Ok.skip ?_
      obtain ⟨k7, hk7, hr⟩ := jn_some hr
      refine Ok.join (fun (s6 : (List shortcut_choice) × (Nat → Bool)) => ⟨[(3, .s (.c (.tl 1017 (List.map shortcut_choice.cs s6.1)))), (4, .s (.c (.loc 0 0))), (9, .s (.c (.d (.sl (List.map (eInt .i32) (runes label)))))), (10, .s (.c (.d (.v (.int .i64 ((runes label).length : Int)))))), (11, .s (.c (.d (.v (.int .i64 s3.2.1)))))], [(0, .blk ([] ++ (arrC 36 dBool s6.2 ++ [])) 101), (1017, .tail 2)], 0⟩) k7 r (fun s6 hr => ?_) ?_
      · rw [hk7] at hr
        refine Ok.region ?_
        refine OkOps.q (triQ (x := .c (.d (.v (.int .i64 (IntKind.i64.wrap (s3.2.1 + 1)))))) rfl trivial rfl) ?_
        refine OkOps.q (triQ (x := .c (.d (.v (.int .i64 (IntKind.i64.wrap (s3.2.1 + 1)))))) rfl trivial rfl) ?_
        refine OkOps.nil ?_
        exact ⟨(s6.1, IntKind.i64.wrap (s3.2.1 + 1), s6.2), hr, (Conv.mk (tau [(1013, 1017)]) ⟨⟨_, rfl, .inl rfl⟩, ⟨_, rfl, .inl rfl⟩, ⟨_, rfl, .inl rfl⟩, ⟨_, rfl, .inl rfl⟩, ⟨_, rfl, .inl rfl⟩, trivial⟩ ⟨rfl, rfl, trivial⟩ rfl rfl rfl rfl)⟩
      · clear hk7
        refine Ok.block ?_
        refine Ok.seq ?_
        refine Ok.region ?_
        refine OkOps.q (triQ (x := .c (.d (.v (.int .i64 s3.2.1)))) rfl trivial rfl) ?_
        obtain ⟨x8, hx8, hr⟩ := bind_some hr
        refine OkOps.q (triIdx (enc := (eInt .i32)) (L := runes label) (row := [.v (.int .i32 x8)]) hx8 rfl rfl rfl rfl (fun _ => rfl) trivial rfl) ?_
        refine OkOps.q (triQ (x := .c (.d (.v (.int .i32 x8)))) rfl trivial rfl) ?_
        refine OkOps.q (triQ (x := .c (.d (.v (.int .i64 s3.2.1)))) rfl trivial rfl) ?_
        refine OkOps.q (triQ (x := .c (.d (.v (.int .i32 x8)))) rfl trivial rfl) ?_
        refine OkOps.nil ?_
        refine Ok.seq ?_
        refine Ok.region ?_
        refine OkOps.q (triQ (x := .c (.d (.v (.int .i32 x8)))) rfl trivial rfl) ?_
        obtain ⟨x9, hx9, hr⟩ := bind_some hr
        refine OkOps.q (triCall (tau []) (.s (.c (.d (.v (.int .i64 x9))))) [] (sc_letter_c _ hx9) rfl ⟨.inl rfl, trivial⟩ trivial entry88 trivial rfl rfl rfl rfl trivial rfl rfl rfl) ?_
        refine OkOps.q (triQ (x := .c (.d (.v (.int .i64 x9)))) rfl trivial rfl) ?_
        refine OkOps.nil ?_
        refine Ok.seq ?_
        refine Ok.region ?_
        refine OkOps.q (triQ (x := .c (.d (.v (.int .i64 x9)))) rfl trivial rfl) ?_
        refine OkOps.q (triQ (x := .c (.d (.v (.bool (decide (x9 ≥ 0)))))) rfl trivial rfl) ?_
        refine OkOps.q (triQ (x := .c (.d (.v (.bool (decide (x9 ≥ 0)))))) rfl trivial rfl) ?_
        refine OkOps.q (triQG (x := .c (.d (.v (.int .i64 x9)))) rfl rfl trivial rfl) ?_
        obtain ⟨x10, hx10, hr⟩ := bind_some hr
        refine OkOps.q (triIdxAG (gO_t hx10) rfl rfl rfl rfl ⟨fun h => h, trivial⟩ rfl) ?_
        refine OkOps.q (triLoadAG (c := .d (.v (.bool (s3.2.2 x10)))) (fun hg => (by exact arr_get (by simp) (ixO_spec (gO_t hx10 hg)).2)) rfl rfl rfl rfl ⟨fun h => h, trivial⟩ rfl) ?_
        refine OkOps.q (triQG (x := .c (.d (.v (.bool (!(s3.2.2 x10)))))) rfl rfl ⟨fun h => h, trivial⟩ rfl) ?_
        refine OkOps.q (triAnd rfl rfl (fun h => h) rfl) ?_
        refine OkOps.nil ?_
        refine Ok.cond (b := (decide (x9 ≥ 0)) && (!(s3.2.2 x10))) rfl (fun h11 => ?_) (fun h11 => ?_)
        · have hr := selT h11 hr
          refine Ok.seq ?_
          refine Ok.region ?_
          refine OkOps.q (triQ (x := .c (.d (.v (.int .i64 x9)))) rfl trivial rfl) ?_
          obtain ⟨x12, hx12, hr⟩ := bind_some hr
          refine OkOps.q (triIdxA hx12 rfl rfl rfl trivial rfl) ?_
          refine OkOps.w (triStoreA (cs' := ([] ++ (arrC 36 dBool (upd s3.2.2 x12 true) ++ []))) (by rw [arr_set (by simp) (ixO_spec hx12).2]) (by have := (ixO_spec hx12).2; simp [arrC_len]; omega) rfl rfl rfl rfl rfl) ?_
          refine OkOps.nil ?_
          refine Ok.region ?_
          refine OkOps.q (triQ (x := .c (.tl 1013 (List.map shortcut_choice.cs s3.1))) rfl trivial rfl) ?_
          refine OkOps.q (triQ (x := .c (.d (.v (.int .i64 x9)))) rfl trivial rfl) ?_
          refine OkOps.q (triQ (x := .c (.d (.v (.int .i64 s3.2.1)))) rfl trivial rfl) ?_
          refine OkOps.q (triQ (x := .agg [.d (.v (.int .i64 x9)), .d (.v (.int .i64 s3.2.1))]) rfl trivial rfl) ?_
          refine OkOps.m 0 (triBST (sz := 2) (enc := shortcut_choice.cs) (j := 1) ([(shortcut_choice.mk x9 s3.2.1)]) rfl rfl rfl rfl rfl rfl rfl rfl (fun _ => rfl) trivial rfl rfl) ?_
          obtain ⟨x13, hx13, hr⟩ := bind_some hr
          refine OkOps.m2 0 (triApp (enc := shortcut_choice.cs) (L := s3.1) (X := [(shortcut_choice.mk x9 s3.2.1)]) (j := 1013) (j' := 2) hx13 rfl rfl rfl rfl rfl rfl (fun _ => rfl) (fun _ => rfl) (by decide) trivial rfl rfl) ?_
          refine OkOps.q (triQ (x := .c (.tl 2 (List.map shortcut_choice.cs x13))) rfl trivial rfl) ?_
          refine OkOps.nil ?_
          exact ⟨(x13, upd s3.2.2 x12 true), hr, (Conv.mk (tau [(1017, 2)]) ⟨⟨_, rfl, .inl rfl⟩, ⟨_, rfl, .inl rfl⟩, ⟨_, rfl, .inl rfl⟩, ⟨_, rfl, .inl rfl⟩, ⟨_, rfl, .inl rfl⟩, trivial⟩ ⟨rfl, rfl, trivial⟩ rfl rfl rfl rfl)⟩
        · have hr := selF h11 hr
          refine Ok.skip ?_
          exact ⟨(s3.1, s3.2.2), hr, (Conv.mk (tau [(1017, 1013)]) ⟨⟨_, rfl, .inl rfl⟩, ⟨_, rfl, .inl rfl⟩, ⟨_, rfl, .inl rfl⟩, ⟨_, rfl, .inl rfl⟩, ⟨_, rfl, .inl rfl⟩, trivial⟩ ⟨rfl, rfl, trivial⟩ rfl rfl rfl rfl)⟩
    · have hr := selF h5 hr
      refine Ok.exit ?_
      exact ⟨s3.1, hr, (Conv.mk (tau [(1008, 1013)]) ⟨⟨_, rfl, .inl rfl⟩, trivial⟩ ⟨rfl, trivial⟩ rfl rfl rfl rfl)⟩
theorem entry49 : Entry Tryd.prog 49 := ⟨_, Tryd.func49, by kernel_rfl, by kernel_rfl⟩
theorem entry89 : Entry Tryd.prog 89 := ⟨_, Tryd.func89, by kernel_rfl, by kernel_rfl⟩
theorem sc_matcher_assign_B_c (self0 : shortcut_matcher → Int → (Nat → Bool) → Option (Bool × shortcut_matcher × (Nat → Bool))) (hself0 : ∀ (a0 : shortcut_matcher) (a1 : Int) (a2 : (Nat → Bool)) {r : Bool × shortcut_matcher × (Nat → Bool)}, self0 a0 a1 a2 = some r → Con Tryd.prog 89 [.c (.loc 0 0), .c (.d (.v (.int .i64 a1))), .c (.loc 1 0)] [(0, .blk ([.d (.sl (List.map (eSl shortcut_choice.cs) a0.l))] ++ (arrC 36 (dInt .i64) a0.owner ++ (arrC 36 dBool a0.taken ++ []))) 103), (1, .blk ([] ++ (arrC 36 dBool a2 ++ [])) 101)] (.s (.c (.d (.v (.bool r.1))))) [(0, .blk ([.d (.sl (List.map (eSl shortcut_choice.cs) r.2.1.l))] ++ (arrC 36 (dInt .i64) r.2.1.owner ++ (arrC 36 dBool r.2.1.taken ++ []))) 103), (1, .blk ([] ++ (arrC 36 dBool r.2.2 ++ [])) 101)]) (a0 : shortcut_matcher) (a1 : Int) (a2 : (Nat → Bool)) {r : Bool × shortcut_matcher × (Nat → Bool)} (hr : sc_matcher_assign_B self0 a0 a1 a2 = some r) : Con Tryd.prog 89 [.c (.loc 0 0), .c (.d (.v (.int .i64 a1))), .c (.loc 1 0)] [(0, .blk ([.d (.sl (List.map (eSl shortcut_choice.cs) a0.l))] ++ (arrC 36 (dInt .i64) a0.owner ++ (arrC 36 dBool a0.taken ++ []))) 103), (1, .blk ([] ++ (arrC 36 dBool a2 ++ [])) 101)] (.s (.c (.d (.v (.bool r.1))))) [(0, .blk ([.d (.sl (List.map (eSl shortcut_choice.cs) r.2.1.l))] ++ (arrC 36 (dInt .i64) r.2.1.owner ++ (arrC 36 dBool r.2.1.taken ++ []))) 103), (1, .blk ([] ++ (arrC 36 dBool r.2.2 ++ [])) 101)] := by
  unfold sc_matcher_assign_B at hr
  refine Con.of_ok 69 0 [.tmp 6] [(0, .s (.c (.loc 0 0))), (1, .s (.c (.d (.v (.int .i64 a1))))), (2, .s (.c (.loc 1 0)))] Tryd.func89 rfl rfl rfl rfl rfl rfl rfl rfl fun w g M ρ => ?_
  refine Ok.seq ?_
  refine Ok.region ?_
  refine OkOps.q (triQ (x := .c (.d (.v (.bool false)))) rfl trivial rfl) ?_
  refine OkOps.nil ?_
  obtain ⟨k2, hk2, hr⟩ := jn_some hr
  refine Ok.join (fun (s1 : (List (List shortcut_choice)) × (Nat → Int) × (Nat → Bool) × (Nat → Bool)) => ⟨[], [(0, .blk ([.d (.sl (List.map (eSl shortcut_choice.cs) s1.1))] ++ (arrC 36 (dInt .i64) s1.2.1 ++ (arrC 36 dBool s1.2.2.1 ++ []))) 103), (1, .blk ([] ++ (arrC 36 dBool s1.2.2.2 ++ [])) 101)], 0⟩) k2 r (fun s1 hr => ?_) ?_
  · rw [hk2] at hr
    refine Ok.seq ?_
    refine Ok.region ?_
    refine OkOps.q (triQ (x := .c (.d (.v (.bool false)))) rfl trivial rfl) ?_
    refine OkOps.nil ?_
    refine Ok.ret ?_
    obtain rfl := Option.some.inj hr
    exact ⟨_, rfl, .inl rfl, ⟨rfl, rfl, trivial⟩⟩
  · clear hk2
    refine Ok.seq ?_
    refine Ok.region ?_
    refine OkOps.q (triQ (x := .c (.loc 0 0)) rfl trivial rfl) ?_
    refine OkOps.q (triQ (x := .c (.loc 0 0)) rfl trivial rfl) ?_
    refine OkOps.q (triQ (x := .c (.loc 0 0)) rfl trivial rfl) ?_
    refine OkOps.q (triQ (x := .c (.d (.sl (List.map (eSl shortcut_choice.cs) a0.l)))) rfl trivial rfl) ?_
    refine OkOps.q (triQ (x := .c (.d (.v (.int .i64 a1)))) rfl trivial rfl) ?_
    obtain ⟨x3, hx3, hr⟩ := bind_some hr
    refine OkOps.q (triIdx (enc := (eSl shortcut_choice.cs)) (L := a0.l) (row := [.sl (List.map shortcut_choice.cs x3)]) hx3 rfl rfl rfl rfl (fun _ => rfl) trivial rfl) ?_
    refine OkOps.q (triQ (x := .c (.d (.sl (List.map shortcut_choice.cs x3)))) rfl trivial rfl) ?_
    refine OkOps.q (triLen (enc := shortcut_choice.cs) x3 rfl rfl trivial rfl) ?_
    refine OkOps.q (triQ (x := .c (.d (.v (.int .i64 0)))) rfl trivial rfl) ?_
    refine OkOps.nil ?_
    refine Ok.block ?_
    refine Ok.loopK (fun (s4 : Int × (List (List shortcut_choice)) × (Nat → Int) × (Nat → Bool) × (Nat → Bool)) => ⟨[(0, .s (.c (.loc 0 0))), (1, .s (.c (.d (.v (.int .i64 a1))))), (2, .s (.c (.loc 1 0))), (15, .s (.c (.d (.sl (List.map shortcut_choice.cs x3))))), (16, .s (.c (.d (.v (.int .i64 (x3.length : Int)))))), (17, .s (.c (.d (.v (.int .i64 s4.1)))))], [(0, .blk ([.d (.sl (List.map (eSl shortcut_choice.cs) s4.2.1))] ++ (arrC 36 (dInt .i64) s4.2.2.1 ++ (arrC 36 dBool s4.2.2.2.1 ++ []))) 103), (1, .blk ([] ++ (arrC 36 dBool s4.2.2.2.2 ++ [])) 101)], 0⟩) hr (Conv.mk (tau []) ⟨⟨_, rfl, .inl rfl⟩, ⟨_, rfl, .inl rfl⟩, ⟨_, rfl, .inl rfl⟩, ⟨_, rfl, .inl rfl⟩, ⟨_, rfl, .inl rfl⟩, ⟨_, rfl, .inl rfl⟩, trivial⟩ ⟨rfl, rfl, trivial⟩ rfl rfl rfl rfl) ?_
    clear hr
    intro again5 s4 hr
    unfold sc_matcher_assign_L1 at hr
    refine Ok.seq ?_
    refine Ok.region ?_
    refine OkOps.q (triQ (x := .c (.d (.v (.bool (decide (s4.1 < (x3.length : Int))))))) rfl trivial rfl) ?_
    refine OkOps.nil ?_
    refine Ok.seq ?_
    refine Ok.cond (b := decide (s4.1 < (x3.length : Int))) rfl (fun h6 => ?_) (fun h6 => ?_)
    · have hr := selT h6 hr
      refine Ok.skip ?_
      obtain ⟨k8, hk8, hr⟩ := jn_some hr
      refine Ok.join (fun (s7 : (List (List shortcut_choice)) × (Nat → Int) × (Nat → Bool) × (Nat → Bool)) => ⟨[(0, .s (.c (.loc 0 0))), (1, .s (.c (.d (.v (.int .i64 a1))))), (2, .s (.c (.loc 1 0))), (15, .s (.c (.d (.sl (List.map shortcut_choice.cs x3))))), (16, .s (.c (.d (.v (.int .i64 (x3.length : Int)))))), (17, .s (.c (.d (.v (.int .i64 s4.1)))))], [(0, .blk ([.d (.sl (List.map (eSl shortcut_choice.cs) s7.1))] ++ (arrC 36 (dInt .i64) s7.2.1 ++ (arrC 36 dBool s7.2.2.1 ++ []))) 103), (1, .blk ([] ++ (arrC 36 dBool s7.2.2.2 ++ [])) 101)], 0⟩) k8 r (fun s7 hr => ?_) ?_
      · rw [hk8] at hr
        refine Ok.region ?_
        refine OkOps.q (triQ (x := .c (.d (.v (.int .i64 (IntKind.i64.wrap (s4.1 + 1)))))) rfl trivial rfl) ?_
        refine OkOps.q (triQ (x := .c (.d (.v (.int .i64 (IntKind.i64.wrap (s4.1 + 1)))))) rfl trivial rfl) ?_
        refine OkOps.nil ?_
        exact ⟨(IntKind.i64.wrap (s4.1 + 1), s7.1, s7.2.1, s7.2.2.1, s7.2.2.2), hr, (Conv.mk (tau []) ⟨⟨_, rfl, .inl rfl⟩, ⟨_, rfl, .inl rfl⟩, ⟨_, rfl, .inl rfl⟩, ⟨_, rfl, .inl rfl⟩, ⟨_, rfl, .inl rfl⟩, ⟨_, rfl, .inl rfl⟩, trivial⟩ ⟨rfl, rfl, trivial⟩ rfl rfl rfl rfl)⟩
      · clear hk8
        refine Ok.block ?_
        refine Ok.seq ?_
        refine Ok.region ?_
        obtain ⟨x9, hx9, hr⟩ := bind_some hr
        refine OkOps.q (triIdx (enc := shortcut_choice.cs) (L := x3) (row := [.v (.int .i64 x9.letter), .v (.int .i64 x9.at_)]) hx9 rfl rfl rfl rfl (fun _ => rfl) trivial rfl) ?_
        refine OkOps.q (triQ (x := .agg [.d (.v (.int .i64 x9.letter)), .d (.v (.int .i64 x9.at_))]) rfl trivial rfl) ?_
        refine OkOps.m 0 (triAlloc (j := 2) (cs := [.d (.v (.int .i64 0)), .d (.v (.int .i64 0))]) rfl rfl rfl rfl) ?_
        refine OkOps.w (triStore (cs' := [.d (.v (.int .i64 x9.letter)), .d (.v (.int .i64 x9.at_))]) rfl rfl rfl rfl rfl rfl rfl rfl rfl) ?_
        refine OkOps.nil ?_
        refine Ok.seq ?_
        refine Ok.seq ?_
        refine Ok.regionD (by kernel_rfl) ?_
        refine OkD.q (triQ (x := .c (.loc 1 0)) rfl trivial rfl) ?_
        refine OkD.q (triQ (x := .c (.loc 2 0)) rfl trivial rfl) ?_
        refine OkD.q (triQ (x := .c (.d (.v (.int .i64 x9.letter)))) rfl trivial rfl) ?_
        refine OkD.q (triQ (x := .c (.loc 1 0)) rfl trivial rfl) ?_
        obtain ⟨x10, hx10, hr⟩ := bind_some hr
        refine OkD.q (triIdxA hx10 rfl rfl rfl trivial rfl) ?_
        refine OkD.q (triLoadA (c := .d (.v (.bool (s4.2.2.2.2 x10)))) (by exact arr_get (by simp) (ixO_spec hx10).2) rfl rfl rfl trivial rfl) ?_
        refine OkD.q (triQ (x := .c (.d (.v (.bool (s4.2.2.2.2 x10))))) rfl trivial rfl) ?_
        refine OkD.q (triQG (x := .c (.loc 0 0)) rfl rfl trivial rfl) ?_
        refine OkD.q (triQG (x := .c (.loc 2 0)) rfl rfl trivial rfl) ?_
        refine OkD.q (triQG (x := .c (.d (.v (.int .i64 x9.letter)))) rfl rfl ⟨fun h => h, trivial⟩ rfl) ?_
        refine OkD.q (triQG (x := .c (.loc 0 0)) rfl rfl ⟨fun h => h, trivial⟩ rfl) ?_
        refine OkD.q (triQG (x := .c (.loc 0 37)) rfl rfl ⟨fun h => h, trivial⟩ rfl) ?_
        obtain ⟨x11, hx11, hr⟩ := bind_some hr
        refine OkD.q (triIdxAG (gO_t hx11) rfl rfl rfl rfl ⟨fun h => h, ⟨fun h => h, trivial⟩⟩ rfl) ?_
        refine OkD.q (triLoadAG (c := .d (.v (.bool (s4.2.2.2.1 x11)))) (fun hg => (by rw [← List.append_assoc]; exact arr_get (by simp [arrC_len]) (ixO_spec (gO_t hx11 hg)).2)) rfl rfl rfl rfl ⟨fun h => h, trivial⟩ rfl) ?_
        refine OkD.q (triOr rfl rfl (fun h => by rw [h]; rfl) rfl) ?_
        refine OkD.nil (by kernel_rfl) ?_
        refine Ok.cond (b := (s4.2.2.2.2 x10) || (s4.2.2.2.1 x11)) rfl (fun h12 => ?_) (fun h12 => ?_)
        · have hr := selT h12 hr
          refine Ok.exit ?_
          exact ⟨(s4.2.1, s4.2.2.1, s4.2.2.2.1, s4.2.2.2.2), hr, (Conv.mk (tau []) ⟨⟨_, rfl, .inl rfl⟩, ⟨_, rfl, .inl rfl⟩, ⟨_, rfl, .inl rfl⟩, ⟨_, rfl, .inl rfl⟩, ⟨_, rfl, .inl rfl⟩, ⟨_, rfl, .inl rfl⟩, trivial⟩ ⟨rfl, rfl, trivial⟩ rfl rfl rfl rfl)⟩
        · have hr := selF h12 hr
          refine Ok.skip ?_
          refine Ok.seq ?_
          refine Ok.regionD (by kernel_rfl) ?_
          refine OkD.q (triQ (x := .c (.loc 1 0)) rfl trivial rfl) ?_
          refine OkD.q (triQ (x := .c (.loc 2 0)) rfl trivial rfl) ?_
          refine OkD.q (triQ (x := .c (.d (.v (.int .i64 x9.letter)))) rfl trivial rfl) ?_
          refine OkD.q (triQ (x := .c (.loc 1 0)) rfl trivial rfl) ?_
          obtain ⟨x13, hx13, hr⟩ := bind_some hr
          refine OkD.q (triIdxA hx13 rfl rfl rfl trivial rfl) ?_
          refine OkD.w (triStoreA (cs' := ([] ++ (arrC 36 dBool (upd s4.2.2.2.2 x13 true) ++ []))) (by rw [arr_set (by simp) (ixO_spec hx13).2]) (by have := (ixO_spec hx13).2; simp [arrC_len]; omega) rfl rfl rfl rfl rfl) ?_
          refine OkD.nil (by kernel_rfl) ?_
          refine Ok.seq ?_
          refine Ok.regionD (by kernel_rfl) ?_
          refine OkD.q (triQ (x := .c (.loc 0 0)) rfl trivial rfl) ?_
          refine OkD.q (triQ (x := .c (.loc 2 0)) rfl trivial rfl) ?_
          refine OkD.q (triQ (x := .c (.d (.v (.int .i64 x9.letter)))) rfl trivial rfl) ?_
          refine OkD.q (triQ (x := .c (.loc 0 0)) rfl trivial rfl) ?_
          refine OkD.q (triQ (x := .c (.loc 0 1)) rfl trivial rfl) ?_
          obtain ⟨x14, hx14, hr⟩ := bind_some hr
          refine OkD.q (triIdxA hx14 rfl rfl rfl trivial rfl) ?_
          refine OkD.q (triLoadA (c := .d (.v (.int .i64 (s4.2.2.1 x14)))) (by exact arr_get (by simp) (ixO_spec hx14).2) rfl rfl rfl trivial rfl) ?_
          refine OkD.q (triQ (x := .c (.d (.v (.bool (decide ((s4.2.2.1 x14) < 0)))))) rfl trivial rfl) ?_
          refine OkD.q (triQ (x := .c (.d (.v (.bool (decide ((s4.2.2.1 x14) < 0)))))) rfl trivial rfl) ?_
          refine OkD.q (triQG (x := .c (.loc 0 0)) rfl rfl trivial rfl) ?_
          refine OkD.q (triQG (x := .c (.loc 0 0)) rfl rfl trivial rfl) ?_
          refine OkD.q (triQG (x := .c (.loc 2 0)) rfl rfl trivial rfl) ?_
          refine OkD.q (triQG (x := .c (.d (.v (.int .i64 x9.letter)))) rfl rfl ⟨fun h => h, trivial⟩ rfl) ?_
          refine OkD.q (triQG (x := .c (.loc 0 0)) rfl rfl ⟨fun h => h, trivial⟩ rfl) ?_
          refine OkD.q (triQG (x := .c (.loc 0 1)) rfl rfl ⟨fun h => h, trivial⟩ rfl) ?_
          obtain ⟨x15, hx15, hr⟩ := bind_some hr
          refine OkD.q (triIdxAG (gO_t hx15) rfl rfl rfl rfl ⟨fun h => h, ⟨fun h => h, trivial⟩⟩ rfl) ?_
          refine OkD.q (triLoadAG (c := .d (.v (.int .i64 (s4.2.2.1 x15)))) (fun hg => (by exact arr_get (by simp) (ixO_spec (gO_t hx15 hg)).2)) rfl rfl rfl rfl ⟨fun h => h, trivial⟩ rfl) ?_
          refine OkD.q (triQG (x := .c (.loc 1 0)) rfl rfl trivial rfl) ?_
          obtain ⟨x16, hx16, hr⟩ := bind_some hr
          refine OkD.m2 0 (triCallGW (tau [(0, 0), (1, 1)]) (.c (.d (.v (.bool x16.1)))) [(0, .blk ([.d (.sl (List.map (eSl shortcut_choice.cs) x16.2.1.l))] ++ (arrC 36 (dInt .i64) x16.2.1.owner ++ (arrC 36 dBool x16.2.1.taken ++ []))) 103), (1, .blk ([] ++ (arrC 36 dBool x16.2.2 ++ [])) 101)] (fun hg => hself0 _ _ _ (selT hg hx16)) (fun hg => by cases selF hg hx16; rfl) rfl rfl ⟨.inl rfl, .inl rfl, .inl rfl, trivial⟩ ⟨fun h => h, ⟨fun h => h, ⟨fun h => h, trivial⟩⟩⟩ entry89 ⟨rfl, rfl, trivial⟩ rfl rfl rfl rfl rfl rfl rfl rfl) ?_
          refine OkD.q (triOr rfl rfl (fun h => by rw [h]; rfl) rfl) ?_
          refine OkD.nil (by kernel_rfl) ?_
          refine Ok.cond (b := (decide ((s4.2.2.1 x14) < 0)) || x16.1) rfl (fun h17 => ?_) (fun h17 => ?_)
          · have hr := selT h17 hr
            refine Ok.seq ?_
            refine Ok.regionD (by kernel_rfl) ?_
            refine OkD.q (triQ (x := .c (.loc 0 0)) rfl trivial rfl) ?_
            refine OkD.q (triQ (x := .c (.loc 2 0)) rfl trivial rfl) ?_
            refine OkD.q (triQ (x := .c (.d (.v (.int .i64 x9.letter)))) rfl trivial rfl) ?_
            refine OkD.q (triQ (x := .c (.d (.v (.int .i64 a1)))) rfl trivial rfl) ?_
            refine OkD.q (triQ (x := .c (.loc 0 0)) rfl trivial rfl) ?_
            refine OkD.q (triQ (x := .c (.loc 0 1)) rfl trivial rfl) ?_
            obtain ⟨x18, hx18, hr⟩ := bind_some hr
            refine OkD.q (triIdxA hx18 rfl rfl rfl trivial rfl) ?_
            refine OkD.w (triStoreA (cs' := ([.d (.sl (List.map (eSl shortcut_choice.cs) x16.2.1.l))] ++ (arrC 36 (dInt .i64) (upd x16.2.1.owner x18 a1) ++ (arrC 36 dBool x16.2.1.taken ++ [])))) (by rw [arr_set (by simp) (ixO_spec hx18).2]) (by have := (ixO_spec hx18).2; simp [arrC_len]; omega) rfl rfl rfl rfl rfl) ?_
            refine OkD.nil (by kernel_rfl) ?_
            refine Ok.seq ?_
            refine Ok.region ?_
            refine OkOps.q (triQ (x := .c (.d (.v (.bool true)))) rfl trivial rfl) ?_
            refine OkOps.nil ?_
            refine Ok.ret ?_
            obtain rfl := Option.some.inj hr
            exact ⟨_, rfl, .inl rfl, ⟨rfl, rfl, trivial⟩⟩
          · have hr := selF h17 hr
            refine Ok.skip ?_
            exact ⟨(x16.2.1.l, x16.2.1.owner, x16.2.1.taken, x16.2.2), hr, (Conv.mk (tau []) ⟨⟨_, rfl, .inl rfl⟩, ⟨_, rfl, .inl rfl⟩, ⟨_, rfl, .inl rfl⟩, ⟨_, rfl, .inl rfl⟩, ⟨_, rfl, .inl rfl⟩, ⟨_, rfl, .inl rfl⟩, trivial⟩ ⟨rfl, rfl, trivial⟩ rfl rfl rfl rfl)⟩
    · have hr := selF h6 hr
      refine Ok.exit ?_
      exact ⟨(s4.2.1, s4.2.2.1, s4.2.2.2.1, s4.2.2.2.2), hr, (Conv.mk (tau []) trivial ⟨rfl, rfl, trivial⟩ rfl rfl rfl rfl)⟩
theorem sc_matcher_assign_all : ∀ n : Nat, (∀ (a0 : shortcut_matcher) (a1 : Int) (a2 : (Nat → Bool)) {r : Bool × shortcut_matcher × (Nat → Bool)}, sc_matcher_assign n a0 a1 a2 = some r → Con Tryd.prog 89 [.c (.loc 0 0), .c (.d (.v (.int .i64 a1))), .c (.loc 1 0)] [(0, .blk ([.d (.sl (List.map (eSl shortcut_choice.cs) a0.l))] ++ (arrC 36 (dInt .i64) a0.owner ++ (arrC 36 dBool a0.taken ++ []))) 103), (1, .blk ([] ++ (arrC 36 dBool a2 ++ [])) 101)] (.s (.c (.d (.v (.bool r.1))))) [(0, .blk ([.d (.sl (List.map (eSl shortcut_choice.cs) r.2.1.l))] ++ (arrC 36 (dInt .i64) r.2.1.owner ++ (arrC 36 dBool r.2.1.taken ++ []))) 103), (1, .blk ([] ++ (arrC 36 dBool r.2.2 ++ [])) 101)]) ∧ True := by
  intro n
  induction n with
  | zero => exact ⟨(by intros; rename_i hr; cases hr), trivial⟩
  | succ n ih => exact ⟨(by intros; rename_i hr; exact sc_matcher_assign_B_c _ ih.1 _ _ _ hr), trivial⟩
theorem sc_matcher_assign_c (n : Nat) (a0 : shortcut_matcher) (a1 : Int) (a2 : (Nat → Bool)) {r : Bool × shortcut_matcher × (Nat → Bool)} (hr : sc_matcher_assign n a0 a1 a2 = some r) : Con Tryd.prog 89 [.c (.loc 0 0), .c (.d (.v (.int .i64 a1))), .c (.loc 1 0)] [(0, .blk ([.d (.sl (List.map (eSl shortcut_choice.cs) a0.l))] ++ (arrC 36 (dInt .i64) a0.owner ++ (arrC 36 dBool a0.taken ++ []))) 103), (1, .blk ([] ++ (arrC 36 dBool a2 ++ [])) 101)] (.s (.c (.d (.v (.bool r.1))))) [(0, .blk ([.d (.sl (List.map (eSl shortcut_choice.cs) r.2.1.l))] ++ (arrC 36 (dInt .i64) r.2.1.owner ++ (arrC 36 dBool r.2.1.taken ++ []))) 103), (1, .blk ([] ++ (arrC 36 dBool r.2.2 ++ [])) 101)] := (sc_matcher_assign_all n).1 a0 a1 a2 hr
theorem sc_matcher_most_c (m : shortcut_matcher) (first : Int) {r : Int × shortcut_matcher} (hr : sc_matcher_most m first = some r) : Con Tryd.prog 50 [.c (.loc 0 0), .c (.d (.v (.int .i64 first)))] [(0, .blk ([.d (.sl (List.map (eSl shortcut_choice.cs) m.l))] ++ (arrC 36 (dInt .i64) m.owner ++ (arrC 36 dBool m.taken ++ []))) 103)] (.s (.c (.d (.v (.int .i64 r.1))))) [(0, .blk ([.d (.sl (List.map (eSl shortcut_choice.cs) r.2.l))] ++ (arrC 36 (dInt .i64) r.2.owner ++ (arrC 36 dBool r.2.taken ++ []))) 103)] := by
  unfold sc_matcher_most at hr
  refine Con.of_ok 34 0 [.tmp 4] [(0, .s (.c (.loc 0 0))), (1, .s (.c (.d (.v (.int .i64 first)))))] Tryd.func50 rfl rfl rfl rfl rfl rfl rfl rfl fun w g M ρ => ?_
  refine Ok.seq ?_
  refine Ok.region ?_
  refine OkOps.q (triQ (x := .c (.d (.v (.int .i64 0)))) rfl trivial rfl) ?_
  refine OkOps.nil ?_
  obtain ⟨k2, hk2, hr⟩ := jn_some hr
  refine Ok.join (fun (s1 : (Nat → Int)) => ⟨[(0, .s (.c (.loc 0 0))), (1, .s (.c (.d (.v (.int .i64 first)))))], [(0, .blk ([.d (.sl (List.map (eSl shortcut_choice.cs) m.l))] ++ (arrC 36 (dInt .i64) s1 ++ (arrC 36 dBool m.taken ++ []))) 103)], 0⟩) k2 r (fun s1 hr => ?_) ?_
  · rw [hk2] at hr
    refine Ok.seq ?_
    refine Ok.region ?_
    refine OkOps.q (triQ (x := .c (.d (.v (.int .i64 0)))) rfl trivial rfl) ?_
    refine OkOps.nil ?_
    obtain ⟨k4, hk4, hr⟩ := jn_some hr
    refine Ok.join (fun (s3 : Int × (List (List shortcut_choice)) × (Nat → Int) × (Nat → Bool)) => ⟨[(6, .s (.c (.d (.v (.int .i64 s3.1)))))], [(0, .blk ([.d (.sl (List.map (eSl shortcut_choice.cs) s3.2.1))] ++ (arrC 36 (dInt .i64) s3.2.2.1 ++ (arrC 36 dBool s3.2.2.2 ++ []))) 103)], 0⟩) k4 r (fun s3 hr => ?_) ?_
    · rw [hk4] at hr
      refine Ok.seq ?_
      refine Ok.region ?_
      refine OkOps.q (triQ (x := .c (.d (.v (.int .i64 s3.1)))) rfl trivial rfl) ?_
      refine OkOps.q (triQ (x := .c (.d (.v (.int .i64 s3.1)))) rfl trivial rfl) ?_
      refine OkOps.nil ?_
      refine Ok.ret ?_
      obtain rfl := Option.some.inj hr
      exact ⟨_, rfl, .inl rfl, ⟨rfl, trivial⟩⟩
    · clear hk4
      refine Ok.seq ?_
      refine Ok.region ?_
      refine OkOps.q (triQ (x := .c (.d (.v (.int .i64 first)))) rfl trivial rfl) ?_
      refine OkOps.q (triQ (x := .c (.d (.v (.int .i64 first)))) rfl trivial rfl) ?_
      refine OkOps.nil ?_
      refine Ok.block ?_
      refine Ok.loopK (fun (s5 : Int × Int × (List (List shortcut_choice)) × (Nat → Int) × (Nat → Bool)) => ⟨[(0, .s (.c (.loc 0 0))), (6, .s (.c (.d (.v (.int .i64 s5.1))))), (7, .s (.c (.d (.v (.int .i64 s5.2.1)))))], [(0, .blk ([.d (.sl (List.map (eSl shortcut_choice.cs) s5.2.2.1))] ++ (arrC 36 (dInt .i64) s5.2.2.2.1 ++ (arrC 36 dBool s5.2.2.2.2 ++ []))) 103)], 0⟩) hr (Conv.mk (tau []) ⟨⟨_, rfl, .inl rfl⟩, ⟨_, rfl, .inl rfl⟩, ⟨_, rfl, .inl rfl⟩, trivial⟩ ⟨rfl, trivial⟩ rfl rfl rfl rfl) ?_
      clear hr
      intro again6 s5 hr
      unfold sc_matcher_most_L1 at hr
      refine Ok.seq ?_
      refine Ok.seq ?_
      refine Ok.region ?_
      refine OkOps.q (triQ (x := .c (.d (.v (.int .i64 s5.2.1)))) rfl trivial rfl) ?_
      refine OkOps.q (triQ (x := .c (.loc 0 0)) rfl trivial rfl) ?_
      refine OkOps.q (triQ (x := .c (.loc 0 0)) rfl trivial rfl) ?_
      refine OkOps.q (triQ (x := .c (.loc 0 0)) rfl trivial rfl) ?_
      refine OkOps.q (triQ (x := .c (.d (.sl (List.map (eSl shortcut_choice.cs) s5.2.2.1)))) rfl trivial rfl) ?_
      refine OkOps.q (triLen (enc := (eSl shortcut_choice.cs)) s5.2.2.1 rfl rfl trivial rfl) ?_
      refine OkOps.q (triQ (x := .c (.d (.v (.bool (decide (s5.2.1 < (s5.2.2.1.length : Int))))))) rfl trivial rfl) ?_
      refine OkOps.nil ?_
      refine Ok.cond (b := decide (s5.2.1 < (s5.2.2.1.length : Int))) rfl (fun h7 => ?_) (fun h7 => ?_)
      · have hr := selT h7 hr
        refine Ok.skip ?_
        obtain ⟨k9, hk9, hr⟩ := jn_some hr
        refine Ok.join (fun (s8 : Int × (List (List shortcut_choice)) × (Nat → Int) × (Nat → Bool)) => ⟨[(0, .s (.c (.loc 0 0))), (6, .s (.c (.d (.v (.int .i64 s8.1))))), (7, .s (.c (.d (.v (.int .i64 s5.2.1)))))], [(0, .blk ([.d (.sl (List.map (eSl shortcut_choice.cs) s8.2.1))] ++ (arrC 36 (dInt .i64) s8.2.2.1 ++ (arrC 36 dBool s8.2.2.2 ++ []))) 103)], 0⟩) k9 r (fun s8 hr => ?_) ?_
        · rw [hk9] at hr
          refine Ok.region ?_
          refine OkOps.q (triQ (x := .c (.d (.v (.int .i64 s5.2.1)))) rfl trivial rfl) ?_
          refine OkOps.q (triQ (x := .c (.d (.v (.int .i64 (IntKind.i64.wrap (s5.2.1 + 1)))))) rfl trivial rfl) ?_
          refine OkOps.q (triQ (x := .c (.d (.v (.int .i64 (IntKind.i64.wrap (s5.2.1 + 1)))))) rfl trivial rfl) ?_
          refine OkOps.nil ?_
          exact ⟨(s8.1, IntKind.i64.wrap (s5.2.1 + 1), s8.2.1, s8.2.2.1, s8.2.2.2), hr, (Conv.mk (tau []) ⟨⟨_, rfl, .inl rfl⟩, ⟨_, rfl, .inl rfl⟩, ⟨_, rfl, .inl rfl⟩, trivial⟩ ⟨rfl, trivial⟩ rfl rfl rfl rfl)⟩
        · clear hk9
          refine Ok.block ?_
          refine Ok.seq ?_
          refine Ok.region ?_
          refine OkOps.m 0 (triAlloc (j := 1) (cs := ([] ++ (arrC 36 dBool (fun _ => false) ++ []))) rfl rfl rfl rfl) ?_
          refine OkOps.nil ?_
          refine Ok.seq ?_
          refine Ok.region ?_
          refine OkOps.q (triQ (x := .c (.loc 0 0)) rfl trivial rfl) ?_
          refine OkOps.q (triQ (x := .c (.d (.v (.int .i64 s5.2.1)))) rfl trivial rfl) ?_
          obtain ⟨x10, hx10, hr⟩ := bind_some hr
          refine OkOps.m2 0 (triCall (tau [(0, 0), (1, 1)]) (.s (.c (.d (.v (.bool x10.1))))) [(0, .blk ([.d (.sl (List.map (eSl shortcut_choice.cs) x10.2.1.l))] ++ (arrC 36 (dInt .i64) x10.2.1.owner ++ (arrC 36 dBool x10.2.1.taken ++ []))) 103), (1, .blk ([] ++ (arrC 36 dBool x10.2.2 ++ [])) 101)] (sc_matcher_assign_c _ _ _ _ hx10) rfl ⟨.inl rfl, .inl rfl, .inl rfl, trivial⟩ trivial entry89 ⟨rfl, rfl, trivial⟩ rfl rfl rfl rfl trivial rfl rfl rfl) ?_
          refine OkOps.nil ?_
          refine Ok.cond (b := x10.1) rfl (fun h11 => ?_) (fun h11 => ?_)
          · have hr := selT h11 hr
            refine Ok.region ?_
            refine OkOps.q (triQ (x := .c (.d (.v (.int .i64 s5.1)))) rfl trivial rfl) ?_
            refine OkOps.q (triQ (x := .c (.d (.v (.int .i64 (IntKind.i64.wrap (s5.1 + 1)))))) rfl trivial rfl) ?_
            refine OkOps.q (triQ (x := .c (.d (.v (.int .i64 (IntKind.i64.wrap (s5.1 + 1)))))) rfl trivial rfl) ?_
            refine OkOps.nil ?_
            exact ⟨(IntKind.i64.wrap (s5.1 + 1), x10.2.1.l, x10.2.1.owner, x10.2.1.taken), hr, (Conv.mk (tau []) ⟨⟨_, rfl, .inl rfl⟩, ⟨_, rfl, .inl rfl⟩, ⟨_, rfl, .inl rfl⟩, trivial⟩ ⟨rfl, trivial⟩ rfl rfl rfl rfl)⟩
          · have hr := selF h11 hr
            refine Ok.skip ?_
            exact ⟨(s5.1, x10.2.1.l, x10.2.1.owner, x10.2.1.taken), hr, (Conv.mk (tau []) ⟨⟨_, rfl, .inl rfl⟩, ⟨_, rfl, .inl rfl⟩, ⟨_, rfl, .inl rfl⟩, trivial⟩ ⟨rfl, trivial⟩ rfl rfl rfl rfl)⟩
      · have hr := selF h7 hr
        refine Ok.exit ?_
        exact ⟨(s5.1, s5.2.2.1, s5.2.2.2.1, s5.2.2.2.2), hr, (Conv.mk (tau []) ⟨⟨_, rfl, .inl rfl⟩, trivial⟩ ⟨rfl, trivial⟩ rfl rfl rfl rfl)⟩
  · clear hk2
    refine Ok.seq ?_
    refine Ok.region ?_
    refine OkOps.q (triQ (x := .c (.d (.v (.int .i64 0)))) rfl trivial rfl) ?_
    refine OkOps.nil ?_
    refine Ok.block ?_
    refine Ok.loopK (fun (s12 : Int × (Nat → Int)) => ⟨[(0, .s (.c (.loc 0 0))), (1, .s (.c (.d (.v (.int .i64 first))))), (9, .s (.c (.d (.v (.int .i64 s12.1)))))], [(0, .blk ([.d (.sl (List.map (eSl shortcut_choice.cs) m.l))] ++ (arrC 36 (dInt .i64) s12.2 ++ (arrC 36 dBool m.taken ++ []))) 103)], 0⟩) hr (Conv.mk (tau []) ⟨⟨_, rfl, .inl rfl⟩, ⟨_, rfl, .inl rfl⟩, ⟨_, rfl, .inl rfl⟩, trivial⟩ ⟨rfl, trivial⟩ rfl rfl rfl rfl) ?_
    clear hr
    intro again13 s12 hr
    unfold sc_matcher_most_L2 at hr
    refine Ok.seq ?_
    refine Ok.region ?_
    refine OkOps.q (triQ (x := .c (.d (.v (.bool (decide (s12.1 < 36)))))) rfl trivial rfl) ?_
    refine OkOps.nil ?_
    refine Ok.seq ?_
    refine Ok.cond (b := decide (s12.1 < 36)) rfl (fun h14 => ?_) (fun h14 => ?_)
    · have hr := selT h14 hr
      refine Ok.skip ?_
      refine Ok.seq ?_
      refine Ok.block ?_
      refine Ok.seq ?_
      refine Ok.region ?_
      refine OkOps.q (triQ (x := .c (.d (.v (.int .i64 s12.1)))) rfl trivial rfl) ?_
      refine OkOps.q (triQ (x := .c (.d (.v (.int .i64 s12.1)))) rfl trivial rfl) ?_
      refine OkOps.nil ?_
      refine Ok.region ?_
      refine OkOps.q (triQ (x := .c (.loc 0 0)) rfl trivial rfl) ?_
      refine OkOps.q (triQ (x := .c (.d (.v (.int .i64 s12.1)))) rfl trivial rfl) ?_
      refine OkOps.q (triQ (x := .c (.loc 0 0)) rfl trivial rfl) ?_
      refine OkOps.q (triQ (x := .c (.loc 0 1)) rfl trivial rfl) ?_
      obtain ⟨x15, hx15, hr⟩ := bind_some hr
      refine OkOps.q (triIdxA hx15 rfl rfl rfl trivial rfl) ?_
      refine OkOps.w (triStoreA (cs' := ([.d (.sl (List.map (eSl shortcut_choice.cs) m.l))] ++ (arrC 36 (dInt .i64) (upd s12.2 x15 (-1)) ++ (arrC 36 dBool m.taken ++ [])))) (by rw [arr_set (by simp) (ixO_spec hx15).2]) (by have := (ixO_spec hx15).2; simp [arrC_len]; omega) rfl rfl rfl rfl rfl) ?_
      refine OkOps.nil ?_
      refine Ok.region ?_
      refine OkOps.q (triQ (x := .c (.d (.v (.int .i64 (IntKind.i64.wrap (s12.1 + 1)))))) rfl trivial rfl) ?_
      refine OkOps.q (triQ (x := .c (.d (.v (.int .i64 (IntKind.i64.wrap (s12.1 + 1)))))) rfl trivial rfl) ?_
      refine OkOps.nil ?_
      exact ⟨(IntKind.i64.wrap (s12.1 + 1), upd s12.2 x15 (-1)), hr, (Conv.mk (tau []) ⟨⟨_, rfl, .inl rfl⟩, ⟨_, rfl, .inl rfl⟩, ⟨_, rfl, .inl rfl⟩, trivial⟩ ⟨rfl, trivial⟩ rfl rfl rfl rfl)⟩
    · have hr := selF h14 hr
      refine Ok.exit ?_
      exact ⟨s12.2, hr, (Conv.mk (tau []) ⟨⟨_, rfl, .inl rfl⟩, ⟨_, rfl, .inl rfl⟩, trivial⟩ ⟨rfl, trivial⟩ rfl rfl rfl rfl)⟩
theorem entry50 : Entry Tryd.prog 50 := ⟨_, Tryd.func50, by kernel_rfl, by kernel_rfl⟩
theorem sc_Mnemonics_c (a0 : (List Str)) {r : (List Int) × Int} (hr : sc_Mnemonics a0 = some r) : Con Tryd.prog 17 [.c (.d (.sl (List.map eStr a0)))] [] (.tup [.c (.d (.sl (List.map (eInt .i64) r.1))), .c (.d (.v (.int .i64 r.2)))]) [] := by
  unfold sc_Mnemonics at hr
  refine Con.of_ok 98 0 [.tmp 2, .tmp 3] [(0, .s (.c (.d (.sl (List.map eStr a0)))))] Tryd.func17 rfl rfl rfl rfl rfl rfl rfl rfl fun w g M ρ => ?_
  refine Ok.seq ?_
  refine Ok.region ?_
  refine OkOps.q (triQ (x := .c (.d (.v (.slice none 0 0)))) rfl trivial rfl) ?_
  refine OkOps.q (triQ (x := .c (.d (.v (.int .i64 0)))) rfl trivial rfl) ?_
  refine OkOps.nil ?_
  refine Ok.seq ?_
  refine Ok.seq ?_
  refine Ok.region ?_
  refine OkOps.q (triQ (x := .c (.d (.sl (List.map eStr a0)))) rfl trivial rfl) ?_
  refine OkOps.q (triLen (enc := eStr) a0 rfl rfl trivial rfl) ?_
  refine OkOps.q (triQ (x := .c (.d (.v (.bool (decide ((a0.length : Int) > 24)))))) rfl trivial rfl) ?_
  refine OkOps.nil ?_
  refine Ok.cond (b := decide ((a0.length : Int) > 24)) rfl (fun h1 => ?_) (fun h1 => ?_)
  · have hr := selT h1 hr
    refine Ok.seq ?_
    refine Ok.region ?_
    refine OkOps.q (triQ (x := .c (.d (.v (.slice none 0 0)))) rfl trivial rfl) ?_
    refine OkOps.q (triQ (x := .c (.d (.v (.int .i64 2)))) rfl trivial rfl) ?_
    refine OkOps.nil ?_
    refine Ok.ret ?_
    obtain rfl := Option.some.inj hr
    exact ⟨_, rfl, .inr rfl, trivial⟩
  · have hr := selF h1 hr
    refine Ok.skip ?_
    refine Ok.seq ?_
    refine Ok.region ?_
    refine OkOps.q (triQ (x := .agg ([.d (.v (.slice none 0 0))] ++ (arrC 36 (dInt .i64) (fun _ => 0) ++ (arrC 36 dBool (fun _ => false) ++ [])))) rfl trivial rfl) ?_
    refine OkOps.m 0 (triBox (j := 0) (cs := ([.d (.v (.slice none 0 0))] ++ (arrC 36 (dInt .i64) (fun _ => 0) ++ (arrC 36 dBool (fun _ => false) ++ [])))) rfl rfl rfl rfl rfl) ?_
    refine OkOps.q (triQ (x := .c (.loc 0 0)) rfl trivial rfl) ?_
    refine OkOps.nil ?_
    obtain ⟨k3, hk3, hr⟩ := jn_some hr
    refine Ok.join (fun (s2 : (List (List shortcut_choice))) => ⟨[(0, .s (.c (.d (.sl (List.map eStr a0))))), (4, .s (.c (.loc 0 0)))], [(0, .blk ([.tl 1004 (List.map (eSl shortcut_choice.cs) s2)] ++ (arrC 36 (dInt .i64) (fun _ => 0) ++ (arrC 36 dBool (fun _ => false) ++ []))) 103), (1004, .tail 1)], 0⟩) k3 r (fun s2 hr => ?_) ?_
    · rw [hk3] at hr
      refine Ok.seq ?_
      refine Ok.region ?_
      refine OkOps.q (triQ (x := .c (.d (.sl (List.map eStr a0)))) rfl trivial rfl) ?_
      refine OkOps.q (triLen (enc := eStr) a0 rfl rfl trivial rfl) ?_
      obtain ⟨x4, hx4, hr⟩ := bind_some hr
      refine OkOps.m 0 (triMkT (sz := 1) (j := 1) hx4 rfl rfl rfl rfl trivial rfl rfl) ?_
      refine OkOps.q (triQ (x := .c (.tl 1 (List.map (eInt .i64) ([] : (List Int))))) rfl trivial rfl) ?_
      refine OkOps.nil ?_
      refine Ok.seq ?_
      refine Ok.region ?_
      refine OkOps.q (triQ (x := .c (.loc 0 0)) rfl trivial rfl) ?_
      refine OkOps.conv (Conv.norm 0 ([.tl 1004 (List.map (eSl shortcut_choice.cs) s2)] ++ (arrC 36 (dInt .i64) (fun _ => 0) ++ (arrC 36 dBool (fun _ => false) ++ []))) ([.d (.sl (List.map (eSl shortcut_choice.cs) s2))] ++ (arrC 36 (dInt .i64) (fun _ => 0) ++ (arrC 36 dBool (fun _ => false) ++ []))) 103 0 rfl rfl) ?_
      obtain ⟨x5, hx5, hr⟩ := bind_some hr
      refine OkOps.m 0 (triCall (tau [(0, 0)]) (.s (.c (.d (.v (.int .i64 x5.1))))) [(0, .blk ([.d (.sl (List.map (eSl shortcut_choice.cs) x5.2.l))] ++ (arrC 36 (dInt .i64) x5.2.owner ++ (arrC 36 dBool x5.2.taken ++ []))) 103)] (sc_matcher_most_c _ _ hx5) rfl ⟨.inl rfl, .inl rfl, trivial⟩ trivial entry50 ⟨rfl, trivial⟩ rfl rfl rfl rfl trivial rfl rfl rfl) ?_
      refine OkOps.q (triQ (x := .c (.d (.v (.int .i64 x5.1)))) rfl trivial rfl) ?_
      refine OkOps.nil ?_
      obtain ⟨k7, hk7, hr⟩ := jn_some hr
      refine Ok.join (fun (s6 : (List Int)) => ⟨[(7, .s (.c (.tl 1037 (List.map (eInt .i64) s6))))], [(1037, .tail 1)], 0⟩) k7 r (fun s6 hr => ?_) ?_
      · rw [hk7] at hr
        refine Ok.seq ?_
        refine Ok.region ?_
        refine OkOps.q (triQ (x := .c (.tl 1037 (List.map (eInt .i64) s6))) rfl trivial rfl) ?_
        refine OkOps.q (triQ (x := .c (.tl 1037 (List.map (eInt .i64) s6))) rfl trivial rfl) ?_
        refine OkOps.q (triQ (x := .c (.d (.v (.int .i64 0)))) rfl trivial rfl) ?_
        refine OkOps.nil ?_
        refine Ok.ret ?_
        obtain rfl := Option.some.inj hr
        exact ⟨_, rfl, .inr rfl, trivial⟩
      · clear hk7
        refine Ok.seq ?_
        refine Ok.region ?_
        refine OkOps.q (triQ (x := .c (.d (.sl (List.map eStr a0)))) rfl trivial rfl) ?_
        refine OkOps.q (triLen (enc := eStr) a0 rfl rfl trivial rfl) ?_
        refine OkOps.q (triQ (x := .c (.d (.v (.int .i64 0)))) rfl trivial rfl) ?_
        refine OkOps.nil ?_
        refine Ok.block ?_
        refine Ok.loopK (fun (s8 : (List Int) × Int × Int × (List (List shortcut_choice)) × (Nat → Int) × (Nat → Bool)) => ⟨[(4, .s (.c (.loc 0 0))), (7, .s (.c (.tl 1040 (List.map (eInt .i64) s8.1)))), (8, .s (.c (.d (.v (.int .i64 s8.2.1))))), (45, .s (.c (.d (.v (.int .i64 (a0.length : Int)))))), (46, .s (.c (.d (.v (.int .i64 s8.2.2.1)))))], [(0, .blk ([.d (.sl (List.map (eSl shortcut_choice.cs) s8.2.2.2.1))] ++ (arrC 36 (dInt .i64) s8.2.2.2.2.1 ++ (arrC 36 dBool s8.2.2.2.2.2 ++ []))) 103), (1040, .tail 1)], 0⟩) hr (Conv.mk (tau [(1040, 1)]) ⟨⟨_, rfl, .inl rfl⟩, ⟨_, rfl, .inl rfl⟩, ⟨_, rfl, .inl rfl⟩, ⟨_, rfl, .inl rfl⟩, ⟨_, rfl, .inl rfl⟩, trivial⟩ ⟨rfl, rfl, trivial⟩ rfl rfl rfl rfl) ?_
        clear hr
        intro again9 s8 hr
        unfold sc_Mnemonics_L2 at hr
        refine Ok.seq ?_
        refine Ok.region ?_
        refine OkOps.q (triQ (x := .c (.d (.v (.bool (decide (s8.2.2.1 < (a0.length : Int))))))) rfl trivial rfl) ?_
        refine OkOps.nil ?_
        refine Ok.seq ?_
        refine Ok.cond (b := decide (s8.2.2.1 < (a0.length : Int))) rfl (fun h10 => ?_) (fun h10 => ?_)
        · have hr := selT h10 hr
          refine Ok.skip ?_
          obtain ⟨k12, hk12, hr⟩ := jn_some hr
          refine Ok.join (fun (s11 : (List Int) × Int × (List (List shortcut_choice)) × (Nat → Int) × (Nat → Bool)) => ⟨[(4, .s (.c (.loc 0 0))), (7, .s (.c (.tl 1069 (List.map (eInt .i64) s11.1)))), (8, .s (.c (.d (.v (.int .i64 s11.2.1))))), (45, .s (.c (.d (.v (.int .i64 (a0.length : Int)))))), (46, .s (.c (.d (.v (.int .i64 s8.2.2.1)))))], [(0, .blk ([.d (.sl (List.map (eSl shortcut_choice.cs) s11.2.2.1))] ++ (arrC 36 (dInt .i64) s11.2.2.2.1 ++ (arrC 36 dBool s11.2.2.2.2 ++ []))) 103), (1069, .tail 1)], 0⟩) k12 r (fun s11 hr => ?_) ?_
          · rw [hk12] at hr
            refine Ok.region ?_
            refine OkOps.q (triQ (x := .c (.d (.v (.int .i64 (IntKind.i64.wrap (s8.2.2.1 + 1)))))) rfl trivial rfl) ?_
            refine OkOps.q (triQ (x := .c (.d (.v (.int .i64 (IntKind.i64.wrap (s8.2.2.1 + 1)))))) rfl trivial rfl) ?_
            refine OkOps.nil ?_
            exact ⟨(s11.1, s11.2.1, IntKind.i64.wrap (s8.2.2.1 + 1), s11.2.2.1, s11.2.2.2.1, s11.2.2.2.2), hr, (Conv.mk (tau [(1040, 1069)]) ⟨⟨_, rfl, .inl rfl⟩, ⟨_, rfl, .inl rfl⟩, ⟨_, rfl, .inl rfl⟩, ⟨_, rfl, .inl rfl⟩, ⟨_, rfl, .inl rfl⟩, trivial⟩ ⟨rfl, rfl, trivial⟩ rfl rfl rfl rfl)⟩
          · clear hk12
            refine Ok.block ?_
            refine Ok.seq ?_
            refine Ok.region ?_
            refine OkOps.q (triQ (x := .c (.d (.v (.int .i64 s8.2.2.1)))) rfl trivial rfl) ?_
            refine OkOps.q (triQ (x := .c (.d (.v (.int .i64 s8.2.2.1)))) rfl trivial rfl) ?_
            refine OkOps.nil ?_
            refine Ok.seq ?_
            refine Ok.region ?_
            refine OkOps.q (triQ (x := .c (.d (.v (.int .i64 (-1))))) rfl trivial rfl) ?_
            refine OkOps.nil ?_
            obtain ⟨k14, hk14, hr⟩ := jn_some hr
            refine Ok.join (fun (s13 : Int × Int × (List (List shortcut_choice)) × (Nat → Int) × (Nat → Bool)) => ⟨[(4, .s (.c (.loc 0 0))), (7, .s (.c (.tl 1040 (List.map (eInt .i64) s8.1)))), (8, .s (.c (.d (.v (.int .i64 s13.1))))), (10, .s (.c (.d (.v (.int .i64 s13.2.1))))), (45, .s (.c (.d (.v (.int .i64 (a0.length : Int)))))), (46, .s (.c (.d (.v (.int .i64 s8.2.2.1)))))], [(0, .blk ([.d (.sl (List.map (eSl shortcut_choice.cs) s13.2.2.1))] ++ (arrC 36 (dInt .i64) s13.2.2.2.1 ++ (arrC 36 dBool s13.2.2.2.2 ++ []))) 103), (1040, .tail 1)], 0⟩) k14 r (fun s13 hr => ?_) ?_
            · rw [hk14] at hr
              refine Ok.region ?_
              refine OkOps.q (triQ (x := .c (.tl 1040 (List.map (eInt .i64) s8.1))) rfl trivial rfl) ?_
              refine OkOps.q (triQ (x := .c (.d (.v (.int .i64 s13.2.1)))) rfl trivial rfl) ?_
              refine OkOps.m 0 (triBST (sz := 1) (enc := (eInt .i64)) (j := 2) ([s13.2.1]) rfl rfl rfl rfl rfl rfl rfl rfl (fun _ => rfl) trivial rfl rfl) ?_
              obtain ⟨x15, hx15, hr⟩ := bind_some hr
              refine OkOps.m2 0 (triApp (enc := (eInt .i64)) (L := s8.1) (X := [s13.2.1]) (j := 1040) (j' := 3) hx15 rfl rfl rfl rfl rfl rfl (fun _ => rfl) (fun _ => rfl) (by decide) trivial rfl rfl) ?_
              refine OkOps.q (triQ (x := .c (.tl 3 (List.map (eInt .i64) x15))) rfl trivial rfl) ?_
              refine OkOps.nil ?_
              exact ⟨(x15, s13.1, s13.2.2.1, s13.2.2.2.1, s13.2.2.2.2), hr, (Conv.mk (tau [(1069, 3)]) ⟨⟨_, rfl, .inl rfl⟩, ⟨_, rfl, .inl rfl⟩, ⟨_, rfl, .inl rfl⟩, ⟨_, rfl, .inl rfl⟩, ⟨_, rfl, .inl rfl⟩, trivial⟩ ⟨rfl, rfl, trivial⟩ rfl rfl rfl rfl)⟩
            · clear hk14
              refine Ok.seq ?_
              refine Ok.region ?_
              refine OkOps.q (triQ (x := .c (.loc 0 0)) rfl trivial rfl) ?_
              refine OkOps.q (triQ (x := .c (.loc 0 0)) rfl trivial rfl) ?_
              refine OkOps.q (triQ (x := .c (.loc 0 0)) rfl trivial rfl) ?_
              refine OkOps.q (triQ (x := .c (.d (.sl (List.map (eSl shortcut_choice.cs) s8.2.2.2.1)))) rfl trivial rfl) ?_
              refine OkOps.q (triQ (x := .c (.d (.v (.int .i64 s8.2.2.1)))) rfl trivial rfl) ?_
              obtain ⟨x16, hx16, hr⟩ := bind_some hr
              refine OkOps.q (triIdx (enc := (eSl shortcut_choice.cs)) (L := s8.2.2.2.1) (row := [.sl (List.map shortcut_choice.cs x16)]) hx16 rfl rfl rfl rfl (fun _ => rfl) trivial rfl) ?_
              refine OkOps.q (triQ (x := .c (.d (.sl (List.map shortcut_choice.cs x16)))) rfl trivial rfl) ?_
              refine OkOps.q (triLen (enc := shortcut_choice.cs) x16 rfl rfl trivial rfl) ?_
              refine OkOps.q (triQ (x := .c (.d (.v (.int .i64 0)))) rfl trivial rfl) ?_
              refine OkOps.nil ?_
              refine Ok.block ?_
              refine Ok.loopK (fun (s17 : Int × (List (List shortcut_choice)) × (Nat → Int) × (Nat → Bool)) => ⟨[(4, .s (.c (.loc 0 0))), (7, .s (.c (.tl 1040 (List.map (eInt .i64) s8.1)))), (8, .s (.c (.d (.v (.int .i64 s8.2.1))))), (9, .s (.c (.d (.v (.int .i64 s8.2.2.1))))), (10, .s (.c (.d (.v (.int .i64 (-1)))))), (45, .s (.c (.d (.v (.int .i64 (a0.length : Int)))))), (46, .s (.c (.d (.v (.int .i64 s8.2.2.1))))), (55, .s (.c (.d (.sl (List.map shortcut_choice.cs x16))))), (56, .s (.c (.d (.v (.int .i64 (x16.length : Int)))))), (57, .s (.c (.d (.v (.int .i64 s17.1)))))], [(0, .blk ([.d (.sl (List.map (eSl shortcut_choice.cs) s17.2.1))] ++ (arrC 36 (dInt .i64) s17.2.2.1 ++ (arrC 36 dBool s17.2.2.2 ++ []))) 103), (1040, .tail 1)], 0⟩) hr (Conv.mk (tau []) ⟨⟨_, rfl, .inl rfl⟩, ⟨_, rfl, .inl rfl⟩, ⟨_, rfl, .inl rfl⟩, ⟨_, rfl, .inl rfl⟩, ⟨_, rfl, .inl rfl⟩, ⟨_, rfl, .inl rfl⟩, ⟨_, rfl, .inl rfl⟩, ⟨_, rfl, .inl rfl⟩, ⟨_, rfl, .inl rfl⟩, ⟨_, rfl, .inl rfl⟩, trivial⟩ ⟨rfl, rfl, trivial⟩ rfl rfl rfl rfl) ?_
              clear hr
              intro again18 s17 hr
              unfold sc_Mnemonics_L1 at hr
              refine Ok.seq ?_
              refine Ok.region ?_
              refine OkOps.q (triQ (x := .c (.d (.v (.bool (decide (s17.1 < (x16.length : Int))))))) rfl trivial rfl) ?_
              refine OkOps.nil ?_
              refine Ok.seq ?_
              refine Ok.cond (b := decide (s17.1 < (x16.length : Int))) rfl (fun h19 => ?_) (fun h19 => ?_)
              · have hr := selT h19 hr
                refine Ok.skip ?_
                obtain ⟨k21, hk21, hr⟩ := jn_some hr
                refine Ok.join (fun (s20 : (List (List shortcut_choice)) × (Nat → Int) × (Nat → Bool)) => ⟨[(4, .s (.c (.loc 0 0))), (7, .s (.c (.tl 1040 (List.map (eInt .i64) s8.1)))), (8, .s (.c (.d (.v (.int .i64 s8.2.1))))), (9, .s (.c (.d (.v (.int .i64 s8.2.2.1))))), (10, .s (.c (.d (.v (.int .i64 (-1)))))), (45, .s (.c (.d (.v (.int .i64 (a0.length : Int)))))), (46, .s (.c (.d (.v (.int .i64 s8.2.2.1))))), (55, .s (.c (.d (.sl (List.map shortcut_choice.cs x16))))), (56, .s (.c (.d (.v (.int .i64 (x16.length : Int)))))), (57, .s (.c (.d (.v (.int .i64 s17.1)))))], [(0, .blk ([.d (.sl (List.map (eSl shortcut_choice.cs) s20.1))] ++ (arrC 36 (dInt .i64) s20.2.1 ++ (arrC 36 dBool s20.2.2 ++ []))) 103), (1040, .tail 1)], 0⟩) k21 r (fun s20 hr => ?_) ?_
                · rw [hk21] at hr
                  refine Ok.region ?_
                  refine OkOps.q (triQ (x := .c (.d (.v (.int .i64 (IntKind.i64.wrap (s17.1 + 1)))))) rfl trivial rfl) ?_
                  refine OkOps.q (triQ (x := .c (.d (.v (.int .i64 (IntKind.i64.wrap (s17.1 + 1)))))) rfl trivial rfl) ?_
                  refine OkOps.nil ?_
                  exact ⟨(IntKind.i64.wrap (s17.1 + 1), s20.1, s20.2.1, s20.2.2), hr, (Conv.mk (tau []) ⟨⟨_, rfl, .inl rfl⟩, ⟨_, rfl, .inl rfl⟩, ⟨_, rfl, .inl rfl⟩, ⟨_, rfl, .inl rfl⟩, ⟨_, rfl, .inl rfl⟩, ⟨_, rfl, .inl rfl⟩, ⟨_, rfl, .inl rfl⟩, ⟨_, rfl, .inl rfl⟩, ⟨_, rfl, .inl rfl⟩, ⟨_, rfl, .inl rfl⟩, trivial⟩ ⟨rfl, rfl, trivial⟩ rfl rfl rfl rfl)⟩
                · clear hk21
                  refine Ok.block ?_
                  refine Ok.seq ?_
                  refine Ok.region ?_
                  obtain ⟨x22, hx22, hr⟩ := bind_some hr
                  refine OkOps.q (triIdx (enc := shortcut_choice.cs) (L := x16) (row := [.v (.int .i64 x22.letter), .v (.int .i64 x22.at_)]) hx22 rfl rfl rfl rfl (fun _ => rfl) trivial rfl) ?_
                  refine OkOps.q (triQ (x := .agg [.d (.v (.int .i64 x22.letter)), .d (.v (.int .i64 x22.at_))]) rfl trivial rfl) ?_
                  refine OkOps.m 0 (triAlloc (j := 4) (cs := [.d (.v (.int .i64 0)), .d (.v (.int .i64 0))]) rfl rfl rfl rfl) ?_
                  refine OkOps.w (triStore (cs' := [.d (.v (.int .i64 x22.letter)), .d (.v (.int .i64 x22.at_))]) rfl rfl rfl rfl rfl rfl rfl rfl rfl) ?_
                  refine OkOps.nil ?_
                  refine Ok.seq ?_
                  refine Ok.seq ?_
                  refine Ok.regionD (by kernel_rfl) ?_
                  refine OkD.q (triQ (x := .c (.loc 0 0)) rfl trivial rfl) ?_
                  refine OkD.q (triQ (x := .c (.loc 4 0)) rfl trivial rfl) ?_
                  refine OkD.q (triQ (x := .c (.d (.v (.int .i64 x22.letter)))) rfl trivial rfl) ?_
                  refine OkD.q (triQ (x := .c (.loc 0 0)) rfl trivial rfl) ?_
                  refine OkD.q (triQ (x := .c (.loc 0 37)) rfl trivial rfl) ?_
                  obtain ⟨x23, hx23, hr⟩ := bind_some hr
                  refine OkD.q (triIdxA hx23 rfl rfl rfl trivial rfl) ?_
                  refine OkD.q (triLoadA (c := .d (.v (.bool (s17.2.2.2 x23)))) (by rw [← List.append_assoc]; exact arr_get (by simp [arrC_len]) (ixO_spec hx23).2) rfl rfl rfl trivial rfl) ?_
                  refine OkD.nil (by kernel_rfl) ?_
                  refine Ok.cond (b := s17.2.2.2 x23) rfl (fun h24 => ?_) (fun h24 => ?_)
                  · have hr := selT h24 hr
                    refine Ok.exit ?_
                    exact ⟨(s17.2.1, s17.2.2.1, s17.2.2.2), hr, (Conv.mk (tau []) ⟨⟨_, rfl, .inl rfl⟩, ⟨_, rfl, .inl rfl⟩, ⟨_, rfl, .inl rfl⟩, ⟨_, rfl, .inl rfl⟩, ⟨_, rfl, .inl rfl⟩, ⟨_, rfl, .inl rfl⟩, ⟨_, rfl, .inl rfl⟩, ⟨_, rfl, .inl rfl⟩, ⟨_, rfl, .inl rfl⟩, ⟨_, rfl, .inl rfl⟩, trivial⟩ ⟨rfl, rfl, trivial⟩ rfl rfl rfl rfl)⟩
                  · have hr := selF h24 hr
                    refine Ok.skip ?_
                    refine Ok.seq ?_
                    refine Ok.regionD (by kernel_rfl) ?_
                    refine OkD.q (triQ (x := .c (.loc 0 0)) rfl trivial rfl) ?_
                    refine OkD.q (triQ (x := .c (.loc 4 0)) rfl trivial rfl) ?_
                    refine OkD.q (triQ (x := .c (.d (.v (.int .i64 x22.letter)))) rfl trivial rfl) ?_
                    refine OkD.q (triQ (x := .c (.loc 0 0)) rfl trivial rfl) ?_
                    refine OkD.q (triQ (x := .c (.loc 0 37)) rfl trivial rfl) ?_
                    obtain ⟨x25, hx25, hr⟩ := bind_some hr
                    refine OkD.q (triIdxA hx25 rfl rfl rfl trivial rfl) ?_
                    refine OkD.w (triStoreA (cs' := ([.d (.sl (List.map (eSl shortcut_choice.cs) s17.2.1))] ++ (arrC 36 (dInt .i64) s17.2.2.1 ++ (arrC 36 dBool (upd s17.2.2.2 x25 true) ++ [])))) (by rw [← List.append_assoc]; rw [arr_set (by simp [arrC_len]) (ixO_spec hx25).2]; rw [List.append_assoc]) (by have := (ixO_spec hx25).2; simp [arrC_len]; omega) rfl rfl rfl rfl rfl) ?_
                    refine OkD.nil (by kernel_rfl) ?_
                    refine Ok.seq ?_
                    refine Ok.seq ?_
                    refine Ok.region ?_
                    refine OkOps.q (triQ (x := .c (.loc 0 0)) rfl trivial rfl) ?_
                    refine OkOps.q (triQ (x := .c (.d (.v (.int .i64 s8.2.2.1)))) rfl trivial rfl) ?_
                    refine OkOps.q (triQ (x := .c (.d (.v (.int .i64 (IntKind.i64.wrap (s8.2.2.1 + 1)))))) rfl trivial rfl) ?_
                    obtain ⟨x26, hx26, hr⟩ := bind_some hr
                    refine OkOps.m 0 (triCall (tau [(0, 0)]) (.s (.c (.d (.v (.int .i64 x26.1))))) [(0, .blk ([.d (.sl (List.map (eSl shortcut_choice.cs) x26.2.l))] ++ (arrC 36 (dInt .i64) x26.2.owner ++ (arrC 36 dBool x26.2.taken ++ []))) 103)] (sc_matcher_most_c _ _ hx26) rfl ⟨.inl rfl, .inl rfl, trivial⟩ trivial entry50 ⟨rfl, trivial⟩ rfl rfl rfl rfl trivial rfl rfl rfl) ?_
                    refine OkOps.q (triQ (x := .c (.d (.v (.int .i64 s8.2.1)))) rfl trivial rfl) ?_
                    refine OkOps.q (triQ (x := .c (.d (.v (.int .i64 (IntKind.i64.wrap (s8.2.1 - 1)))))) rfl trivial rfl) ?_
                    refine OkOps.q (triQ (x := .c (.d (.v (.bool (x26.1 == (IntKind.i64.wrap (s8.2.1 - 1))))))) rfl trivial rfl) ?_
                    refine OkOps.nil ?_
                    refine Ok.cond (b := x26.1 == (IntKind.i64.wrap (s8.2.1 - 1))) rfl (fun h27 => ?_) (fun h27 => ?_)
                    · have hr := selT h27 hr
                      refine Ok.seq ?_
                      refine Ok.region ?_
                      refine OkOps.q (triQ (x := .c (.loc 4 1)) rfl trivial rfl) ?_
                      refine OkOps.q (triQ (x := .c (.d (.v (.int .i64 x22.at_)))) rfl trivial rfl) ?_
                      refine OkOps.q (triQ (x := .c (.d (.v (.int .i64 x22.at_)))) rfl trivial rfl) ?_
                      refine OkOps.nil ?_
                      refine Ok.seq ?_
                      refine Ok.region ?_
                      refine OkOps.q (triQ (x := .c (.d (.v (.int .i64 s8.2.1)))) rfl trivial rfl) ?_
                      refine OkOps.q (triQ (x := .c (.d (.v (.int .i64 (IntKind.i64.wrap (s8.2.1 - 1)))))) rfl trivial rfl) ?_
                      refine OkOps.q (triQ (x := .c (.d (.v (.int .i64 (IntKind.i64.wrap (s8.2.1 - 1)))))) rfl trivial rfl) ?_
                      refine OkOps.nil ?_
                      refine Ok.exit ?_
                      exact ⟨(IntKind.i64.wrap (s8.2.1 - 1), x22.at_, x26.2.l, x26.2.owner, x26.2.taken), hr, (Conv.mk (tau []) ⟨⟨_, rfl, .inl rfl⟩, ⟨_, rfl, .inl rfl⟩, ⟨_, rfl, .inl rfl⟩, ⟨_, rfl, .inl rfl⟩, ⟨_, rfl, .inl rfl⟩, ⟨_, rfl, .inl rfl⟩, trivial⟩ ⟨rfl, rfl, trivial⟩ rfl rfl rfl rfl)⟩
                    · have hr := selF h27 hr
                      refine Ok.skip ?_
                      refine Ok.regionD (by kernel_rfl) ?_
                      refine OkD.q (triQ (x := .c (.loc 0 0)) rfl trivial rfl) ?_
                      refine OkD.q (triQ (x := .c (.loc 4 0)) rfl trivial rfl) ?_
                      refine OkD.q (triQ (x := .c (.d (.v (.int .i64 x22.letter)))) rfl trivial rfl) ?_
                      refine OkD.q (triQ (x := .c (.loc 0 0)) rfl trivial rfl) ?_
                      refine OkD.q (triQ (x := .c (.loc 0 37)) rfl trivial rfl) ?_
                      obtain ⟨x28, hx28, hr⟩ := bind_some hr
                      refine OkD.q (triIdxA hx28 rfl rfl rfl trivial rfl) ?_
                      refine OkD.w (triStoreA (cs' := ([.d (.sl (List.map (eSl shortcut_choice.cs) x26.2.l))] ++ (arrC 36 (dInt .i64) x26.2.owner ++ (arrC 36 dBool (upd x26.2.taken x28 false) ++ [])))) (by rw [← List.append_assoc]; rw [arr_set (by simp [arrC_len]) (ixO_spec hx28).2]; rw [List.append_assoc]) (by have := (ixO_spec hx28).2; simp [arrC_len]; omega) rfl rfl rfl rfl rfl) ?_
                      refine OkD.nil (by kernel_rfl) ?_
                      exact ⟨(x26.2.l, x26.2.owner, upd x26.2.taken x28 false), hr, (Conv.mk (tau []) ⟨⟨_, rfl, .inl rfl⟩, ⟨_, rfl, .inl rfl⟩, ⟨_, rfl, .inl rfl⟩, ⟨_, rfl, .inl rfl⟩, ⟨_, rfl, .inl rfl⟩, ⟨_, rfl, .inl rfl⟩, ⟨_, rfl, .inl rfl⟩, ⟨_, rfl, .inl rfl⟩, ⟨_, rfl, .inl rfl⟩, ⟨_, rfl, .inl rfl⟩, trivial⟩ ⟨rfl, rfl, trivial⟩ rfl rfl rfl rfl)⟩
              · have hr := selF h19 hr
                refine Ok.exit ?_
                exact ⟨(s8.2.1, (-1), s17.2.1, s17.2.2.1, s17.2.2.2), hr, (Conv.mk (tau []) ⟨⟨_, rfl, .inl rfl⟩, ⟨_, rfl, .inl rfl⟩, ⟨_, rfl, .inl rfl⟩, ⟨_, rfl, .inl rfl⟩, ⟨_, rfl, .inl rfl⟩, ⟨_, rfl, .inl rfl⟩, trivial⟩ ⟨rfl, rfl, trivial⟩ rfl rfl rfl rfl)⟩
        · have hr := selF h10 hr
          refine Ok.exit ?_
          exact ⟨s8.1, hr, (Conv.mk (tau [(1037, 1040)]) ⟨⟨_, rfl, .inl rfl⟩, trivial⟩ ⟨rfl, trivial⟩ rfl rfl rfl rfl)⟩
    · clear hk3
      refine Ok.seq ?_
      refine Ok.region ?_
      refine OkOps.q (triQ (x := .c (.d (.sl (List.map eStr a0)))) rfl trivial rfl) ?_
      refine OkOps.q (triLen (enc := eStr) a0 rfl rfl trivial rfl) ?_
      refine OkOps.q (triQ (x := .c (.d (.v (.int .i64 0)))) rfl trivial rfl) ?_
      refine OkOps.nil ?_
      refine Ok.block ?_
      refine Ok.loopK (fun (s29 : Int × (List (List shortcut_choice))) => ⟨[(0, .s (.c (.d (.sl (List.map eStr a0))))), (4, .s (.c (.loc 0 0))), (18, .s (.c (.d (.sl (List.map eStr a0))))), (19, .s (.c (.d (.v (.int .i64 (a0.length : Int)))))), (20, .s (.c (.d (.v (.int .i64 s29.1)))))], [(0, .blk ([.tl 1072 (List.map (eSl shortcut_choice.cs) s29.2)] ++ (arrC 36 (dInt .i64) (fun _ => 0) ++ (arrC 36 dBool (fun _ => false) ++ []))) 103), (1072, .tail 1)], 0⟩) hr (Conv.trans (Conv.nilO 0 0 1074 1 ([.d (.v (.slice none 0 0))] ++ (arrC 36 (dInt .i64) (fun _ => 0) ++ (arrC 36 dBool (fun _ => false) ++ []))) ([.tl 1074 (List.map (eSl shortcut_choice.cs) ([] : (List (List shortcut_choice))))] ++ (arrC 36 (dInt .i64) (fun _ => 0) ++ (arrC 36 dBool (fun _ => false) ++ []))) 103 0 rfl rfl rfl rfl) (Conv.mk (tau [(1072, 1074)]) ⟨⟨_, rfl, .inl rfl⟩, ⟨_, rfl, .inl rfl⟩, ⟨_, rfl, .inl rfl⟩, ⟨_, rfl, .inl rfl⟩, ⟨_, rfl, .inl rfl⟩, trivial⟩ ⟨rfl, rfl, trivial⟩ rfl rfl rfl rfl)) ?_
      clear hr
      intro again30 s29 hr
      unfold sc_Mnemonics_L3 at hr
      refine Ok.seq ?_
      refine Ok.region ?_
      refine OkOps.q (triQ (x := .c (.d (.v (.bool (decide (s29.1 < (a0.length : Int))))))) rfl trivial rfl) ?_
      refine OkOps.nil ?_
      refine Ok.seq ?_
      refine Ok.cond (b := decide (s29.1 < (a0.length : Int))) rfl (fun h31 => ?_) (fun h31 => ?_)
      · have hr := selT h31 hr
        refine Ok.skip ?_
        refine Ok.seq ?_
        refine Ok.block ?_
        refine Ok.seq ?_
        refine Ok.region ?_
        obtain ⟨x32, hx32, hr⟩ := bind_some hr
        refine OkOps.q (triIdx (enc := eStr) (L := a0) (row := [.v (.string x32)]) hx32 rfl rfl rfl rfl (fun _ => rfl) trivial rfl) ?_
        refine OkOps.q (triQ (x := .c (.d (.v (.string x32)))) rfl trivial rfl) ?_
        refine OkOps.q (triQ (x := .c (.d (.v (.string x32)))) rfl trivial rfl) ?_
        refine OkOps.nil ?_
        refine Ok.seq ?_
        refine Ok.seq ?_
        refine Ok.region ?_
        refine OkOps.q (triQ (x := .c (.d (.v (.string x32)))) rfl trivial rfl) ?_
        refine OkOps.q (triQ (x := .c (.d (.v (.int .i64 (x32.size : Int))))) rfl trivial rfl) ?_
        refine OkOps.q (triQ (x := .c (.d (.v (.bool (decide ((x32.size : Int) > 2000)))))) rfl trivial rfl) ?_
        refine OkOps.nil ?_
        refine Ok.cond (b := decide ((x32.size : Int) > 2000)) rfl (fun h33 => ?_) (fun h33 => ?_)
        · have hr := selT h33 hr
          refine Ok.seq ?_
          refine Ok.region ?_
          refine OkOps.q (triQ (x := .c (.d (.v (.slice none 0 0)))) rfl trivial rfl) ?_
          refine OkOps.q (triQ (x := .c (.d (.v (.int .i64 2)))) rfl trivial rfl) ?_
          refine OkOps.nil ?_
          refine Ok.ret ?_
          obtain rfl := Option.some.inj hr
          exact ⟨_, rfl, .inr rfl, trivial⟩
        · have hr := selF h33 hr
          refine Ok.skip ?_
          refine Ok.regionD (by kernel_rfl) ?_
          refine OkD.q (triQ (x := .c (.loc 0 0)) rfl trivial rfl) ?_
          refine OkD.q (triQ (x := .c (.loc 0 0)) rfl trivial rfl) ?_
          refine OkD.q (triQ (x := .c (.loc 0 0)) rfl trivial rfl) ?_
          refine OkD.q (triQ (x := .c (.loc 0 0)) rfl trivial rfl) ?_
          refine OkD.q (triQ (x := .c (.tl 1072 (List.map (eSl shortcut_choice.cs) s29.2))) rfl trivial rfl) ?_
          refine OkD.q (triQ (x := .c (.d (.v (.string x32)))) rfl trivial rfl) ?_
          obtain ⟨x34, hx34, hr⟩ := bind_some hr
          refine OkD.q (triCall (tau []) (.s (.c (.d (.sl (List.map shortcut_choice.cs x34))))) [] (sc_choices_c _ hx34) rfl ⟨.inl rfl, trivial⟩ trivial entry49 trivial rfl rfl rfl rfl trivial rfl rfl rfl) ?_
          refine OkD.m 0 (triBST (sz := 1) (enc := (eSl shortcut_choice.cs)) (j := 5) ([x34]) rfl rfl rfl rfl rfl rfl rfl rfl (fun _ => rfl) trivial rfl rfl) ?_
          obtain ⟨x35, hx35, hr⟩ := bind_some hr
          refine OkD.m2 0 (triApp (enc := (eSl shortcut_choice.cs)) (L := s29.2) (X := [x34]) (j := 1072) (j' := 6) hx35 rfl rfl rfl rfl rfl rfl (fun _ => rfl) (fun _ => rfl) (by decide) trivial rfl rfl) ?_
          refine OkD.q (triQ (x := .c (.loc 0 0)) rfl trivial rfl) ?_
          refine OkD.q (triQ (x := .c (.loc 0 0)) rfl trivial rfl) ?_
          refine OkD.w (triStore (cs' := ([.tl 6 (List.map (eSl shortcut_choice.cs) x35)] ++ (arrC 36 (dInt .i64) (fun _ => 0) ++ (arrC 36 dBool (fun _ => false) ++ [])))) rfl rfl rfl rfl rfl rfl rfl rfl rfl) ?_
          refine OkD.nil (by kernel_rfl) ?_
          refine Ok.region ?_
          refine OkOps.q (triQ (x := .c (.d (.v (.int .i64 (IntKind.i64.wrap (s29.1 + 1)))))) rfl trivial rfl) ?_
          refine OkOps.q (triQ (x := .c (.d (.v (.int .i64 (IntKind.i64.wrap (s29.1 + 1)))))) rfl trivial rfl) ?_
          refine OkOps.nil ?_
          exact ⟨(IntKind.i64.wrap (s29.1 + 1), x35), hr, (Conv.mk (tau [(1072, 6)]) ⟨⟨_, rfl, .inl rfl⟩, ⟨_, rfl, .inl rfl⟩, ⟨_, rfl, .inl rfl⟩, ⟨_, rfl, .inl rfl⟩, ⟨_, rfl, .inl rfl⟩, trivial⟩ ⟨rfl, rfl, trivial⟩ rfl rfl rfl rfl)⟩
      · have hr := selF h31 hr
        refine Ok.exit ?_
        exact ⟨s29.2, hr, (Conv.mk (tau [(1004, 1072)]) ⟨⟨_, rfl, .inl rfl⟩, ⟨_, rfl, .inl rfl⟩, trivial⟩ ⟨rfl, rfl, trivial⟩ rfl rfl rfl rfl)⟩
theorem entry17 : Entry Tryd.prog 17 := ⟨_, Tryd.func17, by kernel_rfl, by kernel_rfl⟩
theorem r32_letter_c (p_r : Int) {r : Int} (hr : r32_letter p_r = some r) : Con Tryd.prog 51 [.c (.d (.v (.int .i32 p_r)))] [] (.s (.c (.d (.v (.int .i64 r))))) [] := by
  unfold r32_letter at hr
  refine Con.of_ok 34 0 [.tmp 2] [(0, .s (.c (.d (.v (.int .i32 p_r)))))] Tryd.func51 rfl rfl rfl rfl rfl rfl rfl rfl fun w g M ρ => ?_
  refine Ok.seq ?_
  refine Ok.region ?_
  refine OkOps.q (triQ (x := .c (.d (.v (.int .i64 0)))) rfl trivial rfl) ?_
  refine OkOps.nil ?_
  refine Ok.seq ?_
  refine Ok.block ?_
  refine Ok.seq ?_
  refine Ok.region ?_
  refine OkOps.q (triQ (x := .c (.d (.v (.int .i32 p_r)))) rfl trivial rfl) ?_
  refine OkOps.q (triQ (x := .c (.d (.v (.bool (decide (p_r ≥ 97)))))) rfl trivial rfl) ?_
  refine OkOps.q (triQ (x := .c (.d (.v (.bool (decide (p_r ≥ 97)))))) rfl trivial rfl) ?_
  refine OkOps.q (triQG (x := .c (.d (.v (.int .i32 p_r)))) rfl rfl trivial rfl) ?_
  refine OkOps.q (triQG (x := .c (.d (.v (.bool (decide (p_r ≤ 122)))))) rfl rfl ⟨fun h => h, trivial⟩ rfl) ?_
  refine OkOps.q (triAnd rfl rfl (fun h => h) rfl) ?_
  refine OkOps.q (triQ (x := .c (.d (.v (.bool ((decide (p_r ≥ 97)) && (decide (p_r ≤ 122))))))) rfl trivial rfl) ?_
  refine OkOps.nil ?_
  refine Ok.cond (b := (decide (p_r ≥ 97)) && (decide (p_r ≤ 122))) rfl (fun h1 => ?_) (fun h1 => ?_)
  · have hr := selT h1 hr
    refine Ok.seq ?_
    refine Ok.region ?_
    refine OkOps.q (triQ (x := .c (.d (.v (.int .i32 p_r)))) rfl trivial rfl) ?_
    refine OkOps.q (triQ (x := .c (.d (.v (.int .i32 (IntKind.i32.wrap (p_r - 97)))))) rfl trivial rfl) ?_
    refine OkOps.q (triQ (x := .c (.d (.v (.int .i64 (IntKind.i64.wrap (IntKind.i32.wrap (p_r - 97))))))) rfl trivial rfl) ?_
    refine OkOps.q (triQ (x := .c (.d (.v (.int .i64 (IntKind.i64.wrap (IntKind.i32.wrap (p_r - 97))))))) rfl trivial rfl) ?_
    refine OkOps.nil ?_
    refine Ok.ret ?_
    obtain rfl := Option.some.inj hr
    exact ⟨_, rfl, .inl rfl, trivial⟩
  · have hr := selF h1 hr
    refine Ok.seq ?_
    refine Ok.region ?_
    refine OkOps.q (triQ (x := .c (.d (.v (.int .i32 p_r)))) rfl trivial rfl) ?_
    refine OkOps.q (triQ (x := .c (.d (.v (.bool (decide (p_r ≥ 65)))))) rfl trivial rfl) ?_
    refine OkOps.q (triQ (x := .c (.d (.v (.bool (decide (p_r ≥ 65)))))) rfl trivial rfl) ?_
    refine OkOps.q (triQG (x := .c (.d (.v (.int .i32 p_r)))) rfl rfl trivial rfl) ?_
    refine OkOps.q (triQG (x := .c (.d (.v (.bool (decide (p_r ≤ 90)))))) rfl rfl ⟨fun h => h, trivial⟩ rfl) ?_
    refine OkOps.q (triAnd rfl rfl (fun h => h) rfl) ?_
    refine OkOps.q (triQ (x := .c (.d (.v (.bool ((decide (p_r ≥ 65)) && (decide (p_r ≤ 90))))))) rfl trivial rfl) ?_
    refine OkOps.nil ?_
    refine Ok.cond (b := (decide (p_r ≥ 65)) && (decide (p_r ≤ 90))) rfl (fun h2 => ?_) (fun h2 => ?_)
    · have hr := selT h2 hr
      refine Ok.seq ?_
      refine Ok.region ?_
      refine OkOps.q (triQ (x := .c (.d (.v (.int .i32 p_r)))) rfl trivial rfl) ?_
      refine OkOps.q (triQ (x := .c (.d (.v (.int .i32 (IntKind.i32.wrap (p_r - 65)))))) rfl trivial rfl) ?_
      refine OkOps.q (triQ (x := .c (.d (.v (.int .i64 (IntKind.i64.wrap (IntKind.i32.wrap (p_r - 65))))))) rfl trivial rfl) ?_
      refine OkOps.q (triQ (x := .c (.d (.v (.int .i64 (IntKind.i64.wrap (IntKind.i32.wrap (p_r - 65))))))) rfl trivial rfl) ?_
      refine OkOps.nil ?_
      refine Ok.ret ?_
      obtain rfl := Option.some.inj hr
      exact ⟨_, rfl, .inl rfl, trivial⟩
    · have hr := selF h2 hr
      refine Ok.seq ?_
      refine Ok.region ?_
      refine OkOps.q (triQ (x := .c (.d (.v (.int .i32 p_r)))) rfl trivial rfl) ?_
      refine OkOps.q (triQ (x := .c (.d (.v (.bool (decide (p_r ≥ 48)))))) rfl trivial rfl) ?_
      refine OkOps.q (triQ (x := .c (.d (.v (.bool (decide (p_r ≥ 48)))))) rfl trivial rfl) ?_
      refine OkOps.q (triQG (x := .c (.d (.v (.int .i32 p_r)))) rfl rfl trivial rfl) ?_
      refine OkOps.q (triQG (x := .c (.d (.v (.bool (decide (p_r ≤ 57)))))) rfl rfl ⟨fun h => h, trivial⟩ rfl) ?_
      refine OkOps.q (triAnd rfl rfl (fun h => h) rfl) ?_
      refine OkOps.q (triQ (x := .c (.d (.v (.bool ((decide (p_r ≥ 48)) && (decide (p_r ≤ 57))))))) rfl trivial rfl) ?_
      refine OkOps.nil ?_
      refine Ok.cond (b := (decide (p_r ≥ 48)) && (decide (p_r ≤ 57))) rfl (fun h3 => ?_) (fun h3 => ?_)
      · have hr := selT h3 hr
        refine Ok.seq ?_
        refine Ok.region ?_
        refine OkOps.q (triQ (x := .c (.d (.v (.int .i32 p_r)))) rfl trivial rfl) ?_
        refine OkOps.q (triQ (x := .c (.d (.v (.int .i32 (IntKind.i32.wrap (p_r - 48)))))) rfl trivial rfl) ?_
        refine OkOps.q (triQ (x := .c (.d (.v (.int .i64 (IntKind.i64.wrap (IntKind.i32.wrap (p_r - 48))))))) rfl trivial rfl) ?_
        refine OkOps.q (triQ (x := .c (.d (.v (.int .i64 (IntKind.i64.wrap (26 + (IntKind.i64.wrap (IntKind.i32.wrap (p_r - 48))))))))) rfl trivial rfl) ?_
        refine OkOps.q (triQ (x := .c (.d (.v (.int .i64 (IntKind.i64.wrap (26 + (IntKind.i64.wrap (IntKind.i32.wrap (p_r - 48))))))))) rfl trivial rfl) ?_
        refine OkOps.nil ?_
        refine Ok.ret ?_
        obtain rfl := Option.some.inj hr
        exact ⟨_, rfl, .inl rfl, trivial⟩
      · have hr := selF h3 hr
        refine Ok.skip ?_
        refine Ok.seq ?_
        refine Ok.region ?_
        refine OkOps.q (triQ (x := .c (.d (.v (.int .i64 (-1))))) rfl trivial rfl) ?_
        refine OkOps.nil ?_
        refine Ok.ret ?_
        obtain rfl := Option.some.inj hr
        exact ⟨_, rfl, .inl rfl, trivial⟩
theorem entry51 : Entry Tryd.prog 51 := ⟨_, Tryd.func51, by kernel_rfl, by kernel_rfl⟩
theorem entry90 : Entry Tryd.prog 90 := ⟨_, Tryd.func90, by kernel_rfl, by kernel_rfl⟩
theorem r32_grow_B_c (self0 : (List (List Int)) → (List Int) → (List Bool) → Int → Option (Bool × (List Int) × (List Bool))) (hself0 : ∀ (labels : (List (List Int))) (who : (List Int)) (seen : (List Bool)) (p_k : Int) {r : Bool × (List Int) × (List Bool)}, self0 labels who seen p_k = some r → Con Tryd.prog 90 [.c (.d (.sl (List.map (eSl (eInt .i64)) labels))), .c (.own 0), .c (.own 1), .c (.d (.v (.int .i64 p_k)))] [(0, .vec 1 (List.map (eInt .i64) who)), (1, .vec 1 (List.map eBool seen))] (.s (.c (.d (.v (.bool r.1))))) [(0, .vec 1 (List.map (eInt .i64) r.2.1)), (1, .vec 1 (List.map eBool r.2.2))]) (labels : (List (List Int))) (who : (List Int)) (seen : (List Bool)) (p_k : Int) {r : Bool × (List Int) × (List Bool)} (hr : r32_grow_B self0 labels who seen p_k = some r) : Con Tryd.prog 90 [.c (.d (.sl (List.map (eSl (eInt .i64)) labels))), .c (.own 0), .c (.own 1), .c (.d (.v (.int .i64 p_k)))] [(0, .vec 1 (List.map (eInt .i64) who)), (1, .vec 1 (List.map eBool seen))] (.s (.c (.d (.v (.bool r.1))))) [(0, .vec 1 (List.map (eInt .i64) r.2.1)), (1, .vec 1 (List.map eBool r.2.2))] := by
  unfold r32_grow_B at hr
  refine Con.of_ok 57 0 [.tmp 8] [(0, .s (.c (.d (.sl (List.map (eSl (eInt .i64)) labels))))), (1, .s (.c (.own 0))), (2, .s (.c (.own 1))), (3, .s (.c (.d (.v (.int .i64 p_k)))))] Tryd.func90 rfl rfl rfl rfl rfl rfl rfl rfl fun w g M ρ => ?_
  refine Ok.seq ?_
  refine Ok.region ?_
  refine OkOps.q (triQ (x := .c (.d (.v (.bool false)))) rfl trivial rfl) ?_
  refine OkOps.nil ?_
  obtain ⟨k2, hk2, hr⟩ := jn_some hr
  refine Ok.join (fun (s1 : (List Int) × (List Bool)) => ⟨[], [(0, .vec 1 (List.map (eInt .i64) s1.1)), (1, .vec 1 (List.map eBool s1.2))], 0⟩) k2 r (fun s1 hr => ?_) ?_
  · rw [hk2] at hr
    refine Ok.seq ?_
    refine Ok.region ?_
    refine OkOps.q (triQ (x := .c (.d (.v (.bool false)))) rfl trivial rfl) ?_
    refine OkOps.nil ?_
    refine Ok.ret ?_
    obtain rfl := Option.some.inj hr
    exact ⟨_, rfl, .inl rfl, ⟨rfl, rfl, trivial⟩⟩
  · clear hk2
    refine Ok.seq ?_
    refine Ok.region ?_
    refine OkOps.q (triQ (x := .c (.d (.v (.int .i64 0)))) rfl trivial rfl) ?_
    refine OkOps.nil ?_
    refine Ok.block ?_
    refine Ok.loopK (fun (s3 : Int × (List Int) × (List Bool)) => ⟨[(0, .s (.c (.d (.sl (List.map (eSl (eInt .i64)) labels))))), (1, .s (.c (.own 0))), (2, .s (.c (.own 1))), (3, .s (.c (.d (.v (.int .i64 p_k))))), (9, .s (.c (.d (.v (.int .i64 s3.1)))))], [(0, .vec 1 (List.map (eInt .i64) s3.2.1)), (1, .vec 1 (List.map eBool s3.2.2))], 0⟩) hr (Conv.mk (tau []) ⟨⟨_, rfl, .inl rfl⟩, ⟨_, rfl, .inl rfl⟩, ⟨_, rfl, .inl rfl⟩, ⟨_, rfl, .inl rfl⟩, ⟨_, rfl, .inl rfl⟩, trivial⟩ ⟨rfl, rfl, trivial⟩ rfl rfl rfl rfl) ?_
    clear hr
    intro again4 s3 hr
    unfold r32_grow_L1 at hr
    refine Ok.seq ?_
    refine Ok.seq ?_
    refine Ok.region ?_
    refine OkOps.q (triQ (x := .c (.d (.v (.int .i64 s3.1)))) rfl trivial rfl) ?_
    refine OkOps.q (triQ (x := .c (.d (.sl (List.map (eSl (eInt .i64)) labels)))) rfl trivial rfl) ?_
    refine OkOps.q (triQ (x := .c (.d (.v (.int .i64 p_k)))) rfl trivial rfl) ?_
    obtain ⟨x5, hx5, hr⟩ := bind_some hr
    refine OkOps.q (triIdx (enc := (eSl (eInt .i64))) (L := labels) (row := [.sl (List.map (eInt .i64) x5)]) hx5 rfl rfl rfl rfl (fun _ => rfl) trivial rfl) ?_
    refine OkOps.q (triQ (x := .c (.d (.sl (List.map (eInt .i64) x5)))) rfl trivial rfl) ?_
    refine OkOps.q (triLen (enc := (eInt .i64)) x5 rfl rfl trivial rfl) ?_
    refine OkOps.q (triQ (x := .c (.d (.v (.bool (decide (s3.1 < (x5.length : Int))))))) rfl trivial rfl) ?_
    refine OkOps.nil ?_
    refine Ok.cond (b := decide (s3.1 < (x5.length : Int))) rfl (fun h6 => ?_) (fun h6 => ?_)
    · have hr := selT h6 hr
      refine Ok.skip ?_
      obtain ⟨k8, hk8, hr⟩ := jn_some hr
      refine Ok.join (fun (s7 : (List Int) × (List Bool)) => ⟨[(0, .s (.c (.d (.sl (List.map (eSl (eInt .i64)) labels))))), (1, .s (.c (.own 0))), (2, .s (.c (.own 1))), (3, .s (.c (.d (.v (.int .i64 p_k))))), (9, .s (.c (.d (.v (.int .i64 s3.1)))))], [(0, .vec 1 (List.map (eInt .i64) s7.1)), (1, .vec 1 (List.map eBool s7.2))], 0⟩) k8 r (fun s7 hr => ?_) ?_
      · rw [hk8] at hr
        refine Ok.region ?_
        refine OkOps.q (triQ (x := .c (.d (.v (.int .i64 s3.1)))) rfl trivial rfl) ?_
        refine OkOps.q (triQ (x := .c (.d (.v (.int .i64 (IntKind.i64.wrap (s3.1 + 1)))))) rfl trivial rfl) ?_
        refine OkOps.q (triQ (x := .c (.d (.v (.int .i64 (IntKind.i64.wrap (s3.1 + 1)))))) rfl trivial rfl) ?_
        refine OkOps.nil ?_
        exact ⟨(IntKind.i64.wrap (s3.1 + 1), s7.1, s7.2), hr, (Conv.mk (tau []) ⟨⟨_, rfl, .inl rfl⟩, ⟨_, rfl, .inl rfl⟩, ⟨_, rfl, .inl rfl⟩, ⟨_, rfl, .inl rfl⟩, ⟨_, rfl, .inl rfl⟩, trivial⟩ ⟨rfl, rfl, trivial⟩ rfl rfl rfl rfl)⟩
      · clear hk8
        refine Ok.block ?_
        refine Ok.seq ?_
        refine Ok.region ?_
        refine OkOps.q (triQ (x := .c (.d (.sl (List.map (eSl (eInt .i64)) labels)))) rfl trivial rfl) ?_
        refine OkOps.q (triQ (x := .c (.d (.v (.int .i64 p_k)))) rfl trivial rfl) ?_
        obtain ⟨x9, hx9, hr⟩ := bind_some hr
        refine OkOps.q (triIdx (enc := (eSl (eInt .i64))) (L := labels) (row := [.sl (List.map (eInt .i64) x9)]) hx9 rfl rfl rfl rfl (fun _ => rfl) trivial rfl) ?_
        refine OkOps.q (triQ (x := .c (.d (.sl (List.map (eInt .i64) x9)))) rfl trivial rfl) ?_
        refine OkOps.q (triQ (x := .c (.d (.v (.int .i64 s3.1)))) rfl trivial rfl) ?_
        obtain ⟨x10, hx10, hr⟩ := bind_some hr
        refine OkOps.q (triIdx (enc := (eInt .i64)) (L := x9) (row := [.v (.int .i64 x10)]) hx10 rfl rfl rfl rfl (fun _ => rfl) trivial rfl) ?_
        refine OkOps.q (triQ (x := .c (.d (.v (.int .i64 x10)))) rfl trivial rfl) ?_
        refine OkOps.q (triQ (x := .c (.d (.v (.int .i64 x10)))) rfl trivial rfl) ?_
        refine OkOps.nil ?_
        refine Ok.seq ?_
        refine Ok.seq ?_
        refine Ok.region ?_
        refine OkOps.q (triQ (x := .c (.d (.v (.int .i64 x10)))) rfl trivial rfl) ?_
        refine OkOps.q (triQ (x := .c (.d (.v (.bool (decide (x10 < 0)))))) rfl trivial rfl) ?_
        refine OkOps.q (triQ (x := .c (.d (.v (.bool (decide (x10 < 0)))))) rfl trivial rfl) ?_
        refine OkOps.q (triQG (x := .c (.own 1)) rfl rfl trivial rfl) ?_
        refine OkOps.q (triQG (x := .c (.d (.v (.int .i64 x10)))) rfl rfl trivial rfl) ?_
        obtain ⟨x11, hx11, hr⟩ := bind_some hr
        refine OkOps.q (triIdxVG (enc := eBool) (L := s3.2.2) (gO_t hx11) rfl rfl rfl rfl rfl ⟨fun h => h, ⟨fun h => h, trivial⟩⟩ rfl) ?_
        obtain ⟨x12, hx12, hr⟩ := bind_some hr
        refine OkOps.q (triLoadVG (enc := eBool) (L := s3.2.2) (row := [.v (.bool x12)]) (r := .c (.d (.v (.bool x12)))) (gO_t hx12) rfl rfl rfl rfl (fun _ => rfl) rfl ⟨fun h => h, trivial⟩ rfl) ?_
        refine OkOps.q (triOr rfl rfl (fun h => by rw [h]; rfl) rfl) ?_
        refine OkOps.nil ?_
        refine Ok.cond (b := (decide (x10 < 0)) || x12) rfl (fun h13 => ?_) (fun h13 => ?_)
        · have hr := selT h13 hr
          refine Ok.exit ?_
          exact ⟨(s3.2.1, s3.2.2), hr, (Conv.mk (tau []) ⟨⟨_, rfl, .inl rfl⟩, ⟨_, rfl, .inl rfl⟩, ⟨_, rfl, .inl rfl⟩, ⟨_, rfl, .inl rfl⟩, ⟨_, rfl, .inl rfl⟩, trivial⟩ ⟨rfl, rfl, trivial⟩ rfl rfl rfl rfl)⟩
        · have hr := selF h13 hr
          refine Ok.skip ?_
          refine Ok.seq ?_
          refine Ok.region ?_
          refine OkOps.q (triQ (x := .c (.own 1)) rfl trivial rfl) ?_
          refine OkOps.q (triQ (x := .c (.d (.v (.int .i64 x10)))) rfl trivial rfl) ?_
          obtain ⟨x14, hx14, hr⟩ := bind_some hr
          refine OkOps.q (triIdxV (enc := eBool) (L := s3.2.2) hx14 rfl rfl rfl rfl trivial rfl) ?_
          refine OkOps.w (triStoreV (enc := eBool) (L := s3.2.2) true (.inr (ixO_spec hx14).2) rfl rfl rfl rfl rfl rfl (fun _ => rfl) rfl) ?_
          refine OkOps.nil ?_
          refine Ok.seq ?_
          refine Ok.region ?_
          refine OkOps.q (triQ (x := .c (.own 0)) rfl trivial rfl) ?_
          refine OkOps.q (triQ (x := .c (.d (.v (.int .i64 x10)))) rfl trivial rfl) ?_
          obtain ⟨x15, hx15, hr⟩ := bind_some hr
          refine OkOps.q (triIdxV (enc := (eInt .i64)) (L := s3.2.1) hx15 rfl rfl rfl rfl trivial rfl) ?_
          obtain ⟨x16, hx16, hr⟩ := bind_some hr
          refine OkOps.q (triLoadV (enc := (eInt .i64)) (L := s3.2.1) (row := [.v (.int .i64 x16)]) (r := .c (.d (.v (.int .i64 x16)))) hx16 rfl rfl rfl (fun _ => rfl) rfl  rfl) ?_
          refine OkOps.q (triQ (x := .c (.d (.v (.bool (decide (x16 < 0)))))) rfl trivial rfl) ?_
          refine OkOps.q (triQ (x := .c (.d (.v (.bool (decide (x16 < 0)))))) rfl trivial rfl) ?_
          refine OkOps.q (triQG (x := .c (.d (.sl (List.map (eSl (eInt .i64)) labels)))) rfl rfl trivial rfl) ?_
          refine OkOps.q (triQG (x := .c (.own 0)) rfl rfl trivial rfl) ?_
          refine OkOps.q (triQG (x := .c (.own 1)) rfl rfl trivial rfl) ?_
          refine OkOps.q (triQG (x := .c (.own 0)) rfl rfl trivial rfl) ?_
          refine OkOps.q (triQG (x := .c (.d (.v (.int .i64 x10)))) rfl rfl trivial rfl) ?_
          obtain ⟨x17, hx17, hr⟩ := bind_some hr
          refine OkOps.q (triIdxVG (enc := (eInt .i64)) (L := s3.2.1) (gO_t hx17) rfl rfl rfl rfl rfl ⟨fun h => h, ⟨fun h => h, trivial⟩⟩ rfl) ?_
          obtain ⟨x18, hx18, hr⟩ := bind_some hr
          refine OkOps.q (triLoadVG (enc := (eInt .i64)) (L := s3.2.1) (row := [.v (.int .i64 x18)]) (r := .c (.d (.v (.int .i64 x18)))) (gO_t hx18) rfl rfl rfl rfl (fun _ => rfl) rfl ⟨fun h => h, trivial⟩ rfl) ?_
          obtain ⟨x19, hx19, hr⟩ := bind_some hr
          refine OkOps.m2 0 (triCallGW (tau [(0, 0), (1, 1)]) (.c (.d (.v (.bool x19.1)))) [(0, .vec 1 (List.map (eInt .i64) x19.2.1)), (1, .vec 1 (List.map eBool x19.2.2))] (fun hg => hself0 _ _ _ _ (selT hg hx19)) (fun hg => by cases selF hg hx19; rfl) rfl rfl ⟨.inl rfl, .inl rfl, .inl rfl, .inl rfl, trivial⟩ ⟨fun h => h, ⟨fun h => h, ⟨fun h => h, ⟨fun h => h, trivial⟩⟩⟩⟩ entry90 ⟨rfl, rfl, trivial⟩ rfl rfl rfl rfl rfl rfl rfl rfl) ?_
          refine OkOps.q (triOr rfl rfl (fun h => by rw [h]; rfl) rfl) ?_
          refine OkOps.nil ?_
          refine Ok.cond (b := (decide (x16 < 0)) || x19.1) rfl (fun h20 => ?_) (fun h20 => ?_)
          · have hr := selT h20 hr
            refine Ok.seq ?_
            refine Ok.region ?_
            refine OkOps.q (triQ (x := .c (.own 0)) rfl trivial rfl) ?_
            refine OkOps.q (triQ (x := .c (.d (.v (.int .i64 x10)))) rfl trivial rfl) ?_
            refine OkOps.q (triQ (x := .c (.d (.v (.int .i64 p_k)))) rfl trivial rfl) ?_
            obtain ⟨x21, hx21, hr⟩ := bind_some hr
            refine OkOps.q (triIdxV (enc := (eInt .i64)) (L := x19.2.1) hx21 rfl rfl rfl rfl trivial rfl) ?_
            refine OkOps.w (triStoreV (enc := (eInt .i64)) (L := x19.2.1) p_k (.inr (ixO_spec hx21).2) rfl rfl rfl rfl rfl rfl (fun _ => rfl) rfl) ?_
            refine OkOps.nil ?_
            refine Ok.seq ?_
            refine Ok.region ?_
            refine OkOps.q (triQ (x := .c (.d (.v (.bool true)))) rfl trivial rfl) ?_
            refine OkOps.nil ?_
            refine Ok.ret ?_
            obtain rfl := Option.some.inj hr
            exact ⟨_, rfl, .inl rfl, ⟨rfl, rfl, trivial⟩⟩
          · have hr := selF h20 hr
            refine Ok.skip ?_
            exact ⟨(x19.2.1, x19.2.2), hr, (Conv.mk (tau []) ⟨⟨_, rfl, .inl rfl⟩, ⟨_, rfl, .inl rfl⟩, ⟨_, rfl, .inl rfl⟩, ⟨_, rfl, .inl rfl⟩, ⟨_, rfl, .inl rfl⟩, trivial⟩ ⟨rfl, rfl, trivial⟩ rfl rfl rfl rfl)⟩
    · have hr := selF h6 hr
      refine Ok.exit ?_
      exact ⟨(s3.2.1, s3.2.2), hr, (Conv.mk (tau []) trivial ⟨rfl, rfl, trivial⟩ rfl rfl rfl rfl)⟩
theorem r32_grow_all : ∀ n : Nat, (∀ (labels : (List (List Int))) (who : (List Int)) (seen : (List Bool)) (p_k : Int) {r : Bool × (List Int) × (List Bool)}, r32_grow n labels who seen p_k = some r → Con Tryd.prog 90 [.c (.d (.sl (List.map (eSl (eInt .i64)) labels))), .c (.own 0), .c (.own 1), .c (.d (.v (.int .i64 p_k)))] [(0, .vec 1 (List.map (eInt .i64) who)), (1, .vec 1 (List.map eBool seen))] (.s (.c (.d (.v (.bool r.1))))) [(0, .vec 1 (List.map (eInt .i64) r.2.1)), (1, .vec 1 (List.map eBool r.2.2))]) ∧ True := by
  intro n
  induction n with
  | zero => exact ⟨(by intros; rename_i hr; cases hr), trivial⟩
  | succ n ih => exact ⟨(by intros; rename_i hr; exact r32_grow_B_c _ ih.1 _ _ _ _ hr), trivial⟩
theorem r32_grow_c (n : Nat) (labels : (List (List Int))) (who : (List Int)) (seen : (List Bool)) (p_k : Int) {r : Bool × (List Int) × (List Bool)} (hr : r32_grow n labels who seen p_k = some r) : Con Tryd.prog 90 [.c (.d (.sl (List.map (eSl (eInt .i64)) labels))), .c (.own 0), .c (.own 1), .c (.d (.v (.int .i64 p_k)))] [(0, .vec 1 (List.map (eInt .i64) who)), (1, .vec 1 (List.map eBool seen))] (.s (.c (.d (.v (.bool r.1))))) [(0, .vec 1 (List.map (eInt .i64) r.2.1)), (1, .vec 1 (List.map eBool r.2.2))] := (r32_grow_all n).1 labels who seen p_k hr
theorem r32_most_c (labels : (List (List Int))) {r : Int} (hr : r32_most labels = some r) : Con Tryd.prog 52 [.c (.d (.sl (List.map (eSl (eInt .i64)) labels)))] [] (.s (.c (.d (.v (.int .i64 r))))) [] := by
  unfold r32_most at hr
  refine Con.of_ok 29 0 [.tmp 2] [(0, .s (.c (.d (.sl (List.map (eSl (eInt .i64)) labels)))))] Tryd.func52 rfl rfl rfl rfl rfl rfl rfl rfl fun w g M ρ => ?_
  refine Ok.seq ?_
  refine Ok.region ?_
  refine OkOps.q (triQ (x := .c (.d (.v (.int .i64 0)))) rfl trivial rfl) ?_
  refine OkOps.nil ?_
  refine Ok.seq ?_
  refine Ok.region ?_
  obtain ⟨x1, hx1, hr⟩ := bind_some hr
  refine OkOps.m 0 (triMkV (sz := 1) (enc := (eInt .i64)) (zr := 0) (j := 0) hx1 rfl rfl rfl rfl rfl (fun _ => rfl) (by decide) trivial rfl rfl) ?_
  refine OkOps.q (triQ (x := .c (.own 0)) rfl trivial rfl) ?_
  refine OkOps.nil ?_
  obtain ⟨k3, hk3, hr⟩ := jn_some hr
  refine Ok.join (fun (s2 : (List Int)) => ⟨[(0, .s (.c (.d (.sl (List.map (eSl (eInt .i64)) labels))))), (3, .s (.c (.own 0)))], [(0, .vec 1 (List.map (eInt .i64) s2))], 0⟩) k3 r (fun s2 hr => ?_) ?_
  · rw [hk3] at hr
    refine Ok.seq ?_
    refine Ok.region ?_
    refine OkOps.q (triQ (x := .c (.d (.v (.int .i64 0)))) rfl trivial rfl) ?_
    refine OkOps.nil ?_
    obtain ⟨k5, hk5, hr⟩ := jn_some hr
    refine Ok.join (fun (s4 : Int) => ⟨[(5, .s (.c (.d (.v (.int .i64 s4)))))], [], 0⟩) k5 r (fun s4 hr => ?_) ?_
    · rw [hk5] at hr
      refine Ok.seq ?_
      refine Ok.region ?_
      refine OkOps.q (triQ (x := .c (.d (.v (.int .i64 s4)))) rfl trivial rfl) ?_
      refine OkOps.q (triQ (x := .c (.d (.v (.int .i64 s4)))) rfl trivial rfl) ?_
      refine OkOps.nil ?_
      refine Ok.ret ?_
      obtain rfl := Option.some.inj hr
      exact ⟨_, rfl, .inl rfl, trivial⟩
    · clear hk5
      refine Ok.seq ?_
      refine Ok.region ?_
      refine OkOps.q (triQ (x := .c (.d (.v (.int .i64 0)))) rfl trivial rfl) ?_
      refine OkOps.nil ?_
      refine Ok.block ?_
      refine Ok.loopK (fun (s6 : Int × Int × (List Int)) => ⟨[(0, .s (.c (.d (.sl (List.map (eSl (eInt .i64)) labels))))), (3, .s (.c (.own 0))), (5, .s (.c (.d (.v (.int .i64 s6.1))))), (6, .s (.c (.d (.v (.int .i64 s6.2.1)))))], [(0, .vec 1 (List.map (eInt .i64) s6.2.2))], 0⟩) hr (Conv.mk (tau []) ⟨⟨_, rfl, .inl rfl⟩, ⟨_, rfl, .inl rfl⟩, ⟨_, rfl, .inl rfl⟩, ⟨_, rfl, .inl rfl⟩, trivial⟩ ⟨rfl, trivial⟩ rfl rfl rfl rfl) ?_
      clear hr
      intro again7 s6 hr
      unfold r32_most_L1 at hr
      refine Ok.seq ?_
      refine Ok.seq ?_
      refine Ok.region ?_
      refine OkOps.q (triQ (x := .c (.d (.v (.int .i64 s6.2.1)))) rfl trivial rfl) ?_
      refine OkOps.q (triQ (x := .c (.d (.sl (List.map (eSl (eInt .i64)) labels)))) rfl trivial rfl) ?_
      refine OkOps.q (triLen (enc := (eSl (eInt .i64))) labels rfl rfl trivial rfl) ?_
      refine OkOps.q (triQ (x := .c (.d (.v (.bool (decide (s6.2.1 < (labels.length : Int))))))) rfl trivial rfl) ?_
      refine OkOps.nil ?_
      refine Ok.cond (b := decide (s6.2.1 < (labels.length : Int))) rfl (fun h8 => ?_) (fun h8 => ?_)
      · have hr := selT h8 hr
        refine Ok.skip ?_
        obtain ⟨k10, hk10, hr⟩ := jn_some hr
        refine Ok.join (fun (s9 : Int × (List Int)) => ⟨[(0, .s (.c (.d (.sl (List.map (eSl (eInt .i64)) labels))))), (3, .s (.c (.own 0))), (5, .s (.c (.d (.v (.int .i64 s9.1))))), (6, .s (.c (.d (.v (.int .i64 s6.2.1)))))], [(0, .vec 1 (List.map (eInt .i64) s9.2))], 0⟩) k10 r (fun s9 hr => ?_) ?_
        · rw [hk10] at hr
          refine Ok.region ?_
          refine OkOps.q (triQ (x := .c (.d (.v (.int .i64 s6.2.1)))) rfl trivial rfl) ?_
          refine OkOps.q (triQ (x := .c (.d (.v (.int .i64 (IntKind.i64.wrap (s6.2.1 + 1)))))) rfl trivial rfl) ?_
          refine OkOps.q (triQ (x := .c (.d (.v (.int .i64 (IntKind.i64.wrap (s6.2.1 + 1)))))) rfl trivial rfl) ?_
          refine OkOps.nil ?_
          exact ⟨(s9.1, IntKind.i64.wrap (s6.2.1 + 1), s9.2), hr, (Conv.mk (tau []) ⟨⟨_, rfl, .inl rfl⟩, ⟨_, rfl, .inl rfl⟩, ⟨_, rfl, .inl rfl⟩, ⟨_, rfl, .inl rfl⟩, trivial⟩ ⟨rfl, trivial⟩ rfl rfl rfl rfl)⟩
        · clear hk10
          refine Ok.block ?_
          refine Ok.seq ?_
          refine Ok.region ?_
          refine OkOps.q (triQ (x := .c (.d (.sl (List.map (eSl (eInt .i64)) labels)))) rfl trivial rfl) ?_
          refine OkOps.q (triQ (x := .c (.own 0)) rfl trivial rfl) ?_
          obtain ⟨x11, hx11, hr⟩ := bind_some hr
          refine OkOps.m 0 (triMkV (sz := 1) (enc := eBool) (zr := false) (j := 1) hx11 rfl rfl rfl rfl rfl (fun _ => rfl) (by decide) trivial rfl rfl) ?_
          refine OkOps.q (triQ (x := .c (.d (.v (.int .i64 s6.2.1)))) rfl trivial rfl) ?_
          obtain ⟨x12, hx12, hr⟩ := bind_some hr
          refine OkOps.m2 0 (triCall (tau [(0, 0), (1, 1)]) (.s (.c (.d (.v (.bool x12.1))))) [(0, .vec 1 (List.map (eInt .i64) x12.2.1)), (1, .vec 1 (List.map eBool x12.2.2))] (r32_grow_c _ _ _ _ _ hx12) rfl ⟨.inl rfl, .inl rfl, .inl rfl, .inl rfl, trivial⟩ trivial entry90 ⟨rfl, rfl, trivial⟩ rfl rfl rfl rfl trivial rfl rfl rfl) ?_
          refine OkOps.nil ?_
          refine Ok.cond (b := x12.1) rfl (fun h13 => ?_) (fun h13 => ?_)
          · have hr := selT h13 hr
            refine Ok.region ?_
            refine OkOps.q (triQ (x := .c (.d (.v (.int .i64 s6.1)))) rfl trivial rfl) ?_
            refine OkOps.q (triQ (x := .c (.d (.v (.int .i64 (IntKind.i64.wrap (s6.1 + 1)))))) rfl trivial rfl) ?_
            refine OkOps.q (triQ (x := .c (.d (.v (.int .i64 (IntKind.i64.wrap (s6.1 + 1)))))) rfl trivial rfl) ?_
            refine OkOps.nil ?_
            exact ⟨(IntKind.i64.wrap (s6.1 + 1), x12.2.1), hr, (Conv.mk (tau []) ⟨⟨_, rfl, .inl rfl⟩, ⟨_, rfl, .inl rfl⟩, ⟨_, rfl, .inl rfl⟩, ⟨_, rfl, .inl rfl⟩, trivial⟩ ⟨rfl, trivial⟩ rfl rfl rfl rfl)⟩
          · have hr := selF h13 hr
            refine Ok.skip ?_
            exact ⟨(s6.1, x12.2.1), hr, (Conv.mk (tau []) ⟨⟨_, rfl, .inl rfl⟩, ⟨_, rfl, .inl rfl⟩, ⟨_, rfl, .inl rfl⟩, ⟨_, rfl, .inl rfl⟩, trivial⟩ ⟨rfl, trivial⟩ rfl rfl rfl rfl)⟩
      · have hr := selF h8 hr
        refine Ok.exit ?_
        exact ⟨s6.1, hr, (Conv.mk (tau []) ⟨⟨_, rfl, .inl rfl⟩, trivial⟩ trivial rfl rfl rfl rfl)⟩
  · clear hk3
    refine Ok.seq ?_
    refine Ok.region ?_
    refine OkOps.q (triQ (x := .c (.d (.v (.int .i64 0)))) rfl trivial rfl) ?_
    refine OkOps.nil ?_
    refine Ok.block ?_
    refine Ok.loopK (fun (s14 : Int × (List Int)) => ⟨[(0, .s (.c (.d (.sl (List.map (eSl (eInt .i64)) labels))))), (3, .s (.c (.own 0))), (4, .s (.c (.d (.v (.int .i64 s14.1)))))], [(0, .vec 1 (List.map (eInt .i64) s14.2))], 0⟩) hr (Conv.mk (tau []) ⟨⟨_, rfl, .inl rfl⟩, ⟨_, rfl, .inl rfl⟩, ⟨_, rfl, .inl rfl⟩, trivial⟩ ⟨rfl, trivial⟩ rfl rfl rfl rfl) ?_
    clear hr
    intro again15 s14 hr
    unfold r32_most_L2 at hr
    refine Ok.seq ?_
    refine Ok.seq ?_
    refine Ok.region ?_
    refine OkOps.q (triQ (x := .c (.d (.v (.int .i64 s14.1)))) rfl trivial rfl) ?_
    refine OkOps.q (triQ (x := .c (.d (.v (.bool (decide (s14.1 < 36)))))) rfl trivial rfl) ?_
    refine OkOps.nil ?_
    refine Ok.cond (b := decide (s14.1 < 36)) rfl (fun h16 => ?_) (fun h16 => ?_)
    · have hr := selT h16 hr
      refine Ok.skip ?_
      refine Ok.seq ?_
      refine Ok.block ?_
      refine Ok.region ?_
      refine OkOps.q (triQ (x := .c (.own 0)) rfl trivial rfl) ?_
      refine OkOps.q (triQ (x := .c (.d (.v (.int .i64 s14.1)))) rfl trivial rfl) ?_
      obtain ⟨x17, hx17, hr⟩ := bind_some hr
      refine OkOps.q (triIdxV (enc := (eInt .i64)) (L := s14.2) hx17 rfl rfl rfl rfl trivial rfl) ?_
      refine OkOps.w (triStoreV (enc := (eInt .i64)) (L := s14.2) (-1) (.inr (ixO_spec hx17).2) rfl rfl rfl rfl rfl rfl (fun _ => rfl) rfl) ?_
      refine OkOps.nil ?_
      refine Ok.region ?_
      refine OkOps.q (triQ (x := .c (.d (.v (.int .i64 s14.1)))) rfl trivial rfl) ?_
      refine OkOps.q (triQ (x := .c (.d (.v (.int .i64 (IntKind.i64.wrap (s14.1 + 1)))))) rfl trivial rfl) ?_
      refine OkOps.q (triQ (x := .c (.d (.v (.int .i64 (IntKind.i64.wrap (s14.1 + 1)))))) rfl trivial rfl) ?_
      refine OkOps.nil ?_
      exact ⟨(IntKind.i64.wrap (s14.1 + 1), List.set s14.2 x17 (-1)), hr, (Conv.mk (tau []) ⟨⟨_, rfl, .inl rfl⟩, ⟨_, rfl, .inl rfl⟩, ⟨_, rfl, .inl rfl⟩, trivial⟩ ⟨rfl, trivial⟩ rfl rfl rfl rfl)⟩
    · have hr := selF h16 hr
      refine Ok.exit ?_
      exact ⟨s14.2, hr, (Conv.mk (tau []) ⟨⟨_, rfl, .inl rfl⟩, ⟨_, rfl, .inl rfl⟩, trivial⟩ ⟨rfl, trivial⟩ rfl rfl rfl rfl)⟩
theorem entry52 : Entry Tryd.prog 52 := ⟨_, Tryd.func52, by kernel_rfl, by kernel_rfl⟩
theorem r32_firm_c (l : (List (List Int))) (i : Int) {r : Bool} (hr : r32_firm l i = some r) : Con Tryd.prog 53 [.c (.d (.sl (List.map (eSl (eInt .i64)) l))), .c (.d (.v (.int .i64 i)))] [] (.s (.c (.d (.v (.bool r))))) [] := by
  unfold r32_firm at hr
  refine Con.of_ok 32 0 [.tmp 4] [(0, .s (.c (.d (.sl (List.map (eSl (eInt .i64)) l))))), (1, .s (.c (.d (.v (.int .i64 i)))))] Tryd.func53 rfl rfl rfl rfl rfl rfl rfl rfl fun w g M ρ => ?_
  refine Ok.seq ?_
  refine Ok.region ?_
  refine OkOps.q (triQ (x := .c (.d (.v (.bool false)))) rfl trivial rfl) ?_
  refine OkOps.nil ?_
  obtain ⟨k2, hk2, hr⟩ := jn_some hr
  refine Ok.join (fun (s1 : Unit) => ⟨[], [], 0⟩) k2 r (fun s1 hr => ?_) ?_
  · rw [hk2] at hr
    refine Ok.seq ?_
    refine Ok.region ?_
    refine OkOps.q (triQ (x := .c (.d (.v (.bool true)))) rfl trivial rfl) ?_
    refine OkOps.nil ?_
    refine Ok.ret ?_
    obtain rfl := Option.some.inj hr
    exact ⟨_, rfl, .inl rfl, trivial⟩
  · clear hk2
    refine Ok.seq ?_
    refine Ok.region ?_
    refine OkOps.q (triQ (x := .c (.d (.v (.int .i64 0)))) rfl trivial rfl) ?_
    refine OkOps.nil ?_
    refine Ok.block ?_
    refine Ok.loopK (fun (s3 : Int) => ⟨[(0, .s (.c (.d (.sl (List.map (eSl (eInt .i64)) l))))), (1, .s (.c (.d (.v (.int .i64 i))))), (5, .s (.c (.d (.v (.int .i64 s3)))))], [], 0⟩) hr (Conv.mk (tau []) ⟨⟨_, rfl, .inl rfl⟩, ⟨_, rfl, .inl rfl⟩, ⟨_, rfl, .inl rfl⟩, trivial⟩ trivial rfl rfl rfl rfl) ?_
    clear hr
    intro again4 s3 hr
    unfold r32_firm_L1 at hr
    refine Ok.seq ?_
    refine Ok.seq ?_
    refine Ok.region ?_
    refine OkOps.q (triQ (x := .c (.d (.v (.int .i64 s3)))) rfl trivial rfl) ?_
    refine OkOps.q (triQ (x := .c (.d (.v (.int .i64 i)))) rfl trivial rfl) ?_
    refine OkOps.q (triQ (x := .c (.d (.v (.bool (decide (s3 < i)))))) rfl trivial rfl) ?_
    refine OkOps.nil ?_
    refine Ok.cond (b := decide (s3 < i)) rfl (fun h5 => ?_) (fun h5 => ?_)
    · have hr := selT h5 hr
      refine Ok.skip ?_
      refine Ok.seq ?_
      refine Ok.block ?_
      refine Ok.seq ?_
      refine Ok.regionD (by kernel_rfl) ?_
      refine OkD.q (triQ (x := .c (.d (.sl (List.map (eSl (eInt .i64)) l)))) rfl trivial rfl) ?_
      refine OkD.q (triQ (x := .c (.d (.v (.int .i64 s3)))) rfl trivial rfl) ?_
      obtain ⟨x6, hx6, hr⟩ := bind_some hr
      refine OkD.q (triIdx (enc := (eSl (eInt .i64))) (L := l) (row := [.sl (List.map (eInt .i64) x6)]) hx6 rfl rfl rfl rfl (fun _ => rfl) trivial rfl) ?_
      refine OkD.q (triQ (x := .c (.d (.sl (List.map (eInt .i64) x6)))) rfl trivial rfl) ?_
      refine OkD.q (triLen (enc := (eInt .i64)) x6 rfl rfl trivial rfl) ?_
      refine OkD.q (triQ (x := .c (.d (.v (.bool ((x6.length : Int) == 1))))) rfl trivial rfl) ?_
      refine OkD.q (triQ (x := .c (.d (.v (.bool ((x6.length : Int) == 1))))) rfl trivial rfl) ?_
      refine OkD.q (triQG (x := .c (.d (.sl (List.map (eSl (eInt .i64)) l)))) rfl rfl trivial rfl) ?_
      refine OkD.q (triQG (x := .c (.d (.v (.int .i64 s3)))) rfl rfl trivial rfl) ?_
      obtain ⟨x7, hx7, hr⟩ := bind_some hr
      refine OkD.q (triIdxG (enc := (eSl (eInt .i64))) (L := l) (row := [.sl (List.map (eInt .i64) x7)]) (gO_t hx7) rfl rfl rfl rfl rfl (fun _ => rfl) ⟨fun h => h, ⟨fun h => h, trivial⟩⟩ rfl) ?_
      refine OkD.q (triQG (x := .c (.d (.sl (List.map (eInt .i64) x7)))) rfl rfl ⟨fun h => h, trivial⟩ rfl) ?_
      obtain ⟨x8, hx8, hr⟩ := bind_some hr
      refine OkD.q (triIdxG (enc := (eInt .i64)) (L := x7) (row := [.v (.int .i64 x8)]) (gO_t hx8) rfl rfl rfl rfl rfl (fun _ => rfl) ⟨fun h => h, trivial⟩ rfl) ?_
      refine OkD.q (triQG (x := .c (.d (.v (.int .i64 x8)))) rfl rfl ⟨fun h => h, trivial⟩ rfl) ?_
      refine OkD.q (triQG (x := .c (.d (.sl (List.map (eSl (eInt .i64)) l)))) rfl rfl trivial rfl) ?_
      refine OkD.q (triQG (x := .c (.d (.v (.int .i64 i)))) rfl rfl trivial rfl) ?_
      obtain ⟨x9, hx9, hr⟩ := bind_some hr
      refine OkD.q (triIdxG (enc := (eSl (eInt .i64))) (L := l) (row := [.sl (List.map (eInt .i64) x9)]) (gO_t hx9) rfl rfl rfl rfl rfl (fun _ => rfl) ⟨fun h => h, ⟨fun h => h, trivial⟩⟩ rfl) ?_
      refine OkD.q (triQG (x := .c (.d (.sl (List.map (eInt .i64) x9)))) rfl rfl ⟨fun h => h, trivial⟩ rfl) ?_
      obtain ⟨x10, hx10, hr⟩ := bind_some hr
      refine OkD.q (triIdxG (enc := (eInt .i64)) (L := x9) (row := [.v (.int .i64 x10)]) (gO_t hx10) rfl rfl rfl rfl rfl (fun _ => rfl) ⟨fun h => h, trivial⟩ rfl) ?_
      refine OkD.q (triQG (x := .c (.d (.v (.int .i64 x10)))) rfl rfl ⟨fun h => h, trivial⟩ rfl) ?_
      refine OkD.q (triQG (x := .c (.d (.v (.bool (x8 == x10))))) rfl rfl ⟨fun h => h, ⟨fun h => h, trivial⟩⟩ rfl) ?_
      refine OkD.q (triAnd rfl rfl (fun h => h) rfl) ?_
      refine OkD.nil (by kernel_rfl) ?_
      refine Ok.cond (b := ((x6.length : Int) == 1) && (x8 == x10)) rfl (fun h11 => ?_) (fun h11 => ?_)
      · have hr := selT h11 hr
        refine Ok.seq ?_
        refine Ok.region ?_
        refine OkOps.q (triQ (x := .c (.d (.v (.bool false)))) rfl trivial rfl) ?_
        refine OkOps.nil ?_
        refine Ok.ret ?_
        obtain rfl := Option.some.inj hr
        exact ⟨_, rfl, .inl rfl, trivial⟩
      · have hr := selF h11 hr
        refine Ok.skip ?_
        refine Ok.region ?_
        refine OkOps.q (triQ (x := .c (.d (.v (.int .i64 s3)))) rfl trivial rfl) ?_
        refine OkOps.q (triQ (x := .c (.d (.v (.int .i64 (IntKind.i64.wrap (s3 + 1)))))) rfl trivial rfl) ?_
        refine OkOps.q (triQ (x := .c (.d (.v (.int .i64 (IntKind.i64.wrap (s3 + 1)))))) rfl trivial rfl) ?_
        refine OkOps.nil ?_
        exact ⟨IntKind.i64.wrap (s3 + 1), hr, (Conv.mk (tau []) ⟨⟨_, rfl, .inl rfl⟩, ⟨_, rfl, .inl rfl⟩, ⟨_, rfl, .inl rfl⟩, trivial⟩ trivial rfl rfl rfl rfl)⟩
    · have hr := selF h5 hr
      refine Ok.exit ?_
      exact ⟨(), hr, (Conv.mk (tau []) trivial trivial rfl rfl rfl rfl)⟩
theorem entry53 : Entry Tryd.prog 53 := ⟨_, Tryd.func53, by kernel_rfl, by kernel_rfl⟩
theorem r32_Mnemonics_c (a0 : (List Str)) {r : (List Int) × Int} (hr : r32_Mnemonics a0 = some r) : Con Tryd.prog 18 [.c (.d (.sl (List.map eStr a0)))] [] (.tup [.c (.d (.sl (List.map (eInt .i64) r.1))), .c (.d (.v (.int .i64 r.2)))]) [] := by
  unfold r32_Mnemonics at hr
  refine Con.of_ok 116 0 [.tmp 2, .tmp 3] [(0, .s (.c (.d (.sl (List.map eStr a0)))))] Tryd.func18 rfl rfl rfl rfl rfl rfl rfl rfl fun w g M ρ => ?_
  refine Ok.seq ?_
  refine Ok.region ?_
  refine OkOps.q (triQ (x := .c (.d (.v (.slice none 0 0)))) rfl trivial rfl) ?_
  refine OkOps.q (triQ (x := .c (.d (.v (.int .i64 0)))) rfl trivial rfl) ?_
  refine OkOps.nil ?_
  refine Ok.seq ?_
  refine Ok.seq ?_
  refine Ok.region ?_
  refine OkOps.q (triQ (x := .c (.d (.sl (List.map eStr a0)))) rfl trivial rfl) ?_
  refine OkOps.q (triLen (enc := eStr) a0 rfl rfl trivial rfl) ?_
  refine OkOps.q (triQ (x := .c (.d (.v (.bool (decide ((a0.length : Int) > 24)))))) rfl trivial rfl) ?_
  refine OkOps.nil ?_
  refine Ok.cond (b := decide ((a0.length : Int) > 24)) rfl (fun h1 => ?_) (fun h1 => ?_)
  · have hr := selT h1 hr
    refine Ok.seq ?_
    refine Ok.region ?_
    refine OkOps.q (triQ (x := .c (.d (.v (.slice none 0 0)))) rfl trivial rfl) ?_
    refine OkOps.q (triQ (x := .c (.d (.v (.int .i64 2)))) rfl trivial rfl) ?_
    refine OkOps.nil ?_
    refine Ok.ret ?_
    obtain rfl := Option.some.inj hr
    exact ⟨_, rfl, .inr rfl, trivial⟩
  · have hr := selF h1 hr
    refine Ok.skip ?_
    refine Ok.seq ?_
    refine Ok.region ?_
    refine OkOps.q (triQ (x := .c (.d (.v (.slice none 0 0)))) rfl trivial rfl) ?_
    refine OkOps.conv (Conv.nilV (enc := (eSl (eInt .i64))) 4 0 1 0 rfl rfl) ?_
    refine OkOps.nil ?_
    obtain ⟨k3, hk3, hr⟩ := jn_some hr
    refine Ok.join (fun (s2 : (List (List Int))) => ⟨[(4, .s (.c (.own 1063)))], [(1063, .vec 1 (List.map (eSl (eInt .i64)) s2))], 0⟩) k3 r (fun s2 hr => ?_) ?_
    · rw [hk3] at hr
      refine Ok.seq ?_
      refine Ok.region ?_
      refine OkOps.q (triQ (x := .c (.own 1063)) rfl trivial rfl) ?_
      refine OkOps.q (triLenV (enc := (eSl (eInt .i64))) s2 rfl rfl rfl rfl) ?_
      obtain ⟨x4, hx4, hr⟩ := bind_some hr
      refine OkOps.m 0 (triMkV (sz := 1) (enc := (eInt .i64)) (zr := 0) (j := 1) hx4 rfl rfl rfl rfl rfl (fun _ => rfl) (by decide) trivial rfl rfl) ?_
      refine OkOps.q (triQ (x := .c (.own 1)) rfl trivial rfl) ?_
      refine OkOps.nil ?_
      refine Ok.seq ?_
      refine Ok.region ?_
      refine OkOps.q (triQ (x := .c (.own 1063)) rfl trivial rfl) ?_
      obtain ⟨x5, hx5, hr⟩ := bind_some hr
      refine OkOps.q (triLoan (r32_most_c _ hx5) rfl ⟨.inr ⟨_, _, _, rfl, rfl, rfl⟩, trivial⟩ trivial entry52 rfl rfl rfl) ?_
      refine OkOps.q (triQ (x := .c (.d (.v (.int .i64 x5)))) rfl trivial rfl) ?_
      refine OkOps.nil ?_
      obtain ⟨k7, hk7, hr⟩ := jn_some hr
      refine Ok.join (fun (s6 : (List Int)) => ⟨[(9, .s (.c (.own 1)))], [(1, .vec 1 (List.map (eInt .i64) s6))], 0⟩) k7 r (fun s6 hr => ?_) ?_
      · rw [hk7] at hr
        refine Ok.seq ?_
        refine Ok.region ?_
        refine OkOps.q (triQ (x := .c (.own 1)) rfl trivial rfl) ?_
        refine OkOps.q (triQ (x := .c (.own 1)) rfl trivial rfl) ?_
        refine OkOps.q (triQ (x := .c (.d (.v (.int .i64 0)))) rfl trivial rfl) ?_
        refine OkOps.nil ?_
        refine Ok.conv (Conv.freeze (enc := (eInt .i64)) (L := s6) [2, 9, 115] 1 2 1 0 ⟨rfl, rfl, rfl, trivial⟩ rfl (fun _ => rfl) rfl) ?_
        refine Ok.ret ?_
        obtain rfl := Option.some.inj hr
        exact ⟨_, rfl, .inr rfl, trivial⟩
      · clear hk7
        refine Ok.seq ?_
        refine Ok.region ?_
        refine OkOps.q (triQ (x := .c (.d (.v (.int .i64 0)))) rfl trivial rfl) ?_
        refine OkOps.nil ?_
        refine Ok.block ?_
        refine Ok.loopK (fun (s8 : Int × (List Int) × (List (List Int))) => ⟨[(4, .s (.c (.own 1063))), (9, .s (.c (.own 1))), (10, .s (.c (.d (.v (.int .i64 x5))))), (11, .s (.c (.d (.v (.int .i64 s8.1)))))], [(1, .vec 1 (List.map (eInt .i64) s8.2.1)), (1063, .vec 1 (List.map (eSl (eInt .i64)) s8.2.2))], 0⟩) hr (Conv.mk (tau []) ⟨⟨_, rfl, .inl rfl⟩, ⟨_, rfl, .inl rfl⟩, ⟨_, rfl, .inl rfl⟩, ⟨_, rfl, .inl rfl⟩, trivial⟩ ⟨rfl, rfl, trivial⟩ rfl rfl rfl rfl) ?_
        clear hr
        intro again9 s8 hr
        unfold r32_Mnemonics_L2 at hr
        refine Ok.seq ?_
        refine Ok.seq ?_
        refine Ok.region ?_
        refine OkOps.q (triQ (x := .c (.d (.v (.int .i64 s8.1)))) rfl trivial rfl) ?_
        refine OkOps.q (triQ (x := .c (.own 1063)) rfl trivial rfl) ?_
        refine OkOps.q (triLenV (enc := (eSl (eInt .i64))) s8.2.2 rfl rfl rfl rfl) ?_
        refine OkOps.q (triQ (x := .c (.d (.v (.bool (decide (s8.1 < (s8.2.2.length : Int))))))) rfl trivial rfl) ?_
        refine OkOps.nil ?_
        refine Ok.cond (b := decide (s8.1 < (s8.2.2.length : Int))) rfl (fun h10 => ?_) (fun h10 => ?_)
        · have hr := selT h10 hr
          refine Ok.skip ?_
          obtain ⟨k12, hk12, hr⟩ := jn_some hr
          refine Ok.join (fun (s11 : (List Int) × (List (List Int))) => ⟨[(4, .s (.c (.own 1063))), (9, .s (.c (.own 1))), (10, .s (.c (.d (.v (.int .i64 x5))))), (11, .s (.c (.d (.v (.int .i64 s8.1)))))], [(1, .vec 1 (List.map (eInt .i64) s11.1)), (1063, .vec 1 (List.map (eSl (eInt .i64)) s11.2))], 0⟩) k12 r (fun s11 hr => ?_) ?_
          · rw [hk12] at hr
            refine Ok.region ?_
            refine OkOps.q (triQ (x := .c (.d (.v (.int .i64 s8.1)))) rfl trivial rfl) ?_
            refine OkOps.q (triQ (x := .c (.d (.v (.int .i64 (IntKind.i64.wrap (s8.1 + 1)))))) rfl trivial rfl) ?_
            refine OkOps.q (triQ (x := .c (.d (.v (.int .i64 (IntKind.i64.wrap (s8.1 + 1)))))) rfl trivial rfl) ?_
            refine OkOps.nil ?_
            exact ⟨(IntKind.i64.wrap (s8.1 + 1), s11.1, s11.2), hr, (Conv.mk (tau []) ⟨⟨_, rfl, .inl rfl⟩, ⟨_, rfl, .inl rfl⟩, ⟨_, rfl, .inl rfl⟩, ⟨_, rfl, .inl rfl⟩, trivial⟩ ⟨rfl, rfl, trivial⟩ rfl rfl rfl rfl)⟩
          · clear hk12
            refine Ok.block ?_
            refine Ok.seq ?_
            refine Ok.region ?_
            refine OkOps.q (triQ (x := .c (.own 1063)) rfl trivial rfl) ?_
            refine OkOps.q (triQ (x := .c (.d (.v (.int .i64 s8.1)))) rfl trivial rfl) ?_
            obtain ⟨x13, hx13, hr⟩ := bind_some hr
            refine OkOps.q (triIdxV (enc := (eSl (eInt .i64))) (L := s8.2.2) hx13 rfl rfl rfl rfl trivial rfl) ?_
            obtain ⟨x14, hx14, hr⟩ := bind_some hr
            refine OkOps.q (triLoadV (enc := (eSl (eInt .i64))) (L := s8.2.2) (row := [.sl (List.map (eInt .i64) x14)]) (r := .c (.d (.sl (List.map (eInt .i64) x14)))) hx14 rfl rfl rfl (fun _ => rfl) rfl  rfl) ?_
            refine OkOps.q (triQ (x := .c (.d (.sl (List.map (eInt .i64) x14)))) rfl trivial rfl) ?_
            refine OkOps.nil ?_
            refine Ok.seq ?_
            refine Ok.region ?_
            refine OkOps.q (triQ (x := .c (.own 1)) rfl trivial rfl) ?_
            refine OkOps.q (triQ (x := .c (.d (.v (.int .i64 s8.1)))) rfl trivial rfl) ?_
            obtain ⟨x15, hx15, hr⟩ := bind_some hr
            refine OkOps.q (triIdxV (enc := (eInt .i64)) (L := s8.2.1) hx15 rfl rfl rfl rfl trivial rfl) ?_
            refine OkOps.w (triStoreV (enc := (eInt .i64)) (L := s8.2.1) (-1) (.inr (ixO_spec hx15).2) rfl rfl rfl rfl rfl rfl (fun _ => rfl) rfl) ?_
            refine OkOps.nil ?_
            refine Ok.seq ?_
            refine Ok.region ?_
            refine OkOps.q (triQ (x := .c (.own 1063)) rfl trivial rfl) ?_
            refine OkOps.q (triQ (x := .c (.d (.v (.int .i64 s8.1)))) rfl trivial rfl) ?_
            obtain ⟨x16, hx16, hr⟩ := bind_some hr
            refine OkOps.q (triIdxV (enc := (eSl (eInt .i64))) (L := s8.2.2) hx16 rfl rfl rfl rfl trivial rfl) ?_
            refine OkOps.w (triStoreV (enc := (eSl (eInt .i64))) (L := s8.2.2) ([] : (List Int)) (.inr (ixO_spec hx16).2) rfl rfl rfl rfl rfl rfl (fun _ => rfl) rfl) ?_
            refine OkOps.nil ?_
            refine Ok.seq ?_
            refine Ok.region ?_
            refine OkOps.q (triQ (x := .c (.d (.v (.int .i64 0)))) rfl trivial rfl) ?_
            refine OkOps.nil ?_
            obtain ⟨k18, hk18, hr⟩ := jn_some hr
            refine Ok.joinEnd (fun (s17 : (List Int) × (List (List Int))) => ⟨[(4, .s (.c (.own 1063))), (9, .s (.c (.own 1))), (10, .s (.c (.d (.v (.int .i64 x5))))), (11, .s (.c (.d (.v (.int .i64 s8.1)))))], [(1, .vec 1 (List.map (eInt .i64) s17.1)), (1063, .vec 1 (List.map (eSl (eInt .i64)) s17.2))], 0⟩) k18 r (fun s17 hr => ?_) ?_
            · rw [hk18] at hr
              exact ⟨(s17.1, s17.2), hr, (Conv.mk (tau []) ⟨⟨_, rfl, .inl rfl⟩, ⟨_, rfl, .inl rfl⟩, ⟨_, rfl, .inl rfl⟩, ⟨_, rfl, .inl rfl⟩, trivial⟩ ⟨rfl, rfl, trivial⟩ rfl rfl rfl rfl)⟩
            · clear hk18
              refine Ok.block ?_
              refine Ok.loopK (fun (s19 : Int × (List Int) × (List (List Int))) => ⟨[(4, .s (.c (.own 1063))), (9, .s (.c (.own 1))), (10, .s (.c (.d (.v (.int .i64 x5))))), (11, .s (.c (.d (.v (.int .i64 s8.1))))), (12, .s (.c (.d (.sl (List.map (eInt .i64) x14))))), (13, .s (.c (.d (.v (.int .i64 s19.1)))))], [(1, .vec 1 (List.map (eInt .i64) s19.2.1)), (1063, .vec 1 (List.map (eSl (eInt .i64)) s19.2.2))], 0⟩) hr (Conv.mk (tau []) ⟨⟨_, rfl, .inl rfl⟩, ⟨_, rfl, .inl rfl⟩, ⟨_, rfl, .inl rfl⟩, ⟨_, rfl, .inl rfl⟩, ⟨_, rfl, .inl rfl⟩, ⟨_, rfl, .inl rfl⟩, trivial⟩ ⟨rfl, rfl, trivial⟩ rfl rfl rfl rfl) ?_
              clear hr
              intro again20 s19 hr
              unfold r32_Mnemonics_L1 at hr
              refine Ok.seq ?_
              refine Ok.seq ?_
              refine Ok.region ?_
              refine OkOps.q (triQ (x := .c (.d (.v (.int .i64 s19.1)))) rfl trivial rfl) ?_
              refine OkOps.q (triQ (x := .c (.d (.sl (List.map (eInt .i64) x14)))) rfl trivial rfl) ?_
              refine OkOps.q (triLen (enc := (eInt .i64)) x14 rfl rfl trivial rfl) ?_
              refine OkOps.q (triQ (x := .c (.d (.v (.bool (decide (s19.1 < (x14.length : Int))))))) rfl trivial rfl) ?_
              refine OkOps.q (triQ (x := .c (.d (.v (.bool (decide (s19.1 < (x14.length : Int))))))) rfl trivial rfl) ?_
              refine OkOps.q (triQG (x := .c (.own 1)) rfl rfl trivial rfl) ?_
              refine OkOps.q (triQG (x := .c (.d (.v (.int .i64 s8.1)))) rfl rfl trivial rfl) ?_
              obtain ⟨x21, hx21, hr⟩ := bind_some hr
              refine OkOps.q (triIdxVG (enc := (eInt .i64)) (L := s19.2.1) (gO_t hx21) rfl rfl rfl rfl rfl ⟨fun h => h, ⟨fun h => h, trivial⟩⟩ rfl) ?_
              obtain ⟨x22, hx22, hr⟩ := bind_some hr
              refine OkOps.q (triLoadVG (enc := (eInt .i64)) (L := s19.2.1) (row := [.v (.int .i64 x22)]) (r := .c (.d (.v (.int .i64 x22)))) (gO_t hx22) rfl rfl rfl rfl (fun _ => rfl) rfl ⟨fun h => h, trivial⟩ rfl) ?_
              refine OkOps.q (triQG (x := .c (.d (.v (.bool (decide (x22 < 0)))))) rfl rfl ⟨fun h => h, trivial⟩ rfl) ?_
              refine OkOps.q (triAnd rfl rfl (fun h => h) rfl) ?_
              refine OkOps.nil ?_
              refine Ok.cond (b := (decide (s19.1 < (x14.length : Int))) && (decide (x22 < 0))) rfl (fun h23 => ?_) (fun h23 => ?_)
              · have hr := selT h23 hr
                refine Ok.skip ?_
                obtain ⟨k25, hk25, hr⟩ := jn_some hr
                refine Ok.join (fun (s24 : (List Int) × (List (List Int))) => ⟨[(4, .s (.c (.own 1063))), (9, .s (.c (.own 1))), (10, .s (.c (.d (.v (.int .i64 x5))))), (11, .s (.c (.d (.v (.int .i64 s8.1))))), (12, .s (.c (.d (.sl (List.map (eInt .i64) x14))))), (13, .s (.c (.d (.v (.int .i64 s19.1)))))], [(1, .vec 1 (List.map (eInt .i64) s24.1)), (1063, .vec 1 (List.map (eSl (eInt .i64)) s24.2))], 0⟩) k25 r (fun s24 hr => ?_) ?_
                · rw [hk25] at hr
                  refine Ok.region ?_
                  refine OkOps.q (triQ (x := .c (.d (.v (.int .i64 s19.1)))) rfl trivial rfl) ?_
                  refine OkOps.q (triQ (x := .c (.d (.v (.int .i64 (IntKind.i64.wrap (s19.1 + 1)))))) rfl trivial rfl) ?_
                  refine OkOps.q (triQ (x := .c (.d (.v (.int .i64 (IntKind.i64.wrap (s19.1 + 1)))))) rfl trivial rfl) ?_
                  refine OkOps.nil ?_
                  exact ⟨(IntKind.i64.wrap (s19.1 + 1), s24.1, s24.2), hr, (Conv.mk (tau []) ⟨⟨_, rfl, .inl rfl⟩, ⟨_, rfl, .inl rfl⟩, ⟨_, rfl, .inl rfl⟩, ⟨_, rfl, .inl rfl⟩, ⟨_, rfl, .inl rfl⟩, ⟨_, rfl, .inl rfl⟩, trivial⟩ ⟨rfl, rfl, trivial⟩ rfl rfl rfl rfl)⟩
                · clear hk25
                  refine Ok.block ?_
                  refine Ok.seq ?_
                  refine Ok.seq ?_
                  refine Ok.region ?_
                  refine OkOps.q (triQ (x := .c (.d (.sl (List.map (eInt .i64) x14)))) rfl trivial rfl) ?_
                  refine OkOps.q (triQ (x := .c (.d (.v (.int .i64 s19.1)))) rfl trivial rfl) ?_
                  obtain ⟨x26, hx26, hr⟩ := bind_some hr
                  refine OkOps.q (triIdx (enc := (eInt .i64)) (L := x14) (row := [.v (.int .i64 x26)]) hx26 rfl rfl rfl rfl (fun _ => rfl) trivial rfl) ?_
                  refine OkOps.q (triQ (x := .c (.d (.v (.int .i64 x26)))) rfl trivial rfl) ?_
                  refine OkOps.q (triQ (x := .c (.d (.v (.bool (decide (x26 < 0)))))) rfl trivial rfl) ?_
                  refine OkOps.nil ?_
                  refine Ok.cond (b := decide (x26 < 0)) rfl (fun h27 => ?_) (fun h27 => ?_)
                  · have hr := selT h27 hr
                    refine Ok.exit ?_
                    exact ⟨(s19.2.1, s19.2.2), hr, (Conv.mk (tau []) ⟨⟨_, rfl, .inl rfl⟩, ⟨_, rfl, .inl rfl⟩, ⟨_, rfl, .inl rfl⟩, ⟨_, rfl, .inl rfl⟩, ⟨_, rfl, .inl rfl⟩, ⟨_, rfl, .inl rfl⟩, trivial⟩ ⟨rfl, rfl, trivial⟩ rfl rfl rfl rfl)⟩
                  · have hr := selF h27 hr
                    refine Ok.skip ?_
                    refine Ok.seq ?_
                    refine Ok.region ?_
                    refine OkOps.q (triQ (x := .c (.own 1063)) rfl trivial rfl) ?_
                    refine OkOps.q (triQ (x := .c (.d (.v (.int .i64 s8.1)))) rfl trivial rfl) ?_
                    refine OkOps.q (triQ (x := .c (.d (.sl (List.map (eInt .i64) x14)))) rfl trivial rfl) ?_
                    refine OkOps.q (triQ (x := .c (.d (.v (.int .i64 s19.1)))) rfl trivial rfl) ?_
                    obtain ⟨x28, hx28, hr⟩ := bind_some hr
                    refine OkOps.q (triIdx (enc := (eInt .i64)) (L := x14) (row := [.v (.int .i64 x28)]) hx28 rfl rfl rfl rfl (fun _ => rfl) trivial rfl) ?_
                    refine OkOps.q (triQ (x := .c (.d (.v (.int .i64 x28)))) rfl trivial rfl) ?_
                    refine OkOps.m 0 (triBST (sz := 1) (enc := (eInt .i64)) (j := 3) ([x28]) rfl rfl rfl rfl rfl rfl rfl rfl (fun _ => rfl) trivial rfl rfl) ?_
                    obtain ⟨x29, hx29, hr⟩ := bind_some hr
                    refine OkOps.q (triIdxV (enc := (eSl (eInt .i64))) (L := s19.2.2) hx29 rfl rfl rfl rfl trivial rfl) ?_
                    refine OkOps.w (triStoreV (enc := (eSl (eInt .i64))) (L := s19.2.2) ([x28]) (.inr (ixO_spec hx29).2) rfl rfl rfl rfl rfl rfl (fun _ => rfl) rfl) ?_
                    refine OkOps.nil ?_
                    refine Ok.seq ?_
                    refine Ok.region ?_
                    refine OkOps.q (triQ (x := .c (.own 1063)) rfl trivial rfl) ?_
                    refine OkOps.q (triQ (x := .c (.d (.v (.int .i64 s8.1)))) rfl trivial rfl) ?_
                    obtain ⟨x30, hx30, hr⟩ := bind_some hr
                    refine OkOps.q (triLoan (r32_firm_c _ _ hx30) rfl ⟨.inr ⟨_, _, _, rfl, rfl, rfl⟩, .inl (.inl rfl), trivial⟩ trivial entry53 rfl rfl rfl) ?_
                    refine OkOps.q (triQ (x := .c (.d (.v (.bool x30)))) rfl trivial rfl) ?_
                    refine OkOps.q (triQG (x := .c (.own 1063)) rfl rfl trivial rfl) ?_
                    obtain ⟨x31, hx31, hr⟩ := bind_some hr
                    refine OkOps.q (triLoanG (x := .c (.d (.v (.int .i64 x31)))) (fun hg => r32_most_c _ (gO_t hx31 hg)) rfl rfl ⟨.inr ⟨_, _, _, rfl, rfl, rfl⟩, trivial⟩ ⟨fun h => h, trivial⟩ entry52 rfl rfl rfl) ?_
                    refine OkOps.q (triQG (x := .c (.d (.v (.int .i64 x5)))) rfl rfl trivial rfl) ?_
                    refine OkOps.q (triQG (x := .c (.d (.v (.bool (x31 == x5))))) rfl rfl ⟨fun h => h, ⟨fun h => h, trivial⟩⟩ rfl) ?_
                    refine OkOps.q (triAnd rfl rfl (fun h => h) rfl) ?_
                    refine OkOps.nil ?_
                    refine Ok.cond (b := x30 && (x31 == x5)) rfl (fun h32 => ?_) (fun h32 => ?_)
                    · have hr := selT h32 hr
                      refine Ok.region ?_
                      refine OkOps.q (triQ (x := .c (.own 1)) rfl trivial rfl) ?_
                      refine OkOps.q (triQ (x := .c (.d (.v (.int .i64 s8.1)))) rfl trivial rfl) ?_
                      refine OkOps.q (triQ (x := .c (.d (.v (.int .i64 s19.1)))) rfl trivial rfl) ?_
                      obtain ⟨x33, hx33, hr⟩ := bind_some hr
                      refine OkOps.q (triIdxV (enc := (eInt .i64)) (L := s19.2.1) hx33 rfl rfl rfl rfl trivial rfl) ?_
                      refine OkOps.w (triStoreV (enc := (eInt .i64)) (L := s19.2.1) s19.1 (.inr (ixO_spec hx33).2) rfl rfl rfl rfl rfl rfl (fun _ => rfl) rfl) ?_
                      refine OkOps.nil ?_
                      exact ⟨(List.set s19.2.1 x33 s19.1, List.set s19.2.2 x29 ([x28])), hr, (Conv.mk (tau []) ⟨⟨_, rfl, .inl rfl⟩, ⟨_, rfl, .inl rfl⟩, ⟨_, rfl, .inl rfl⟩, ⟨_, rfl, .inl rfl⟩, ⟨_, rfl, .inl rfl⟩, ⟨_, rfl, .inl rfl⟩, trivial⟩ ⟨rfl, rfl, trivial⟩ rfl rfl rfl rfl)⟩
                    · have hr := selF h32 hr
                      refine Ok.region ?_
                      refine OkOps.q (triQ (x := .c (.own 1063)) rfl trivial rfl) ?_
                      refine OkOps.q (triQ (x := .c (.d (.v (.int .i64 s8.1)))) rfl trivial rfl) ?_
                      obtain ⟨x34, hx34, hr⟩ := bind_some hr
                      refine OkOps.q (triIdxV (enc := (eSl (eInt .i64))) (L := List.set s19.2.2 x29 ([x28])) hx34 rfl rfl rfl rfl trivial rfl) ?_
                      refine OkOps.w (triStoreV (enc := (eSl (eInt .i64))) (L := List.set s19.2.2 x29 ([x28])) ([] : (List Int)) (.inr (ixO_spec hx34).2) rfl rfl rfl rfl rfl rfl (fun _ => rfl) rfl) ?_
                      refine OkOps.nil ?_
                      exact ⟨(s19.2.1, List.set (List.set s19.2.2 x29 ([x28])) x34 ([] : (List Int))), hr, (Conv.mk (tau []) ⟨⟨_, rfl, .inl rfl⟩, ⟨_, rfl, .inl rfl⟩, ⟨_, rfl, .inl rfl⟩, ⟨_, rfl, .inl rfl⟩, ⟨_, rfl, .inl rfl⟩, ⟨_, rfl, .inl rfl⟩, trivial⟩ ⟨rfl, rfl, trivial⟩ rfl rfl rfl rfl)⟩
              · have hr := selF h23 hr
                refine Ok.exit ?_
                exact ⟨(s19.2.1, s19.2.2), hr, (Conv.mk (tau []) ⟨⟨_, rfl, .inl rfl⟩, ⟨_, rfl, .inl rfl⟩, ⟨_, rfl, .inl rfl⟩, ⟨_, rfl, .inl rfl⟩, trivial⟩ ⟨rfl, rfl, trivial⟩ rfl rfl rfl rfl)⟩
        · have hr := selF h10 hr
          refine Ok.exit ?_
          exact ⟨s8.2.1, hr, (Conv.mk (tau []) ⟨⟨_, rfl, .inl rfl⟩, trivial⟩ ⟨rfl, trivial⟩ rfl rfl rfl rfl)⟩
    · clear hk3
      refine Ok.seq ?_
      refine Ok.region ?_
      refine OkOps.q (triQ (x := .c (.d (.v (.int .i64 0)))) rfl trivial rfl) ?_
      refine OkOps.nil ?_
      refine Ok.block ?_
      refine Ok.loopK (fun (s35 : (List (List Int)) × Int) => ⟨[(0, .s (.c (.d (.sl (List.map eStr a0))))), (4, .s (.c (.own 1085))), (5, .s (.c (.d (.v (.int .i64 s35.2)))))], [(1085, .vec 1 (List.map (eSl (eInt .i64)) s35.1))], 0⟩) hr (Conv.mk (tau [(1085, 0)]) ⟨⟨_, rfl, .inl rfl⟩, ⟨_, rfl, .inl rfl⟩, ⟨_, rfl, .inl rfl⟩, trivial⟩ ⟨rfl, trivial⟩ rfl rfl rfl rfl) ?_
      clear hr
      intro again36 s35 hr
      unfold r32_Mnemonics_L4 at hr
      refine Ok.seq ?_
      refine Ok.seq ?_
      refine Ok.region ?_
      refine OkOps.q (triQ (x := .c (.d (.v (.int .i64 s35.2)))) rfl trivial rfl) ?_
      refine OkOps.q (triQ (x := .c (.d (.sl (List.map eStr a0)))) rfl trivial rfl) ?_
      refine OkOps.q (triLen (enc := eStr) a0 rfl rfl trivial rfl) ?_
      refine OkOps.q (triQ (x := .c (.d (.v (.bool (decide (s35.2 < (a0.length : Int))))))) rfl trivial rfl) ?_
      refine OkOps.nil ?_
      refine Ok.cond (b := decide (s35.2 < (a0.length : Int))) rfl (fun h37 => ?_) (fun h37 => ?_)
      · have hr := selT h37 hr
        refine Ok.skip ?_
        obtain ⟨k39, hk39, hr⟩ := jn_some hr
        refine Ok.join (fun (s38 : (List (List Int))) => ⟨[(0, .s (.c (.d (.sl (List.map eStr a0))))), (4, .s (.c (.own 5))), (5, .s (.c (.d (.v (.int .i64 s35.2)))))], [(5, .vec 1 (List.map (eSl (eInt .i64)) s38))], 0⟩) k39 r (fun s38 hr => ?_) ?_
        · rw [hk39] at hr
          refine Ok.region ?_
          refine OkOps.q (triQ (x := .c (.d (.v (.int .i64 s35.2)))) rfl trivial rfl) ?_
          refine OkOps.q (triQ (x := .c (.d (.v (.int .i64 (IntKind.i64.wrap (s35.2 + 1)))))) rfl trivial rfl) ?_
          refine OkOps.q (triQ (x := .c (.d (.v (.int .i64 (IntKind.i64.wrap (s35.2 + 1)))))) rfl trivial rfl) ?_
          refine OkOps.nil ?_
          exact ⟨(s38, IntKind.i64.wrap (s35.2 + 1)), hr, (Conv.mk (tau [(1085, 5)]) ⟨⟨_, rfl, .inl rfl⟩, ⟨_, rfl, .inl rfl⟩, ⟨_, rfl, .inl rfl⟩, trivial⟩ ⟨rfl, trivial⟩ rfl rfl rfl rfl)⟩
        · clear hk39
          refine Ok.block ?_
          refine Ok.seq ?_
          refine Ok.seq ?_
          refine Ok.region ?_
          refine OkOps.q (triQ (x := .c (.d (.sl (List.map eStr a0)))) rfl trivial rfl) ?_
          refine OkOps.q (triQ (x := .c (.d (.v (.int .i64 s35.2)))) rfl trivial rfl) ?_
          obtain ⟨x40, hx40, hr⟩ := bind_some hr
          refine OkOps.q (triIdx (enc := eStr) (L := a0) (row := [.v (.string x40)]) hx40 rfl rfl rfl rfl (fun _ => rfl) trivial rfl) ?_
          refine OkOps.q (triQ (x := .c (.d (.v (.string x40)))) rfl trivial rfl) ?_
          refine OkOps.q (triQ (x := .c (.d (.v (.int .i64 (x40.size : Int))))) rfl trivial rfl) ?_
          refine OkOps.q (triQ (x := .c (.d (.v (.bool (decide ((x40.size : Int) > 2000)))))) rfl trivial rfl) ?_
          refine OkOps.nil ?_
          refine Ok.cond (b := decide ((x40.size : Int) > 2000)) rfl (fun h41 => ?_) (fun h41 => ?_)
          · have hr := selT h41 hr
            refine Ok.seq ?_
            refine Ok.region ?_
            refine OkOps.q (triQ (x := .c (.d (.v (.slice none 0 0)))) rfl trivial rfl) ?_
            refine OkOps.q (triQ (x := .c (.d (.v (.int .i64 2)))) rfl trivial rfl) ?_
            refine OkOps.nil ?_
            refine Ok.ret ?_
            obtain rfl := Option.some.inj hr
            exact ⟨_, rfl, .inr rfl, trivial⟩
          · have hr := selF h41 hr
            refine Ok.skip ?_
            refine Ok.seq ?_
            refine Ok.region ?_
            refine OkOps.q (triQ (x := .c (.d (.sl (List.map eStr a0)))) rfl trivial rfl) ?_
            refine OkOps.q (triQ (x := .c (.d (.v (.int .i64 s35.2)))) rfl trivial rfl) ?_
            obtain ⟨x42, hx42, hr⟩ := bind_some hr
            refine OkOps.q (triIdx (enc := eStr) (L := a0) (row := [.v (.string x42)]) hx42 rfl rfl rfl rfl (fun _ => rfl) trivial rfl) ?_
            refine OkOps.q (triQ (x := .c (.d (.v (.string x42)))) rfl trivial rfl) ?_
            refine OkOps.q (triRunes rfl rfl trivial rfl) ?_
            refine OkOps.q (triQ (x := .c (.d (.sl (List.map (eInt .i32) (runes x42))))) rfl trivial rfl) ?_
            refine OkOps.nil ?_
            refine Ok.seq ?_
            refine Ok.region ?_
            refine OkOps.q (triQ (x := .c (.d (.v (.slice none 0 0)))) rfl trivial rfl) ?_
            refine OkOps.nil ?_
            obtain ⟨k44, hk44, hr⟩ := jn_some hr
            refine Ok.join (fun (s43 : (List Int)) => ⟨[(0, .s (.c (.d (.sl (List.map eStr a0))))), (4, .s (.c (.own 1085))), (5, .s (.c (.d (.v (.int .i64 s35.2))))), (7, .s (.c (.tl 1121 (List.map (eInt .i64) s43))))], [(1085, .vec 1 (List.map (eSl (eInt .i64)) s35.1)), (1121, .tail 1)], 0⟩) k44 r (fun s43 hr => ?_) ?_
            · rw [hk44] at hr
              refine Ok.region ?_
              refine OkOps.q (triQ (x := .c (.own 1085)) rfl trivial rfl) ?_
              refine OkOps.q (triQ (x := .c (.tl 1121 (List.map (eInt .i64) s43))) rfl trivial rfl) ?_
              refine OkOps.m 0 (triBST (sz := 1) (enc := (eSl (eInt .i64))) (j := 4) ([s43]) rfl rfl rfl rfl rfl rfl rfl rfl (fun _ => rfl) trivial rfl rfl) ?_
              obtain ⟨x45, hx45, hr⟩ := bind_some hr
              refine OkOps.m2 0 (triAppV (enc := (eSl (eInt .i64))) (L := s35.1) (X := [s43]) (j := 1085) (j' := 5) hx45 rfl rfl rfl rfl rfl rfl (fun _ => rfl) (fun _ => rfl) trivial rfl rfl) ?_
              refine OkOps.q (triQ (x := .c (.own 5)) rfl trivial rfl) ?_
              refine OkOps.nil ?_
              exact ⟨x45, hr, (Conv.mk (tau []) ⟨⟨_, rfl, .inl rfl⟩, ⟨_, rfl, .inl rfl⟩, ⟨_, rfl, .inl rfl⟩, trivial⟩ ⟨rfl, trivial⟩ rfl rfl rfl rfl)⟩
            · clear hk44
              refine Ok.seq ?_
              refine Ok.region ?_
              refine OkOps.q (triQ (x := .c (.d (.v (.int .i64 0)))) rfl trivial rfl) ?_
              refine OkOps.nil ?_
              refine Ok.block ?_
              refine Ok.loopK (fun (s46 : (List Int) × Int) => ⟨[(0, .s (.c (.d (.sl (List.map eStr a0))))), (4, .s (.c (.own 1085))), (5, .s (.c (.d (.v (.int .i64 s35.2))))), (6, .s (.c (.d (.sl (List.map (eInt .i32) (runes x42)))))), (7, .s (.c (.tl 1124 (List.map (eInt .i64) s46.1)))), (8, .s (.c (.d (.v (.int .i64 s46.2)))))], [(1085, .vec 1 (List.map (eSl (eInt .i64)) s35.1)), (1124, .tail 1)], 0⟩) hr (Conv.trans (Conv.nil 7 1126 1 0 rfl rfl) (Conv.mk (tau [(1124, 1126)]) ⟨⟨_, rfl, .inl rfl⟩, ⟨_, rfl, .inl rfl⟩, ⟨_, rfl, .inl rfl⟩, ⟨_, rfl, .inl rfl⟩, ⟨_, rfl, .inl rfl⟩, ⟨_, rfl, .inl rfl⟩, trivial⟩ ⟨rfl, rfl, trivial⟩ rfl rfl rfl rfl)) ?_
              clear hr
              intro again47 s46 hr
              unfold r32_Mnemonics_L3 at hr
              refine Ok.seq ?_
              refine Ok.seq ?_
              refine Ok.region ?_
              refine OkOps.q (triQ (x := .c (.d (.v (.int .i64 s46.2)))) rfl trivial rfl) ?_
              refine OkOps.q (triQ (x := .c (.d (.sl (List.map (eInt .i32) (runes x42))))) rfl trivial rfl) ?_
              refine OkOps.q (triLen (enc := (eInt .i32)) (runes x42) rfl rfl trivial rfl) ?_
              refine OkOps.q (triQ (x := .c (.d (.v (.bool (decide (s46.2 < ((runes x42).length : Int))))))) rfl trivial rfl) ?_
              refine OkOps.nil ?_
              refine Ok.cond (b := decide (s46.2 < ((runes x42).length : Int))) rfl (fun h48 => ?_) (fun h48 => ?_)
              · have hr := selT h48 hr
                refine Ok.skip ?_
                refine Ok.seq ?_
                refine Ok.block ?_
                refine Ok.region ?_
                refine OkOps.q (triQ (x := .c (.tl 1124 (List.map (eInt .i64) s46.1))) rfl trivial rfl) ?_
                refine OkOps.q (triQ (x := .c (.d (.sl (List.map (eInt .i32) (runes x42))))) rfl trivial rfl) ?_
                refine OkOps.q (triQ (x := .c (.d (.v (.int .i64 s46.2)))) rfl trivial rfl) ?_
                obtain ⟨x49, hx49, hr⟩ := bind_some hr
                refine OkOps.q (triIdx (enc := (eInt .i32)) (L := runes x42) (row := [.v (.int .i32 x49)]) hx49 rfl rfl rfl rfl (fun _ => rfl) trivial rfl) ?_
                refine OkOps.q (triQ (x := .c (.d (.v (.int .i32 x49)))) rfl trivial rfl) ?_
                obtain ⟨x50, hx50, hr⟩ := bind_some hr
                refine OkOps.q (triCall (tau []) (.s (.c (.d (.v (.int .i64 x50))))) [] (r32_letter_c _ hx50) rfl ⟨.inl rfl, trivial⟩ trivial entry51 trivial rfl rfl rfl rfl trivial rfl rfl rfl) ?_
                refine OkOps.m 0 (triBST (sz := 1) (enc := (eInt .i64)) (j := 6) ([x50]) rfl rfl rfl rfl rfl rfl rfl rfl (fun _ => rfl) trivial rfl rfl) ?_
                obtain ⟨x51, hx51, hr⟩ := bind_some hr
                refine OkOps.m2 0 (triApp (enc := (eInt .i64)) (L := s46.1) (X := [x50]) (j := 1124) (j' := 7) hx51 rfl rfl rfl rfl rfl rfl (fun _ => rfl) (fun _ => rfl) (by decide) trivial rfl rfl) ?_
                refine OkOps.q (triQ (x := .c (.tl 7 (List.map (eInt .i64) x51))) rfl trivial rfl) ?_
                refine OkOps.nil ?_
                refine Ok.region ?_
                refine OkOps.q (triQ (x := .c (.d (.v (.int .i64 s46.2)))) rfl trivial rfl) ?_
                refine OkOps.q (triQ (x := .c (.d (.v (.int .i64 (IntKind.i64.wrap (s46.2 + 1)))))) rfl trivial rfl) ?_
                refine OkOps.q (triQ (x := .c (.d (.v (.int .i64 (IntKind.i64.wrap (s46.2 + 1)))))) rfl trivial rfl) ?_
                refine OkOps.nil ?_
                exact ⟨(x51, IntKind.i64.wrap (s46.2 + 1)), hr, (Conv.mk (tau [(1124, 7)]) ⟨⟨_, rfl, .inl rfl⟩, ⟨_, rfl, .inl rfl⟩, ⟨_, rfl, .inl rfl⟩, ⟨_, rfl, .inl rfl⟩, ⟨_, rfl, .inl rfl⟩, ⟨_, rfl, .inl rfl⟩, trivial⟩ ⟨rfl, rfl, trivial⟩ rfl rfl rfl rfl)⟩
              · have hr := selF h48 hr
                refine Ok.exit ?_
                exact ⟨s46.1, hr, (Conv.mk (tau [(1121, 1124)]) ⟨⟨_, rfl, .inl rfl⟩, ⟨_, rfl, .inl rfl⟩, ⟨_, rfl, .inl rfl⟩, ⟨_, rfl, .inl rfl⟩, trivial⟩ ⟨rfl, rfl, trivial⟩ rfl rfl rfl rfl)⟩
      · have hr := selF h37 hr
        refine Ok.exit ?_
        exact ⟨s35.1, hr, (Conv.mk (tau [(1063, 1085)]) ⟨⟨_, rfl, .inl rfl⟩, trivial⟩ ⟨rfl, trivial⟩ rfl rfl rfl rfl)⟩
theorem entry18 : Entry Tryd.prog 18 := ⟨_, Tryd.func18, by kernel_rfl, by kernel_rfl⟩
theorem l32_fold_c (p_r : Int) {r : Int} (hr : l32_fold p_r = some r) : Con Tryd.prog 20 [.c (.d (.v (.int .i32 p_r)))] [] (.s (.c (.d (.v (.int .i32 r))))) [] := by
  unfold l32_fold at hr
  refine Con.of_ok 29 0 [.tmp 2] [(0, .s (.c (.d (.v (.int .i32 p_r)))))] Tryd.func20 rfl rfl rfl rfl rfl rfl rfl rfl fun w g M ρ => ?_
  refine Ok.seq ?_
  refine Ok.region ?_
  refine OkOps.q (triQ (x := .c (.d (.v (.int .i32 0)))) rfl trivial rfl) ?_
  refine OkOps.nil ?_
  refine Ok.seq ?_
  refine Ok.block ?_
  refine Ok.seq ?_
  refine Ok.region ?_
  refine OkOps.q (triQ (x := .c (.d (.v (.int .i32 p_r)))) rfl trivial rfl) ?_
  refine OkOps.q (triQ (x := .c (.d (.v (.bool (decide (p_r ≥ 65)))))) rfl trivial rfl) ?_
  refine OkOps.q (triQ (x := .c (.d (.v (.bool (decide (p_r ≥ 65)))))) rfl trivial rfl) ?_
  refine OkOps.q (triQG (x := .c (.d (.v (.int .i32 p_r)))) rfl rfl trivial rfl) ?_
  refine OkOps.q (triQG (x := .c (.d (.v (.bool (decide (p_r ≤ 90)))))) rfl rfl ⟨fun h => h, trivial⟩ rfl) ?_
  refine OkOps.q (triAnd rfl rfl (fun h => h) rfl) ?_
  refine OkOps.q (triQ (x := .c (.d (.v (.bool ((decide (p_r ≥ 65)) && (decide (p_r ≤ 90))))))) rfl trivial rfl) ?_
  refine OkOps.nil ?_
  refine Ok.cond (b := (decide (p_r ≥ 65)) && (decide (p_r ≤ 90))) rfl (fun h1 => ?_) (fun h1 => ?_)
  · have hr := selT h1 hr
    refine Ok.seq ?_
    refine Ok.region ?_
    refine OkOps.q (triQ (x := .c (.d (.v (.int .i32 p_r)))) rfl trivial rfl) ?_
    refine OkOps.q (triQ (x := .c (.d (.v (.int .i32 (IntKind.i32.wrap (p_r - 65)))))) rfl trivial rfl) ?_
    refine OkOps.q (triQ (x := .c (.d (.v (.int .i32 (IntKind.i32.wrap ((IntKind.i32.wrap (p_r - 65)) + 97)))))) rfl trivial rfl) ?_
    refine OkOps.q (triQ (x := .c (.d (.v (.int .i32 (IntKind.i32.wrap ((IntKind.i32.wrap (p_r - 65)) + 97)))))) rfl trivial rfl) ?_
    refine OkOps.nil ?_
    refine Ok.ret ?_
    obtain rfl := Option.some.inj hr
    exact ⟨_, rfl, .inl rfl, trivial⟩
  · have hr := selF h1 hr
    refine Ok.seq ?_
    refine Ok.region ?_
    refine OkOps.q (triQ (x := .c (.d (.v (.int .i32 p_r)))) rfl trivial rfl) ?_
    refine OkOps.q (triQ (x := .c (.d (.v (.bool (decide (p_r ≥ 97)))))) rfl trivial rfl) ?_
    refine OkOps.q (triQ (x := .c (.d (.v (.bool (decide (p_r ≥ 97)))))) rfl trivial rfl) ?_
    refine OkOps.q (triQG (x := .c (.d (.v (.int .i32 p_r)))) rfl rfl trivial rfl) ?_
    refine OkOps.q (triQG (x := .c (.d (.v (.bool (decide (p_r ≤ 122)))))) rfl rfl ⟨fun h => h, trivial⟩ rfl) ?_
    refine OkOps.q (triAnd rfl rfl (fun h => h) rfl) ?_
    refine OkOps.q (triQ (x := .c (.d (.v (.bool ((decide (p_r ≥ 97)) && (decide (p_r ≤ 122))))))) rfl trivial rfl) ?_
    refine OkOps.q (triQG (x := .c (.d (.v (.int .i32 p_r)))) rfl rfl trivial rfl) ?_
    refine OkOps.q (triQG (x := .c (.d (.v (.bool (decide (p_r ≥ 48)))))) rfl rfl ⟨fun h => h, trivial⟩ rfl) ?_
    refine OkOps.q (triQG (x := .c (.d (.v (.bool (decide (p_r ≥ 48)))))) rfl rfl ⟨fun h => h, trivial⟩ rfl) ?_
    refine OkOps.q (triQG (x := .c (.d (.v (.int .i32 p_r)))) rfl rfl trivial rfl) ?_
    refine OkOps.q (triQG (x := .c (.d (.v (.bool (decide (p_r ≤ 57)))))) rfl rfl ⟨fun h => h, trivial⟩ rfl) ?_
    refine OkOps.q (triAndG rfl rfl rfl (fun h => h) (fun h h2 => by rw [h, h2]; rfl) rfl) ?_
    refine OkOps.q (triOr rfl rfl (fun h => by rw [h]; rfl) rfl) ?_
    refine OkOps.q (triQ (x := .c (.d (.v (.bool (((decide (p_r ≥ 97)) && (decide (p_r ≤ 122))) || ((decide (p_r ≥ 48)) && (decide (p_r ≤ 57)))))))) rfl trivial rfl) ?_
    refine OkOps.nil ?_
    refine Ok.cond (b := ((decide (p_r ≥ 97)) && (decide (p_r ≤ 122))) || ((decide (p_r ≥ 48)) && (decide (p_r ≤ 57)))) rfl (fun h2 => ?_) (fun h2 => ?_)
    · have hr := selT h2 hr
      refine Ok.seq ?_
      refine Ok.region ?_
      refine OkOps.q (triQ (x := .c (.d (.v (.int .i32 p_r)))) rfl trivial rfl) ?_
      refine OkOps.q (triQ (x := .c (.d (.v (.int .i32 p_r)))) rfl trivial rfl) ?_
      refine OkOps.nil ?_
      refine Ok.ret ?_
      obtain rfl := Option.some.inj hr
      exact ⟨_, rfl, .inl rfl, trivial⟩
    · have hr := selF h2 hr
      refine Ok.skip ?_
      refine Ok.seq ?_
      refine Ok.region ?_
      refine OkOps.q (triQ (x := .c (.d (.v (.int .i32 0)))) rfl trivial rfl) ?_
      refine OkOps.nil ?_
      refine Ok.ret ?_
      obtain rfl := Option.some.inj hr
      exact ⟨_, rfl, .inl rfl, trivial⟩
theorem entry20 : Entry Tryd.prog 20 := ⟨_, Tryd.func20, by kernel_rfl, by kernel_rfl⟩
end Go.Proofs.YtodddfoehcfcnaaDoor

import Derived.Test.YtodddfoehcfcnaaDoorA3
import Derived.Test.YtodddfoehcfcnaaDoorW2
import Derived.Test.YtodddfoehcfcnaaDoorProg
import Derived.KernelRfl
set_option maxRecDepth 100000
namespace Go.Proofs.YtodddfoehcfcnaaDoor
open Go Go.E2
theorem ext176 (s : Str) (c : Int) : ExtP Tryd.prog 176 [.string s, .int .u8 c] (.int .i64 (idxByte s c)) := ext_of (e := Extern.BytealgIndexByte.indexByte) Tryd.func176 (by kernel_rfl) (by kernel_rfl) (by kernel_rfl) (by kernel_rfl) (idxByte_run s c)
theorem ext159 (s : Str) (c : Int) : ExtP Tryd.prog 159 [.string s, .int .u8 c] (.int .i64 (cntByte s c)) := ext_of (e := Extern.BytealgCount.count) Tryd.func159 (by kernel_rfl) (by kernel_rfl) (by kernel_rfl) (by kernel_rfl) (cntByte_run s c)
theorem stringslite_IndexByte_c (p_s : Str) (c : Int) {r : Int} (hr : stringslite_IndexByte p_s c = some r) : Con Tryd.prog 168 [.c (.d (.v (.string p_s))), .c (.d (.v (.int .u8 c)))] [] (.s (.c (.d (.v (.int .i64 r))))) [] := by
  unfold stringslite_IndexByte at hr
  refine Con.of_ok 8 0 [.tmp 4] [(0, .s (.c (.d (.v (.string p_s))))), (1, .s (.c (.d (.v (.int .u8 c)))))] Tryd.func168 rfl rfl rfl rfl rfl rfl rfl rfl fun w g M ρ => ?_
  refine Ok.seq ?_
  refine Ok.region ?_
  refine OkOps.q (triQ (x := .c (.d (.v (.int .i64 0)))) rfl trivial rfl) ?_
  refine OkOps.nil ?_
  refine Ok.seq ?_
  refine Ok.region ?_
  refine OkOps.q (triQ (x := .c (.d (.v (.string p_s)))) rfl trivial rfl) ?_
  refine OkOps.q (triQ (x := .c (.d (.v (.int .u8 c)))) rfl trivial rfl) ?_
  refine OkOps.q (triExt (x := .c (.d (.v (.int .i64 (idxByte p_s c))))) (ext176 _ _) rfl rfl trivial rfl) ?_
  refine OkOps.q (triQ (x := .c (.d (.v (.int .i64 (idxByte p_s c))))) rfl trivial rfl) ?_
  refine OkOps.nil ?_
  refine Ok.ret ?_
  obtain rfl := Option.some.inj hr
  exact ⟨_, rfl, .inl rfl, trivial⟩
theorem entry168 : Entry Tryd.prog 168 := ⟨_, Tryd.func168, by kernel_rfl, by kernel_rfl⟩
theorem stringslite_Index_c (a0 : Str) (a1 : Str) {r : Int} (hr : stringslite_Index a0 a1 = some r) : Con Tryd.prog 160 [.c (.d (.v (.string a0))), .c (.d (.v (.string a1)))] [] (.s (.c (.d (.v (.int .i64 r))))) [] := by
  unfold stringslite_Index at hr
  refine Con.of_ok 143 0 [.tmp 4] [(0, .s (.c (.d (.v (.string a0))))), (1, .s (.c (.d (.v (.string a1)))))] Tryd.func160 rfl rfl rfl rfl rfl rfl rfl rfl fun w g M ρ => ?_
  refine Ok.seq ?_
  refine Ok.region ?_
  refine OkOps.q (triQ (x := .c (.d (.v (.int .i64 0)))) rfl trivial rfl) ?_
  refine OkOps.nil ?_
  refine Ok.seq ?_
  refine Ok.region ?_
  refine OkOps.q (triQ (x := .c (.d (.v (.string a1)))) rfl trivial rfl) ?_
  refine OkOps.q (triQ (x := .c (.d (.v (.int .i64 (a1.size : Int))))) rfl trivial rfl) ?_
  refine OkOps.q (triQ (x := .c (.d (.v (.int .i64 (a1.size : Int))))) rfl trivial rfl) ?_
  refine OkOps.nil ?_
  refine Ok.seq ?_
  refine Ok.block ?_
  refine Ok.seq ?_
  refine Ok.region ?_
  refine OkOps.q (triQ (x := .c (.d (.v (.int .i64 (a1.size : Int))))) rfl trivial rfl) ?_
  refine OkOps.q (triQ (x := .c (.d (.v (.bool ((a1.size : Int) == 0))))) rfl trivial rfl) ?_
  refine OkOps.q (triQ (x := .c (.d (.v (.bool ((a1.size : Int) == 0))))) rfl trivial rfl) ?_
  refine OkOps.q (triQG (x := .c (.d (.v (.string a1)))) rfl rfl trivial rfl) ?_
  refine OkOps.q (triQG (x := .c (.d (.v (.string a0)))) rfl rfl trivial rfl) ?_
  refine OkOps.q (triQG (x := .c (.d (.v (.bool (a1.toList == a0.toList))))) rfl rfl ⟨fun h => h, ⟨fun h => h, trivial⟩⟩ rfl) ?_
  refine OkOps.q (triOr rfl rfl (fun h => by rw [h]; rfl) rfl) ?_
  refine OkOps.q (triQ (x := .c (.d (.v (.bool (((a1.size : Int) == 0) || (a1.toList == a0.toList)))))) rfl trivial rfl) ?_
  refine OkOps.nil ?_
  refine Ok.cond (b := ((a1.size : Int) == 0) || (a1.toList == a0.toList)) rfl (fun h1 => ?_) (fun h1 => ?_)
  · have hr := selT h1 hr
    refine Ok.seq ?_
    refine Ok.region ?_
    refine OkOps.q (triQ (x := .c (.d (.v (.int .i64 0)))) rfl trivial rfl) ?_
    refine OkOps.nil ?_
    refine Ok.ret ?_
    obtain rfl := Option.some.inj hr
    exact ⟨_, rfl, .inl rfl, trivial⟩
  · have hr := selF h1 hr
    refine Ok.seq ?_
    refine Ok.region ?_
    refine OkOps.q (triQ (x := .c (.d (.v (.int .i64 (a1.size : Int))))) rfl trivial rfl) ?_
    refine OkOps.q (triQ (x := .c (.d (.v (.bool ((a1.size : Int) == 1))))) rfl trivial rfl) ?_
    refine OkOps.q (triQ (x := .c (.d (.v (.bool ((a1.size : Int) == 1))))) rfl trivial rfl) ?_
    refine OkOps.nil ?_
    refine Ok.cond (b := (a1.size : Int) == 1) rfl (fun h2 => ?_) (fun h2 => ?_)
    · have hr := selT h2 hr
      refine Ok.seq ?_
      refine Ok.region ?_
      refine OkOps.q (triQ (x := .c (.d (.v (.string a0)))) rfl trivial rfl) ?_
      refine OkOps.q (triQ (x := .c (.d (.v (.string a1)))) rfl trivial rfl) ?_
      obtain ⟨x3, hx3, hr⟩ := bind_some hr
      refine OkOps.q (triSIdx hx3 rfl rfl rfl trivial rfl) ?_
      obtain ⟨x4, hx4, hr⟩ := bind_some hr
      refine OkOps.q (triCall (tau []) (.s (.c (.d (.v (.int .i64 x4))))) [] (stringslite_IndexByte_c _ _ hx4) rfl ⟨.inl rfl, .inl rfl, trivial⟩ trivial entry168 trivial rfl rfl rfl rfl trivial rfl rfl rfl) ?_
      refine OkOps.q (triQ (x := .c (.d (.v (.int .i64 x4)))) rfl trivial rfl) ?_
      refine OkOps.nil ?_
      refine Ok.ret ?_
      obtain rfl := Option.some.inj hr
      exact ⟨_, rfl, .inl rfl, trivial⟩
    · have hr := selF h2 hr
      refine Ok.seq ?_
      refine Ok.region ?_
      refine OkOps.q (triQ (x := .c (.d (.v (.int .i64 (a1.size : Int))))) rfl trivial rfl) ?_
      refine OkOps.q (triQ (x := .c (.d (.v (.string a0)))) rfl trivial rfl) ?_
      refine OkOps.q (triQ (x := .c (.d (.v (.int .i64 (a0.size : Int))))) rfl trivial rfl) ?_
      refine OkOps.q (triQ (x := .c (.d (.v (.bool (decide ((a1.size : Int) ≥ (a0.size : Int))))))) rfl trivial rfl) ?_
      refine OkOps.q (triQ (x := .c (.d (.v (.bool (decide ((a1.size : Int) ≥ (a0.size : Int))))))) rfl trivial rfl) ?_
      refine OkOps.nil ?_
      refine Ok.cond (b := decide ((a1.size : Int) ≥ (a0.size : Int))) rfl (fun h5 => ?_) (fun h5 => ?_)
      · have hr := selT h5 hr
        refine Ok.seq ?_
        refine Ok.region ?_
        refine OkOps.q (triQ (x := .c (.d (.v (.int .i64 (-1))))) rfl trivial rfl) ?_
        refine OkOps.nil ?_
        refine Ok.ret ?_
        obtain rfl := Option.some.inj hr
        exact ⟨_, rfl, .inl rfl, trivial⟩
      · have hr := selF h5 hr
        refine Ok.seq ?_
        refine Ok.region ?_
        refine OkOps.q (triQ (x := .c (.d (.v (.int .i64 (a1.size : Int))))) rfl trivial rfl) ?_
        cases hr
theorem entry160 : Entry Tryd.prog 160 := ⟨_, Tryd.func160, by kernel_rfl, by kernel_rfl⟩
theorem strings_Index_c (p_s : Str) (substr : Str) {r : Int} (hr : strings_Index p_s substr = some r) : Con Tryd.prog 145 [.c (.d (.v (.string p_s))), .c (.d (.v (.string substr)))] [] (.s (.c (.d (.v (.int .i64 r))))) [] := by
  unfold strings_Index at hr
  refine Con.of_ok 8 0 [.tmp 4] [(0, .s (.c (.d (.v (.string p_s))))), (1, .s (.c (.d (.v (.string substr)))))] Tryd.func145 rfl rfl rfl rfl rfl rfl rfl rfl fun w g M ρ => ?_
  refine Ok.seq ?_
  refine Ok.region ?_
  refine OkOps.q (triQ (x := .c (.d (.v (.int .i64 0)))) rfl trivial rfl) ?_
  refine OkOps.nil ?_
  refine Ok.seq ?_
  refine Ok.region ?_
  refine OkOps.q (triQ (x := .c (.d (.v (.string p_s)))) rfl trivial rfl) ?_
  refine OkOps.q (triQ (x := .c (.d (.v (.string substr)))) rfl trivial rfl) ?_
  obtain ⟨x1, hx1, hr⟩ := bind_some hr
  refine OkOps.q (triCall (tau []) (.s (.c (.d (.v (.int .i64 x1))))) [] (stringslite_Index_c _ _ hx1) rfl ⟨.inl rfl, .inl rfl, trivial⟩ trivial entry160 trivial rfl rfl rfl rfl trivial rfl rfl rfl) ?_
  refine OkOps.q (triQ (x := .c (.d (.v (.int .i64 x1)))) rfl trivial rfl) ?_
  refine OkOps.nil ?_
  refine Ok.ret ?_
  obtain rfl := Option.some.inj hr
  exact ⟨_, rfl, .inl rfl, trivial⟩
theorem entry145 : Entry Tryd.prog 145 := ⟨_, Tryd.func145, by kernel_rfl, by kernel_rfl⟩
theorem strings_Count_c (p_s : Str) (substr : Str) {r : Int} (hr : strings_Count p_s substr = some r) : Con Tryd.prog 144 [.c (.d (.v (.string p_s))), .c (.d (.v (.string substr)))] [] (.s (.c (.d (.v (.int .i64 r))))) [] := by
  unfold strings_Count at hr
  refine Con.of_ok 34 0 [.tmp 4] [(0, .s (.c (.d (.v (.string p_s))))), (1, .s (.c (.d (.v (.string substr)))))] Tryd.func144 rfl rfl rfl rfl rfl rfl rfl rfl fun w g M ρ => ?_
  refine Ok.seq ?_
  refine Ok.region ?_
  refine OkOps.q (triQ (x := .c (.d (.v (.int .i64 0)))) rfl trivial rfl) ?_
  refine OkOps.nil ?_
  refine Ok.seq ?_
  refine Ok.seq ?_
  refine Ok.region ?_
  refine OkOps.q (triQ (x := .c (.d (.v (.string substr)))) rfl trivial rfl) ?_
  refine OkOps.q (triQ (x := .c (.d (.v (.int .i64 (substr.size : Int))))) rfl trivial rfl) ?_
  refine OkOps.q (triQ (x := .c (.d (.v (.bool ((substr.size : Int) == 0))))) rfl trivial rfl) ?_
  refine OkOps.nil ?_
  refine Ok.cond (b := (substr.size : Int) == 0) rfl (fun h1 => ?_) (fun h1 => ?_)
  · have hr := selT h1 hr
    refine Ok.seq ?_
    refine Ok.region ?_
    refine OkOps.q (triQ (x := .c (.d (.v (.string p_s)))) rfl trivial rfl) ?_
    cases hr
  · have hr := selF h1 hr
    refine Ok.skip ?_
    refine Ok.seq ?_
    refine Ok.seq ?_
    refine Ok.region ?_
    refine OkOps.q (triQ (x := .c (.d (.v (.string substr)))) rfl trivial rfl) ?_
    refine OkOps.q (triQ (x := .c (.d (.v (.int .i64 (substr.size : Int))))) rfl trivial rfl) ?_
    refine OkOps.q (triQ (x := .c (.d (.v (.bool ((substr.size : Int) == 1))))) rfl trivial rfl) ?_
    refine OkOps.nil ?_
    refine Ok.cond (b := (substr.size : Int) == 1) rfl (fun h2 => ?_) (fun h2 => ?_)
    · have hr := selT h2 hr
      refine Ok.seq ?_
      refine Ok.region ?_
      refine OkOps.q (triQ (x := .c (.d (.v (.string p_s)))) rfl trivial rfl) ?_
      refine OkOps.q (triQ (x := .c (.d (.v (.string substr)))) rfl trivial rfl) ?_
      obtain ⟨x3, hx3, hr⟩ := bind_some hr
      refine OkOps.q (triSIdx hx3 rfl rfl rfl trivial rfl) ?_
      refine OkOps.q (triExt (x := .c (.d (.v (.int .i64 (cntByte p_s x3))))) (ext159 _ _) rfl rfl trivial rfl) ?_
      refine OkOps.q (triQ (x := .c (.d (.v (.int .i64 (cntByte p_s x3))))) rfl trivial rfl) ?_
      refine OkOps.nil ?_
      refine Ok.ret ?_
      obtain rfl := Option.some.inj hr
      exact ⟨_, rfl, .inl rfl, trivial⟩
    · have hr := selF h2 hr
      refine Ok.skip ?_
      refine Ok.seq ?_
      refine Ok.region ?_
      refine OkOps.q (triQ (x := .c (.d (.v (.int .i64 0)))) rfl trivial rfl) ?_
      refine OkOps.nil ?_
      refine Ok.block ?_
      refine Ok.loopK (fun (s4 : Str × Int) => ⟨[(0, .s (.c (.d (.v (.string s4.1))))), (1, .s (.c (.d (.v (.string substr))))), (5, .s (.c (.d (.v (.int .i64 s4.2)))))], [], 0⟩) hr (Conv.mk (tau []) ⟨⟨_, rfl, .inl rfl⟩, ⟨_, rfl, .inl rfl⟩, ⟨_, rfl, .inl rfl⟩, trivial⟩ trivial rfl rfl rfl rfl) ?_
      clear hr
      intro again5 s4 hr
      unfold strings_Count_L1 at hr
      refine Ok.block ?_
      refine Ok.seq ?_
      refine Ok.region ?_
      refine OkOps.q (triQ (x := .c (.d (.v (.string s4.1)))) rfl trivial rfl) ?_
      refine OkOps.q (triQ (x := .c (.d (.v (.string substr)))) rfl trivial rfl) ?_
      obtain ⟨x6, hx6, hr⟩ := bind_some hr
      refine OkOps.q (triCall (tau []) (.s (.c (.d (.v (.int .i64 x6))))) [] (strings_Index_c _ _ hx6) rfl ⟨.inl rfl, .inl rfl, trivial⟩ trivial entry145 trivial rfl rfl rfl rfl trivial rfl rfl rfl) ?_
      refine OkOps.q (triQ (x := .c (.d (.v (.int .i64 x6)))) rfl trivial rfl) ?_
      refine OkOps.nil ?_
      refine Ok.seq ?_
      refine Ok.seq ?_
      refine Ok.region ?_
      refine OkOps.q (triQ (x := .c (.d (.v (.int .i64 x6)))) rfl trivial rfl) ?_
      refine OkOps.q (triQ (x := .c (.d (.v (.bool (x6 == (-1)))))) rfl trivial rfl) ?_
      refine OkOps.nil ?_
      refine Ok.cond (b := x6 == (-1)) rfl (fun h7 => ?_) (fun h7 => ?_)
      · have hr := selT h7 hr
        refine Ok.seq ?_
        refine Ok.region ?_
        refine OkOps.q (triQ (x := .c (.d (.v (.int .i64 s4.2)))) rfl trivial rfl) ?_
        refine OkOps.q (triQ (x := .c (.d (.v (.int .i64 s4.2)))) rfl trivial rfl) ?_
        refine OkOps.nil ?_
        refine Ok.ret ?_
        obtain rfl := Option.some.inj hr
        exact ⟨_, rfl, .inl rfl, trivial⟩
      · have hr := selF h7 hr
        refine Ok.skip ?_
        refine Ok.seq ?_
        refine Ok.region ?_
        refine OkOps.q (triQ (x := .c (.d (.v (.int .i64 s4.2)))) rfl trivial rfl) ?_
        refine OkOps.q (triQ (x := .c (.d (.v (.int .i64 (IntKind.i64.wrap (s4.2 + 1)))))) rfl trivial rfl) ?_
        refine OkOps.q (triQ (x := .c (.d (.v (.int .i64 (IntKind.i64.wrap (s4.2 + 1)))))) rfl trivial rfl) ?_
        refine OkOps.nil ?_
        refine Ok.region ?_
        refine OkOps.q (triQ (x := .c (.d (.v (.string s4.1)))) rfl trivial rfl) ?_
        refine OkOps.q (triQ (x := .c (.d (.v (.int .i64 x6)))) rfl trivial rfl) ?_
        refine OkOps.q (triQ (x := .c (.d (.v (.string substr)))) rfl trivial rfl) ?_
        refine OkOps.q (triQ (x := .c (.d (.v (.int .i64 (substr.size : Int))))) rfl trivial rfl) ?_
        refine OkOps.q (triQ (x := .c (.d (.v (.int .i64 (IntKind.i64.wrap (x6 + (substr.size : Int))))))) rfl trivial rfl) ?_
        obtain ⟨x8, hx8, hr⟩ := bind_some hr
        refine OkOps.q (triSSlc hx8 rfl rfl rfl (.inr ⟨_, rfl⟩) (.inl ⟨rfl, rfl⟩) rfl trivial rfl) ?_
        refine OkOps.q (triQ (x := .c (.d (.v (.string x8)))) rfl trivial rfl) ?_
        refine OkOps.nil ?_
        exact ⟨(x8, IntKind.i64.wrap (s4.2 + 1)), hr, (Conv.mk (tau []) ⟨⟨_, rfl, .inl rfl⟩, ⟨_, rfl, .inl rfl⟩, ⟨_, rfl, .inl rfl⟩, trivial⟩ trivial rfl rfl rfl rfl)⟩
theorem entry144 : Entry Tryd.prog 144 := ⟨_, Tryd.func144, by kernel_rfl, by kernel_rfl⟩
theorem strings_genSplit_c (a0 : Str) (a1 : Str) (a2 : Int) (a3 : Int) {r : (List Str)} (hr : strings_genSplit a0 a1 a2 a3 = some r) : Con Tryd.prog 112 [.c (.d (.v (.string a0))), .c (.d (.v (.string a1))), .c (.d (.v (.int .i64 a2))), .c (.d (.v (.int .i64 a3)))] [] (.s (.c (.d (.sl (List.map eStr r))))) [] := by
  unfold strings_genSplit at hr
  refine Con.of_ok 66 0 [.tmp 8] [(0, .s (.c (.d (.v (.string a0))))), (1, .s (.c (.d (.v (.string a1))))), (2, .s (.c (.d (.v (.int .i64 a2))))), (3, .s (.c (.d (.v (.int .i64 a3)))))] Tryd.func112 rfl rfl rfl rfl rfl rfl rfl rfl fun w g M ρ => ?_
  refine Ok.seq ?_
  refine Ok.region ?_
  refine OkOps.q (triQ (x := .c (.d (.v (.slice none 0 0)))) rfl trivial rfl) ?_
  refine OkOps.nil ?_
  refine Ok.seq ?_
  refine Ok.seq ?_
  refine Ok.region ?_
  refine OkOps.q (triQ (x := .c (.d (.v (.int .i64 a3)))) rfl trivial rfl) ?_
  refine OkOps.q (triQ (x := .c (.d (.v (.bool (a3 == 0))))) rfl trivial rfl) ?_
  refine OkOps.nil ?_
  refine Ok.cond (b := a3 == 0) rfl (fun h1 => ?_) (fun h1 => ?_)
  · have hr := selT h1 hr
    refine Ok.seq ?_
    refine Ok.region ?_
    refine OkOps.q (triQ (x := .c (.d (.v (.slice none 0 0)))) rfl trivial rfl) ?_
    refine OkOps.nil ?_
    refine Ok.ret ?_
    obtain rfl := Option.some.inj hr
    exact ⟨_, rfl, .inr rfl, trivial⟩
  · have hr := selF h1 hr
    refine Ok.skip ?_
    refine Ok.seq ?_
    refine Ok.seq ?_
    refine Ok.region ?_
    refine OkOps.q (triQ (x := .c (.d (.v (.string a1)))) rfl trivial rfl) ?_
    refine OkOps.q (triQ (x := .c (.d (.v (.bool (a1.toList == (ByteArray.mk #[]).toList))))) rfl trivial rfl) ?_
    refine OkOps.nil ?_
    refine Ok.cond (b := a1.toList == (ByteArray.mk #[]).toList) rfl (fun h2 => ?_) (fun h2 => ?_)
    · have hr := selT h2 hr
      refine Ok.seq ?_
      refine Ok.region ?_
      refine OkOps.q (triQ (x := .c (.d (.v (.string a0)))) rfl trivial rfl) ?_
      refine OkOps.q (triQ (x := .c (.d (.v (.int .i64 a3)))) rfl trivial rfl) ?_
      cases hr
    · have hr := selF h2 hr
      refine Ok.skip ?_
      obtain ⟨k4, hk4, hr⟩ := jn_some hr
      refine Ok.join (fun (s3 : Int) => ⟨[(0, .s (.c (.d (.v (.string a0))))), (1, .s (.c (.d (.v (.string a1))))), (2, .s (.c (.d (.v (.int .i64 a2))))), (3, .s (.c (.d (.v (.int .i64 s3)))))], [], 0⟩) k4 r (fun s3 hr => ?_) ?_
      · rw [hk4] at hr
        refine Ok.seq ?_
        refine Ok.region ?_
        refine OkOps.q (triQ (x := .c (.d (.v (.int .i64 s3)))) rfl trivial rfl) ?_
        refine OkOps.q (triQ (x := .c (.d (.v (.string a0)))) rfl trivial rfl) ?_
        refine OkOps.q (triQ (x := .c (.d (.v (.int .i64 (a0.size : Int))))) rfl trivial rfl) ?_
        refine OkOps.q (triQ (x := .c (.d (.v (.int .i64 (IntKind.i64.wrap ((a0.size : Int) + 1)))))) rfl trivial rfl) ?_
        refine OkOps.q (triQ (x := .c (.d (.v (.int .i64 (mnI s3 (IntKind.i64.wrap ((a0.size : Int) + 1))))))) rfl trivial rfl) ?_
        refine OkOps.q (triQ (x := .c (.d (.v (.int .i64 (mnI s3 (IntKind.i64.wrap ((a0.size : Int) + 1))))))) rfl trivial rfl) ?_
        refine OkOps.nil ?_
        refine Ok.seq ?_
        refine Ok.region ?_
        refine OkOps.q (triQ (x := .c (.d (.v (.int .i64 (mnI s3 (IntKind.i64.wrap ((a0.size : Int) + 1))))))) rfl trivial rfl) ?_
        obtain ⟨x5, hx5, hr⟩ := bind_some hr
        refine OkOps.m 0 (triMkV (sz := 1) (enc := eStr) (zr := ByteArray.empty) (j := 0) hx5 rfl rfl rfl rfl rfl (fun _ => rfl) (by decide) trivial rfl rfl) ?_
        refine OkOps.q (triQ (x := .c (.own 0)) rfl trivial rfl) ?_
        refine OkOps.nil ?_
        refine Ok.seq ?_
        refine Ok.region ?_
        refine OkOps.q (triQ (x := .c (.d (.v (.int .i64 (mnI s3 (IntKind.i64.wrap ((a0.size : Int) + 1))))))) rfl trivial rfl) ?_
        refine OkOps.q (triQ (x := .c (.d (.v (.int .i64 (IntKind.i64.wrap ((mnI s3 (IntKind.i64.wrap ((a0.size : Int) + 1))) - 1)))))) rfl trivial rfl) ?_
        refine OkOps.q (triQ (x := .c (.d (.v (.int .i64 (IntKind.i64.wrap ((mnI s3 (IntKind.i64.wrap ((a0.size : Int) + 1))) - 1)))))) rfl trivial rfl) ?_
        refine OkOps.nil ?_
        refine Ok.seq ?_
        refine Ok.region ?_
        refine OkOps.q (triQ (x := .c (.d (.v (.int .i64 0)))) rfl trivial rfl) ?_
        refine OkOps.nil ?_
        obtain ⟨k7, hk7, hr⟩ := jn_some hr
        refine Ok.join (fun (s6 : Str × Int × (List Str)) => ⟨[(0, .s (.c (.d (.v (.string s6.1))))), (9, .s (.c (.own 0))), (10, .s (.c (.d (.v (.int .i64 s6.2.1)))))], [(0, .vec 1 (List.map eStr s6.2.2))], 0⟩) k7 r (fun s6 hr => ?_) ?_
        · rw [hk7] at hr
          refine Ok.seq ?_
          refine Ok.region ?_
          refine OkOps.q (triQ (x := .c (.own 0)) rfl trivial rfl) ?_
          refine OkOps.q (triQ (x := .c (.d (.v (.int .i64 s6.2.1)))) rfl trivial rfl) ?_
          refine OkOps.q (triQ (x := .c (.d (.v (.string s6.1)))) rfl trivial rfl) ?_
          obtain ⟨x8, hx8, hr⟩ := bind_some hr
          refine OkOps.q (triIdxV (enc := eStr) (L := s6.2.2) hx8 rfl rfl rfl rfl trivial rfl) ?_
          refine OkOps.w (triStoreV (enc := eStr) (L := s6.2.2) s6.1 (.inr (ixO_spec hx8).2) rfl rfl rfl rfl rfl rfl (fun _ => rfl) rfl) ?_
          refine OkOps.nil ?_
          refine Ok.seq ?_
          refine Ok.region ?_
          refine OkOps.q (triQ (x := .c (.own 0)) rfl trivial rfl) ?_
          refine OkOps.q (triQ (x := .c (.d (.v (.int .i64 s6.2.1)))) rfl trivial rfl) ?_
          refine OkOps.q (triQ (x := .c (.d (.v (.int .i64 (IntKind.i64.wrap (s6.2.1 + 1)))))) rfl trivial rfl) ?_
          refine OkOps.conv (Conv.freeze (enc := eStr) (L := List.set s6.2.2 x8 s6.1) [9, 58, 62] 0 1 1 0 ⟨rfl, rfl, rfl, trivial⟩ rfl (fun _ => rfl) rfl) ?_
          obtain ⟨x9, hx9, hr⟩ := bind_some hr
          refine OkOps.q (triSlc (enc := eStr) (L := List.set s6.2.2 x8 s6.1) hx9 rfl rfl rfl (.inl ⟨rfl, rfl⟩) (.inr ⟨_, rfl⟩) rfl (fun _ => rfl) trivial rfl) ?_
          refine OkOps.q (triQ (x := .c (.d (.sl (List.map eStr x9)))) rfl trivial rfl) ?_
          refine OkOps.nil ?_
          refine Ok.ret ?_
          obtain rfl := Option.some.inj hr
          exact ⟨_, rfl, .inl rfl, trivial⟩
        · clear hk7
          refine Ok.block ?_
          refine Ok.loopK (fun (s10 : Str × Int × (List Str)) => ⟨[(0, .s (.c (.d (.v (.string s10.1))))), (1, .s (.c (.d (.v (.string a1))))), (2, .s (.c (.d (.v (.int .i64 a2))))), (3, .s (.c (.d (.v (.int .i64 (IntKind.i64.wrap ((mnI s3 (IntKind.i64.wrap ((a0.size : Int) + 1))) - 1))))))), (9, .s (.c (.own 0))), (10, .s (.c (.d (.v (.int .i64 s10.2.1)))))], [(0, .vec 1 (List.map eStr s10.2.2))], 0⟩) hr (Conv.mk (tau []) ⟨⟨_, rfl, .inl rfl⟩, ⟨_, rfl, .inl rfl⟩, ⟨_, rfl, .inl rfl⟩, ⟨_, rfl, .inl rfl⟩, ⟨_, rfl, .inl rfl⟩, ⟨_, rfl, .inl rfl⟩, trivial⟩ ⟨rfl, trivial⟩ rfl rfl rfl rfl) ?_
          clear hr
          intro again11 s10 hr
          unfold strings_genSplit_L1 at hr
          refine Ok.seq ?_
          refine Ok.seq ?_
          refine Ok.region ?_
          refine OkOps.q (triQ (x := .c (.d (.v (.int .i64 s10.2.1)))) rfl trivial rfl) ?_
          refine OkOps.q (triQ (x := .c (.d (.v (.int .i64 (IntKind.i64.wrap ((mnI s3 (IntKind.i64.wrap ((a0.size : Int) + 1))) - 1)))))) rfl trivial rfl) ?_
          refine OkOps.q (triQ (x := .c (.d (.v (.bool (decide (s10.2.1 < (IntKind.i64.wrap ((mnI s3 (IntKind.i64.wrap ((a0.size : Int) + 1))) - 1)))))))) rfl trivial rfl) ?_
          refine OkOps.nil ?_
          refine Ok.cond (b := decide (s10.2.1 < (IntKind.i64.wrap ((mnI s3 (IntKind.i64.wrap ((a0.size : Int) + 1))) - 1)))) rfl (fun h12 => ?_) (fun h12 => ?_)
          · have hr := selT h12 hr
            refine Ok.skip ?_
            refine Ok.block ?_
            refine Ok.seq ?_
            refine Ok.region ?_
            refine OkOps.q (triQ (x := .c (.d (.v (.string s10.1)))) rfl trivial rfl) ?_
            refine OkOps.q (triQ (x := .c (.d (.v (.string a1)))) rfl trivial rfl) ?_
            obtain ⟨x13, hx13, hr⟩ := bind_some hr
            refine OkOps.q (triCall (tau []) (.s (.c (.d (.v (.int .i64 x13))))) [] (strings_Index_c _ _ hx13) rfl ⟨.inl rfl, .inl rfl, trivial⟩ trivial entry145 trivial rfl rfl rfl rfl trivial rfl rfl rfl) ?_
            refine OkOps.q (triQ (x := .c (.d (.v (.int .i64 x13)))) rfl trivial rfl) ?_
            refine OkOps.nil ?_
            refine Ok.seq ?_
            refine Ok.seq ?_
            refine Ok.region ?_
            refine OkOps.q (triQ (x := .c (.d (.v (.int .i64 x13)))) rfl trivial rfl) ?_
            refine OkOps.q (triQ (x := .c (.d (.v (.bool (decide (x13 < 0)))))) rfl trivial rfl) ?_
            refine OkOps.nil ?_
            refine Ok.cond (b := decide (x13 < 0)) rfl (fun h14 => ?_) (fun h14 => ?_)
            · have hr := selT h14 hr
              refine Ok.exit ?_
              exact ⟨(s10.1, s10.2.1, s10.2.2), hr, (Conv.mk (tau []) ⟨⟨_, rfl, .inl rfl⟩, ⟨_, rfl, .inl rfl⟩, ⟨_, rfl, .inl rfl⟩, trivial⟩ ⟨rfl, trivial⟩ rfl rfl rfl rfl)⟩
            · have hr := selF h14 hr
              refine Ok.skip ?_
              refine Ok.seq ?_
              refine Ok.region ?_
              refine OkOps.q (triQ (x := .c (.own 0)) rfl trivial rfl) ?_
              refine OkOps.q (triQ (x := .c (.d (.v (.int .i64 s10.2.1)))) rfl trivial rfl) ?_
              refine OkOps.q (triQ (x := .c (.d (.v (.string s10.1)))) rfl trivial rfl) ?_
              refine OkOps.q (triQ (x := .c (.d (.v (.int .i64 x13)))) rfl trivial rfl) ?_
              refine OkOps.q (triQ (x := .c (.d (.v (.int .i64 a2)))) rfl trivial rfl) ?_
              refine OkOps.q (triQ (x := .c (.d (.v (.int .i64 (IntKind.i64.wrap (x13 + a2)))))) rfl trivial rfl) ?_
              obtain ⟨x15, hx15, hr⟩ := bind_some hr
              refine OkOps.q (triSSlc hx15 rfl rfl rfl (.inl ⟨rfl, rfl⟩) (.inr ⟨_, rfl⟩) rfl trivial rfl) ?_
              obtain ⟨x16, hx16, hr⟩ := bind_some hr
              refine OkOps.q (triIdxV (enc := eStr) (L := s10.2.2) hx16 rfl rfl rfl rfl trivial rfl) ?_
              refine OkOps.w (triStoreV (enc := eStr) (L := s10.2.2) x15 (.inr (ixO_spec hx16).2) rfl rfl rfl rfl rfl rfl (fun _ => rfl) rfl) ?_
              refine OkOps.nil ?_
              refine Ok.seq ?_
              refine Ok.region ?_
              refine OkOps.q (triQ (x := .c (.d (.v (.string s10.1)))) rfl trivial rfl) ?_
              refine OkOps.q (triQ (x := .c (.d (.v (.int .i64 x13)))) rfl trivial rfl) ?_
              refine OkOps.q (triQ (x := .c (.d (.v (.string a1)))) rfl trivial rfl) ?_
              refine OkOps.q (triQ (x := .c (.d (.v (.int .i64 (a1.size : Int))))) rfl trivial rfl) ?_
              refine OkOps.q (triQ (x := .c (.d (.v (.int .i64 (IntKind.i64.wrap (x13 + (a1.size : Int))))))) rfl trivial rfl) ?_
              obtain ⟨x17, hx17, hr⟩ := bind_some hr
              refine OkOps.q (triSSlc hx17 rfl rfl rfl (.inr ⟨_, rfl⟩) (.inl ⟨rfl, rfl⟩) rfl trivial rfl) ?_
              refine OkOps.q (triQ (x := .c (.d (.v (.string x17)))) rfl trivial rfl) ?_
              refine OkOps.nil ?_
              refine Ok.region ?_
              refine OkOps.q (triQ (x := .c (.d (.v (.int .i64 s10.2.1)))) rfl trivial rfl) ?_
              refine OkOps.q (triQ (x := .c (.d (.v (.int .i64 (IntKind.i64.wrap (s10.2.1 + 1)))))) rfl trivial rfl) ?_
              refine OkOps.q (triQ (x := .c (.d (.v (.int .i64 (IntKind.i64.wrap (s10.2.1 + 1)))))) rfl trivial rfl) ?_
              refine OkOps.nil ?_
              exact ⟨(x17, IntKind.i64.wrap (s10.2.1 + 1), List.set s10.2.2 x16 x15), hr, (Conv.mk (tau []) ⟨⟨_, rfl, .inl rfl⟩, ⟨_, rfl, .inl rfl⟩, ⟨_, rfl, .inl rfl⟩, ⟨_, rfl, .inl rfl⟩, ⟨_, rfl, .inl rfl⟩, ⟨_, rfl, .inl rfl⟩, trivial⟩ ⟨rfl, trivial⟩ rfl rfl rfl rfl)⟩
          · have hr := selF h12 hr
            refine Ok.exit ?_
            exact ⟨(s10.1, s10.2.1, s10.2.2), hr, (Conv.mk (tau []) ⟨⟨_, rfl, .inl rfl⟩, ⟨_, rfl, .inl rfl⟩, ⟨_, rfl, .inl rfl⟩, trivial⟩ ⟨rfl, trivial⟩ rfl rfl rfl rfl)⟩
      · clear hk4
        refine Ok.seq ?_
        refine Ok.region ?_
        refine OkOps.q (triQ (x := .c (.d (.v (.int .i64 a3)))) rfl trivial rfl) ?_
        refine OkOps.q (triQ (x := .c (.d (.v (.bool (decide (a3 < 0)))))) rfl trivial rfl) ?_
        refine OkOps.nil ?_
        refine Ok.cond (b := decide (a3 < 0)) rfl (fun h18 => ?_) (fun h18 => ?_)
        · have hr := selT h18 hr
          refine Ok.region ?_
          refine OkOps.q (triQ (x := .c (.d (.v (.string a0)))) rfl trivial rfl) ?_
          refine OkOps.q (triQ (x := .c (.d (.v (.string a1)))) rfl trivial rfl) ?_
          obtain ⟨x19, hx19, hr⟩ := bind_some hr
          refine OkOps.q (triCall (tau []) (.s (.c (.d (.v (.int .i64 x19))))) [] (strings_Count_c _ _ hx19) rfl ⟨.inl rfl, .inl rfl, trivial⟩ trivial entry144 trivial rfl rfl rfl rfl trivial rfl rfl rfl) ?_
          refine OkOps.q (triQ (x := .c (.d (.v (.int .i64 (IntKind.i64.wrap (x19 + 1)))))) rfl trivial rfl) ?_
          refine OkOps.q (triQ (x := .c (.d (.v (.int .i64 (IntKind.i64.wrap (x19 + 1)))))) rfl trivial rfl) ?_
          refine OkOps.nil ?_
          exact ⟨IntKind.i64.wrap (x19 + 1), hr, (Conv.mk (tau []) ⟨⟨_, rfl, .inl rfl⟩, ⟨_, rfl, .inl rfl⟩, ⟨_, rfl, .inl rfl⟩, ⟨_, rfl, .inl rfl⟩, trivial⟩ trivial rfl rfl rfl rfl)⟩
        · have hr := selF h18 hr
          refine Ok.skip ?_
          exact ⟨a3, hr, (Conv.mk (tau []) ⟨⟨_, rfl, .inl rfl⟩, ⟨_, rfl, .inl rfl⟩, ⟨_, rfl, .inl rfl⟩, ⟨_, rfl, .inl rfl⟩, trivial⟩ trivial rfl rfl rfl rfl)⟩
theorem entry112 : Entry Tryd.prog 112 := ⟨_, Tryd.func112, by kernel_rfl, by kernel_rfl⟩
theorem strings_Split_c (p_s : Str) (sep : Str) {r : (List Str)} (hr : strings_Split p_s sep = some r) : Con Tryd.prog 80 [.c (.d (.v (.string p_s))), .c (.d (.v (.string sep)))] [] (.s (.c (.d (.sl (List.map eStr r))))) [] := by
  unfold strings_Split at hr
  refine Con.of_ok 8 0 [.tmp 4] [(0, .s (.c (.d (.v (.string p_s))))), (1, .s (.c (.d (.v (.string sep)))))] Tryd.func80 rfl rfl rfl rfl rfl rfl rfl rfl fun w g M ρ => ?_
  refine Ok.seq ?_
  refine Ok.region ?_
  refine OkOps.q (triQ (x := .c (.d (.v (.slice none 0 0)))) rfl trivial rfl) ?_
  refine OkOps.nil ?_
  refine Ok.seq ?_
  refine Ok.region ?_
  refine OkOps.q (triQ (x := .c (.d (.v (.string p_s)))) rfl trivial rfl) ?_
  refine OkOps.q (triQ (x := .c (.d (.v (.string sep)))) rfl trivial rfl) ?_
  obtain ⟨x1, hx1, hr⟩ := bind_some hr
  refine OkOps.q (triCall (tau []) (.s (.c (.d (.sl (List.map eStr x1))))) [] (strings_genSplit_c _ _ _ _ hx1) rfl ⟨.inl rfl, .inl rfl, .inl rfl, .inl rfl, trivial⟩ trivial entry112 trivial rfl rfl rfl rfl trivial rfl rfl rfl) ?_
  refine OkOps.q (triQ (x := .c (.d (.sl (List.map eStr x1)))) rfl trivial rfl) ?_
  refine OkOps.nil ?_
  refine Ok.ret ?_
  obtain rfl := Option.some.inj hr
  exact ⟨_, rfl, .inl rfl, trivial⟩
theorem entry80 : Entry Tryd.prog 80 := ⟨_, Tryd.func80, by kernel_rfl, by kernel_rfl⟩
theorem stringslite_HasPrefix_c (p_s : Str) (p_prefix : Str) {r : Bool} (hr : stringslite_HasPrefix p_s p_prefix = some r) : Con Tryd.prog 97 [.c (.d (.v (.string p_s))), .c (.d (.v (.string p_prefix)))] [] (.s (.c (.d (.v (.bool r))))) [] := by
  unfold stringslite_HasPrefix at hr
  refine Con.of_ok 18 0 [.tmp 4] [(0, .s (.c (.d (.v (.string p_s))))), (1, .s (.c (.d (.v (.string p_prefix)))))] Tryd.func97 rfl rfl rfl rfl rfl rfl rfl rfl fun w g M ρ => ?_
  refine Ok.seq ?_
  refine Ok.region ?_
  refine OkOps.q (triQ (x := .c (.d (.v (.bool false)))) rfl trivial rfl) ?_
  refine OkOps.nil ?_
  refine Ok.seq ?_
  refine Ok.region ?_
  refine OkOps.q (triQ (x := .c (.d (.v (.string p_s)))) rfl trivial rfl) ?_
  refine OkOps.q (triQ (x := .c (.d (.v (.int .i64 (p_s.size : Int))))) rfl trivial rfl) ?_
  refine OkOps.q (triQ (x := .c (.d (.v (.string p_prefix)))) rfl trivial rfl) ?_
  refine OkOps.q (triQ (x := .c (.d (.v (.int .i64 (p_prefix.size : Int))))) rfl trivial rfl) ?_
  refine OkOps.q (triQ (x := .c (.d (.v (.bool (decide ((p_s.size : Int) ≥ (p_prefix.size : Int))))))) rfl trivial rfl) ?_
  refine OkOps.q (triQ (x := .c (.d (.v (.bool (decide ((p_s.size : Int) ≥ (p_prefix.size : Int))))))) rfl trivial rfl) ?_
  refine OkOps.q (triQG (x := .c (.d (.v (.string p_s)))) rfl rfl trivial rfl) ?_
  refine OkOps.q (triQG (x := .c (.d (.v (.string p_prefix)))) rfl rfl trivial rfl) ?_
  refine OkOps.q (triQG (x := .c (.d (.v (.int .i64 (p_prefix.size : Int))))) rfl rfl ⟨fun h => h, trivial⟩ rfl) ?_
  obtain ⟨x1, hx1, hr⟩ := bind_some hr
  refine OkOps.q (triSSlcG (gO_t hx1) rfl rfl rfl rfl (.inl ⟨rfl, rfl⟩) (.inr ⟨_, rfl⟩) rfl ⟨fun h => h, ⟨fun h => h, trivial⟩⟩ rfl) ?_
  refine OkOps.q (triQG (x := .c (.d (.v (.string p_prefix)))) rfl rfl trivial rfl) ?_
  refine OkOps.q (triQG (x := .c (.d (.v (.bool (x1.toList == p_prefix.toList))))) rfl rfl ⟨fun h => h, ⟨fun h => h, trivial⟩⟩ rfl) ?_
  refine OkOps.q (triAnd rfl rfl (fun h => h) rfl) ?_
  refine OkOps.q (triQ (x := .c (.d (.v (.bool ((decide ((p_s.size : Int) ≥ (p_prefix.size : Int))) && (x1.toList == p_prefix.toList)))))) rfl trivial rfl) ?_
  refine OkOps.nil ?_
  refine Ok.ret ?_
  obtain rfl := Option.some.inj hr
  exact ⟨_, rfl, .inl rfl, trivial⟩
theorem entry97 : Entry Tryd.prog 97 := ⟨_, Tryd.func97, by kernel_rfl, by kernel_rfl⟩
theorem stringslite_CutPrefix_c (p_s : Str) (p_prefix : Str) {r : Str × Bool} (hr : stringslite_CutPrefix p_s p_prefix = some r) : Con Tryd.prog 146 [.c (.d (.v (.string p_s))), .c (.d (.v (.string p_prefix)))] [] (.tup [.c (.d (.v (.string r.1))), .c (.d (.v (.bool r.2)))]) [] := by
  unfold stringslite_CutPrefix at hr
  refine Con.of_ok 15 0 [.tmp 4, .tmp 5] [(0, .s (.c (.d (.v (.string p_s))))), (1, .s (.c (.d (.v (.string p_prefix)))))] Tryd.func146 rfl rfl rfl rfl rfl rfl rfl rfl fun w g M ρ => ?_
  refine Ok.seq ?_
  refine Ok.region ?_
  refine OkOps.q (triQ (x := .c (.d (.v (.string (ByteArray.mk #[]))))) rfl trivial rfl) ?_
  refine OkOps.q (triQ (x := .c (.d (.v (.bool false)))) rfl trivial rfl) ?_
  refine OkOps.nil ?_
  refine Ok.seq ?_
  refine Ok.seq ?_
  refine Ok.region ?_
  refine OkOps.q (triQ (x := .c (.d (.v (.string p_s)))) rfl trivial rfl) ?_
  refine OkOps.q (triQ (x := .c (.d (.v (.string p_prefix)))) rfl trivial rfl) ?_
  obtain ⟨x1, hx1, hr⟩ := bind_some hr
  refine OkOps.q (triCall (tau []) (.s (.c (.d (.v (.bool x1))))) [] (stringslite_HasPrefix_c _ _ hx1) rfl ⟨.inl rfl, .inl rfl, trivial⟩ trivial entry97 trivial rfl rfl rfl rfl trivial rfl rfl rfl) ?_
  refine OkOps.q (triQ (x := .c (.d (.v (.bool (!x1))))) rfl trivial rfl) ?_
  refine OkOps.nil ?_
  refine Ok.cond (b := !x1) rfl (fun h2 => ?_) (fun h2 => ?_)
  · have hr := selT h2 hr
    refine Ok.seq ?_
    refine Ok.region ?_
    refine OkOps.q (triQ (x := .c (.d (.v (.string p_s)))) rfl trivial rfl) ?_
    refine OkOps.q (triQ (x := .c (.d (.v (.string p_s)))) rfl trivial rfl) ?_
    refine OkOps.q (triQ (x := .c (.d (.v (.bool false)))) rfl trivial rfl) ?_
    refine OkOps.nil ?_
    refine Ok.ret ?_
    obtain rfl := Option.some.inj hr
    exact ⟨_, rfl, .inl rfl, trivial⟩
  · have hr := selF h2 hr
    refine Ok.skip ?_
    refine Ok.seq ?_
    refine Ok.region ?_
    refine OkOps.q (triQ (x := .c (.d (.v (.string p_s)))) rfl trivial rfl) ?_
    refine OkOps.q (triQ (x := .c (.d (.v (.string p_prefix)))) rfl trivial rfl) ?_
    refine OkOps.q (triQ (x := .c (.d (.v (.int .i64 (p_prefix.size : Int))))) rfl trivial rfl) ?_
    obtain ⟨x3, hx3, hr⟩ := bind_some hr
    refine OkOps.q (triSSlc hx3 rfl rfl rfl (.inr ⟨_, rfl⟩) (.inl ⟨rfl, rfl⟩) rfl trivial rfl) ?_
    refine OkOps.q (triQ (x := .c (.d (.v (.string x3)))) rfl trivial rfl) ?_
    refine OkOps.q (triQ (x := .c (.d (.v (.bool true)))) rfl trivial rfl) ?_
    refine OkOps.nil ?_
    refine Ok.ret ?_
    obtain rfl := Option.some.inj hr
    exact ⟨_, rfl, .inl rfl, trivial⟩
theorem entry146 : Entry Tryd.prog 146 := ⟨_, Tryd.func146, by kernel_rfl, by kernel_rfl⟩
theorem strings_CutPrefix_c (p_s : Str) (p_prefix : Str) {r : Str × Bool} (hr : strings_CutPrefix p_s p_prefix = some r) : Con Tryd.prog 114 [.c (.d (.v (.string p_s))), .c (.d (.v (.string p_prefix)))] [] (.tup [.c (.d (.v (.string r.1))), .c (.d (.v (.bool r.2)))]) [] := by
  unfold strings_CutPrefix at hr
  refine Con.of_ok 11 0 [.tmp 4, .tmp 5] [(0, .s (.c (.d (.v (.string p_s))))), (1, .s (.c (.d (.v (.string p_prefix)))))] Tryd.func114 rfl rfl rfl rfl rfl rfl rfl rfl fun w g M ρ => ?_
  refine Ok.seq ?_
  refine Ok.region ?_
  refine OkOps.q (triQ (x := .c (.d (.v (.string (ByteArray.mk #[]))))) rfl trivial rfl) ?_
  refine OkOps.q (triQ (x := .c (.d (.v (.bool false)))) rfl trivial rfl) ?_
  refine OkOps.nil ?_
  refine Ok.seq ?_
  refine Ok.region ?_
  refine OkOps.q (triQ (x := .c (.d (.v (.string p_s)))) rfl trivial rfl) ?_
  refine OkOps.q (triQ (x := .c (.d (.v (.string p_prefix)))) rfl trivial rfl) ?_
  obtain ⟨x1, hx1, hr⟩ := bind_some hr
  refine OkOps.q (triCall (tau []) (.tup [.c (.d (.v (.string x1.1))), .c (.d (.v (.bool x1.2)))]) [] (stringslite_CutPrefix_c _ _ hx1) rfl ⟨.inl rfl, .inl rfl, trivial⟩ trivial entry146 trivial rfl rfl rfl rfl trivial rfl rfl rfl) ?_
  refine OkOps.q (triQ (x := .c (.d (.v (.string x1.1)))) rfl trivial rfl) ?_
  refine OkOps.q (triQ (x := .c (.d (.v (.bool x1.2)))) rfl trivial rfl) ?_
  refine OkOps.q (triQ (x := .c (.d (.v (.string x1.1)))) rfl trivial rfl) ?_
  refine OkOps.q (triQ (x := .c (.d (.v (.bool x1.2)))) rfl trivial rfl) ?_
  refine OkOps.nil ?_
  refine Ok.ret ?_
  obtain rfl := Option.some.inj hr
  exact ⟨_, rfl, .inl rfl, trivial⟩
theorem entry114 : Entry Tryd.prog 114 := ⟨_, Tryd.func114, by kernel_rfl, by kernel_rfl⟩
theorem unicode_utf8_DecodeRuneInString_c (p_s : Str) {r : Int × Int} (hr : unicode_utf8_DecodeRuneInString p_s = some r) : Con Tryd.prog 117 [.c (.d (.v (.string p_s)))] [] (.tup [.c (.d (.v (.int .i32 r.1))), .c (.d (.v (.int .i64 r.2)))]) [] := by
  unfold unicode_utf8_DecodeRuneInString at hr
  refine Con.of_ok 19 0 [.tmp 2, .tmp 3] [(0, .s (.c (.d (.v (.string p_s)))))] Tryd.func117 rfl rfl rfl rfl rfl rfl rfl rfl fun w g M ρ => ?_
  refine Ok.seq ?_
  refine Ok.region ?_
  refine OkOps.q (triQ (x := .c (.d (.v (.int .i32 0)))) rfl trivial rfl) ?_
  refine OkOps.q (triQ (x := .c (.d (.v (.int .i64 0)))) rfl trivial rfl) ?_
  refine OkOps.nil ?_
  refine Ok.seq ?_
  refine Ok.seq ?_
  refine Ok.region ?_
  refine OkOps.q (triQ (x := .c (.d (.v (.string p_s)))) rfl trivial rfl) ?_
  refine OkOps.q (triQ (x := .c (.d (.v (.bool (!(p_s.toList == (ByteArray.mk #[]).toList)))))) rfl trivial rfl) ?_
  refine OkOps.q (triQ (x := .c (.d (.v (.bool (!(p_s.toList == (ByteArray.mk #[]).toList)))))) rfl trivial rfl) ?_
  refine OkOps.q (triQG (x := .c (.d (.v (.string p_s)))) rfl rfl trivial rfl) ?_
  obtain ⟨x1, hx1, hr⟩ := bind_some hr
  refine OkOps.q (triSIdxG (gO_t hx1) rfl rfl rfl rfl ⟨fun h => h, trivial⟩ rfl) ?_
  refine OkOps.q (triQG (x := .c (.d (.v (.bool (decide (x1 < 128)))))) rfl rfl ⟨fun h => h, trivial⟩ rfl) ?_
  refine OkOps.q (triAnd rfl rfl (fun h => h) rfl) ?_
  refine OkOps.nil ?_
  refine Ok.cond (b := (!(p_s.toList == (ByteArray.mk #[]).toList)) && (decide (x1 < 128))) rfl (fun h2 => ?_) (fun h2 => ?_)
  · have hr := selT h2 hr
    refine Ok.seq ?_
    refine Ok.region ?_
    refine OkOps.q (triQ (x := .c (.d (.v (.string p_s)))) rfl trivial rfl) ?_
    obtain ⟨x3, hx3, hr⟩ := bind_some hr
    refine OkOps.q (triSIdx hx3 rfl rfl rfl trivial rfl) ?_
    refine OkOps.q (triQ (x := .c (.d (.v (.int .i32 (IntKind.i32.wrap x3))))) rfl trivial rfl) ?_
    refine OkOps.q (triQ (x := .c (.d (.v (.int .i32 (IntKind.i32.wrap x3))))) rfl trivial rfl) ?_
    refine OkOps.q (triQ (x := .c (.d (.v (.int .i64 1)))) rfl trivial rfl) ?_
    refine OkOps.nil ?_
    refine Ok.ret ?_
    obtain rfl := Option.some.inj hr
    exact ⟨_, rfl, .inl rfl, trivial⟩
  · have hr := selF h2 hr
    refine Ok.region ?_
    refine OkOps.q (triQ (x := .c (.d (.v (.string p_s)))) rfl trivial rfl) ?_
    cases hr
theorem entry117 : Entry Tryd.prog 117 := ⟨_, Tryd.func117, by kernel_rfl, by kernel_rfl⟩
theorem slices_Index_Sl_string_string_c (p_s : (List Str)) (v : Str) {r : Int} (hr : slices_Index_Sl_string_string p_s v = some r) : Con Tryd.prog 115 [.c (.d (.sl (List.map eStr p_s))), .c (.d (.v (.string v)))] [] (.s (.c (.d (.v (.int .i64 r))))) [] := by
  unfold slices_Index_Sl_string_string at hr
  refine Con.of_ok 19 0 [.tmp 4] [(0, .s (.c (.d (.sl (List.map eStr p_s))))), (1, .s (.c (.d (.v (.string v)))))] Tryd.func115 rfl rfl rfl rfl rfl rfl rfl rfl fun w g M ρ => ?_
  refine Ok.seq ?_
  refine Ok.region ?_
  refine OkOps.q (triQ (x := .c (.d (.v (.int .i64 0)))) rfl trivial rfl) ?_
  refine OkOps.nil ?_
  obtain ⟨k2, hk2, hr⟩ := jn_some hr
  refine Ok.join (fun (s1 : Unit) => ⟨[], [], 0⟩) k2 r (fun s1 hr => ?_) ?_
  · rw [hk2] at hr
    refine Ok.seq ?_
    refine Ok.region ?_
    refine OkOps.q (triQ (x := .c (.d (.v (.int .i64 (-1))))) rfl trivial rfl) ?_
    refine OkOps.nil ?_
    refine Ok.ret ?_
    obtain rfl := Option.some.inj hr
    exact ⟨_, rfl, .inl rfl, trivial⟩
  · clear hk2
    refine Ok.seq ?_
    refine Ok.region ?_
    refine OkOps.q (triQ (x := .c (.d (.sl (List.map eStr p_s)))) rfl trivial rfl) ?_
    refine OkOps.q (triLen (enc := eStr) p_s rfl rfl trivial rfl) ?_
    refine OkOps.q (triQ (x := .c (.d (.v (.int .i64 0)))) rfl trivial rfl) ?_
    refine OkOps.nil ?_
    refine Ok.block ?_
    refine Ok.loopK (fun (s3 : Int) => ⟨[(0, .s (.c (.d (.sl (List.map eStr p_s))))), (1, .s (.c (.d (.v (.string v))))), (7, .s (.c (.d (.v (.int .i64 (p_s.length : Int)))))), (8, .s (.c (.d (.v (.int .i64 s3)))))], [], 0⟩) hr (Conv.mk (tau []) ⟨⟨_, rfl, .inl rfl⟩, ⟨_, rfl, .inl rfl⟩, ⟨_, rfl, .inl rfl⟩, ⟨_, rfl, .inl rfl⟩, trivial⟩ trivial rfl rfl rfl rfl) ?_
    clear hr
    intro again4 s3 hr
    unfold slices_Index_Sl_string_string_L1 at hr
    refine Ok.seq ?_
    refine Ok.region ?_
    refine OkOps.q (triQ (x := .c (.d (.v (.bool (decide (s3 < (p_s.length : Int))))))) rfl trivial rfl) ?_
    refine OkOps.nil ?_
    refine Ok.seq ?_
    refine Ok.cond (b := decide (s3 < (p_s.length : Int))) rfl (fun h5 => ?_) (fun h5 => ?_)
    · have hr := selT h5 hr
      refine Ok.skip ?_
      refine Ok.seq ?_
      refine Ok.block ?_
      refine Ok.seq ?_
      refine Ok.region ?_
      refine OkOps.q (triQ (x := .c (.d (.v (.int .i64 s3)))) rfl trivial rfl) ?_
      refine OkOps.q (triQ (x := .c (.d (.v (.int .i64 s3)))) rfl trivial rfl) ?_
      refine OkOps.nil ?_
      refine Ok.seq ?_
      refine Ok.region ?_
      refine OkOps.q (triQ (x := .c (.d (.v (.string v)))) rfl trivial rfl) ?_
      refine OkOps.q (triQ (x := .c (.d (.sl (List.map eStr p_s)))) rfl trivial rfl) ?_
      refine OkOps.q (triQ (x := .c (.d (.v (.int .i64 s3)))) rfl trivial rfl) ?_
      obtain ⟨x6, hx6, hr⟩ := bind_some hr
      refine OkOps.q (triIdx (enc := eStr) (L := p_s) (row := [.v (.string x6)]) hx6 rfl rfl rfl rfl (fun _ => rfl) trivial rfl) ?_
      refine OkOps.q (triQ (x := .c (.d (.v (.string x6)))) rfl trivial rfl) ?_
      refine OkOps.q (triQ (x := .c (.d (.v (.bool (v.toList == x6.toList))))) rfl trivial rfl) ?_
      refine OkOps.nil ?_
      refine Ok.cond (b := v.toList == x6.toList) rfl (fun h7 => ?_) (fun h7 => ?_)
      · have hr := selT h7 hr
        refine Ok.seq ?_
        refine Ok.region ?_
        refine OkOps.q (triQ (x := .c (.d (.v (.int .i64 s3)))) rfl trivial rfl) ?_
        refine OkOps.q (triQ (x := .c (.d (.v (.int .i64 s3)))) rfl trivial rfl) ?_
        refine OkOps.nil ?_
        refine Ok.ret ?_
        obtain rfl := Option.some.inj hr
        exact ⟨_, rfl, .inl rfl, trivial⟩
      · have hr := selF h7 hr
        refine Ok.skip ?_
        refine Ok.region ?_
        refine OkOps.q (triQ (x := .c (.d (.v (.int .i64 (IntKind.i64.wrap (s3 + 1)))))) rfl trivial rfl) ?_
        refine OkOps.q (triQ (x := .c (.d (.v (.int .i64 (IntKind.i64.wrap (s3 + 1)))))) rfl trivial rfl) ?_
        refine OkOps.nil ?_
        exact ⟨IntKind.i64.wrap (s3 + 1), hr, (Conv.mk (tau []) ⟨⟨_, rfl, .inl rfl⟩, ⟨_, rfl, .inl rfl⟩, ⟨_, rfl, .inl rfl⟩, ⟨_, rfl, .inl rfl⟩, trivial⟩ trivial rfl rfl rfl rfl)⟩
    · have hr := selF h5 hr
      refine Ok.exit ?_
      exact ⟨(), hr, (Conv.mk (tau []) trivial trivial rfl rfl rfl rfl)⟩
theorem entry115 : Entry Tryd.prog 115 := ⟨_, Tryd.func115, by kernel_rfl, by kernel_rfl⟩
theorem sc_modifiers_c  {r : (List Str)} (hr : sc_modifiers  = some r) : Con Tryd.prog 113 [] [] (.s (.c (.d (.sl (List.map eStr r))))) [] := by
  unfold sc_modifiers at hr
  refine Con.of_ok 2 0 [.tmp 0] [] Tryd.func113 rfl rfl rfl rfl rfl rfl rfl rfl fun w g M ρ => ?_
  refine Ok.seq ?_
  refine Ok.region ?_
  refine OkOps.q (triQ (x := .c (.d (.v (.slice none 0 0)))) rfl trivial rfl) ?_
  refine OkOps.nil ?_
  refine Ok.seq ?_
  refine Ok.region ?_
  refine OkOps.m 0 (triBST (sz := 1) (enc := eStr) (j := 0) ([(ByteArray.mk #[99, 116, 114, 108]), (ByteArray.mk #[97, 108, 116]), (ByteArray.mk #[115, 104, 105, 102, 116]), (ByteArray.mk #[109, 101, 116, 97])]) rfl rfl rfl rfl rfl rfl rfl rfl (fun _ => rfl) trivial rfl rfl) ?_
  refine OkOps.q (triQ (x := .c (.tl 0 (List.map eStr ([(ByteArray.mk #[99, 116, 114, 108]), (ByteArray.mk #[97, 108, 116]), (ByteArray.mk #[115, 104, 105, 102, 116]), (ByteArray.mk #[109, 101, 116, 97])])))) rfl trivial rfl) ?_
  refine OkOps.nil ?_
  refine Ok.ret ?_
  obtain rfl := Option.some.inj hr
  exact ⟨_, rfl, .inr rfl, trivial⟩
theorem entry113 : Entry Tryd.prog 113 := ⟨_, Tryd.func113, by kernel_rfl, by kernel_rfl⟩
theorem sc_keys_c  {r : (List Str)} (hr : sc_keys  = some r) : Con Tryd.prog 116 [] [] (.s (.c (.d (.sl (List.map eStr r))))) [] := by
  unfold sc_keys at hr
  refine Con.of_ok 2 0 [.tmp 0] [] Tryd.func116 rfl rfl rfl rfl rfl rfl rfl rfl fun w g M ρ => ?_
  refine Ok.seq ?_
  refine Ok.region ?_
  refine OkOps.q (triQ (x := .c (.d (.v (.slice none 0 0)))) rfl trivial rfl) ?_
  refine OkOps.nil ?_
  refine Ok.seq ?_
  refine Ok.region ?_
  refine OkOps.m 0 (triBST (sz := 1) (enc := eStr) (j := 0) ([(ByteArray.mk #[116, 97, 98]), (ByteArray.mk #[101, 110, 116, 101, 114]), (ByteArray.mk #[101, 115, 99, 97, 112, 101]), (ByteArray.mk #[98, 97, 99, 107, 115, 112, 97, 99, 101]), (ByteArray.mk #[100, 101, 108, 101, 116, 101]), (ByteArray.mk #[108, 101, 102, 116]), (ByteArray.mk #[114, 105, 103, 104, 116]), (ByteArray.mk #[117, 112]), (ByteArray.mk #[100, 111, 119, 110]), (ByteArray.mk #[104, 111, 109, 101]), (ByteArray.mk #[101, 110, 100]), (ByteArray.mk #[102, 49]), (ByteArray.mk #[102, 50]), (ByteArray.mk #[102, 51]), (ByteArray.mk #[102, 52]), (ByteArray.mk #[102, 53]), (ByteArray.mk #[102, 54]), (ByteArray.mk #[102, 55]), (ByteArray.mk #[102, 56]), (ByteArray.mk #[102, 57]), (ByteArray.mk #[102, 49, 48]), (ByteArray.mk #[102, 49, 49]), (ByteArray.mk #[102, 49, 50])]) rfl rfl rfl rfl rfl rfl rfl rfl (fun _ => rfl) trivial rfl rfl) ?_
  refine OkOps.q (triQ (x := .c (.tl 0 (List.map eStr ([(ByteArray.mk #[116, 97, 98]), (ByteArray.mk #[101, 110, 116, 101, 114]), (ByteArray.mk #[101, 115, 99, 97, 112, 101]), (ByteArray.mk #[98, 97, 99, 107, 115, 112, 97, 99, 101]), (ByteArray.mk #[100, 101, 108, 101, 116, 101]), (ByteArray.mk #[108, 101, 102, 116]), (ByteArray.mk #[114, 105, 103, 104, 116]), (ByteArray.mk #[117, 112]), (ByteArray.mk #[100, 111, 119, 110]), (ByteArray.mk #[104, 111, 109, 101]), (ByteArray.mk #[101, 110, 100]), (ByteArray.mk #[102, 49]), (ByteArray.mk #[102, 50]), (ByteArray.mk #[102, 51]), (ByteArray.mk #[102, 52]), (ByteArray.mk #[102, 53]), (ByteArray.mk #[102, 54]), (ByteArray.mk #[102, 55]), (ByteArray.mk #[102, 56]), (ByteArray.mk #[102, 57]), (ByteArray.mk #[102, 49, 48]), (ByteArray.mk #[102, 49, 49]), (ByteArray.mk #[102, 49, 50])])))) rfl trivial rfl) ?_
  refine OkOps.nil ?_
  refine Ok.ret ?_
  obtain rfl := Option.some.inj hr
  exact ⟨_, rfl, .inr rfl, trivial⟩
theorem entry116 : Entry Tryd.prog 116 := ⟨_, Tryd.func116, by kernel_rfl, by kernel_rfl⟩
theorem sc_character_c (key : Int) {r : Bool} (hr : sc_character key = some r) : Con Tryd.prog 118 [.c (.d (.v (.int .i64 key)))] [] (.s (.c (.d (.v (.bool r))))) [] := by
  unfold sc_character at hr
  refine Con.of_ok 25 0 [.tmp 2] [(0, .s (.c (.d (.v (.int .i64 key)))))] Tryd.func118 rfl rfl rfl rfl rfl rfl rfl rfl fun w g M ρ => ?_
  refine Ok.seq ?_
  refine Ok.region ?_
  refine OkOps.q (triQ (x := .c (.d (.v (.bool false)))) rfl trivial rfl) ?_
  refine OkOps.nil ?_
  refine Ok.seq ?_
  refine Ok.region ?_
  refine OkOps.q (triQ (x := .c (.d (.v (.int .i64 key)))) rfl trivial rfl) ?_
  refine OkOps.q (triQ (x := .c (.d (.v (.bool (decide (key ≥ 32)))))) rfl trivial rfl) ?_
  refine OkOps.q (triQ (x := .c (.d (.v (.bool (decide (key ≥ 32)))))) rfl trivial rfl) ?_
  refine OkOps.q (triQG (x := .c (.d (.v (.int .i64 key)))) rfl rfl trivial rfl) ?_
  refine OkOps.q (triQG (x := .c (.d (.v (.bool (decide (key ≤ 1114111)))))) rfl rfl ⟨fun h => h, trivial⟩ rfl) ?_
  refine OkOps.q (triAnd rfl rfl (fun h => h) rfl) ?_
  refine OkOps.q (triQ (x := .c (.d (.v (.bool ((decide (key ≥ 32)) && (decide (key ≤ 1114111))))))) rfl trivial rfl) ?_
  refine OkOps.q (triQG (x := .c (.d (.v (.int .i64 key)))) rfl rfl trivial rfl) ?_
  refine OkOps.q (triQG (x := .c (.d (.v (.bool (decide (key < 55296)))))) rfl rfl ⟨fun h => h, trivial⟩ rfl) ?_
  refine OkOps.q (triQG (x := .c (.d (.v (.bool (decide (key < 55296)))))) rfl rfl ⟨fun h => h, trivial⟩ rfl) ?_
  refine OkOps.q (triQG (x := .c (.d (.v (.int .i64 key)))) rfl rfl trivial rfl) ?_
  refine OkOps.q (triQG (x := .c (.d (.v (.bool (decide (key > 57343)))))) rfl rfl ⟨fun h => h, trivial⟩ rfl) ?_
  refine OkOps.q (triOrG rfl rfl rfl (fun h => h) (fun h h2 => by rw [h, h2]; rfl) rfl) ?_
  refine OkOps.q (triAnd rfl rfl (fun h => h) rfl) ?_
  refine OkOps.q (triQ (x := .c (.d (.v (.bool (((decide (key ≥ 32)) && (decide (key ≤ 1114111))) && ((decide (key < 55296)) || (decide (key > 57343)))))))) rfl trivial rfl) ?_
  refine OkOps.q (triQG (x := .c (.d (.v (.int .i64 key)))) rfl rfl trivial rfl) ?_
  refine OkOps.q (triQG (x := .c (.d (.v (.bool (decide (key < 65)))))) rfl rfl ⟨fun h => h, trivial⟩ rfl) ?_
  refine OkOps.q (triQG (x := .c (.d (.v (.bool (decide (key < 65)))))) rfl rfl ⟨fun h => h, trivial⟩ rfl) ?_
  refine OkOps.q (triQG (x := .c (.d (.v (.int .i64 key)))) rfl rfl trivial rfl) ?_
  refine OkOps.q (triQG (x := .c (.d (.v (.bool (decide (key > 90)))))) rfl rfl ⟨fun h => h, trivial⟩ rfl) ?_
  refine OkOps.q (triOrG rfl rfl rfl (fun h => h) (fun h h2 => by rw [h, h2]; rfl) rfl) ?_
  refine OkOps.q (triAnd rfl rfl (fun h => h) rfl) ?_
  refine OkOps.q (triQ (x := .c (.d (.v (.bool ((((decide (key ≥ 32)) && (decide (key ≤ 1114111))) && ((decide (key < 55296)) || (decide (key > 57343)))) && ((decide (key < 65)) || (decide (key > 90)))))))) rfl trivial rfl) ?_
  refine OkOps.nil ?_
  refine Ok.ret ?_
  obtain rfl := Option.some.inj hr
  exact ⟨_, rfl, .inl rfl, trivial⟩
theorem entry118 : Entry Tryd.prog 118 := ⟨_, Tryd.func118, by kernel_rfl, by kernel_rfl⟩
theorem sc_chord_c (a0 : Str) {r : Chord × Bool} (hr : sc_chord a0 = some r) : Con Tryd.prog 81 [.c (.d (.v (.string a0)))] [] (.tup [.agg [.d (.v (.int .i64 r.1.Key)), .d (.v (.int .i64 r.1.Mods))], .c (.d (.v (.bool r.2)))]) [] := by
  unfold sc_chord at hr
  refine Con.of_ok 84 0 [.cell 2 44, .tmp 3] [(0, .s (.c (.d (.v (.string a0)))))] Tryd.func81 rfl rfl rfl rfl rfl rfl rfl rfl fun w g M ρ => ?_
  refine Ok.seq ?_
  refine Ok.region ?_
  refine OkOps.m 0 (triAlloc (j := 0) (cs := [.d (.v (.int .i64 0)), .d (.v (.int .i64 0))]) rfl rfl rfl rfl) ?_
  refine OkOps.q (triQ (x := .c (.d (.v (.bool false)))) rfl trivial rfl) ?_
  refine OkOps.nil ?_
  refine Ok.seq ?_
  refine Ok.region ?_
  refine OkOps.m 0 (triAlloc (j := 1) (cs := [.d (.v (.int .i64 0)), .d (.v (.int .i64 0))]) rfl rfl rfl rfl) ?_
  refine OkOps.nil ?_
  obtain ⟨k2, hk2, hr⟩ := jn_some hr
  refine Ok.join (fun (s1 : Str × Int) => ⟨[(0, .s (.c (.d (.v (.string s1.1))))), (2, .s (.c (.loc 0 0))), (4, .s (.c (.loc 1 0)))], [(0, .blk [.d (.v (.int .i64 0)), .d (.v (.int .i64 0))] 44), (1, .blk [.d (.v (.int .i64 0)), .d (.v (.int .i64 s1.2))] 44)], 0⟩) k2 r (fun s1 hr => ?_) ?_
  · rw [hk2] at hr
    refine Ok.seq ?_
    refine Ok.seq ?_
    refine Ok.region ?_
    obtain ⟨x3, hx3, hr⟩ := bind_some hr
    refine OkOps.q (triCall (tau []) (.s (.c (.d (.sl (List.map eStr x3))))) [] (sc_keys_c  hx3) rfl trivial trivial entry116 trivial rfl rfl rfl rfl trivial rfl rfl rfl) ?_
    refine OkOps.q (triQ (x := .c (.d (.v (.string s1.1)))) rfl trivial rfl) ?_
    obtain ⟨x4, hx4, hr⟩ := bind_some hr
    refine OkOps.q (triCall (tau []) (.s (.c (.d (.v (.int .i64 x4))))) [] (slices_Index_Sl_string_string_c _ _ hx4) rfl ⟨.inl rfl, .inl rfl, trivial⟩ trivial entry115 trivial rfl rfl rfl rfl trivial rfl rfl rfl) ?_
    refine OkOps.q (triQ (x := .c (.d (.v (.int .i64 x4)))) rfl trivial rfl) ?_
    refine OkOps.nil ?_
    refine Ok.seq ?_
    refine Ok.region ?_
    refine OkOps.q (triQ (x := .c (.d (.v (.int .i64 x4)))) rfl trivial rfl) ?_
    refine OkOps.q (triQ (x := .c (.d (.v (.bool (decide (x4 ≥ 0)))))) rfl trivial rfl) ?_
    refine OkOps.nil ?_
    refine Ok.cond (b := decide (x4 ≥ 0)) rfl (fun h5 => ?_) (fun h5 => ?_)
    · have hr := selT h5 hr
      refine Ok.seq ?_
      refine Ok.region ?_
      refine OkOps.q (triQ (x := .c (.d (.v (.int .i64 x4)))) rfl trivial rfl) ?_
      refine OkOps.q (triQ (x := .c (.d (.v (.int .i64 (IntKind.i64.wrap (1 + x4)))))) rfl trivial rfl) ?_
      refine OkOps.q (triQ (x := .c (.loc 1 0)) rfl trivial rfl) ?_
      refine OkOps.w (triStore (cs' := [.d (.v (.int .i64 (IntKind.i64.wrap (1 + x4)))), .d (.v (.int .i64 s1.2))]) rfl rfl rfl rfl rfl rfl rfl rfl rfl) ?_
      refine OkOps.nil ?_
      refine Ok.seq ?_
      refine Ok.region ?_
      refine OkOps.q (triQ (x := .agg [.d (.v (.int .i64 (IntKind.i64.wrap (1 + x4)))), .d (.v (.int .i64 s1.2))]) rfl trivial rfl) ?_
      refine OkOps.w (triStore (cs' := [.d (.v (.int .i64 (IntKind.i64.wrap (1 + x4)))), .d (.v (.int .i64 s1.2))]) rfl rfl rfl rfl rfl rfl rfl rfl rfl) ?_
      refine OkOps.q (triQ (x := .c (.d (.v (.bool true)))) rfl trivial rfl) ?_
      refine OkOps.nil ?_
      refine Ok.ret ?_
      obtain rfl := Option.some.inj hr
      exact ⟨_, rfl, .inl rfl, trivial⟩
    · have hr := selF h5 hr
      refine Ok.skip ?_
      refine Ok.seq ?_
      refine Ok.seq ?_
      refine Ok.region ?_
      refine OkOps.q (triQ (x := .c (.d (.v (.string s1.1)))) rfl trivial rfl) ?_
      refine OkOps.q (triQ (x := .c (.d (.v (.bool (s1.1.toList == (ByteArray.mk #[115, 112, 97, 99, 101]).toList))))) rfl trivial rfl) ?_
      refine OkOps.nil ?_
      refine Ok.cond (b := s1.1.toList == (ByteArray.mk #[115, 112, 97, 99, 101]).toList) rfl (fun h6 => ?_) (fun h6 => ?_)
      · have hr := selT h6 hr
        refine Ok.seq ?_
        refine Ok.region ?_
        refine OkOps.q (triQ (x := .c (.loc 1 0)) rfl trivial rfl) ?_
        refine OkOps.w (triStore (cs' := [.d (.v (.int .i64 32)), .d (.v (.int .i64 s1.2))]) rfl rfl rfl rfl rfl rfl rfl rfl rfl) ?_
        refine OkOps.nil ?_
        refine Ok.seq ?_
        refine Ok.region ?_
        refine OkOps.q (triQ (x := .agg [.d (.v (.int .i64 32)), .d (.v (.int .i64 s1.2))]) rfl trivial rfl) ?_
        refine OkOps.w (triStore (cs' := [.d (.v (.int .i64 32)), .d (.v (.int .i64 s1.2))]) rfl rfl rfl rfl rfl rfl rfl rfl rfl) ?_
        refine OkOps.q (triQ (x := .c (.d (.v (.bool true)))) rfl trivial rfl) ?_
        refine OkOps.nil ?_
        refine Ok.ret ?_
        obtain rfl := Option.some.inj hr
        exact ⟨_, rfl, .inl rfl, trivial⟩
      · have hr := selF h6 hr
        refine Ok.skip ?_
        refine Ok.seq ?_
        refine Ok.region ?_
        refine OkOps.q (triQ (x := .c (.d (.v (.string s1.1)))) rfl trivial rfl) ?_
        obtain ⟨x7, hx7, hr⟩ := bind_some hr
        refine OkOps.q (triCall (tau []) (.tup [.c (.d (.v (.int .i32 x7.1))), .c (.d (.v (.int .i64 x7.2)))]) [] (unicode_utf8_DecodeRuneInString_c _ hx7) rfl ⟨.inl rfl, trivial⟩ trivial entry117 trivial rfl rfl rfl rfl trivial rfl rfl rfl) ?_
        refine OkOps.q (triMv (v := .tup [.c (.d (.v (.int .i32 x7.1))), .c (.d (.v (.int .i64 x7.2)))]) rfl rfl) ?_
        refine OkOps.q (triQ (x := .c (.d (.v (.int .i32 x7.1)))) rfl trivial rfl) ?_
        refine OkOps.q (triQ (x := .c (.d (.v (.int .i64 x7.2)))) rfl trivial rfl) ?_
        refine OkOps.q (triQ (x := .c (.d (.v (.int .i32 x7.1)))) rfl trivial rfl) ?_
        refine OkOps.q (triQ (x := .c (.d (.v (.int .i64 x7.2)))) rfl trivial rfl) ?_
        refine OkOps.nil ?_
        refine Ok.seq ?_
        refine Ok.seq ?_
        refine Ok.region ?_
        refine OkOps.q (triQ (x := .c (.d (.v (.int .i64 x7.2)))) rfl trivial rfl) ?_
        refine OkOps.q (triQ (x := .c (.d (.v (.string s1.1)))) rfl trivial rfl) ?_
        refine OkOps.q (triQ (x := .c (.d (.v (.int .i64 (s1.1.size : Int))))) rfl trivial rfl) ?_
        refine OkOps.q (triQ (x := .c (.d (.v (.bool (x7.2 != (s1.1.size : Int)))))) rfl trivial rfl) ?_
        refine OkOps.q (triQ (x := .c (.d (.v (.bool (x7.2 != (s1.1.size : Int)))))) rfl trivial rfl) ?_
        refine OkOps.q (triQG (x := .c (.d (.v (.int .i64 x7.2)))) rfl rfl trivial rfl) ?_
        refine OkOps.q (triQG (x := .c (.d (.v (.bool (x7.2 == 0))))) rfl rfl ⟨fun h => h, trivial⟩ rfl) ?_
        refine OkOps.q (triOr rfl rfl (fun h => by rw [h]; rfl) rfl) ?_
        refine OkOps.q (triQ (x := .c (.d (.v (.bool ((x7.2 != (s1.1.size : Int)) || (x7.2 == 0)))))) rfl trivial rfl) ?_
        refine OkOps.q (triQG (x := .c (.d (.v (.int .i32 x7.1)))) rfl rfl trivial rfl) ?_
        refine OkOps.q (triQG (x := .c (.d (.v (.bool (x7.1 == 65533))))) rfl rfl ⟨fun h => h, trivial⟩ rfl) ?_
        refine OkOps.q (triQG (x := .c (.d (.v (.bool (x7.1 == 65533))))) rfl rfl ⟨fun h => h, trivial⟩ rfl) ?_
        refine OkOps.q (triQG (x := .c (.d (.v (.int .i64 x7.2)))) rfl rfl trivial rfl) ?_
        refine OkOps.q (triQG (x := .c (.d (.v (.bool (x7.2 == 1))))) rfl rfl ⟨fun h => h, trivial⟩ rfl) ?_
        refine OkOps.q (triAndG rfl rfl rfl (fun h => h) (fun h h2 => by rw [h, h2]; rfl) rfl) ?_
        refine OkOps.q (triOr rfl rfl (fun h => by rw [h]; rfl) rfl) ?_
        refine OkOps.q (triQ (x := .c (.d (.v (.bool (((x7.2 != (s1.1.size : Int)) || (x7.2 == 0)) || ((x7.1 == 65533) && (x7.2 == 1))))))) rfl trivial rfl) ?_
        refine OkOps.q (triQG (x := .c (.d (.v (.int .i32 x7.1)))) rfl rfl trivial rfl) ?_
        refine OkOps.q (triQG (x := .c (.d (.v (.bool (x7.1 == 32))))) rfl rfl ⟨fun h => h, trivial⟩ rfl) ?_
        refine OkOps.q (triOr rfl rfl (fun h => by rw [h]; rfl) rfl) ?_
        refine OkOps.q (triQ (x := .c (.d (.v (.bool ((((x7.2 != (s1.1.size : Int)) || (x7.2 == 0)) || ((x7.1 == 65533) && (x7.2 == 1))) || (x7.1 == 32)))))) rfl trivial rfl) ?_
        refine OkOps.q (triQG (x := .c (.d (.v (.int .i32 x7.1)))) rfl rfl trivial rfl) ?_
        refine OkOps.q (triQG (x := .c (.d (.v (.int .i64 (IntKind.i64.wrap x7.1))))) rfl rfl ⟨fun h => h, trivial⟩ rfl) ?_
        obtain ⟨x8, hx8, hr⟩ := bind_some hr
        refine OkOps.q (triCallG (x := .c (.d (.v (.bool x8)))) (fun hg => sc_character_c _ (gO_t hx8 hg)) rfl rfl ⟨.inl rfl, trivial⟩ ⟨fun h => h, trivial⟩ entry118 rfl rfl rfl) ?_
        refine OkOps.q (triQG (x := .c (.d (.v (.bool (!x8))))) rfl rfl ⟨fun h => h, trivial⟩ rfl) ?_
        refine OkOps.q (triOr rfl rfl (fun h => by rw [h]; rfl) rfl) ?_
        refine OkOps.nil ?_
        refine Ok.cond (b := ((((x7.2 != (s1.1.size : Int)) || (x7.2 == 0)) || ((x7.1 == 65533) && (x7.2 == 1))) || (x7.1 == 32)) || (!x8)) rfl (fun h9 => ?_) (fun h9 => ?_)
        · have hr := selT h9 hr
          refine Ok.seq ?_
          refine Ok.region ?_
          refine OkOps.q (triQ (x := .agg [.d (.v (.int .i64 0)), .d (.v (.int .i64 0))]) rfl trivial rfl) ?_
          refine OkOps.w (triStore (cs' := [.d (.v (.int .i64 0)), .d (.v (.int .i64 0))]) rfl rfl rfl rfl rfl rfl rfl rfl rfl) ?_
          refine OkOps.q (triQ (x := .c (.d (.v (.bool false)))) rfl trivial rfl) ?_
          refine OkOps.nil ?_
          refine Ok.ret ?_
          obtain rfl := Option.some.inj hr
          exact ⟨_, rfl, .inl rfl, trivial⟩
        · have hr := selF h9 hr
          refine Ok.skip ?_
          refine Ok.seq ?_
          refine Ok.region ?_
          refine OkOps.q (triQ (x := .c (.d (.v (.int .i32 x7.1)))) rfl trivial rfl) ?_
          refine OkOps.q (triQ (x := .c (.d (.v (.int .i64 (IntKind.i64.wrap x7.1))))) rfl trivial rfl) ?_
          refine OkOps.q (triQ (x := .c (.loc 1 0)) rfl trivial rfl) ?_
          refine OkOps.w (triStore (cs' := [.d (.v (.int .i64 (IntKind.i64.wrap x7.1))), .d (.v (.int .i64 s1.2))]) rfl rfl rfl rfl rfl rfl rfl rfl rfl) ?_
          refine OkOps.nil ?_
          refine Ok.seq ?_
          refine Ok.region ?_
          refine OkOps.q (triQ (x := .agg [.d (.v (.int .i64 (IntKind.i64.wrap x7.1))), .d (.v (.int .i64 s1.2))]) rfl trivial rfl) ?_
          refine OkOps.w (triStore (cs' := [.d (.v (.int .i64 (IntKind.i64.wrap x7.1))), .d (.v (.int .i64 s1.2))]) rfl rfl rfl rfl rfl rfl rfl rfl rfl) ?_
          refine OkOps.q (triQ (x := .c (.d (.v (.bool true)))) rfl trivial rfl) ?_
          refine OkOps.nil ?_
          refine Ok.ret ?_
          obtain rfl := Option.some.inj hr
          exact ⟨_, rfl, .inl rfl, trivial⟩
  · clear hk2
    refine Ok.seq ?_
    refine Ok.region ?_
    obtain ⟨x10, hx10, hr⟩ := bind_some hr
    refine OkOps.q (triCall (tau []) (.s (.c (.d (.sl (List.map eStr x10))))) [] (sc_modifiers_c  hx10) rfl trivial trivial entry113 trivial rfl rfl rfl rfl trivial rfl rfl rfl) ?_
    refine OkOps.q (triLen (enc := eStr) x10 rfl rfl trivial rfl) ?_
    refine OkOps.q (triQ (x := .c (.d (.v (.int .i64 0)))) rfl trivial rfl) ?_
    refine OkOps.nil ?_
    refine Ok.block ?_
    refine Ok.loopK (fun (s11 : Str × Int × Int) => ⟨[(0, .s (.c (.d (.v (.string s11.1))))), (2, .s (.c (.loc 0 0))), (4, .s (.c (.loc 1 0))), (12, .s (.c (.d (.sl (List.map eStr x10))))), (13, .s (.c (.d (.v (.int .i64 (x10.length : Int)))))), (14, .s (.c (.d (.v (.int .i64 s11.2.1)))))], [(0, .blk [.d (.v (.int .i64 0)), .d (.v (.int .i64 0))] 44), (1, .blk [.d (.v (.int .i64 0)), .d (.v (.int .i64 s11.2.2))] 44)], 0⟩) hr (Conv.mk (tau []) ⟨⟨_, rfl, .inl rfl⟩, ⟨_, rfl, .inl rfl⟩, ⟨_, rfl, .inl rfl⟩, ⟨_, rfl, .inl rfl⟩, ⟨_, rfl, .inl rfl⟩, ⟨_, rfl, .inl rfl⟩, trivial⟩ ⟨rfl, rfl, trivial⟩ rfl rfl rfl rfl) ?_
    clear hr
    intro again12 s11 hr
    unfold sc_chord_L1 at hr
    refine Ok.seq ?_
    refine Ok.region ?_
    refine OkOps.q (triQ (x := .c (.d (.v (.bool (decide (s11.2.1 < (x10.length : Int))))))) rfl trivial rfl) ?_
    refine OkOps.nil ?_
    refine Ok.seq ?_
    refine Ok.cond (b := decide (s11.2.1 < (x10.length : Int))) rfl (fun h13 => ?_) (fun h13 => ?_)
    · have hr := selT h13 hr
      refine Ok.skip ?_
      obtain ⟨k15, hk15, hr⟩ := jn_some hr
      refine Ok.join (fun (s14 : Str × Int) => ⟨[(0, .s (.c (.d (.v (.string s14.1))))), (2, .s (.c (.loc 0 0))), (4, .s (.c (.loc 1 0))), (12, .s (.c (.d (.sl (List.map eStr x10))))), (13, .s (.c (.d (.v (.int .i64 (x10.length : Int)))))), (14, .s (.c (.d (.v (.int .i64 s11.2.1)))))], [(0, .blk [.d (.v (.int .i64 0)), .d (.v (.int .i64 0))] 44), (1, .blk [.d (.v (.int .i64 0)), .d (.v (.int .i64 s14.2))] 44)], 0⟩) k15 r (fun s14 hr => ?_) ?_
      · rw [hk15] at hr
        refine Ok.region ?_
        refine OkOps.q (triQ (x := .c (.d (.v (.int .i64 (IntKind.i64.wrap (s11.2.1 + 1)))))) rfl trivial rfl) ?_
        refine OkOps.q (triQ (x := .c (.d (.v (.int .i64 (IntKind.i64.wrap (s11.2.1 + 1)))))) rfl trivial rfl) ?_
        refine OkOps.nil ?_
        exact ⟨(s14.1, IntKind.i64.wrap (s11.2.1 + 1), s14.2), hr, (Conv.mk (tau []) ⟨⟨_, rfl, .inl rfl⟩, ⟨_, rfl, .inl rfl⟩, ⟨_, rfl, .inl rfl⟩, ⟨_, rfl, .inl rfl⟩, ⟨_, rfl, .inl rfl⟩, ⟨_, rfl, .inl rfl⟩, trivial⟩ ⟨rfl, rfl, trivial⟩ rfl rfl rfl rfl)⟩
      · clear hk15
        refine Ok.block ?_
        refine Ok.seq ?_
        refine Ok.region ?_
        refine OkOps.q (triQ (x := .c (.d (.v (.int .i64 s11.2.1)))) rfl trivial rfl) ?_
        obtain ⟨x16, hx16, hr⟩ := bind_some hr
        refine OkOps.q (triIdx (enc := eStr) (L := x10) (row := [.v (.string x16)]) hx16 rfl rfl rfl rfl (fun _ => rfl) trivial rfl) ?_
        refine OkOps.q (triQ (x := .c (.d (.v (.string x16)))) rfl trivial rfl) ?_
        refine OkOps.q (triQ (x := .c (.d (.v (.int .i64 s11.2.1)))) rfl trivial rfl) ?_
        refine OkOps.q (triQ (x := .c (.d (.v (.string x16)))) rfl trivial rfl) ?_
        refine OkOps.nil ?_
        refine Ok.seq ?_
        refine Ok.region ?_
        refine OkOps.q (triQ (x := .c (.d (.v (.string s11.1)))) rfl trivial rfl) ?_
        refine OkOps.q (triQ (x := .c (.d (.v (.string x16)))) rfl trivial rfl) ?_
        obtain ⟨x17, hx17, hr⟩ := bind_some hr
        refine OkOps.q (triCat hx17 rfl rfl trivial rfl) ?_
        obtain ⟨x18, hx18, hr⟩ := bind_some hr
        refine OkOps.q (triCall (tau []) (.tup [.c (.d (.v (.string x18.1))), .c (.d (.v (.bool x18.2)))]) [] (strings_CutPrefix_c _ _ hx18) rfl ⟨.inl rfl, .inl rfl, trivial⟩ trivial entry114 trivial rfl rfl rfl rfl trivial rfl rfl rfl) ?_
        refine OkOps.q (triMv (v := .tup [.c (.d (.v (.string x18.1))), .c (.d (.v (.bool x18.2)))]) rfl rfl) ?_
        refine OkOps.q (triQ (x := .c (.d (.v (.string x18.1)))) rfl trivial rfl) ?_
        refine OkOps.q (triQ (x := .c (.d (.v (.bool x18.2)))) rfl trivial rfl) ?_
        refine OkOps.q (triQ (x := .c (.d (.v (.string x18.1)))) rfl trivial rfl) ?_
        refine OkOps.q (triQ (x := .c (.d (.v (.bool x18.2)))) rfl trivial rfl) ?_
        refine OkOps.nil ?_
        refine Ok.seq ?_
        refine Ok.region ?_
        refine OkOps.q (triQ (x := .c (.d (.v (.bool x18.2)))) rfl trivial rfl) ?_
        refine OkOps.nil ?_
        refine Ok.cond (b := x18.2) rfl (fun h19 => ?_) (fun h19 => ?_)
        · have hr := selT h19 hr
          refine Ok.seq ?_
          refine Ok.region ?_
          refine OkOps.q (triQ (x := .c (.d (.v (.string x18.1)))) rfl trivial rfl) ?_
          refine OkOps.q (triQ (x := .c (.d (.v (.string x18.1)))) rfl trivial rfl) ?_
          refine OkOps.nil ?_
          refine Ok.regionD (by kernel_rfl) ?_
          refine OkD.q (triQ (x := .c (.loc 1 1)) rfl trivial rfl) ?_
          refine OkD.q (triQ (x := .c (.d (.v (.int .i64 s11.2.2)))) rfl trivial rfl) ?_
          refine OkD.q (triQ (x := .c (.d (.v (.int .i64 s11.2.1)))) rfl trivial rfl) ?_
          obtain ⟨x20, hx20, hr⟩ := bind_some hr
          refine OkD.q (triShl hx20 rfl rfl trivial rfl) ?_
          refine OkD.q (triQ (x := .c (.d (.v (.int .i64 (bOr .i64 s11.2.2 x20))))) rfl trivial rfl) ?_
          refine OkD.q (triQ (x := .c (.loc 1 1)) rfl trivial rfl) ?_
          refine OkD.w (triStore (cs' := [.d (.v (.int .i64 0)), .d (.v (.int .i64 (bOr .i64 s11.2.2 x20)))]) rfl rfl rfl rfl rfl rfl rfl rfl rfl) ?_
          refine OkD.nil (by kernel_rfl) ?_
          exact ⟨(x18.1, bOr .i64 s11.2.2 x20), hr, (Conv.mk (tau []) ⟨⟨_, rfl, .inl rfl⟩, ⟨_, rfl, .inl rfl⟩, ⟨_, rfl, .inl rfl⟩, ⟨_, rfl, .inl rfl⟩, ⟨_, rfl, .inl rfl⟩, ⟨_, rfl, .inl rfl⟩, trivial⟩ ⟨rfl, rfl, trivial⟩ rfl rfl rfl rfl)⟩
        · have hr := selF h19 hr
          refine Ok.skip ?_
          exact ⟨(s11.1, s11.2.2), hr, (Conv.mk (tau []) ⟨⟨_, rfl, .inl rfl⟩, ⟨_, rfl, .inl rfl⟩, ⟨_, rfl, .inl rfl⟩, ⟨_, rfl, .inl rfl⟩, ⟨_, rfl, .inl rfl⟩, ⟨_, rfl, .inl rfl⟩, trivial⟩ ⟨rfl, rfl, trivial⟩ rfl rfl rfl rfl)⟩
    · have hr := selF h13 hr
      refine Ok.exit ?_
      exact ⟨(s11.1, s11.2.2), hr, (Conv.mk (tau []) ⟨⟨_, rfl, .inl rfl⟩, ⟨_, rfl, .inl rfl⟩, ⟨_, rfl, .inl rfl⟩, trivial⟩ ⟨rfl, rfl, trivial⟩ rfl rfl rfl rfl)⟩
theorem entry81 : Entry Tryd.prog 81 := ⟨_, Tryd.func81, by kernel_rfl, by kernel_rfl⟩
theorem sc_Parse_c (p_s : Str) {r : (List Chord) × Int} (hr : sc_Parse p_s = some r) : Con Tryd.prog 43 [.c (.d (.v (.string p_s)))] [] (.tup [.c (.d (.sl (List.map Chord.cs r.1))), .c (.d (.v (.int .i64 r.2)))]) [] := by
  unfold sc_Parse at hr
  refine Con.of_ok 35 0 [.tmp 2, .tmp 3] [(0, .s (.c (.d (.v (.string p_s)))))] Tryd.func43 rfl rfl rfl rfl rfl rfl rfl rfl fun w g M ρ => ?_
  refine Ok.seq ?_
  refine Ok.region ?_
  refine OkOps.q (triQ (x := .c (.d (.v (.slice none 0 0)))) rfl trivial rfl) ?_
  refine OkOps.q (triQ (x := .c (.d (.v (.int .i64 0)))) rfl trivial rfl) ?_
  refine OkOps.nil ?_
  refine Ok.seq ?_
  refine Ok.seq ?_
  refine Ok.region ?_
  refine OkOps.q (triQ (x := .c (.d (.v (.string p_s)))) rfl trivial rfl) ?_
  refine OkOps.q (triQ (x := .c (.d (.v (.int .i64 (p_s.size : Int))))) rfl trivial rfl) ?_
  refine OkOps.q (triQ (x := .c (.d (.v (.bool (decide ((p_s.size : Int) > 100)))))) rfl trivial rfl) ?_
  refine OkOps.nil ?_
  refine Ok.cond (b := decide ((p_s.size : Int) > 100)) rfl (fun h1 => ?_) (fun h1 => ?_)
  · have hr := selT h1 hr
    refine Ok.seq ?_
    refine Ok.region ?_
    refine OkOps.q (triQ (x := .c (.d (.v (.slice none 0 0)))) rfl trivial rfl) ?_
    refine OkOps.q (triQ (x := .c (.d (.v (.int .i64 2)))) rfl trivial rfl) ?_
    refine OkOps.nil ?_
    refine Ok.ret ?_
    obtain rfl := Option.some.inj hr
    exact ⟨_, rfl, .inr rfl, trivial⟩
  · have hr := selF h1 hr
    refine Ok.skip ?_
    refine Ok.seq ?_
    refine Ok.region ?_
    refine OkOps.q (triQ (x := .c (.d (.v (.slice none 0 0)))) rfl trivial rfl) ?_
    refine OkOps.nil ?_
    obtain ⟨k3, hk3, hr⟩ := jn_some hr
    refine Ok.join (fun (s2 : (List Chord)) => ⟨[(4, .s (.c (.tl 1004 (List.map Chord.cs s2))))], [(1004, .tail 2)], 0⟩) k3 r (fun s2 hr => ?_) ?_
    · rw [hk3] at hr
      refine Ok.seq ?_
      refine Ok.seq ?_
      refine Ok.region ?_
      refine OkOps.q (triQ (x := .c (.tl 1004 (List.map Chord.cs s2))) rfl trivial rfl) ?_
      refine OkOps.q (triLen (enc := Chord.cs) s2 rfl rfl trivial rfl) ?_
      refine OkOps.q (triQ (x := .c (.d (.v (.bool (decide ((s2.length : Int) > 3)))))) rfl trivial rfl) ?_
      refine OkOps.nil ?_
      refine Ok.cond (b := decide ((s2.length : Int) > 3)) rfl (fun h4 => ?_) (fun h4 => ?_)
      · have hr := selT h4 hr
        refine Ok.seq ?_
        refine Ok.region ?_
        refine OkOps.q (triQ (x := .c (.d (.v (.slice none 0 0)))) rfl trivial rfl) ?_
        refine OkOps.q (triQ (x := .c (.d (.v (.int .i64 2)))) rfl trivial rfl) ?_
        refine OkOps.nil ?_
        refine Ok.ret ?_
        obtain rfl := Option.some.inj hr
        exact ⟨_, rfl, .inr rfl, trivial⟩
      · have hr := selF h4 hr
        refine Ok.skip ?_
        refine Ok.seq ?_
        refine Ok.region ?_
        refine OkOps.q (triQ (x := .c (.tl 1004 (List.map Chord.cs s2))) rfl trivial rfl) ?_
        refine OkOps.q (triQ (x := .c (.tl 1004 (List.map Chord.cs s2))) rfl trivial rfl) ?_
        refine OkOps.q (triQ (x := .c (.d (.v (.int .i64 0)))) rfl trivial rfl) ?_
        refine OkOps.nil ?_
        refine Ok.ret ?_
        obtain rfl := Option.some.inj hr
        exact ⟨_, rfl, .inr rfl, trivial⟩
    · clear hk3
      refine Ok.seq ?_
      refine Ok.region ?_
      refine OkOps.q (triQ (x := .c (.d (.v (.string p_s)))) rfl trivial rfl) ?_
      obtain ⟨x5, hx5, hr⟩ := bind_some hr
      refine OkOps.q (triCall (tau []) (.s (.c (.d (.sl (List.map eStr x5))))) [] (strings_Split_c _ _ hx5) rfl ⟨.inl rfl, .inl rfl, trivial⟩ trivial entry80 trivial rfl rfl rfl rfl trivial rfl rfl rfl) ?_
      refine OkOps.q (triLen (enc := eStr) x5 rfl rfl trivial rfl) ?_
      refine OkOps.q (triQ (x := .c (.d (.v (.int .i64 0)))) rfl trivial rfl) ?_
      refine OkOps.nil ?_
      refine Ok.block ?_
      refine Ok.loopK (fun (s6 : (List Chord) × Int) => ⟨[(4, .s (.c (.tl 1007 (List.map Chord.cs s6.1)))), (13, .s (.c (.d (.sl (List.map eStr x5))))), (14, .s (.c (.d (.v (.int .i64 (x5.length : Int)))))), (15, .s (.c (.d (.v (.int .i64 s6.2)))))], [(1007, .tail 2)], 0⟩) hr (Conv.trans (Conv.nil 4 1009 2 0 rfl rfl) (Conv.mk (tau [(1007, 1009)]) ⟨⟨_, rfl, .inl rfl⟩, ⟨_, rfl, .inl rfl⟩, ⟨_, rfl, .inl rfl⟩, ⟨_, rfl, .inl rfl⟩, trivial⟩ ⟨rfl, trivial⟩ rfl rfl rfl rfl)) ?_
      clear hr
      intro again7 s6 hr
      unfold sc_Parse_L1 at hr
      refine Ok.seq ?_
      refine Ok.region ?_
      refine OkOps.q (triQ (x := .c (.d (.v (.bool (decide (s6.2 < (x5.length : Int))))))) rfl trivial rfl) ?_
      refine OkOps.nil ?_
      refine Ok.seq ?_
      refine Ok.cond (b := decide (s6.2 < (x5.length : Int))) rfl (fun h8 => ?_) (fun h8 => ?_)
      · have hr := selT h8 hr
        refine Ok.skip ?_
        refine Ok.seq ?_
        refine Ok.block ?_
        refine Ok.seq ?_
        refine Ok.region ?_
        obtain ⟨x9, hx9, hr⟩ := bind_some hr
        refine OkOps.q (triIdx (enc := eStr) (L := x5) (row := [.v (.string x9)]) hx9 rfl rfl rfl rfl (fun _ => rfl) trivial rfl) ?_
        refine OkOps.q (triQ (x := .c (.d (.v (.string x9)))) rfl trivial rfl) ?_
        refine OkOps.q (triQ (x := .c (.d (.v (.string x9)))) rfl trivial rfl) ?_
        refine OkOps.nil ?_
        refine Ok.seq ?_
        refine Ok.region ?_
        refine OkOps.q (triQ (x := .c (.d (.v (.string x9)))) rfl trivial rfl) ?_
        obtain ⟨x10, hx10, hr⟩ := bind_some hr
        refine OkOps.q (triCall (tau []) (.tup [.agg [.d (.v (.int .i64 x10.1.Key)), .d (.v (.int .i64 x10.1.Mods))], .c (.d (.v (.bool x10.2)))]) [] (sc_chord_c _ hx10) rfl ⟨.inl rfl, trivial⟩ trivial entry81 trivial rfl rfl rfl rfl trivial rfl rfl rfl) ?_
        refine OkOps.q (triMv (v := .tup [.agg [.d (.v (.int .i64 x10.1.Key)), .d (.v (.int .i64 x10.1.Mods))], .c (.d (.v (.bool x10.2)))]) rfl rfl) ?_
        refine OkOps.q (triQ (x := .agg [.d (.v (.int .i64 x10.1.Key)), .d (.v (.int .i64 x10.1.Mods))]) rfl trivial rfl) ?_
        refine OkOps.q (triQ (x := .c (.d (.v (.bool x10.2)))) rfl trivial rfl) ?_
        refine OkOps.m 0 (triAlloc (j := 0) (cs := [.d (.v (.int .i64 0)), .d (.v (.int .i64 0))]) rfl rfl rfl rfl) ?_
        refine OkOps.w (triStore (cs' := [.d (.v (.int .i64 x10.1.Key)), .d (.v (.int .i64 x10.1.Mods))]) rfl rfl rfl rfl rfl rfl rfl rfl rfl) ?_
        refine OkOps.q (triQ (x := .c (.d (.v (.bool x10.2)))) rfl trivial rfl) ?_
        refine OkOps.nil ?_
        refine Ok.seq ?_
        refine Ok.seq ?_
        refine Ok.region ?_
        refine OkOps.q (triQ (x := .c (.d (.v (.bool x10.2)))) rfl trivial rfl) ?_
        refine OkOps.q (triQ (x := .c (.d (.v (.bool (!x10.2))))) rfl trivial rfl) ?_
        refine OkOps.nil ?_
        refine Ok.cond (b := !x10.2) rfl (fun h11 => ?_) (fun h11 => ?_)
        · have hr := selT h11 hr
          refine Ok.seq ?_
          refine Ok.region ?_
          refine OkOps.q (triQ (x := .c (.d (.v (.slice none 0 0)))) rfl trivial rfl) ?_
          refine OkOps.q (triQ (x := .c (.d (.v (.int .i64 3)))) rfl trivial rfl) ?_
          refine OkOps.nil ?_
          refine Ok.ret ?_
          obtain rfl := Option.some.inj hr
          exact ⟨_, rfl, .inr rfl, trivial⟩
        · have hr := selF h11 hr
          refine Ok.skip ?_
          refine Ok.region ?_
          refine OkOps.q (triQ (x := .c (.tl 1007 (List.map Chord.cs s6.1))) rfl trivial rfl) ?_
          refine OkOps.q (triQ (x := .agg [.d (.v (.int .i64 x10.1.Key)), .d (.v (.int .i64 x10.1.Mods))]) rfl trivial rfl) ?_
          refine OkOps.m 0 (triBST (sz := 2) (enc := Chord.cs) (j := 1) ([x10.1]) rfl rfl rfl rfl rfl rfl rfl rfl (fun _ => rfl) trivial rfl rfl) ?_
          obtain ⟨x12, hx12, hr⟩ := bind_some hr
          refine OkOps.m2 0 (triApp (enc := Chord.cs) (L := s6.1) (X := [x10.1]) (j := 1007) (j' := 2) hx12 rfl rfl rfl rfl rfl rfl (fun _ => rfl) (fun _ => rfl) (by decide) trivial rfl rfl) ?_
          refine OkOps.q (triQ (x := .c (.tl 2 (List.map Chord.cs x12))) rfl trivial rfl) ?_
          refine OkOps.nil ?_
          refine Ok.region ?_
          refine OkOps.q (triQ (x := .c (.d (.v (.int .i64 (IntKind.i64.wrap (s6.2 + 1)))))) rfl trivial rfl) ?_
          refine OkOps.q (triQ (x := .c (.d (.v (.int .i64 (IntKind.i64.wrap (s6.2 + 1)))))) rfl trivial rfl) ?_
          refine OkOps.nil ?_
          exact ⟨(x12, IntKind.i64.wrap (s6.2 + 1)), hr, (Conv.mk (tau [(1007, 2)]) ⟨⟨_, rfl, .inl rfl⟩, ⟨_, rfl, .inl rfl⟩, ⟨_, rfl, .inl rfl⟩, ⟨_, rfl, .inl rfl⟩, trivial⟩ ⟨rfl, trivial⟩ rfl rfl rfl rfl)⟩
      · have hr := selF h8 hr
        refine Ok.exit ?_
        exact ⟨s6.1, hr, (Conv.mk (tau [(1004, 1007)]) ⟨⟨_, rfl, .inl rfl⟩, trivial⟩ ⟨rfl, trivial⟩ rfl rfl rfl rfl)⟩
theorem entry43 : Entry Tryd.prog 43 := ⟨_, Tryd.func43, by kernel_rfl, by kernel_rfl⟩
theorem l32_awake_c  {r : Bool} (hr : l32_awake  = some r) : Con Tryd.prog 19 [] [] (.s (.c (.d (.v (.bool r))))) [] := by
  unfold l32_awake at hr
  refine Con.of_ok 50 0 [.tmp 0] [] Tryd.func19 rfl rfl rfl rfl rfl rfl rfl rfl fun w g M ρ => ?_
  refine Ok.seq ?_
  refine Ok.region ?_
  refine OkOps.q (triQ (x := .c (.d (.v (.bool false)))) rfl trivial rfl) ?_
  refine OkOps.nil ?_
  refine Ok.seq ?_
  refine Ok.region ?_
  obtain ⟨x1, hx1, hr⟩ := bind_some hr
  refine OkOps.q (triCall (tau []) (.tup [.c (.d (.sl (List.map Chord.cs x1.1))), .c (.d (.v (.int .i64 x1.2)))]) [] (sc_Parse_c _ hx1) rfl ⟨.inl rfl, trivial⟩ trivial entry43 trivial rfl rfl rfl rfl trivial rfl rfl rfl) ?_
  refine OkOps.q (triMv (v := .tup [.c (.d (.sl (List.map Chord.cs x1.1))), .c (.d (.v (.int .i64 x1.2)))]) rfl rfl) ?_
  refine OkOps.q (triQ (x := .c (.d (.sl (List.map Chord.cs x1.1)))) rfl trivial rfl) ?_
  refine OkOps.q (triQ (x := .c (.d (.v (.int .i64 x1.2)))) rfl trivial rfl) ?_
  refine OkOps.q (triQ (x := .c (.d (.sl (List.map Chord.cs x1.1)))) rfl trivial rfl) ?_
  refine OkOps.q (triQ (x := .c (.d (.v (.int .i64 x1.2)))) rfl trivial rfl) ?_
  refine OkOps.nil ?_
  refine Ok.seq ?_
  refine Ok.region ?_
  refine OkOps.m 0 (triBST (sz := 1) (enc := eStr) (j := 0) ([(ByteArray.mk #[83, 97, 118, 101]), (ByteArray.mk #[83, 97, 118, 101, 32, 97, 115]), (ByteArray.mk #[83, 117, 109])]) rfl rfl rfl rfl rfl rfl rfl rfl (fun _ => rfl) trivial rfl rfl) ?_
  obtain ⟨x2, hx2, hr⟩ := bind_some hr
  refine OkOps.q (triCall (tau []) (.tup [.c (.d (.sl (List.map (eInt .i64) x2.1))), .c (.d (.v (.int .i64 x2.2)))]) [] (sc_Mnemonics_c _ hx2) rfl ⟨.inr rfl, trivial⟩ trivial entry17 trivial rfl rfl rfl rfl trivial rfl rfl rfl) ?_
  refine OkOps.q (triMv (v := .tup [.c (.d (.sl (List.map (eInt .i64) x2.1))), .c (.d (.v (.int .i64 x2.2)))]) rfl rfl) ?_
  refine OkOps.q (triQ (x := .c (.d (.sl (List.map (eInt .i64) x2.1)))) rfl trivial rfl) ?_
  refine OkOps.q (triQ (x := .c (.d (.v (.int .i64 x2.2)))) rfl trivial rfl) ?_
  refine OkOps.q (triQ (x := .c (.d (.sl (List.map (eInt .i64) x2.1)))) rfl trivial rfl) ?_
  refine OkOps.q (triQ (x := .c (.d (.v (.int .i64 x2.2)))) rfl trivial rfl) ?_
  refine OkOps.nil ?_
  refine Ok.seq ?_
  refine Ok.region ?_
  refine OkOps.q (triQ (x := .c (.d (.v (.int .i64 x1.2)))) rfl trivial rfl) ?_
  refine OkOps.q (triQ (x := .c (.d (.v (.bool (x1.2 == 0))))) rfl trivial rfl) ?_
  refine OkOps.q (triQ (x := .c (.d (.v (.bool (x1.2 == 0))))) rfl trivial rfl) ?_
  refine OkOps.q (triQG (x := .c (.d (.v (.int .i64 x2.2)))) rfl rfl trivial rfl) ?_
  refine OkOps.q (triQG (x := .c (.d (.v (.bool (x2.2 == 0))))) rfl rfl ⟨fun h => h, trivial⟩ rfl) ?_
  refine OkOps.q (triAnd rfl rfl (fun h => h) rfl) ?_
  refine OkOps.q (triQ (x := .c (.d (.v (.bool ((x1.2 == 0) && (x2.2 == 0)))))) rfl trivial rfl) ?_
  refine OkOps.q (triQG (x := .c (.d (.sl (List.map Chord.cs x1.1)))) rfl rfl trivial rfl) ?_
  refine OkOps.q (triQG (x := .agg [.d (.v (.int .i64 107)), .d (.v (.int .i64 1))]) rfl rfl trivial rfl) ?_
  refine OkOps.q (triQG (x := .agg [.d (.v (.int .i64 99)), .d (.v (.int .i64 5))]) rfl rfl trivial rfl) ?_
  refine OkOps.q (triBSG (enc := Chord.cs) ([(Chord.mk 107 1), (Chord.mk 99 5)]) rfl rfl rfl rfl rfl rfl rfl rfl rfl (fun _ => rfl) ⟨fun h => h, ⟨fun h => h, trivial⟩⟩ rfl) ?_
  obtain ⟨x3, hx3, hr⟩ := bind_some hr
  refine OkOps.q (triCallG (x := .c (.d (.v (.bool x3)))) (fun hg => l32_same_c _ _ (gO_t hx3 hg)) rfl rfl ⟨.inl rfl, .inl rfl, trivial⟩ ⟨fun h => h, ⟨fun h => h, trivial⟩⟩ entry26 rfl rfl rfl) ?_
  refine OkOps.q (triAnd rfl rfl (fun h => h) rfl) ?_
  refine OkOps.q (triQ (x := .c (.d (.v (.bool (((x1.2 == 0) && (x2.2 == 0)) && x3))))) rfl trivial rfl) ?_
  refine OkOps.q (triQG (x := .c (.d (.sl (List.map (eInt .i64) x2.1)))) rfl rfl trivial rfl) ?_
  refine OkOps.q (triLenG (enc := (eInt .i64)) x2.1 rfl rfl rfl ⟨fun h => h, trivial⟩ rfl) ?_
  refine OkOps.q (triQG (x := .c (.d (.v (.bool ((x2.1.length : Int) == 3))))) rfl rfl ⟨fun h => h, trivial⟩ rfl) ?_
  refine OkOps.q (triAnd rfl rfl (fun h => h) rfl) ?_
  refine OkOps.q (triQ (x := .c (.d (.v (.bool ((((x1.2 == 0) && (x2.2 == 0)) && x3) && ((x2.1.length : Int) == 3)))))) rfl trivial rfl) ?_
  refine OkOps.q (triQG (x := .c (.d (.sl (List.map (eInt .i64) x2.1)))) rfl rfl trivial rfl) ?_
  obtain ⟨x4, hx4, hr⟩ := bind_some hr
  refine OkOps.q (triIdxG (enc := (eInt .i64)) (L := x2.1) (row := [.v (.int .i64 x4)]) (gO_t hx4) rfl rfl rfl rfl rfl (fun _ => rfl) ⟨fun h => h, trivial⟩ rfl) ?_
  refine OkOps.q (triQG (x := .c (.d (.v (.int .i64 x4)))) rfl rfl ⟨fun h => h, trivial⟩ rfl) ?_
  refine OkOps.q (triQG (x := .c (.d (.v (.bool (x4 == 0))))) rfl rfl ⟨fun h => h, trivial⟩ rfl) ?_
  refine OkOps.q (triAnd rfl rfl (fun h => h) rfl) ?_
  refine OkOps.q (triQ (x := .c (.d (.v (.bool (((((x1.2 == 0) && (x2.2 == 0)) && x3) && ((x2.1.length : Int) == 3)) && (x4 == 0)))))) rfl trivial rfl) ?_
  refine OkOps.q (triQG (x := .c (.d (.sl (List.map (eInt .i64) x2.1)))) rfl rfl trivial rfl) ?_
  obtain ⟨x5, hx5, hr⟩ := bind_some hr
  refine OkOps.q (triIdxG (enc := (eInt .i64)) (L := x2.1) (row := [.v (.int .i64 x5)]) (gO_t hx5) rfl rfl rfl rfl rfl (fun _ => rfl) ⟨fun h => h, trivial⟩ rfl) ?_
  refine OkOps.q (triQG (x := .c (.d (.v (.int .i64 x5)))) rfl rfl ⟨fun h => h, trivial⟩ rfl) ?_
  refine OkOps.q (triQG (x := .c (.d (.v (.bool (x5 == 1))))) rfl rfl ⟨fun h => h, trivial⟩ rfl) ?_
  refine OkOps.q (triAnd rfl rfl (fun h => h) rfl) ?_
  refine OkOps.q (triQ (x := .c (.d (.v (.bool ((((((x1.2 == 0) && (x2.2 == 0)) && x3) && ((x2.1.length : Int) == 3)) && (x4 == 0)) && (x5 == 1)))))) rfl trivial rfl) ?_
  refine OkOps.q (triQG (x := .c (.d (.sl (List.map (eInt .i64) x2.1)))) rfl rfl trivial rfl) ?_
  obtain ⟨x6, hx6, hr⟩ := bind_some hr
  refine OkOps.q (triIdxG (enc := (eInt .i64)) (L := x2.1) (row := [.v (.int .i64 x6)]) (gO_t hx6) rfl rfl rfl rfl rfl (fun _ => rfl) ⟨fun h => h, trivial⟩ rfl) ?_
  refine OkOps.q (triQG (x := .c (.d (.v (.int .i64 x6)))) rfl rfl ⟨fun h => h, trivial⟩ rfl) ?_
  refine OkOps.q (triQG (x := .c (.d (.v (.bool (x6 == 1))))) rfl rfl ⟨fun h => h, trivial⟩ rfl) ?_
  refine OkOps.q (triAnd rfl rfl (fun h => h) rfl) ?_
  refine OkOps.q (triQ (x := .c (.d (.v (.bool (((((((x1.2 == 0) && (x2.2 == 0)) && x3) && ((x2.1.length : Int) == 3)) && (x4 == 0)) && (x5 == 1)) && (x6 == 1)))))) rfl trivial rfl) ?_
  refine OkOps.nil ?_
  refine Ok.ret ?_
  obtain rfl := Option.some.inj hr
  exact ⟨_, rfl, .inl rfl, trivial⟩
theorem entry19 : Entry Tryd.prog 19 := ⟨_, Tryd.func19, by kernel_rfl, by kernel_rfl⟩
end Go.Proofs.YtodddfoehcfcnaaDoor

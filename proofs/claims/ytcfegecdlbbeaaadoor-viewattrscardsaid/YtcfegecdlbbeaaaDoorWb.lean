import Derived.Test.YtcfegecdlbbeaaaDoorAb
import Derived.Test.YtcfegecdlbbeaaaDoorWa
import Derived.Test.YtcfegecdlbbeaaaDoorProg
import Derived.KernelRfl
set_option maxRecDepth 100000
namespace Go.Proofs.YtcfegecdlbbeaaaDoor
open Go Go.E2
theorem entry124 : Entry Tryd.prog 124 := ⟨_, Tryd.func124, by kernel_rfl, by kernel_rfl⟩
theorem r11_join_B_c (self0 : AType → AType → Option (AType × Bool)) (hself0 : ∀ (a : AType) (b : AType) {r : AType × Bool}, self0 a b = some r → Con Tryd.prog 124 [.agg [cI a.Kind, .d (.sl (List.map AType.cs a.Of))], .agg [cI b.Kind, .d (.sl (List.map AType.cs b.Of))]] [] (.tup [.agg [cI r.1.Kind, .d (.sl (List.map AType.cs r.1.Of))], aB r.2]) []) (a : AType) (b : AType) {r : AType × Bool} (hr : r11_join_B self0 a b = some r) : Con Tryd.prog 124 [.agg [cI a.Kind, .d (.sl (List.map AType.cs a.Of))], .agg [cI b.Kind, .d (.sl (List.map AType.cs b.Of))]] [] (.tup [.agg [cI r.1.Kind, .d (.sl (List.map AType.cs r.1.Of))], aB r.2]) [] := by
  unfold r11_join_B at hr
  refine Con.of_ok 44 0 [.cell 4 130, .tmp 5] [(0, .s (.agg [cI a.Kind, .d (.sl (List.map AType.cs a.Of))])), (1, .s (.agg [cI b.Kind, .d (.sl (List.map AType.cs b.Of))]))] Tryd.func124 rfl rfl rfl rfl rfl rfl rfl rfl fun w g M ρ _ => ?_
  refine Ok.seq ?_
  refine Ok.region ?_
  refine OkOps.m 0 (triBox (j := 0) (cs := [cI a.Kind, .d (.sl (List.map AType.cs a.Of))]) rfl rfl rfl rfl rfl) ?_
  refine OkOps.m 0 (triBox (j := 1) (cs := [cI b.Kind, .d (.sl (List.map AType.cs b.Of))]) rfl rfl rfl rfl rfl) ?_
  refine OkOps.m 0 (triAlloc (j := 2) (cs := [cI 0, .d (.v (.slice none 0 0))]) rfl rfl rfl rfl) ?_
  refine OkOps.x (aB false) rfl trivial rfl ?_
  refine OkOps.nil ?_
  refine Ok.seq ?_
  refine Ok.seq ?_
  refine Ok.region ?_
  refine OkOps.x (.c (.loc 0 0)) rfl trivial rfl ?_
  refine OkOps.x (aI a.Kind) rfl trivial rfl ?_
  refine OkOps.x (.c (.loc 1 0)) rfl trivial rfl ?_
  refine OkOps.x (aI b.Kind) rfl trivial rfl ?_
  refine OkOps.x (aB (a.Kind != b.Kind)) rfl trivial rfl ?_
  refine OkOps.nil ?_
  refine Ok.cond (b := a.Kind != b.Kind) rfl (fun h1 => ?_) (fun h1 => ?_)
  · have hr := selT h1 hr
    refine Ok.seq ?_
    refine Ok.region ?_
    refine OkOps.x (.agg [cI 0, .d (.v (.slice none 0 0))]) rfl trivial rfl ?_
    refine OkOps.w (triStore (cs' := [cI 0, .d (.v (.slice none 0 0))]) rfl rfl rfl rfl rfl rfl rfl rfl rfl) ?_
    refine OkOps.x (aB false) rfl trivial rfl ?_
    refine OkOps.nil ?_
    refine Ok.ret ?_
    obtain rfl := Option.some.inj hr
    exact ⟨_, rfl, .inr rfl, trivial⟩
  · have hr := selF h1 hr
    refine Ok.skip ?_
    refine Ok.seq ?_
    refine Ok.seq ?_
    refine Ok.region ?_
    refine OkOps.x (.c (.loc 0 1)) rfl trivial rfl ?_
    refine OkOps.x (.c (.d (.sl (List.map AType.cs a.Of)))) rfl trivial rfl ?_
    refine OkOps.q (triLen (enc := AType.cs) a.Of rfl rfl trivial rfl) ?_
    refine OkOps.x (aB ((a.Of.length : Int) == 0)) rfl trivial rfl ?_
    refine OkOps.nil ?_
    refine Ok.cond (b := (a.Of.length : Int) == 0) rfl (fun h2 => ?_) (fun h2 => ?_)
    · have hr := selT h2 hr
      refine Ok.seq ?_
      refine Ok.region ?_
      refine OkOps.x (.agg [cI b.Kind, .d (.sl (List.map AType.cs b.Of))]) rfl trivial rfl ?_
      refine OkOps.w (triStore (cs' := [cI b.Kind, .d (.sl (List.map AType.cs b.Of))]) rfl rfl rfl rfl rfl rfl rfl rfl rfl) ?_
      refine OkOps.x (aB true) rfl trivial rfl ?_
      refine OkOps.nil ?_
      refine Ok.ret ?_
      obtain rfl := Option.some.inj hr
      exact ⟨_, rfl, .inl rfl, trivial⟩
    · have hr := selF h2 hr
      refine Ok.skip ?_
      refine Ok.seq ?_
      refine Ok.seq ?_
      refine Ok.region ?_
      refine OkOps.x (.c (.loc 1 1)) rfl trivial rfl ?_
      refine OkOps.x (.c (.d (.sl (List.map AType.cs b.Of)))) rfl trivial rfl ?_
      refine OkOps.q (triLen (enc := AType.cs) b.Of rfl rfl trivial rfl) ?_
      refine OkOps.x (aB ((b.Of.length : Int) == 0)) rfl trivial rfl ?_
      refine OkOps.nil ?_
      refine Ok.cond (b := (b.Of.length : Int) == 0) rfl (fun h3 => ?_) (fun h3 => ?_)
      · have hr := selT h3 hr
        refine Ok.seq ?_
        refine Ok.region ?_
        refine OkOps.x (.agg [cI a.Kind, .d (.sl (List.map AType.cs a.Of))]) rfl trivial rfl ?_
        refine OkOps.w (triStore (cs' := [cI a.Kind, .d (.sl (List.map AType.cs a.Of))]) rfl rfl rfl rfl rfl rfl rfl rfl rfl) ?_
        refine OkOps.x (aB true) rfl trivial rfl ?_
        refine OkOps.nil ?_
        refine Ok.ret ?_
        obtain rfl := Option.some.inj hr
        exact ⟨_, rfl, .inl rfl, trivial⟩
      · have hr := selF h3 hr
        refine Ok.skip ?_
        refine Ok.seq ?_
        refine Ok.regionD (by kernel_rfl) ?_
        refine OkD.x (.c (.loc 0 1)) rfl trivial rfl ?_
        refine OkD.x (.c (.d (.sl (List.map AType.cs a.Of)))) rfl trivial rfl ?_
        obtain ⟨x4, hx4, hr⟩ := bind_some hr
        refine OkD.q (triIdx (enc := AType.cs) (L := a.Of) (row := [dI x4.Kind, .sl (List.map AType.cs x4.Of)]) hx4 (AType.cs_eq _) rfl rfl rfl (fun x => by rw [AType.cs_eq]; rfl) trivial rfl) ?_
        refine OkD.x (.agg [cI x4.Kind, .d (.sl (List.map AType.cs x4.Of))]) rfl trivial rfl ?_
        refine OkD.x (.c (.loc 1 1)) rfl trivial rfl ?_
        refine OkD.x (.c (.d (.sl (List.map AType.cs b.Of)))) rfl trivial rfl ?_
        obtain ⟨x5, hx5, hr⟩ := bind_some hr
        refine OkD.q (triIdx (enc := AType.cs) (L := b.Of) (row := [dI x5.Kind, .sl (List.map AType.cs x5.Of)]) hx5 (AType.cs_eq _) rfl rfl rfl (fun x => by rw [AType.cs_eq]; rfl) trivial rfl) ?_
        refine OkD.x (.agg [cI x5.Kind, .d (.sl (List.map AType.cs x5.Of))]) rfl trivial rfl ?_
        obtain ⟨x6, hx6, hr⟩ := bind_some hr
        refine OkD.q (triCall (tau []) (.tup [.agg [cI x6.1.Kind, .d (.sl (List.map AType.cs x6.1.Of))], aB x6.2]) [] (hself0 _ _ hx6) rfl ⟨.inl rfl, .inl rfl, trivial⟩ trivial entry124 trivial rfl rfl rfl rfl trivial rfl rfl rfl) ?_
        refine OkD.q (triMv (v := .tup [.agg [cI x6.1.Kind, .d (.sl (List.map AType.cs x6.1.Of))], aB x6.2]) rfl rfl) ?_
        refine OkD.x (.agg [cI x6.1.Kind, .d (.sl (List.map AType.cs x6.1.Of))]) rfl trivial rfl ?_
        refine OkD.x (aB x6.2) rfl trivial rfl ?_
        refine OkD.m 0 (triAlloc (j := 3) (cs := [cI 0, .d (.v (.slice none 0 0))]) rfl rfl rfl rfl) ?_
        refine OkD.w (triStore (cs' := [cI x6.1.Kind, .d (.sl (List.map AType.cs x6.1.Of))]) rfl rfl rfl rfl rfl rfl rfl rfl rfl) ?_
        refine OkD.x (aB x6.2) rfl trivial rfl ?_
        refine OkD.nil (by kernel_rfl) ?_
        refine Ok.seq ?_
        refine Ok.seq ?_
        refine Ok.region ?_
        refine OkOps.x (aB x6.2) rfl trivial rfl ?_
        refine OkOps.x (aB (!x6.2)) rfl trivial rfl ?_
        refine OkOps.nil ?_
        refine Ok.cond (b := !x6.2) rfl (fun h7 => ?_) (fun h7 => ?_)
        · have hr := selT h7 hr
          refine Ok.seq ?_
          refine Ok.region ?_
          refine OkOps.x (.agg [cI 0, .d (.v (.slice none 0 0))]) rfl trivial rfl ?_
          refine OkOps.w (triStore (cs' := [cI 0, .d (.v (.slice none 0 0))]) rfl rfl rfl rfl rfl rfl rfl rfl rfl) ?_
          refine OkOps.x (aB false) rfl trivial rfl ?_
          refine OkOps.nil ?_
          refine Ok.ret ?_
          obtain rfl := Option.some.inj hr
          exact ⟨_, rfl, .inr rfl, trivial⟩
        · have hr := selF h7 hr
          refine Ok.skip ?_
          refine Ok.seq ?_
          refine Ok.region ?_
          refine OkOps.x (.c (.loc 0 0)) rfl trivial rfl ?_
          refine OkOps.x (aI a.Kind) rfl trivial rfl ?_
          refine OkOps.x (.agg [cI x6.1.Kind, .d (.sl (List.map AType.cs x6.1.Of))]) rfl trivial rfl ?_
          refine OkOps.m 0 (triBST (sz := 2) (enc := AType.cs) (j := 4) ([x6.1]) rfl rfl rfl rfl rfl (rows := [[dI x6.1.Kind, .sl (List.map AType.cs x6.1.Of)]]) (by simp only [List.map, AType.cs_eq]) rfl rfl (fun x => by rw [AType.cs_eq]; rfl) trivial rfl rfl) ?_
          refine OkOps.x (.agg [cI a.Kind, .tl 4 (List.map AType.cs ([x6.1]))]) rfl trivial rfl ?_
          refine OkOps.w (triStore (cs' := [cI a.Kind, .tl 4 (List.map AType.cs ([x6.1]))]) rfl rfl rfl rfl rfl rfl rfl rfl rfl) ?_
          refine OkOps.x (aB true) rfl trivial rfl ?_
          refine OkOps.nil ?_
          refine Ok.ret ?_
          obtain rfl := Option.some.inj hr
          exact ⟨_, rfl, .inr rfl, trivial⟩
theorem r11_join_all : ∀ n : Nat, (∀ (a : AType) (b : AType) {r : AType × Bool}, r11_join n a b = some r → Con Tryd.prog 124 [.agg [cI a.Kind, .d (.sl (List.map AType.cs a.Of))], .agg [cI b.Kind, .d (.sl (List.map AType.cs b.Of))]] [] (.tup [.agg [cI r.1.Kind, .d (.sl (List.map AType.cs r.1.Of))], aB r.2]) []) ∧ True := by
  intro n
  induction n with
  | zero => exact ⟨(by intros; rename_i hr; cases hr), trivial⟩
  | succ n ih => exact ⟨(by intros; rename_i hr; exact r11_join_B_c _ ih.1 _ _ hr), trivial⟩
theorem r11_join_c (n : Nat) (a : AType) (b : AType) {r : AType × Bool} (hr : r11_join n a b = some r) : Con Tryd.prog 124 [.agg [cI a.Kind, .d (.sl (List.map AType.cs a.Of))], .agg [cI b.Kind, .d (.sl (List.map AType.cs b.Of))]] [] (.tup [.agg [cI r.1.Kind, .d (.sl (List.map AType.cs r.1.Of))], aB r.2]) [] := (r11_join_all n).1 a b hr
theorem entry113 : Entry Tryd.prog 113 := ⟨_, Tryd.func113, by kernel_rfl, by kernel_rfl⟩
theorem r11_check_B_c (self0 : AValue → Int → Int → Option (AType × Int × Int)) (hself0 : ∀ (a0 : AValue) (a1 : Int) (a2 : Int) {r : AType × Int × Int}, self0 a0 a1 a2 = some r → Con Tryd.prog 113 [.agg [cI a0.Kind, cI a0.N, cS a0.S, .d (.sl (List.map AValue.cs a0.L))], aI a1, aI a2] [] (.tup [.agg [cI r.1.Kind, .d (.sl (List.map AType.cs r.1.Of))], aI r.2.1, aI r.2.2]) []) (a0 : AValue) (a1 : Int) (a2 : Int) {r : AType × Int × Int} (hr : r11_check_B self0 a0 a1 a2 = some r) : Con Tryd.prog 113 [.agg [cI a0.Kind, cI a0.N, cS a0.S, .d (.sl (List.map AValue.cs a0.L))], aI a1, aI a2] [] (.tup [.agg [cI r.1.Kind, .d (.sl (List.map AType.cs r.1.Of))], aI r.2.1, aI r.2.2]) [] := by
  unfold r11_check_B at hr
  refine Con.of_ok 184 0 [.cell 6 130, .tmp 7, .tmp 8] [(0, .s (.agg [cI a0.Kind, cI a0.N, cS a0.S, .d (.sl (List.map AValue.cs a0.L))])), (1, .s (aI a1)), (2, .s (aI a2))] Tryd.func113 rfl rfl rfl rfl rfl rfl rfl rfl fun w g M ρ _ => ?_
  refine Ok.seq ?_
  refine Ok.region ?_
  refine OkOps.m 0 (triBox (j := 0) (cs := [cI a0.Kind, cI a0.N, cS a0.S, .d (.sl (List.map AValue.cs a0.L))]) rfl rfl rfl rfl rfl) ?_
  refine OkOps.m 0 (triAlloc (j := 1) (cs := [cI 0, .d (.v (.slice none 0 0))]) rfl rfl rfl rfl) ?_
  refine OkOps.x (aI 0) rfl trivial rfl ?_
  refine OkOps.x (aI 0) rfl trivial rfl ?_
  refine OkOps.nil ?_
  refine Ok.seq ?_
  refine Ok.region ?_
  refine OkOps.x (aI a2) rfl trivial rfl ?_
  refine OkOps.x (aI (IntKind.i64.wrap (a2 + 1))) rfl trivial rfl ?_
  refine OkOps.x (aI (IntKind.i64.wrap (a2 + 1))) rfl trivial rfl ?_
  refine OkOps.nil ?_
  refine Ok.seq ?_
  refine Ok.region ?_
  refine OkOps.x (.c (.loc 0 0)) rfl trivial rfl ?_
  refine OkOps.x (aI a0.Kind) rfl trivial rfl ?_
  refine OkOps.x (aB (a0.Kind == 4)) rfl trivial rfl ?_
  refine OkOps.x (aB (a0.Kind == 4)) rfl trivial rfl ?_
  refine OkOps.nil ?_
  refine Ok.seq ?_
  refine Ok.seq ?_
  refine Ok.region ?_
  refine OkOps.x (aB (a0.Kind == 4)) rfl trivial rfl ?_
  refine OkOps.x (aB (a0.Kind == 4)) rfl trivial rfl ?_
  refine OkOps.q (triQG (x := aI a1) rfl rfl trivial rfl) ?_
  refine OkOps.q (triQG (x := aB (decide (a1 > 16))) rfl rfl ⟨fun h => h, trivial⟩ rfl) ?_
  refine OkOps.q (triAnd rfl rfl (fun h => h) rfl) ?_
  refine OkOps.nil ?_
  refine Ok.cond (b := (a0.Kind == 4) && (decide (a1 > 16))) rfl (fun h1 => ?_) (fun h1 => ?_)
  · have hr := selT h1 hr
    refine Ok.seq ?_
    refine Ok.region ?_
    refine OkOps.x (.agg [cI 0, .d (.v (.slice none 0 0))]) rfl trivial rfl ?_
    refine OkOps.x (aI (IntKind.i64.wrap (a2 + 1))) rfl trivial rfl ?_
    refine OkOps.w (triStore (cs' := [cI 0, .d (.v (.slice none 0 0))]) rfl rfl rfl rfl rfl rfl rfl rfl rfl) ?_
    refine OkOps.x (aI (IntKind.i64.wrap (a2 + 1))) rfl trivial rfl ?_
    refine OkOps.x (aI 8) rfl trivial rfl ?_
    refine OkOps.nil ?_
    refine Ok.ret ?_
    obtain rfl := Option.some.inj hr
    exact ⟨_, rfl, .inr rfl, trivial⟩
  · have hr := selF h1 hr
    refine Ok.skip ?_
    refine Ok.seq ?_
    refine Ok.seq ?_
    refine Ok.region ?_
    refine OkOps.x (.c (.loc 0 0)) rfl trivial rfl ?_
    refine OkOps.x (aI a0.Kind) rfl trivial rfl ?_
    refine OkOps.x (aB (decide (a0.Kind < 1))) rfl trivial rfl ?_
    refine OkOps.x (aB (decide (a0.Kind < 1))) rfl trivial rfl ?_
    refine OkOps.q (triQG (x := .c (.loc 0 0)) rfl rfl trivial rfl) ?_
    refine OkOps.q (triQG (x := aI a0.Kind) rfl rfl ⟨fun h => h, trivial⟩ rfl) ?_
    refine OkOps.q (triQG (x := aB (decide (a0.Kind > 4))) rfl rfl ⟨fun h => h, trivial⟩ rfl) ?_
    refine OkOps.q (triOr rfl rfl (fun h => by rw [h]; rfl) rfl) ?_
    refine OkOps.x (aB ((decide (a0.Kind < 1)) || (decide (a0.Kind > 4)))) rfl trivial rfl ?_
    refine OkOps.q (triQG (x := .c (.loc 0 1)) rfl rfl trivial rfl) ?_
    refine OkOps.q (triQG (x := aI a0.N) rfl rfl ⟨fun h => h, trivial⟩ rfl) ?_
    refine OkOps.q (triQG (x := aB (a0.N != 0)) rfl rfl ⟨fun h => h, trivial⟩ rfl) ?_
    refine OkOps.q (triQG (x := aB (a0.N != 0)) rfl rfl ⟨fun h => h, trivial⟩ rfl) ?_
    refine OkOps.q (triQG (x := .c (.loc 0 0)) rfl rfl trivial rfl) ?_
    refine OkOps.q (triQG (x := aI a0.Kind) rfl rfl ⟨fun h => h, trivial⟩ rfl) ?_
    refine OkOps.q (triQG (x := aB (a0.Kind != 1)) rfl rfl ⟨fun h => h, trivial⟩ rfl) ?_
    refine OkOps.q (triAndG rfl rfl rfl (fun h => h) (fun h h2 => by rw [h, h2]; rfl) rfl) ?_
    refine OkOps.q (triQG (x := aB ((a0.N != 0) && (a0.Kind != 1))) rfl rfl ⟨fun h => h, trivial⟩ rfl) ?_
    refine OkOps.q (triQG (x := .c (.loc 0 0)) rfl rfl trivial rfl) ?_
    refine OkOps.q (triQG (x := aI a0.Kind) rfl rfl ⟨fun h => h, trivial⟩ rfl) ?_
    refine OkOps.q (triQG (x := aB (a0.Kind != 2)) rfl rfl ⟨fun h => h, trivial⟩ rfl) ?_
    refine OkOps.q (triAndG rfl rfl rfl (fun h => h) (fun h h2 => by rw [h, h2]; rfl) rfl) ?_
    refine OkOps.q (triOr rfl rfl (fun h => by rw [h]; rfl) rfl) ?_
    refine OkOps.x (aB (((decide (a0.Kind < 1)) || (decide (a0.Kind > 4))) || (((a0.N != 0) && (a0.Kind != 1)) && (a0.Kind != 2)))) rfl trivial rfl ?_
    refine OkOps.q (triQG (x := .c (.loc 0 2)) rfl rfl trivial rfl) ?_
    refine OkOps.q (triQG (x := aS a0.S) rfl rfl ⟨fun h => h, trivial⟩ rfl) ?_
    refine OkOps.q (triQG (x := aB (!(a0.S.toList == (ByteArray.mk #[]).toList))) rfl rfl ⟨fun h => h, trivial⟩ rfl) ?_
    refine OkOps.q (triQG (x := aB (!(a0.S.toList == (ByteArray.mk #[]).toList))) rfl rfl ⟨fun h => h, trivial⟩ rfl) ?_
    refine OkOps.q (triQG (x := .c (.loc 0 0)) rfl rfl trivial rfl) ?_
    refine OkOps.q (triQG (x := aI a0.Kind) rfl rfl ⟨fun h => h, trivial⟩ rfl) ?_
    refine OkOps.q (triQG (x := aB (a0.Kind != 3)) rfl rfl ⟨fun h => h, trivial⟩ rfl) ?_
    refine OkOps.q (triAndG rfl rfl rfl (fun h => h) (fun h h2 => by rw [h, h2]; rfl) rfl) ?_
    refine OkOps.q (triOr rfl rfl (fun h => by rw [h]; rfl) rfl) ?_
    refine OkOps.x (aB ((((decide (a0.Kind < 1)) || (decide (a0.Kind > 4))) || (((a0.N != 0) && (a0.Kind != 1)) && (a0.Kind != 2))) || ((!(a0.S.toList == (ByteArray.mk #[]).toList)) && (a0.Kind != 3)))) rfl trivial rfl ?_
    refine OkOps.q (triQG (x := .c (.loc 0 3)) rfl rfl trivial rfl) ?_
    refine OkOps.q (triQG (x := .c (.d (.sl (List.map AValue.cs a0.L)))) rfl rfl ⟨fun h => h, trivial⟩ rfl) ?_
    refine OkOps.q (triLenG (enc := AValue.cs) a0.L rfl rfl rfl ⟨fun h => h, trivial⟩ rfl) ?_
    refine OkOps.q (triQG (x := aB (decide ((a0.L.length : Int) > 0))) rfl rfl ⟨fun h => h, trivial⟩ rfl) ?_
    refine OkOps.q (triQG (x := aB (decide ((a0.L.length : Int) > 0))) rfl rfl ⟨fun h => h, trivial⟩ rfl) ?_
    refine OkOps.q (triQG (x := aB (a0.Kind == 4)) rfl rfl trivial rfl) ?_
    refine OkOps.q (triQG (x := aB (!(a0.Kind == 4))) rfl rfl ⟨fun h => h, trivial⟩ rfl) ?_
    refine OkOps.q (triAndG rfl rfl rfl (fun h => h) (fun h h2 => by rw [h, h2]; rfl) rfl) ?_
    refine OkOps.q (triOr rfl rfl (fun h => by rw [h]; rfl) rfl) ?_
    refine OkOps.nil ?_
    refine Ok.cond (b := ((((decide (a0.Kind < 1)) || (decide (a0.Kind > 4))) || (((a0.N != 0) && (a0.Kind != 1)) && (a0.Kind != 2))) || ((!(a0.S.toList == (ByteArray.mk #[]).toList)) && (a0.Kind != 3))) || ((decide ((a0.L.length : Int) > 0)) && (!(a0.Kind == 4)))) rfl (fun h2 => ?_) (fun h2 => ?_)
    · have hr := selT h2 hr
      refine Ok.seq ?_
      refine Ok.region ?_
      refine OkOps.x (.agg [cI 0, .d (.v (.slice none 0 0))]) rfl trivial rfl ?_
      refine OkOps.x (aI (IntKind.i64.wrap (a2 + 1))) rfl trivial rfl ?_
      refine OkOps.w (triStore (cs' := [cI 0, .d (.v (.slice none 0 0))]) rfl rfl rfl rfl rfl rfl rfl rfl rfl) ?_
      refine OkOps.x (aI (IntKind.i64.wrap (a2 + 1))) rfl trivial rfl ?_
      refine OkOps.x (aI 9) rfl trivial rfl ?_
      refine OkOps.nil ?_
      refine Ok.ret ?_
      obtain rfl := Option.some.inj hr
      exact ⟨_, rfl, .inr rfl, trivial⟩
    · have hr := selF h2 hr
      refine Ok.skip ?_
      refine Ok.seq ?_
      refine Ok.seq ?_
      refine Ok.region ?_
      refine OkOps.x (.c (.loc 0 0)) rfl trivial rfl ?_
      refine OkOps.x (aI a0.Kind) rfl trivial rfl ?_
      refine OkOps.x (aB (a0.Kind == 1)) rfl trivial rfl ?_
      refine OkOps.x (aB (a0.Kind == 1)) rfl trivial rfl ?_
      refine OkOps.q (triQG (x := .c (.loc 0 1)) rfl rfl trivial rfl) ?_
      refine OkOps.q (triQG (x := aI a0.N) rfl rfl ⟨fun h => h, trivial⟩ rfl) ?_
      refine OkOps.q (triQG (x := aB (decide (a0.N < (-1099511627776)))) rfl rfl ⟨fun h => h, trivial⟩ rfl) ?_
      refine OkOps.q (triQG (x := aB (decide (a0.N < (-1099511627776)))) rfl rfl ⟨fun h => h, trivial⟩ rfl) ?_
      refine OkOps.q (triQG (x := .c (.loc 0 1)) rfl rfl trivial rfl) ?_
      refine OkOps.q (triQG (x := aI a0.N) rfl rfl ⟨fun h => h, trivial⟩ rfl) ?_
      refine OkOps.q (triQG (x := aB (decide (a0.N > 1099511627776))) rfl rfl ⟨fun h => h, trivial⟩ rfl) ?_
      refine OkOps.q (triOrG rfl rfl rfl (fun h => h) (fun h h2 => by rw [h, h2]; rfl) rfl) ?_
      refine OkOps.q (triAnd rfl rfl (fun h => h) rfl) ?_
      refine OkOps.x (aB ((a0.Kind == 1) && ((decide (a0.N < (-1099511627776))) || (decide (a0.N > 1099511627776))))) rfl trivial rfl ?_
      refine OkOps.q (triQG (x := .c (.loc 0 0)) rfl rfl trivial rfl) ?_
      refine OkOps.q (triQG (x := aI a0.Kind) rfl rfl ⟨fun h => h, trivial⟩ rfl) ?_
      refine OkOps.q (triQG (x := aB (a0.Kind == 2)) rfl rfl ⟨fun h => h, trivial⟩ rfl) ?_
      refine OkOps.q (triQG (x := aB (a0.Kind == 2)) rfl rfl ⟨fun h => h, trivial⟩ rfl) ?_
      refine OkOps.q (triQG (x := .c (.loc 0 1)) rfl rfl trivial rfl) ?_
      refine OkOps.q (triQG (x := aI a0.N) rfl rfl ⟨fun h => h, trivial⟩ rfl) ?_
      refine OkOps.q (triQG (x := aB (a0.N != 0)) rfl rfl ⟨fun h => h, trivial⟩ rfl) ?_
      refine OkOps.q (triAndG rfl rfl rfl (fun h => h) (fun h h2 => by rw [h, h2]; rfl) rfl) ?_
      refine OkOps.q (triQG (x := aB ((a0.Kind == 2) && (a0.N != 0))) rfl rfl ⟨fun h => h, trivial⟩ rfl) ?_
      refine OkOps.q (triQG (x := .c (.loc 0 1)) rfl rfl trivial rfl) ?_
      refine OkOps.q (triQG (x := aI a0.N) rfl rfl ⟨fun h => h, trivial⟩ rfl) ?_
      refine OkOps.q (triQG (x := aB (a0.N != 1)) rfl rfl ⟨fun h => h, trivial⟩ rfl) ?_
      refine OkOps.q (triAndG rfl rfl rfl (fun h => h) (fun h h2 => by rw [h, h2]; rfl) rfl) ?_
      refine OkOps.q (triOr rfl rfl (fun h => by rw [h]; rfl) rfl) ?_
      refine OkOps.nil ?_
      refine Ok.cond (b := ((a0.Kind == 1) && ((decide (a0.N < (-1099511627776))) || (decide (a0.N > 1099511627776)))) || (((a0.Kind == 2) && (a0.N != 0)) && (a0.N != 1))) rfl (fun h3 => ?_) (fun h3 => ?_)
      · have hr := selT h3 hr
        refine Ok.seq ?_
        refine Ok.region ?_
        refine OkOps.x (.agg [cI 0, .d (.v (.slice none 0 0))]) rfl trivial rfl ?_
        refine OkOps.x (aI (IntKind.i64.wrap (a2 + 1))) rfl trivial rfl ?_
        refine OkOps.w (triStore (cs' := [cI 0, .d (.v (.slice none 0 0))]) rfl rfl rfl rfl rfl rfl rfl rfl rfl) ?_
        refine OkOps.x (aI (IntKind.i64.wrap (a2 + 1))) rfl trivial rfl ?_
        refine OkOps.x (aI 1) rfl trivial rfl ?_
        refine OkOps.nil ?_
        refine Ok.ret ?_
        obtain rfl := Option.some.inj hr
        exact ⟨_, rfl, .inr rfl, trivial⟩
      · have hr := selF h3 hr
        refine Ok.skip ?_
        refine Ok.seq ?_
        refine Ok.seq ?_
        refine Ok.region ?_
        refine OkOps.x (.c (.loc 0 2)) rfl trivial rfl ?_
        refine OkOps.x (aS a0.S) rfl trivial rfl ?_
        refine OkOps.x (aI (a0.S.size : Int)) rfl trivial rfl ?_
        refine OkOps.x (aB (decide ((a0.S.size : Int) > 2000))) rfl trivial rfl ?_
        refine OkOps.x (aB (decide ((a0.S.size : Int) > 2000))) rfl trivial rfl ?_
        refine OkOps.q (triQG (x := .c (.loc 0 3)) rfl rfl trivial rfl) ?_
        refine OkOps.q (triQG (x := .c (.d (.sl (List.map AValue.cs a0.L)))) rfl rfl ⟨fun h => h, trivial⟩ rfl) ?_
        refine OkOps.q (triLenG (enc := AValue.cs) a0.L rfl rfl rfl ⟨fun h => h, trivial⟩ rfl) ?_
        refine OkOps.q (triQG (x := aB (decide ((a0.L.length : Int) > 100))) rfl rfl ⟨fun h => h, trivial⟩ rfl) ?_
        refine OkOps.q (triOr rfl rfl (fun h => by rw [h]; rfl) rfl) ?_
        refine OkOps.x (aB ((decide ((a0.S.size : Int) > 2000)) || (decide ((a0.L.length : Int) > 100)))) rfl trivial rfl ?_
        refine OkOps.q (triQG (x := aI (IntKind.i64.wrap (a2 + 1))) rfl rfl trivial rfl) ?_
        refine OkOps.q (triQG (x := aB (decide ((IntKind.i64.wrap (a2 + 1)) > 1000))) rfl rfl ⟨fun h => h, trivial⟩ rfl) ?_
        refine OkOps.q (triOr rfl rfl (fun h => by rw [h]; rfl) rfl) ?_
        refine OkOps.nil ?_
        refine Ok.cond (b := ((decide ((a0.S.size : Int) > 2000)) || (decide ((a0.L.length : Int) > 100))) || (decide ((IntKind.i64.wrap (a2 + 1)) > 1000))) rfl (fun h4 => ?_) (fun h4 => ?_)
        · have hr := selT h4 hr
          refine Ok.seq ?_
          refine Ok.region ?_
          refine OkOps.x (.agg [cI 0, .d (.v (.slice none 0 0))]) rfl trivial rfl ?_
          refine OkOps.x (aI (IntKind.i64.wrap (a2 + 1))) rfl trivial rfl ?_
          refine OkOps.w (triStore (cs' := [cI 0, .d (.v (.slice none 0 0))]) rfl rfl rfl rfl rfl rfl rfl rfl rfl) ?_
          refine OkOps.x (aI (IntKind.i64.wrap (a2 + 1))) rfl trivial rfl ?_
          refine OkOps.x (aI 2) rfl trivial rfl ?_
          refine OkOps.nil ?_
          refine Ok.ret ?_
          obtain rfl := Option.some.inj hr
          exact ⟨_, rfl, .inr rfl, trivial⟩
        · have hr := selF h4 hr
          refine Ok.skip ?_
          refine Ok.seq ?_
          refine Ok.seq ?_
          refine Ok.region ?_
          refine OkOps.x (.c (.loc 0 2)) rfl trivial rfl ?_
          refine OkOps.x (aS a0.S) rfl trivial rfl ?_
          obtain ⟨x5, hx5, hr⟩ := bind_some hr
          refine OkOps.q (triCall (tau []) (.s (aB x5)) [] (r11_UTF8_c _ hx5) rfl ⟨.inl rfl, trivial⟩ trivial entry123 trivial rfl rfl rfl rfl trivial rfl rfl rfl) ?_
          refine OkOps.x (aB (!x5)) rfl trivial rfl ?_
          refine OkOps.nil ?_
          refine Ok.cond (b := !x5) rfl (fun h6 => ?_) (fun h6 => ?_)
          · have hr := selT h6 hr
            refine Ok.seq ?_
            refine Ok.region ?_
            refine OkOps.x (.agg [cI 0, .d (.v (.slice none 0 0))]) rfl trivial rfl ?_
            refine OkOps.x (aI (IntKind.i64.wrap (a2 + 1))) rfl trivial rfl ?_
            refine OkOps.w (triStore (cs' := [cI 0, .d (.v (.slice none 0 0))]) rfl rfl rfl rfl rfl rfl rfl rfl rfl) ?_
            refine OkOps.x (aI (IntKind.i64.wrap (a2 + 1))) rfl trivial rfl ?_
            refine OkOps.x (aI 3) rfl trivial rfl ?_
            refine OkOps.nil ?_
            refine Ok.ret ?_
            obtain rfl := Option.some.inj hr
            exact ⟨_, rfl, .inr rfl, trivial⟩
          · have hr := selF h6 hr
            refine Ok.skip ?_
            refine Ok.seq ?_
            refine Ok.region ?_
            refine OkOps.x (.c (.loc 0 0)) rfl trivial rfl ?_
            refine OkOps.x (aI a0.Kind) rfl trivial rfl ?_
            refine OkOps.x (.agg [cI a0.Kind, .d (.v (.slice none 0 0))]) rfl trivial rfl ?_
            refine OkOps.m 0 (triAlloc (j := 2) (cs := [cI 0, .d (.v (.slice none 0 0))]) rfl rfl rfl rfl) ?_
            refine OkOps.w (triStore (cs' := [cI a0.Kind, .d (.v (.slice none 0 0))]) rfl rfl rfl rfl rfl rfl rfl rfl rfl) ?_
            refine OkOps.nil ?_
            refine Ok.seq ?_
            refine Ok.region ?_
            refine OkOps.x (aB true) rfl trivial rfl ?_
            refine OkOps.nil ?_
            obtain ⟨k8, hk8, hr⟩ := jn_some hr
            refine Ok.join (fun (s7 : Int × Bool × (List AType)) => ⟨[(2, .s (aI s7.1)), (6, .s (.c (.loc 1 0))), (10, .s (.c (.loc 2 0))), (11, .s (aB s7.2.1))], [(1, .blk [cI 0, .d (.v (.slice none 0 0))] 130), (2, .blk [cI a0.Kind, .tl 1008 (List.map AType.cs s7.2.2)] 130), (1008, .tail 2)], 0⟩) k8 r (fun s7 hr => ?_) ?_
            · rw [hk8] at hr
              refine Ok.seq ?_
              refine Ok.seq ?_
              refine Ok.region ?_
              refine OkOps.x (aB s7.2.1) rfl trivial rfl ?_
              refine OkOps.x (aB (!s7.2.1)) rfl trivial rfl ?_
              refine OkOps.nil ?_
              refine Ok.cond (b := !s7.2.1) rfl (fun h9 => ?_) (fun h9 => ?_)
              · have hr := selT h9 hr
                refine Ok.seq ?_
                refine Ok.region ?_
                refine OkOps.x (.agg [cI 0, .d (.v (.slice none 0 0))]) rfl trivial rfl ?_
                refine OkOps.x (aI s7.1) rfl trivial rfl ?_
                refine OkOps.w (triStore (cs' := [cI 0, .d (.v (.slice none 0 0))]) rfl rfl rfl rfl rfl rfl rfl rfl rfl) ?_
                refine OkOps.x (aI s7.1) rfl trivial rfl ?_
                refine OkOps.x (aI 5) rfl trivial rfl ?_
                refine OkOps.nil ?_
                refine Ok.ret ?_
                obtain rfl := Option.some.inj hr
                exact ⟨_, rfl, .inr rfl, trivial⟩
              · have hr := selF h9 hr
                refine Ok.skip ?_
                refine Ok.seq ?_
                refine Ok.region ?_
                refine OkOps.x (.agg [cI a0.Kind, .tl 1008 (List.map AType.cs s7.2.2)]) rfl trivial rfl ?_
                refine OkOps.x (aI s7.1) rfl trivial rfl ?_
                refine OkOps.w (triStore (cs' := [cI a0.Kind, .tl 1008 (List.map AType.cs s7.2.2)]) rfl rfl rfl rfl rfl rfl rfl rfl rfl) ?_
                refine OkOps.x (aI s7.1) rfl trivial rfl ?_
                refine OkOps.x (aI 0) rfl trivial rfl ?_
                refine OkOps.nil ?_
                refine Ok.ret ?_
                obtain rfl := Option.some.inj hr
                exact ⟨_, rfl, .inr rfl, trivial⟩
            · clear hk8
              refine Ok.seq ?_
              refine Ok.region ?_
              refine OkOps.x (aI 0) rfl trivial rfl ?_
              refine OkOps.nil ?_
              refine Ok.block ?_
              refine Ok.loopK (fun (s10 : Int × Bool × Int × (List AType)) => ⟨[(1, .s (aI a1)), (2, .s (aI s10.1)), (3, .s (.c (.loc 0 0))), (6, .s (.c (.loc 1 0))), (10, .s (.c (.loc 2 0))), (11, .s (aB s10.2.1)), (12, .s (aI s10.2.2.1))], [(0, .blk [cI a0.Kind, cI a0.N, cS a0.S, .d (.sl (List.map AValue.cs a0.L))] 40), (1, .blk [cI 0, .d (.v (.slice none 0 0))] 130), (2, .blk [cI a0.Kind, .tl 1013 (List.map AType.cs s10.2.2.2)] 130), (1013, .tail 2)], 0⟩) hr (Conv.trans (Conv.nilO 2 1 1016 2 [cI a0.Kind, .d (.v (.slice none 0 0))] [cI a0.Kind, .tl 1016 (List.map AType.cs ([] : (List AType)))] 130 0 rfl rfl rfl rfl) (Conv.mk (tau [(1013, 1016)]) ⟨⟨_, rfl, .inl rfl⟩, ⟨_, rfl, .inl rfl⟩, ⟨_, rfl, .inl rfl⟩, ⟨_, rfl, .inl rfl⟩, ⟨_, rfl, .inl rfl⟩, ⟨_, rfl, .inl rfl⟩, ⟨_, rfl, .inl rfl⟩, trivial⟩ ⟨rfl, rfl, rfl, rfl, trivial⟩ rfl rfl rfl rfl)) ?_
              clear hr
              intro again11 s10 hr
              unfold r11_check_L1 at hr
              refine Ok.seq ?_
              refine Ok.seq ?_
              refine Ok.region ?_
              refine OkOps.x (aI s10.2.2.1) rfl trivial rfl ?_
              refine OkOps.x (.c (.loc 0 3)) rfl trivial rfl ?_
              refine OkOps.x (.c (.d (.sl (List.map AValue.cs a0.L)))) rfl trivial rfl ?_
              refine OkOps.q (triLen (enc := AValue.cs) a0.L rfl rfl trivial rfl) ?_
              refine OkOps.x (aB (decide (s10.2.2.1 < (a0.L.length : Int)))) rfl trivial rfl ?_
              refine OkOps.nil ?_
              refine Ok.cond (b := decide (s10.2.2.1 < (a0.L.length : Int))) rfl (fun h12 => ?_) (fun h12 => ?_)
              · have hr := selT h12 hr
                refine Ok.skip ?_
                obtain ⟨k14, hk14, hr⟩ := jn_some hr
                refine Ok.join (fun (s13 : Int × Bool × (List AType)) => ⟨[(1, .s (aI a1)), (2, .s (aI s13.1)), (3, .s (.c (.loc 0 0))), (6, .s (.c (.loc 1 0))), (10, .s (.c (.loc 2 0))), (11, .s (aB s13.2.1)), (12, .s (aI s10.2.2.1))], [(0, .blk [cI a0.Kind, cI a0.N, cS a0.S, .d (.sl (List.map AValue.cs a0.L))] 40), (1, .blk [cI 0, .d (.v (.slice none 0 0))] 130), (2, .blk [cI a0.Kind, .tl 1017 (List.map AType.cs s13.2.2)] 130), (1017, .tail 2)], 0⟩) k14 r (fun s13 hr => ?_) ?_
                · rw [hk14] at hr
                  refine Ok.region ?_
                  refine OkOps.x (aI s10.2.2.1) rfl trivial rfl ?_
                  refine OkOps.x (aI (IntKind.i64.wrap (s10.2.2.1 + 1))) rfl trivial rfl ?_
                  refine OkOps.x (aI (IntKind.i64.wrap (s10.2.2.1 + 1))) rfl trivial rfl ?_
                  refine OkOps.nil ?_
                  exact ⟨(s13.1, s13.2.1, IntKind.i64.wrap (s10.2.2.1 + 1), s13.2.2), hr, (Conv.mk (tau [(1013, 1017)]) ⟨⟨_, rfl, .inl rfl⟩, ⟨_, rfl, .inl rfl⟩, ⟨_, rfl, .inl rfl⟩, ⟨_, rfl, .inl rfl⟩, ⟨_, rfl, .inl rfl⟩, ⟨_, rfl, .inl rfl⟩, ⟨_, rfl, .inl rfl⟩, trivial⟩ ⟨rfl, rfl, rfl, rfl, trivial⟩ rfl rfl rfl rfl)⟩
                · clear hk14
                  refine Ok.block ?_
                  refine Ok.seq ?_
                  refine Ok.region ?_
                  refine OkOps.x (.c (.loc 0 3)) rfl trivial rfl ?_
                  refine OkOps.x (.c (.d (.sl (List.map AValue.cs a0.L)))) rfl trivial rfl ?_
                  refine OkOps.x (aI s10.2.2.1) rfl trivial rfl ?_
                  obtain ⟨x15, hx15, hr⟩ := bind_some hr
                  refine OkOps.q (triIdx (enc := AValue.cs) (L := a0.L) (row := [dI x15.Kind, dI x15.N, dS x15.S, .sl (List.map AValue.cs x15.L)]) hx15 (AValue.cs_eq _) rfl rfl rfl (fun x => by rw [AValue.cs_eq]; rfl) trivial rfl) ?_
                  refine OkOps.x (.agg [cI x15.Kind, cI x15.N, cS x15.S, .d (.sl (List.map AValue.cs x15.L))]) rfl trivial rfl ?_
                  refine OkOps.x (aI a1) rfl trivial rfl ?_
                  refine OkOps.x (aI (IntKind.i64.wrap (a1 + 1))) rfl trivial rfl ?_
                  refine OkOps.x (aI s10.1) rfl trivial rfl ?_
                  obtain ⟨x16, hx16, hr⟩ := bind_some hr
                  refine OkOps.q (triCall (tau []) (.tup [.agg [cI x16.1.Kind, .d (.sl (List.map AType.cs x16.1.Of))], aI x16.2.1, aI x16.2.2]) [] (hself0 _ _ _ hx16) rfl ⟨.inl rfl, .inl rfl, .inl rfl, trivial⟩ trivial entry113 trivial rfl rfl rfl rfl trivial rfl rfl rfl) ?_
                  refine OkOps.q (triMv (v := .tup [.agg [cI x16.1.Kind, .d (.sl (List.map AType.cs x16.1.Of))], aI x16.2.1, aI x16.2.2]) rfl rfl) ?_
                  refine OkOps.x (.agg [cI x16.1.Kind, .d (.sl (List.map AType.cs x16.1.Of))]) rfl trivial rfl ?_
                  refine OkOps.x (aI x16.2.1) rfl trivial rfl ?_
                  refine OkOps.x (aI x16.2.2) rfl trivial rfl ?_
                  refine OkOps.m 0 (triAlloc (j := 3) (cs := [cI 0, .d (.v (.slice none 0 0))]) rfl rfl rfl rfl) ?_
                  refine OkOps.w (triStore (cs' := [cI x16.1.Kind, .d (.sl (List.map AType.cs x16.1.Of))]) rfl rfl rfl rfl rfl rfl rfl rfl rfl) ?_
                  refine OkOps.x (aI x16.2.1) rfl trivial rfl ?_
                  refine OkOps.x (aI x16.2.2) rfl trivial rfl ?_
                  refine OkOps.nil ?_
                  refine Ok.seq ?_
                  refine Ok.region ?_
                  refine OkOps.x (aI x16.2.1) rfl trivial rfl ?_
                  refine OkOps.x (aI x16.2.1) rfl trivial rfl ?_
                  refine OkOps.nil ?_
                  refine Ok.seq ?_
                  refine Ok.seq ?_
                  refine Ok.region ?_
                  refine OkOps.x (aI x16.2.2) rfl trivial rfl ?_
                  refine OkOps.x (aB (x16.2.2 != 0)) rfl trivial rfl ?_
                  refine OkOps.nil ?_
                  refine Ok.cond (b := x16.2.2 != 0) rfl (fun h17 => ?_) (fun h17 => ?_)
                  · have hr := selT h17 hr
                    refine Ok.seq ?_
                    refine Ok.region ?_
                    refine OkOps.x (.agg [cI 0, .d (.v (.slice none 0 0))]) rfl trivial rfl ?_
                    refine OkOps.x (aI x16.2.1) rfl trivial rfl ?_
                    refine OkOps.x (aI x16.2.2) rfl trivial rfl ?_
                    refine OkOps.w (triStore (cs' := [cI 0, .d (.v (.slice none 0 0))]) rfl rfl rfl rfl rfl rfl rfl rfl rfl) ?_
                    refine OkOps.x (aI x16.2.1) rfl trivial rfl ?_
                    refine OkOps.x (aI x16.2.2) rfl trivial rfl ?_
                    refine OkOps.nil ?_
                    refine Ok.ret ?_
                    obtain rfl := Option.some.inj hr
                    exact ⟨_, rfl, .inr rfl, trivial⟩
                  · have hr := selF h17 hr
                    refine Ok.skip ?_
                    refine Ok.seq ?_
                    refine Ok.seq ?_
                    refine Ok.region ?_
                    refine OkOps.x (aB s10.2.1) rfl trivial rfl ?_
                    refine OkOps.x (aB (!s10.2.1)) rfl trivial rfl ?_
                    refine OkOps.nil ?_
                    refine Ok.cond (b := !s10.2.1) rfl (fun h18 => ?_) (fun h18 => ?_)
                    · have hr := selT h18 hr
                      refine Ok.exit ?_
                      exact ⟨(x16.2.1, s10.2.1, s10.2.2.2), hr, (Conv.mk (tau [(1017, 1013)]) ⟨⟨_, rfl, .inl rfl⟩, ⟨_, rfl, .inl rfl⟩, ⟨_, rfl, .inl rfl⟩, ⟨_, rfl, .inl rfl⟩, ⟨_, rfl, .inl rfl⟩, ⟨_, rfl, .inl rfl⟩, ⟨_, rfl, .inl rfl⟩, trivial⟩ ⟨rfl, rfl, rfl, rfl, trivial⟩ rfl rfl rfl rfl)⟩
                    · have hr := selF h18 hr
                      refine Ok.skip ?_
                      refine Ok.seq ?_
                      refine Ok.seq ?_
                      refine Ok.region ?_
                      refine OkOps.x (.c (.loc 2 1)) rfl trivial rfl ?_
                      refine OkOps.x (.c (.tl 1013 (List.map AType.cs s10.2.2.2))) rfl trivial rfl ?_
                      refine OkOps.q (triLen (enc := AType.cs) s10.2.2.2 rfl rfl trivial rfl) ?_
                      refine OkOps.x (aB ((s10.2.2.2.length : Int) == 0)) rfl trivial rfl ?_
                      refine OkOps.nil ?_
                      refine Ok.cond (b := (s10.2.2.2.length : Int) == 0) rfl (fun h19 => ?_) (fun h19 => ?_)
                      · have hr := selT h19 hr
                        refine Ok.seq ?_
                        refine Ok.region ?_
                        refine OkOps.x (.agg [cI x16.1.Kind, .d (.sl (List.map AType.cs x16.1.Of))]) rfl trivial rfl ?_
                        refine OkOps.m 0 (triBST (sz := 2) (enc := AType.cs) (j := 4) ([x16.1]) rfl rfl rfl rfl rfl (rows := [[dI x16.1.Kind, .sl (List.map AType.cs x16.1.Of)]]) (by simp only [List.map, AType.cs_eq]) rfl rfl (fun x => by rw [AType.cs_eq]; rfl) trivial rfl rfl) ?_
                        refine OkOps.x (.c (.loc 2 1)) rfl trivial rfl ?_
                        refine OkOps.w (triStore (cs' := [cI a0.Kind, .tl 4 (List.map AType.cs ([x16.1]))]) rfl rfl rfl rfl rfl rfl rfl rfl rfl) ?_
                        refine OkOps.nil ?_
                        refine Ok.exit ?_
                        exact ⟨(x16.2.1, s10.2.1, [x16.1]), hr, (Conv.mk (tau [(1017, 4)]) ⟨⟨_, rfl, .inl rfl⟩, ⟨_, rfl, .inl rfl⟩, ⟨_, rfl, .inl rfl⟩, ⟨_, rfl, .inl rfl⟩, ⟨_, rfl, .inl rfl⟩, ⟨_, rfl, .inl rfl⟩, ⟨_, rfl, .inl rfl⟩, trivial⟩ ⟨rfl, rfl, rfl, rfl, trivial⟩ rfl rfl rfl rfl)⟩
                      · have hr := selF h19 hr
                        refine Ok.skip ?_
                        refine Ok.seq ?_
                        refine Ok.regionD (by kernel_rfl) ?_
                        refine OkD.x (.c (.loc 2 1)) rfl trivial rfl ?_
                        refine OkD.x (.c (.tl 1013 (List.map AType.cs s10.2.2.2))) rfl trivial rfl ?_
                        obtain ⟨x20, hx20, hr⟩ := bind_some hr
                        refine OkD.q (triIdx (enc := AType.cs) (L := s10.2.2.2) (row := [dI x20.Kind, .sl (List.map AType.cs x20.Of)]) hx20 (AType.cs_eq _) rfl rfl rfl (fun x => by rw [AType.cs_eq]; rfl) trivial rfl) ?_
                        refine OkD.x (.agg [cI x20.Kind, .d (.sl (List.map AType.cs x20.Of))]) rfl trivial rfl ?_
                        refine OkD.x (.agg [cI x16.1.Kind, .d (.sl (List.map AType.cs x16.1.Of))]) rfl trivial rfl ?_
                        obtain ⟨x21, hx21, hr⟩ := bind_some hr
                        refine OkD.q (triCall (tau []) (.tup [.agg [cI x21.1.Kind, .d (.sl (List.map AType.cs x21.1.Of))], aB x21.2]) [] (r11_join_c _ _ _ hx21) rfl ⟨.inl rfl, .inl rfl, trivial⟩ trivial entry124 trivial rfl rfl rfl rfl trivial rfl rfl rfl) ?_
                        refine OkD.q (triMv (v := .tup [.agg [cI x21.1.Kind, .d (.sl (List.map AType.cs x21.1.Of))], aB x21.2]) rfl rfl) ?_
                        refine OkD.x (.agg [cI x21.1.Kind, .d (.sl (List.map AType.cs x21.1.Of))]) rfl trivial rfl ?_
                        refine OkD.x (aB x21.2) rfl trivial rfl ?_
                        refine OkD.m 0 (triAlloc (j := 5) (cs := [cI 0, .d (.v (.slice none 0 0))]) rfl rfl rfl rfl) ?_
                        refine OkD.w (triStore (cs' := [cI x21.1.Kind, .d (.sl (List.map AType.cs x21.1.Of))]) rfl rfl rfl rfl rfl rfl rfl rfl rfl) ?_
                        refine OkD.x (aB x21.2) rfl trivial rfl ?_
                        refine OkD.nil (by kernel_rfl) ?_
                        refine Ok.seq ?_
                        refine Ok.region ?_
                        refine OkOps.x (aB x21.2) rfl trivial rfl ?_
                        refine OkOps.x (aB x21.2) rfl trivial rfl ?_
                        refine OkOps.nil ?_
                        refine Ok.region ?_
                        refine OkOps.x (.agg [cI x21.1.Kind, .d (.sl (List.map AType.cs x21.1.Of))]) rfl trivial rfl ?_
                        refine OkOps.m 0 (triBST (sz := 2) (enc := AType.cs) (j := 6) ([x21.1]) rfl rfl rfl rfl rfl (rows := [[dI x21.1.Kind, .sl (List.map AType.cs x21.1.Of)]]) (by simp only [List.map, AType.cs_eq]) rfl rfl (fun x => by rw [AType.cs_eq]; rfl) trivial rfl rfl) ?_
                        refine OkOps.x (.c (.loc 2 1)) rfl trivial rfl ?_
                        refine OkOps.w (triStore (cs' := [cI a0.Kind, .tl 6 (List.map AType.cs ([x21.1]))]) rfl rfl rfl rfl rfl rfl rfl rfl rfl) ?_
                        refine OkOps.nil ?_
                        exact ⟨(x16.2.1, x21.2, [x21.1]), hr, (Conv.mk (tau [(1017, 6)]) ⟨⟨_, rfl, .inl rfl⟩, ⟨_, rfl, .inl rfl⟩, ⟨_, rfl, .inl rfl⟩, ⟨_, rfl, .inl rfl⟩, ⟨_, rfl, .inl rfl⟩, ⟨_, rfl, .inl rfl⟩, ⟨_, rfl, .inl rfl⟩, trivial⟩ ⟨rfl, rfl, rfl, rfl, trivial⟩ rfl rfl rfl rfl)⟩
              · have hr := selF h12 hr
                refine Ok.exit ?_
                exact ⟨(s10.1, s10.2.1, s10.2.2.2), hr, (Conv.mk (tau [(1008, 1013)]) ⟨⟨_, rfl, .inl rfl⟩, ⟨_, rfl, .inl rfl⟩, ⟨_, rfl, .inl rfl⟩, ⟨_, rfl, .inl rfl⟩, trivial⟩ ⟨rfl, rfl, rfl, trivial⟩ rfl rfl rfl rfl)⟩
theorem r11_check_all : ∀ n : Nat, (∀ (a0 : AValue) (a1 : Int) (a2 : Int) {r : AType × Int × Int}, r11_check n a0 a1 a2 = some r → Con Tryd.prog 113 [.agg [cI a0.Kind, cI a0.N, cS a0.S, .d (.sl (List.map AValue.cs a0.L))], aI a1, aI a2] [] (.tup [.agg [cI r.1.Kind, .d (.sl (List.map AType.cs r.1.Of))], aI r.2.1, aI r.2.2]) []) ∧ True := by
  intro n
  induction n with
  | zero => exact ⟨(by intros; rename_i hr; cases hr), trivial⟩
  | succ n ih => exact ⟨(by intros; rename_i hr; exact r11_check_B_c _ ih.1 _ _ _ hr), trivial⟩
theorem r11_check_c (n : Nat) (a0 : AValue) (a1 : Int) (a2 : Int) {r : AType × Int × Int} (hr : r11_check n a0 a1 a2 = some r) : Con Tryd.prog 113 [.agg [cI a0.Kind, cI a0.N, cS a0.S, .d (.sl (List.map AValue.cs a0.L))], aI a1, aI a2] [] (.tup [.agg [cI r.1.Kind, .d (.sl (List.map AType.cs r.1.Of))], aI r.2.1, aI r.2.2]) [] := (r11_check_all n).1 a0 a1 a2 hr
theorem r11_TypeOf_c (v : AValue) {r : AType × Int} (hr : r11_TypeOf v = some r) : Con Tryd.prog 107 [.agg [cI v.Kind, cI v.N, cS v.S, .d (.sl (List.map AValue.cs v.L))]] [] (.tup [.agg [cI r.1.Kind, .d (.sl (List.map AType.cs r.1.Of))], aI r.2]) [] := by
  unfold r11_TypeOf at hr
  refine Con.of_ok 15 0 [.cell 2 130, .tmp 3] [(0, .s (.agg [cI v.Kind, cI v.N, cS v.S, .d (.sl (List.map AValue.cs v.L))]))] Tryd.func107 rfl rfl rfl rfl rfl rfl rfl rfl fun w g M ρ _ => ?_
  refine Ok.seq ?_
  refine Ok.region ?_
  refine OkOps.m 0 (triBox (j := 0) (cs := [cI v.Kind, cI v.N, cS v.S, .d (.sl (List.map AValue.cs v.L))]) rfl rfl rfl rfl rfl) ?_
  refine OkOps.m 0 (triAlloc (j := 1) (cs := [cI 0, .d (.v (.slice none 0 0))]) rfl rfl rfl rfl) ?_
  refine OkOps.x (aI 0) rfl trivial rfl ?_
  refine OkOps.nil ?_
  refine Ok.seq ?_
  refine Ok.region ?_
  refine OkOps.x (.agg [cI v.Kind, cI v.N, cS v.S, .d (.sl (List.map AValue.cs v.L))]) rfl trivial rfl ?_
  obtain ⟨x1, hx1, hr⟩ := bind_some hr
  refine OkOps.q (triCall (tau []) (.tup [.agg [cI x1.1.Kind, .d (.sl (List.map AType.cs x1.1.Of))], aI x1.2.1, aI x1.2.2]) [] (r11_check_c _ _ _ _ hx1) rfl ⟨.inl rfl, .inl rfl, .inl rfl, trivial⟩ trivial entry113 trivial rfl rfl rfl rfl trivial rfl rfl rfl) ?_
  refine OkOps.q (triMv (v := .tup [.agg [cI x1.1.Kind, .d (.sl (List.map AType.cs x1.1.Of))], aI x1.2.1, aI x1.2.2]) rfl rfl) ?_
  refine OkOps.x (.agg [cI x1.1.Kind, .d (.sl (List.map AType.cs x1.1.Of))]) rfl trivial rfl ?_
  refine OkOps.x (aI x1.2.1) rfl trivial rfl ?_
  refine OkOps.x (aI x1.2.2) rfl trivial rfl ?_
  refine OkOps.m 0 (triAlloc (j := 2) (cs := [cI 0, .d (.v (.slice none 0 0))]) rfl rfl rfl rfl) ?_
  refine OkOps.w (triStore (cs' := [cI x1.1.Kind, .d (.sl (List.map AType.cs x1.1.Of))]) rfl rfl rfl rfl rfl rfl rfl rfl rfl) ?_
  refine OkOps.x (aI x1.2.1) rfl trivial rfl ?_
  refine OkOps.x (aI x1.2.2) rfl trivial rfl ?_
  refine OkOps.nil ?_
  refine Ok.seq ?_
  refine Ok.region ?_
  refine OkOps.x (.agg [cI x1.1.Kind, .d (.sl (List.map AType.cs x1.1.Of))]) rfl trivial rfl ?_
  refine OkOps.x (aI x1.2.2) rfl trivial rfl ?_
  refine OkOps.w (triStore (cs' := [cI x1.1.Kind, .d (.sl (List.map AType.cs x1.1.Of))]) rfl rfl rfl rfl rfl rfl rfl rfl rfl) ?_
  refine OkOps.x (aI x1.2.2) rfl trivial rfl ?_
  refine OkOps.nil ?_
  refine Ok.ret ?_
  obtain rfl := Option.some.inj hr
  exact ⟨_, rfl, .inl rfl, trivial⟩
theorem entry107 : Entry Tryd.prog 107 := ⟨_, Tryd.func107, by kernel_rfl, by kernel_rfl⟩
theorem r11_Check_c (v : AValue) {r : Int} (hr : r11_Check v = some r) : Con Tryd.prog 80 [.agg [cI v.Kind, cI v.N, cS v.S, .d (.sl (List.map AValue.cs v.L))]] [] (.s (aI r)) [] := by
  unfold r11_Check at hr
  refine Con.of_ok 11 0 [.tmp 2] [(0, .s (.agg [cI v.Kind, cI v.N, cS v.S, .d (.sl (List.map AValue.cs v.L))]))] Tryd.func80 rfl rfl rfl rfl rfl rfl rfl rfl fun w g M ρ _ => ?_
  refine Ok.seq ?_
  refine Ok.region ?_
  refine OkOps.m 0 (triBox (j := 0) (cs := [cI v.Kind, cI v.N, cS v.S, .d (.sl (List.map AValue.cs v.L))]) rfl rfl rfl rfl rfl) ?_
  refine OkOps.x (aI 0) rfl trivial rfl ?_
  refine OkOps.nil ?_
  refine Ok.seq ?_
  refine Ok.region ?_
  refine OkOps.x (.agg [cI v.Kind, cI v.N, cS v.S, .d (.sl (List.map AValue.cs v.L))]) rfl trivial rfl ?_
  obtain ⟨x1, hx1, hr⟩ := bind_some hr
  refine OkOps.q (triCall (tau []) (.tup [.agg [cI x1.1.Kind, .d (.sl (List.map AType.cs x1.1.Of))], aI x1.2]) [] (r11_TypeOf_c _ hx1) rfl ⟨.inl rfl, trivial⟩ trivial entry107 trivial rfl rfl rfl rfl trivial rfl rfl rfl) ?_
  refine OkOps.q (triMv (v := .tup [.agg [cI x1.1.Kind, .d (.sl (List.map AType.cs x1.1.Of))], aI x1.2]) rfl rfl) ?_
  refine OkOps.x (.agg [cI x1.1.Kind, .d (.sl (List.map AType.cs x1.1.Of))]) rfl trivial rfl ?_
  refine OkOps.x (aI x1.2) rfl trivial rfl ?_
  refine OkOps.m 0 (triAlloc (j := 1) (cs := [cI 0, .d (.v (.slice none 0 0))]) rfl rfl rfl rfl) ?_
  refine OkOps.w (triStore (cs' := [cI x1.1.Kind, .d (.sl (List.map AType.cs x1.1.Of))]) rfl rfl rfl rfl rfl rfl rfl rfl rfl) ?_
  refine OkOps.x (aI x1.2) rfl trivial rfl ?_
  refine OkOps.nil ?_
  refine Ok.seq ?_
  refine Ok.region ?_
  refine OkOps.x (aI x1.2) rfl trivial rfl ?_
  refine OkOps.x (aI x1.2) rfl trivial rfl ?_
  refine OkOps.nil ?_
  refine Ok.ret ?_
  obtain rfl := Option.some.inj hr
  exact ⟨_, rfl, .inl rfl, trivial⟩
theorem entry80 : Entry Tryd.prog 80 := ⟨_, Tryd.func80, by kernel_rfl, by kernel_rfl⟩
theorem entry30 : Entry Tryd.prog 30 := ⟨_, Tryd.func30, by kernel_rfl, by kernel_rfl⟩
theorem entry89 : Entry Tryd.prog 89 := ⟨_, Tryd.func89, by kernel_rfl, by kernel_rfl⟩
theorem r11_Same_B_c (self0 : AValue → AValue → Option Bool) (self1 : (List AValue) → (List AValue) → Option Bool) (hself0 : ∀ (a : AValue) (b : AValue) {r : Bool}, self0 a b = some r → Con Tryd.prog 30 [.agg [cI a.Kind, cI a.N, cS a.S, .d (.sl (List.map AValue.cs a.L))], .agg [cI b.Kind, cI b.N, cS b.S, .d (.sl (List.map AValue.cs b.L))]] [] (.s (aB r)) []) (_hself1 : ∀ (a : (List AValue)) (b : (List AValue)) {r : Bool}, self1 a b = some r → Con Tryd.prog 89 [.c (.d (.sl (List.map AValue.cs a))), .c (.d (.sl (List.map AValue.cs b)))] [] (.s (aB r)) []) (a : AValue) (b : AValue) {r : Bool} (hr : r11_Same_B self0 self1 a b = some r) : Con Tryd.prog 30 [.agg [cI a.Kind, cI a.N, cS a.S, .d (.sl (List.map AValue.cs a.L))], .agg [cI b.Kind, cI b.N, cS b.S, .d (.sl (List.map AValue.cs b.L))]] [] (.s (aB r)) [] := by
  unfold r11_Same_B at hr
  refine Con.of_ok 53 0 [.tmp 4] [(0, .s (.agg [cI a.Kind, cI a.N, cS a.S, .d (.sl (List.map AValue.cs a.L))])), (1, .s (.agg [cI b.Kind, cI b.N, cS b.S, .d (.sl (List.map AValue.cs b.L))]))] Tryd.func30 rfl rfl rfl rfl rfl rfl rfl rfl fun w g M ρ _ => ?_
  refine Ok.seq ?_
  refine Ok.region ?_
  refine OkOps.m 0 (triBox (j := 0) (cs := [cI a.Kind, cI a.N, cS a.S, .d (.sl (List.map AValue.cs a.L))]) rfl rfl rfl rfl rfl) ?_
  refine OkOps.m 0 (triBox (j := 1) (cs := [cI b.Kind, cI b.N, cS b.S, .d (.sl (List.map AValue.cs b.L))]) rfl rfl rfl rfl rfl) ?_
  refine OkOps.x (aB false) rfl trivial rfl ?_
  refine OkOps.nil ?_
  refine Ok.seq ?_
  refine Ok.seq ?_
  refine Ok.region ?_
  refine OkOps.x (.c (.loc 0 0)) rfl trivial rfl ?_
  refine OkOps.x (aI a.Kind) rfl trivial rfl ?_
  refine OkOps.x (.c (.loc 1 0)) rfl trivial rfl ?_
  refine OkOps.x (aI b.Kind) rfl trivial rfl ?_
  refine OkOps.x (aB (a.Kind != b.Kind)) rfl trivial rfl ?_
  refine OkOps.x (aB (a.Kind != b.Kind)) rfl trivial rfl ?_
  refine OkOps.q (triQG (x := .c (.loc 0 1)) rfl rfl trivial rfl) ?_
  refine OkOps.q (triQG (x := aI a.N) rfl rfl ⟨fun h => h, trivial⟩ rfl) ?_
  refine OkOps.q (triQG (x := .c (.loc 1 1)) rfl rfl trivial rfl) ?_
  refine OkOps.q (triQG (x := aI b.N) rfl rfl ⟨fun h => h, trivial⟩ rfl) ?_
  refine OkOps.q (triQG (x := aB (a.N != b.N)) rfl rfl ⟨fun h => h, ⟨fun h => h, trivial⟩⟩ rfl) ?_
  refine OkOps.q (triOr rfl rfl (fun h => by rw [h]; rfl) rfl) ?_
  refine OkOps.x (aB ((a.Kind != b.Kind) || (a.N != b.N))) rfl trivial rfl ?_
  refine OkOps.q (triQG (x := .c (.loc 0 2)) rfl rfl trivial rfl) ?_
  refine OkOps.q (triQG (x := aS a.S) rfl rfl ⟨fun h => h, trivial⟩ rfl) ?_
  refine OkOps.q (triQG (x := .c (.loc 1 2)) rfl rfl trivial rfl) ?_
  refine OkOps.q (triQG (x := aS b.S) rfl rfl ⟨fun h => h, trivial⟩ rfl) ?_
  refine OkOps.q (triQG (x := aB (!(a.S.toList == b.S.toList))) rfl rfl ⟨fun h => h, ⟨fun h => h, trivial⟩⟩ rfl) ?_
  refine OkOps.q (triOr rfl rfl (fun h => by rw [h]; rfl) rfl) ?_
  refine OkOps.x (aB (((a.Kind != b.Kind) || (a.N != b.N)) || (!(a.S.toList == b.S.toList)))) rfl trivial rfl ?_
  refine OkOps.q (triQG (x := .c (.loc 0 3)) rfl rfl trivial rfl) ?_
  refine OkOps.q (triQG (x := .c (.d (.sl (List.map AValue.cs a.L)))) rfl rfl ⟨fun h => h, trivial⟩ rfl) ?_
  refine OkOps.q (triLenG (enc := AValue.cs) a.L rfl rfl rfl ⟨fun h => h, trivial⟩ rfl) ?_
  refine OkOps.q (triQG (x := .c (.loc 1 3)) rfl rfl trivial rfl) ?_
  refine OkOps.q (triQG (x := .c (.d (.sl (List.map AValue.cs b.L)))) rfl rfl ⟨fun h => h, trivial⟩ rfl) ?_
  refine OkOps.q (triLenG (enc := AValue.cs) b.L rfl rfl rfl ⟨fun h => h, trivial⟩ rfl) ?_
  refine OkOps.q (triQG (x := aB ((a.L.length : Int) != (b.L.length : Int))) rfl rfl ⟨fun h => h, ⟨fun h => h, trivial⟩⟩ rfl) ?_
  refine OkOps.q (triOr rfl rfl (fun h => by rw [h]; rfl) rfl) ?_
  refine OkOps.nil ?_
  refine Ok.cond (b := (((a.Kind != b.Kind) || (a.N != b.N)) || (!(a.S.toList == b.S.toList))) || ((a.L.length : Int) != (b.L.length : Int))) rfl (fun h1 => ?_) (fun h1 => ?_)
  · have hr := selT h1 hr
    refine Ok.seq ?_
    refine Ok.region ?_
    refine OkOps.x (aB false) rfl trivial rfl ?_
    refine OkOps.nil ?_
    refine Ok.ret ?_
    obtain rfl := Option.some.inj hr
    exact ⟨_, rfl, .inl rfl, trivial⟩
  · have hr := selF h1 hr
    refine Ok.skip ?_
    obtain ⟨k3, hk3, hr⟩ := jn_some hr
    refine Ok.join (fun (s2 : Unit) => ⟨[], [], 0⟩) k3 r (fun s2 hr => ?_) ?_
    · rw [hk3] at hr
      refine Ok.seq ?_
      refine Ok.region ?_
      refine OkOps.x (aB true) rfl trivial rfl ?_
      refine OkOps.nil ?_
      refine Ok.ret ?_
      obtain rfl := Option.some.inj hr
      exact ⟨_, rfl, .inl rfl, trivial⟩
    · clear hk3
      refine Ok.seq ?_
      refine Ok.region ?_
      refine OkOps.x (aI 0) rfl trivial rfl ?_
      refine OkOps.nil ?_
      refine Ok.block ?_
      refine Ok.loopK (fun (s4 : Int) => ⟨[(2, .s (.c (.loc 0 0))), (3, .s (.c (.loc 1 0))), (5, .s (aI s4))], [(0, .blk [cI a.Kind, cI a.N, cS a.S, .d (.sl (List.map AValue.cs a.L))] 40), (1, .blk [cI b.Kind, cI b.N, cS b.S, .d (.sl (List.map AValue.cs b.L))] 40)], 0⟩) hr (Conv.mk (tau []) ⟨⟨_, rfl, .inl rfl⟩, ⟨_, rfl, .inl rfl⟩, ⟨_, rfl, .inl rfl⟩, trivial⟩ ⟨rfl, rfl, trivial⟩ rfl rfl rfl rfl) ?_
      clear hr
      intro again5 s4 hr
      unfold r11_Same_L1 at hr
      refine Ok.seq ?_
      refine Ok.seq ?_
      refine Ok.region ?_
      refine OkOps.x (aI s4) rfl trivial rfl ?_
      refine OkOps.x (.c (.loc 0 3)) rfl trivial rfl ?_
      refine OkOps.x (.c (.d (.sl (List.map AValue.cs a.L)))) rfl trivial rfl ?_
      refine OkOps.q (triLen (enc := AValue.cs) a.L rfl rfl trivial rfl) ?_
      refine OkOps.x (aB (decide (s4 < (a.L.length : Int)))) rfl trivial rfl ?_
      refine OkOps.nil ?_
      refine Ok.cond (b := decide (s4 < (a.L.length : Int))) rfl (fun h6 => ?_) (fun h6 => ?_)
      · have hr := selT h6 hr
        refine Ok.skip ?_
        refine Ok.seq ?_
        refine Ok.block ?_
        refine Ok.seq ?_
        refine Ok.regionD (by kernel_rfl) ?_
        refine OkD.x (.c (.loc 0 3)) rfl trivial rfl ?_
        refine OkD.x (.c (.d (.sl (List.map AValue.cs a.L)))) rfl trivial rfl ?_
        refine OkD.x (aI s4) rfl trivial rfl ?_
        obtain ⟨x7, hx7, hr⟩ := bind_some hr
        refine OkD.q (triIdx (enc := AValue.cs) (L := a.L) (row := [dI x7.Kind, dI x7.N, dS x7.S, .sl (List.map AValue.cs x7.L)]) hx7 (AValue.cs_eq _) rfl rfl rfl (fun x => by rw [AValue.cs_eq]; rfl) trivial rfl) ?_
        refine OkD.x (.agg [cI x7.Kind, cI x7.N, cS x7.S, .d (.sl (List.map AValue.cs x7.L))]) rfl trivial rfl ?_
        refine OkD.x (.c (.loc 1 3)) rfl trivial rfl ?_
        refine OkD.x (.c (.d (.sl (List.map AValue.cs b.L)))) rfl trivial rfl ?_
        refine OkD.x (aI s4) rfl trivial rfl ?_
        obtain ⟨x8, hx8, hr⟩ := bind_some hr
        refine OkD.q (triIdx (enc := AValue.cs) (L := b.L) (row := [dI x8.Kind, dI x8.N, dS x8.S, .sl (List.map AValue.cs x8.L)]) hx8 (AValue.cs_eq _) rfl rfl rfl (fun x => by rw [AValue.cs_eq]; rfl) trivial rfl) ?_
        refine OkD.x (.agg [cI x8.Kind, cI x8.N, cS x8.S, .d (.sl (List.map AValue.cs x8.L))]) rfl trivial rfl ?_
        obtain ⟨x9, hx9, hr⟩ := bind_some hr
        refine OkD.q (triCall (tau []) (.s (aB x9)) [] (hself0 _ _ hx9) rfl ⟨.inl rfl, .inl rfl, trivial⟩ trivial entry30 trivial rfl rfl rfl rfl trivial rfl rfl rfl) ?_
        refine OkD.x (aB (!x9)) rfl trivial rfl ?_
        refine OkD.nil (by kernel_rfl) ?_
        refine Ok.cond (b := !x9) rfl (fun h10 => ?_) (fun h10 => ?_)
        · have hr := selT h10 hr
          refine Ok.seq ?_
          refine Ok.region ?_
          refine OkOps.x (aB false) rfl trivial rfl ?_
          refine OkOps.nil ?_
          refine Ok.ret ?_
          obtain rfl := Option.some.inj hr
          exact ⟨_, rfl, .inl rfl, trivial⟩
        · have hr := selF h10 hr
          refine Ok.skip ?_
          refine Ok.region ?_
          refine OkOps.x (aI s4) rfl trivial rfl ?_
          refine OkOps.x (aI (IntKind.i64.wrap (s4 + 1))) rfl trivial rfl ?_
          refine OkOps.x (aI (IntKind.i64.wrap (s4 + 1))) rfl trivial rfl ?_
          refine OkOps.nil ?_
          exact ⟨IntKind.i64.wrap (s4 + 1), hr, (Conv.mk (tau []) ⟨⟨_, rfl, .inl rfl⟩, ⟨_, rfl, .inl rfl⟩, ⟨_, rfl, .inl rfl⟩, trivial⟩ ⟨rfl, rfl, trivial⟩ rfl rfl rfl rfl)⟩
      · have hr := selF h6 hr
        refine Ok.exit ?_
        exact ⟨(), hr, (Conv.mk (tau []) trivial trivial rfl rfl rfl rfl)⟩
theorem r11_SameValues_B_c (self0 : AValue → AValue → Option Bool) (self1 : (List AValue) → (List AValue) → Option Bool) (hself0 : ∀ (a : AValue) (b : AValue) {r : Bool}, self0 a b = some r → Con Tryd.prog 30 [.agg [cI a.Kind, cI a.N, cS a.S, .d (.sl (List.map AValue.cs a.L))], .agg [cI b.Kind, cI b.N, cS b.S, .d (.sl (List.map AValue.cs b.L))]] [] (.s (aB r)) []) (_hself1 : ∀ (a : (List AValue)) (b : (List AValue)) {r : Bool}, self1 a b = some r → Con Tryd.prog 89 [.c (.d (.sl (List.map AValue.cs a))), .c (.d (.sl (List.map AValue.cs b)))] [] (.s (aB r)) []) (a : (List AValue)) (b : (List AValue)) {r : Bool} (hr : r11_SameValues_B self0 self1 a b = some r) : Con Tryd.prog 89 [.c (.d (.sl (List.map AValue.cs a))), .c (.d (.sl (List.map AValue.cs b)))] [] (.s (aB r)) [] := by
  unfold r11_SameValues_B at hr
  refine Con.of_ok 27 0 [.tmp 4] [(0, .s (.c (.d (.sl (List.map AValue.cs a))))), (1, .s (.c (.d (.sl (List.map AValue.cs b)))))] Tryd.func89 rfl rfl rfl rfl rfl rfl rfl rfl fun w g M ρ _ => ?_
  refine Ok.seq ?_
  refine Ok.region ?_
  refine OkOps.x (aB false) rfl trivial rfl ?_
  refine OkOps.nil ?_
  refine Ok.seq ?_
  refine Ok.seq ?_
  refine Ok.region ?_
  refine OkOps.x (.c (.d (.sl (List.map AValue.cs a)))) rfl trivial rfl ?_
  refine OkOps.q (triLen (enc := AValue.cs) a rfl rfl trivial rfl) ?_
  refine OkOps.x (.c (.d (.sl (List.map AValue.cs b)))) rfl trivial rfl ?_
  refine OkOps.q (triLen (enc := AValue.cs) b rfl rfl trivial rfl) ?_
  refine OkOps.x (aB ((a.length : Int) != (b.length : Int))) rfl trivial rfl ?_
  refine OkOps.nil ?_
  refine Ok.cond (b := (a.length : Int) != (b.length : Int)) rfl (fun h1 => ?_) (fun h1 => ?_)
  · have hr := selT h1 hr
    refine Ok.seq ?_
    refine Ok.region ?_
    refine OkOps.x (aB false) rfl trivial rfl ?_
    refine OkOps.nil ?_
    refine Ok.ret ?_
    obtain rfl := Option.some.inj hr
    exact ⟨_, rfl, .inl rfl, trivial⟩
  · have hr := selF h1 hr
    refine Ok.skip ?_
    obtain ⟨k3, hk3, hr⟩ := jn_some hr
    refine Ok.join (fun (s2 : Unit) => ⟨[], [], 0⟩) k3 r (fun s2 hr => ?_) ?_
    · rw [hk3] at hr
      refine Ok.seq ?_
      refine Ok.region ?_
      refine OkOps.x (aB true) rfl trivial rfl ?_
      refine OkOps.nil ?_
      refine Ok.ret ?_
      obtain rfl := Option.some.inj hr
      exact ⟨_, rfl, .inl rfl, trivial⟩
    · clear hk3
      refine Ok.seq ?_
      refine Ok.region ?_
      refine OkOps.x (aI 0) rfl trivial rfl ?_
      refine OkOps.nil ?_
      refine Ok.block ?_
      refine Ok.loopK (fun (s4 : Int) => ⟨[(0, .s (.c (.d (.sl (List.map AValue.cs a))))), (1, .s (.c (.d (.sl (List.map AValue.cs b))))), (5, .s (aI s4))], [], 0⟩) hr (Conv.mk (tau []) ⟨⟨_, rfl, .inl rfl⟩, ⟨_, rfl, .inl rfl⟩, ⟨_, rfl, .inl rfl⟩, trivial⟩ trivial rfl rfl rfl rfl) ?_
      clear hr
      intro again5 s4 hr
      unfold r11_SameValues_L1 at hr
      refine Ok.seq ?_
      refine Ok.seq ?_
      refine Ok.region ?_
      refine OkOps.x (aI s4) rfl trivial rfl ?_
      refine OkOps.x (.c (.d (.sl (List.map AValue.cs a)))) rfl trivial rfl ?_
      refine OkOps.q (triLen (enc := AValue.cs) a rfl rfl trivial rfl) ?_
      refine OkOps.x (aB (decide (s4 < (a.length : Int)))) rfl trivial rfl ?_
      refine OkOps.nil ?_
      refine Ok.cond (b := decide (s4 < (a.length : Int))) rfl (fun h6 => ?_) (fun h6 => ?_)
      · have hr := selT h6 hr
        refine Ok.skip ?_
        refine Ok.seq ?_
        refine Ok.block ?_
        refine Ok.seq ?_
        refine Ok.regionD (by kernel_rfl) ?_
        refine OkD.x (.c (.d (.sl (List.map AValue.cs a)))) rfl trivial rfl ?_
        refine OkD.x (aI s4) rfl trivial rfl ?_
        obtain ⟨x7, hx7, hr⟩ := bind_some hr
        refine OkD.q (triIdx (enc := AValue.cs) (L := a) (row := [dI x7.Kind, dI x7.N, dS x7.S, .sl (List.map AValue.cs x7.L)]) hx7 (AValue.cs_eq _) rfl rfl rfl (fun x => by rw [AValue.cs_eq]; rfl) trivial rfl) ?_
        refine OkD.x (.agg [cI x7.Kind, cI x7.N, cS x7.S, .d (.sl (List.map AValue.cs x7.L))]) rfl trivial rfl ?_
        refine OkD.x (.c (.d (.sl (List.map AValue.cs b)))) rfl trivial rfl ?_
        refine OkD.x (aI s4) rfl trivial rfl ?_
        obtain ⟨x8, hx8, hr⟩ := bind_some hr
        refine OkD.q (triIdx (enc := AValue.cs) (L := b) (row := [dI x8.Kind, dI x8.N, dS x8.S, .sl (List.map AValue.cs x8.L)]) hx8 (AValue.cs_eq _) rfl rfl rfl (fun x => by rw [AValue.cs_eq]; rfl) trivial rfl) ?_
        refine OkD.x (.agg [cI x8.Kind, cI x8.N, cS x8.S, .d (.sl (List.map AValue.cs x8.L))]) rfl trivial rfl ?_
        obtain ⟨x9, hx9, hr⟩ := bind_some hr
        refine OkD.q (triCall (tau []) (.s (aB x9)) [] (hself0 _ _ hx9) rfl ⟨.inl rfl, .inl rfl, trivial⟩ trivial entry30 trivial rfl rfl rfl rfl trivial rfl rfl rfl) ?_
        refine OkD.x (aB (!x9)) rfl trivial rfl ?_
        refine OkD.nil (by kernel_rfl) ?_
        refine Ok.cond (b := !x9) rfl (fun h10 => ?_) (fun h10 => ?_)
        · have hr := selT h10 hr
          refine Ok.seq ?_
          refine Ok.region ?_
          refine OkOps.x (aB false) rfl trivial rfl ?_
          refine OkOps.nil ?_
          refine Ok.ret ?_
          obtain rfl := Option.some.inj hr
          exact ⟨_, rfl, .inl rfl, trivial⟩
        · have hr := selF h10 hr
          refine Ok.skip ?_
          refine Ok.region ?_
          refine OkOps.x (aI s4) rfl trivial rfl ?_
          refine OkOps.x (aI (IntKind.i64.wrap (s4 + 1))) rfl trivial rfl ?_
          refine OkOps.x (aI (IntKind.i64.wrap (s4 + 1))) rfl trivial rfl ?_
          refine OkOps.nil ?_
          exact ⟨IntKind.i64.wrap (s4 + 1), hr, (Conv.mk (tau []) ⟨⟨_, rfl, .inl rfl⟩, ⟨_, rfl, .inl rfl⟩, ⟨_, rfl, .inl rfl⟩, trivial⟩ trivial rfl rfl rfl rfl)⟩
      · have hr := selF h6 hr
        refine Ok.exit ?_
        exact ⟨(), hr, (Conv.mk (tau []) trivial trivial rfl rfl rfl rfl)⟩
theorem r11_Same_all : ∀ n : Nat, (∀ (a : AValue) (b : AValue) {r : Bool}, r11_Same n a b = some r → Con Tryd.prog 30 [.agg [cI a.Kind, cI a.N, cS a.S, .d (.sl (List.map AValue.cs a.L))], .agg [cI b.Kind, cI b.N, cS b.S, .d (.sl (List.map AValue.cs b.L))]] [] (.s (aB r)) []) ∧ (∀ (a : (List AValue)) (b : (List AValue)) {r : Bool}, r11_SameValues n a b = some r → Con Tryd.prog 89 [.c (.d (.sl (List.map AValue.cs a))), .c (.d (.sl (List.map AValue.cs b)))] [] (.s (aB r)) []) ∧ True := by
  intro n
  induction n with
  | zero => exact ⟨(by intros; rename_i hr; cases hr), (by intros; rename_i hr; cases hr), trivial⟩
  | succ n ih => exact ⟨(by intros; rename_i hr; exact r11_Same_B_c _ _ ih.1 ih.2.1 _ _ hr), (by intros; rename_i hr; exact r11_SameValues_B_c _ _ ih.1 ih.2.1 _ _ hr), trivial⟩
theorem r11_Same_c (n : Nat) (a : AValue) (b : AValue) {r : Bool} (hr : r11_Same n a b = some r) : Con Tryd.prog 30 [.agg [cI a.Kind, cI a.N, cS a.S, .d (.sl (List.map AValue.cs a.L))], .agg [cI b.Kind, cI b.N, cS b.S, .d (.sl (List.map AValue.cs b.L))]] [] (.s (aB r)) [] := (r11_Same_all n).1 a b hr
theorem r11_SameValues_c (n : Nat) (a : (List AValue)) (b : (List AValue)) {r : Bool} (hr : r11_SameValues n a b = some r) : Con Tryd.prog 89 [.c (.d (.sl (List.map AValue.cs a))), .c (.d (.sl (List.map AValue.cs b)))] [] (.s (aB r)) [] := (r11_Same_all n).2.1 a b hr
end Go.Proofs.YtcfegecdlbbeaaaDoor

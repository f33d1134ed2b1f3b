import Derived.Test.YtcfegecdlbbeaaaDoorAl
import Derived.Test.YtcfegecdlbbeaaaDoorWd
import Derived.Test.YtcfegecdlbbeaaaDoorProg
import Derived.KernelRfl
set_option maxRecDepth 100000
namespace Go.Proofs.YtcfegecdlbbeaaaDoor
open Go Go.E2
theorem entry27 : Entry Tryd.prog 27 := ⟨_, Tryd.func27, by kernel_rfl, by kernel_rfl⟩
theorem l14_load_B_c (self0 : AValue → Int → Option Int) (hself0 : ∀ (v : AValue) (left : Int) {r : Int}, self0 v left = some r → Con Tryd.prog 27 [.agg [cI v.Kind, cI v.N, cS v.S, .d (.sl (List.map AValue.cs v.L))], aI left] [] (.s (aI r)) []) (v : AValue) (left : Int) {r : Int} (hr : l14_load_B self0 v left = some r) : Con Tryd.prog 27 [.agg [cI v.Kind, cI v.N, cS v.S, .d (.sl (List.map AValue.cs v.L))], aI left] [] (.s (aI r)) [] := by
  unfold l14_load_B at hr
  refine Con.of_ok 27 0 [.tmp 4] [(0, .s (.agg [cI v.Kind, cI v.N, cS v.S, .d (.sl (List.map AValue.cs v.L))])), (1, .s (aI left))] Tryd.func27 rfl rfl rfl rfl rfl rfl rfl rfl fun w g M ρ _ => ?_
  refine Ok.seq ?_
  refine Ok.region ?_
  refine OkOps.m 0 (triBox (j := 0) (cs := [cI v.Kind, cI v.N, cS v.S, .d (.sl (List.map AValue.cs v.L))]) rfl rfl rfl rfl rfl) ?_
  refine OkOps.x (aI 0) rfl trivial rfl ?_
  refine OkOps.nil ?_
  refine Ok.seq ?_
  refine Ok.region ?_
  refine OkOps.x (aI left) rfl trivial rfl ?_
  refine OkOps.x (aI (IntKind.i64.wrap (left - 1))) rfl trivial rfl ?_
  refine OkOps.x (aI (IntKind.i64.wrap (left - 1))) rfl trivial rfl ?_
  refine OkOps.nil ?_
  obtain ⟨k2, hk2, hr⟩ := jn_some hr
  refine Ok.join (fun (s1 : Int) => ⟨[(1, .s (aI s1))], [], 0⟩) k2 r (fun s1 hr => ?_) ?_
  · rw [hk2] at hr
    refine Ok.seq ?_
    refine Ok.region ?_
    refine OkOps.x (aI s1) rfl trivial rfl ?_
    refine OkOps.x (aI s1) rfl trivial rfl ?_
    refine OkOps.nil ?_
    refine Ok.ret ?_
    obtain rfl := Option.some.inj hr
    exact ⟨_, rfl, .inl rfl, trivial⟩
  · clear hk2
    refine Ok.seq ?_
    refine Ok.region ?_
    refine OkOps.x (aI 0) rfl trivial rfl ?_
    refine OkOps.nil ?_
    refine Ok.block ?_
    refine Ok.loopK (fun (s3 : Int × Int) => ⟨[(1, .s (aI s3.1)), (2, .s (.c (.loc 0 0))), (5, .s (aI s3.2))], [(0, .blk [cI v.Kind, cI v.N, cS v.S, .d (.sl (List.map AValue.cs v.L))] 40)], 0⟩) hr (Conv.mk (tau []) ⟨⟨_, rfl, .inl rfl⟩, ⟨_, rfl, .inl rfl⟩, ⟨_, rfl, .inl rfl⟩, trivial⟩ ⟨rfl, trivial⟩ rfl rfl rfl rfl) ?_
    clear hr
    intro again4 s3 hr
    unfold l14_load_L1 at hr
    refine Ok.seq ?_
    refine Ok.seq ?_
    refine Ok.region ?_
    refine OkOps.x (aI s3.2) rfl trivial rfl ?_
    refine OkOps.x (.c (.loc 0 3)) rfl trivial rfl ?_
    refine OkOps.x (.c (.d (.sl (List.map AValue.cs v.L)))) rfl trivial rfl ?_
    refine OkOps.q (triLen (enc := AValue.cs) v.L rfl rfl trivial rfl) ?_
    refine OkOps.x (aB (decide (s3.2 < (v.L.length : Int)))) rfl trivial rfl ?_
    refine OkOps.x (aB (decide (s3.2 < (v.L.length : Int)))) rfl trivial rfl ?_
    refine OkOps.q (triQG (x := aI s3.1) rfl rfl trivial rfl) ?_
    refine OkOps.q (triQG (x := aB (decide (s3.1 > 0))) rfl rfl ⟨fun h => h, trivial⟩ rfl) ?_
    refine OkOps.q (triAnd rfl rfl (fun h => h) rfl) ?_
    refine OkOps.nil ?_
    refine Ok.cond (b := (decide (s3.2 < (v.L.length : Int))) && (decide (s3.1 > 0))) rfl (fun h5 => ?_) (fun h5 => ?_)
    · have hr := selT h5 hr
      refine Ok.skip ?_
      refine Ok.seq ?_
      refine Ok.block ?_
      refine Ok.region ?_
      refine OkOps.x (.c (.loc 0 3)) rfl trivial rfl ?_
      refine OkOps.x (.c (.d (.sl (List.map AValue.cs v.L)))) rfl trivial rfl ?_
      refine OkOps.x (aI s3.2) rfl trivial rfl ?_
      obtain ⟨x6, hx6, hr⟩ := bind_some hr
      refine OkOps.q (triIdx (enc := AValue.cs) (L := v.L) (row := [dI x6.Kind, dI x6.N, dS x6.S, .sl (List.map AValue.cs x6.L)]) hx6 (AValue.cs_eq _) rfl rfl rfl (fun x => by rw [AValue.cs_eq]; rfl) trivial rfl) ?_
      refine OkOps.x (.agg [cI x6.Kind, cI x6.N, cS x6.S, .d (.sl (List.map AValue.cs x6.L))]) rfl trivial rfl ?_
      refine OkOps.x (aI s3.1) rfl trivial rfl ?_
      obtain ⟨x7, hx7, hr⟩ := bind_some hr
      refine OkOps.q (triCall (tau []) (.s (aI x7)) [] (hself0 _ _ hx7) rfl ⟨.inl rfl, .inl rfl, trivial⟩ trivial entry27 trivial rfl rfl rfl rfl trivial rfl rfl rfl) ?_
      refine OkOps.x (aI x7) rfl trivial rfl ?_
      refine OkOps.nil ?_
      refine Ok.region ?_
      refine OkOps.x (aI s3.2) rfl trivial rfl ?_
      refine OkOps.x (aI (IntKind.i64.wrap (s3.2 + 1))) rfl trivial rfl ?_
      refine OkOps.x (aI (IntKind.i64.wrap (s3.2 + 1))) rfl trivial rfl ?_
      refine OkOps.nil ?_
      exact ⟨(x7, IntKind.i64.wrap (s3.2 + 1)), hr, (Conv.mk (tau []) ⟨⟨_, rfl, .inl rfl⟩, ⟨_, rfl, .inl rfl⟩, ⟨_, rfl, .inl rfl⟩, trivial⟩ ⟨rfl, trivial⟩ rfl rfl rfl rfl)⟩
    · have hr := selF h5 hr
      refine Ok.exit ?_
      exact ⟨s3.1, hr, (Conv.mk (tau []) ⟨⟨_, rfl, .inl rfl⟩, trivial⟩ trivial rfl rfl rfl rfl)⟩
theorem l14_load_all : ∀ n : Nat, (∀ (v : AValue) (left : Int) {r : Int}, l14_load n v left = some r → Con Tryd.prog 27 [.agg [cI v.Kind, cI v.N, cS v.S, .d (.sl (List.map AValue.cs v.L))], aI left] [] (.s (aI r)) []) ∧ True := by
  intro n
  induction n with
  | zero => exact ⟨(by intros; rename_i hr; cases hr), trivial⟩
  | succ n ih => exact ⟨(by intros; rename_i hr; exact l14_load_B_c _ ih.1 _ _ hr), trivial⟩
theorem l14_load_c (n : Nat) (v : AValue) (left : Int) {r : Int} (hr : l14_load n v left = some r) : Con Tryd.prog 27 [.agg [cI v.Kind, cI v.N, cS v.S, .d (.sl (List.map AValue.cs v.L))], aI left] [] (.s (aI r)) [] := (l14_load_all n).1 v left hr
theorem l14_ViewKeys_c (p_s : Str) {r : Bool} (hr : l14_ViewKeys p_s = some r) : Con Tryd.prog 3 [aS p_s] [] (.s (aB r)) [] := by
  unfold l14_ViewKeys at hr
  refine Con.of_ok 19 0 [.tmp 2] [(0, .s (aS p_s))] Tryd.func3 rfl rfl rfl rfl rfl rfl rfl rfl fun w g M ρ _ => ?_
  refine Ok.seq ?_
  refine Ok.region ?_
  refine OkOps.x (aB false) rfl trivial rfl ?_
  refine OkOps.nil ?_
  refine Ok.seq ?_
  refine Ok.region ?_
  refine OkOps.x (aS p_s) rfl trivial rfl ?_
  refine OkOps.x (aI (p_s.size : Int)) rfl trivial rfl ?_
  refine OkOps.x (aB (decide ((p_s.size : Int) > 100))) rfl trivial rfl ?_
  refine OkOps.x (aB (decide ((p_s.size : Int) > 100))) rfl trivial rfl ?_
  refine OkOps.q (triQG (x := aS p_s) rfl rfl trivial rfl) ?_
  obtain ⟨x1, hx1, hr⟩ := bind_some hr
  refine OkOps.q (triCallG (x := aB x1) (fun hg => vw_Key_c _ (gO_t hx1 hg)) rfl rfl ⟨.inl rfl, trivial⟩ ⟨fun h => h, trivial⟩ entry12 rfl rfl rfl) ?_
  refine OkOps.q (triQG (x := aS p_s) rfl rfl trivial rfl) ?_
  obtain ⟨x2, hx2, hr⟩ := bind_some hr
  refine OkOps.q (triCallG (x := aB x2) (fun hg => r14_Key_c _ (gO_t hx2 hg)) rfl rfl ⟨.inl rfl, trivial⟩ ⟨fun h => h, trivial⟩ entry13 rfl rfl rfl) ?_
  refine OkOps.q (triQG (x := aB (x1 == x2)) rfl rfl ⟨fun h => h, ⟨fun h => h, trivial⟩⟩ rfl) ?_
  refine OkOps.q (triQG (x := aB (x1 == x2)) rfl rfl ⟨fun h => h, trivial⟩ rfl) ?_
  obtain ⟨x3, hx3, hr⟩ := bind_some hr
  refine OkOps.q (triCallG (x := aB x3) (fun hg => vw_Key_c _ (gO_t hx3 hg)) rfl rfl ⟨.inl rfl, trivial⟩ trivial entry12 rfl rfl rfl) ?_
  refine OkOps.q (triAndG rfl rfl rfl (fun h => h) (fun h h2 => by rw [h, h2]; rfl) rfl) ?_
  refine OkOps.q (triQG (x := aB ((x1 == x2) && x3)) rfl rfl ⟨fun h => h, trivial⟩ rfl) ?_
  obtain ⟨x4, hx4, hr⟩ := bind_some hr
  refine OkOps.q (triCallG (x := aB x4) (fun hg => l14_awake_c  (gO_t hx4 hg)) rfl rfl trivial trivial entry14 rfl rfl rfl) ?_
  refine OkOps.q (triAndG rfl rfl rfl (fun h => h) (fun h h2 => by rw [h, h2]; rfl) rfl) ?_
  refine OkOps.q (triOr rfl rfl (fun h => by rw [h]; rfl) rfl) ?_
  refine OkOps.x (aB ((decide ((p_s.size : Int) > 100)) || (((x1 == x2) && x3) && x4))) rfl trivial rfl ?_
  refine OkOps.nil ?_
  refine Ok.ret ?_
  obtain rfl := Option.some.inj hr
  exact ⟨_, rfl, .inl rfl, trivial⟩
theorem entry3 : Entry Tryd.prog 3 := ⟨_, Tryd.func3, by kernel_rfl, by kernel_rfl⟩
end Go.Proofs.YtcfegecdlbbeaaaDoor

/-
  HitOrder: the law returns true for every input; what came in reads as it did. The card ties the listed variables to the program's text.
-/
import Derived.Test.YtfoigppmcelgfaaDoorHitOrderB5
import Derived.Test.YtfoigppmcelgfaaDoorTie
import Derived.Test.YtfoigppmcelgfaaDoorCards
import Derived.ProofKit
import Derived.OpenShut
import Derived.LaidMore
import Derived.Lay
import Derived.SevenTiedAt
import Derived.Stop.Joined
namespace Go.Proofs.YtfoigppmcelgfaaDoor.hitOrder
open Go.E2
open Go.ChangeShapes Go.WideShapes Go.ChangeAt Go.RowKit
theorem own : ownKnob Tryd.prog.godebug = none := by kernel_rfl
theorem laidOut : laidOutB Tryd.prog = true := by kernel_rfl
theorem tables {W : World} (hL : laidMetH Tryd.prog Rows.hitOrderRow.laid W) : Tab Tryd.prog (M1 W) :=
  tab_of (d1 := Rows.laid_unicode_utf8_first) (d2 := Rows.laid_unicode_utf8_acceptRanges) (e3 := 5) hL (by kernel_rfl) (by simp [Rows.hitOrderRow]) (by simp [Rows.hitOrderRow]) (by kernel_rfl) (by kernel_rfl) Tryd.underlying214 Tryd.underlying5 (by kernel_rfl) (by kernel_rfl) Tryd.underlying217 Tryd.underlying216 (by kernel_rfl) rfl rfl rfl rfl Tryd.underlying5 (by kernel_rfl) (by kernel_rfl) (.inr ⟨Rows.laid_widgetry_style_properties, 156, 155, 4, 3, _, _, _, _, (by simp [Rows.hitOrderRow]), (by kernel_rfl), Tryd.underlying156, Tryd.underlying155, (by kernel_rfl), rfl, rfl, rfl, rfl, rfl, rfl, rfl, rfl, Tryd.underlying4, (by kernel_rfl), Tryd.underlying3, (by kernel_rfl), rfl⟩)
set_option maxRecDepth 100000 in
theorem lifted (os : Os) (started : os.Started) (H : Type) (enc : TypeId × Value → H) :
    ReturnsInHanded {} Tryd.checked os 3 .any (fun w args => (Rows.hitOrderSpec.pre enc Tryd.prog Tryd.f3 Rows.hitOrderRow.domain false w args ∧ laidMetH Tryd.prog Rows.hitOrderRow.laid w) ∧ sizedMet enc Tryd.prog Tryd.f3 (OpenSpec.ofChange Rows.hitOrderSpec) false w args)
      (Rows.hitOrderSpec.post enc Tryd.prog Tryd.f3 false true false false) := by
  refine returnsInHanded_of_change_and (C := Tryd.checked) (X := fun w _ => laidMetH Tryd.prog Rows.hitOrderRow.laid w) (fun _ _ _ hh h => h.of_heap hh) own started (by kernel_rfl) Tryd.func3
    (ChangeSpec.witness_shaped (enc := enc) (C := Tryd.checked) (os := os) (X := fun w _ => laidMetH Tryd.prog Rows.hitOrderRow.laid w) false (World.laidAll Tryd.prog os Rows.hitOrderRow.laid) #[.slice none 0 0] 8 (World.laidAll_os _ _ _)
      (World.shaped_of_ZipB (by kernel_rfl) (by kernel_rfl)) (by kernel_rfl) (by kernel_rfl) (by kernel_rfl)
      (by rw [MakeChecks.laidMetH_plain _ _ _ (by kernel_rfl)]; exact laidMet_laidAll _ (by kernel_rfl) (by kernel_rfl))) ?_
  intro W base args ds gs before hval0 hW hcnd _ hL _
  have hT : Tab Tryd.prog (M1 W) := tables hL
  have hval : ∀ (j : Nat) t v, Tryd.f3.params[j]? = some t → args[j]? = some v → Value.okWide Tryd.prog W .any base t v := hval0
  obtain ⟨p, q, hA0, hV, hpq, hfz, hnd⟩ := id hW
  have hA : DataW.TrodAll enc Tryd.prog W 0 (fun _ => true) true Tryd.f3.params.toList args.toList ds p := hA0
  rw [Tryd.params3] at hA hval
  obtain ⟨v0, vs0, d0, ds0, p0, q0, hargs, rfl, rfl, h0, r0⟩ := trodAll_cons hA
  obtain ⟨rfl, rfl, rfl⟩ := trodAll_nil r0
  obtain rfl : args = #[v0] := by cases args; simp_all
  clear hA0 hA hval0 hcnd hargs
  obtain ⟨a0, k0, e0⟩ := open_one (fun k => (rd_slice Tryd.underlying22 (rd_int Tryd.underlying3) (sz := 1) (by kernel_rfl) (by decide) (fun _ => rfl))) (by kernel_rfl) (hval 0 22 _ rfl rfl) h0
  have walk : Calls Tryd.prog 3 #[v0] W fun e W' => e = .returned (.bool true) ∧ Below W.heap.size W W' :=
    law_walk (vs := [v0]) (l29_HitOrder_c a0 (hitOrder_true a0 k0)) hT (fun ρ => ⟨e0 _ rfl ρ, trivial⟩)
  refine walk.mono fun e W' ⟨he, bel⟩ => ?_
  subst he
  exact ⟨_, rfl, law_post laidOut (by kernel_rfl) rfl Tryd.underlying4 rfl rfl rfl rfl hW bel⟩
theorem over : Rows.hitOrderRow.holds Tryd.pinned (OpenSpec.ofChange Rows.hitOrderSpec) :=
  OpenClaim.holds_of_wide 3 Tryd.f3 rfl rfl rfl rfl rfl rfl rfl ⟨rfl, rfl, rfl, rfl, rfl⟩ rfl rfl rfl rfl rfl (by kernel_rfl) Tryd.func3 (by kernel_rfl)
    (of_decide_eq_true (by kernel_rfl)) (by unfold Func.isWrapper; first | (rw [if_pos (by decide +kernel)]; kernel_rfl) | (rw [if_neg (by decide +kernel)]; exact ⟨rfl, rfl⟩))
    (fun os started H enc _ => lifted os started H enc)
end Go.Proofs.YtfoigppmcelgfaaDoor.hitOrder
namespace Go.Proofs.YtfoigppmcelgfaaDoor
/-- The given statement: the tied card. -/
theorem hitOrder_card : Rows.HitOrderCardSaid :=
  Claim7.holds_tied_plain_at .later [] [.data, .data, .pinned] true (true, "1591c6fcc847ab55cc613365bc687cc316b6bb9a41dbd37ec885ec3c957177b5") false hitOrder.over (fun _ h => by cases h) (by kernel_rfl) (fun _ h => by cases h) hitOrder_row_tie rfl ⟨rfl, rfl⟩ (by kernel_rfl) rfl
    (fun f fn hf hfn => by
      obtain rfl : f = 3 := Option.some.inj ((show Tryd.prog.funcNamed "widgetry/widgetrylaw29.HitOrder" = some 3 by kernel_rfl).symm.trans hf) |>.symm
      obtain rfl : fn = Tryd.f3 := (Option.some.inj (Tryd.func3.symm.trans hfn)).symm
      exact ⟨by kernel_rfl, fun j t ht => by
        rw [Tryd.params3] at ht
        have hm : t ∈ [22] := by simpa using Array.mem_of_getElem? ht
        have hall : ([22].all fun u => !Tryd.prog.wantsStandIn u) = true := by kernel_rfl
        exact (show Tryd.prog.wantsStandIn t = false by simpa using List.all_eq_true.1 hall t hm)⟩)
    (by kernel_rfl)
#print axioms hitOrder_card
end Go.Proofs.YtfoigppmcelgfaaDoor

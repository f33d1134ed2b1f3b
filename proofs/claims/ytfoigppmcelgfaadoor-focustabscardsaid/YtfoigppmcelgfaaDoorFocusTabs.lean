/-
  FocusTabs: the law returns true for every input; what came in reads as it did. The card ties the listed variables to the program's text.
-/
import Derived.Test.YtfoigppmcelgfaaDoorFocusTabsB6
import Derived.Test.YtfoigppmcelgfaaDoorTie
import Derived.Test.YtfoigppmcelgfaaDoorCards
import Derived.ProofKit
import Derived.OpenShut
import Derived.LaidMore
import Derived.Lay
import Derived.SevenTiedAt
import Derived.Stop.Joined
namespace Go.Proofs.YtfoigppmcelgfaaDoor.focusTabs
open Go.E2
open Go.ChangeShapes Go.WideShapes Go.ChangeAt Go.RowKit
theorem own : ownKnob Tryd.prog.godebug = none := by kernel_rfl
theorem laidOut : laidOutB Tryd.prog = true := by kernel_rfl
theorem tables {W : World} (hL : laidMetH Tryd.prog Rows.focusTabsRow.laid W) : Tab Tryd.prog (M1 W) :=
  tab_of (d1 := Rows.laid_unicode_utf8_first) (d2 := Rows.laid_unicode_utf8_acceptRanges) (e3 := 5) hL (by kernel_rfl) (by simp [Rows.focusTabsRow]) (by simp [Rows.focusTabsRow]) (by kernel_rfl) (by kernel_rfl) Tryd.underlying214 Tryd.underlying5 (by kernel_rfl) (by kernel_rfl) Tryd.underlying217 Tryd.underlying216 (by kernel_rfl) rfl rfl rfl rfl Tryd.underlying5 (by kernel_rfl) (by kernel_rfl) (.inr ⟨Rows.laid_widgetry_style_properties, 156, 155, 4, 3, _, _, _, _, (by simp [Rows.focusTabsRow]), (by kernel_rfl), Tryd.underlying156, Tryd.underlying155, (by kernel_rfl), rfl, rfl, rfl, rfl, rfl, rfl, rfl, rfl, Tryd.underlying4, (by kernel_rfl), Tryd.underlying3, (by kernel_rfl), rfl⟩)
set_option maxRecDepth 100000 in
theorem lifted (os : Os) (started : os.Started) (H : Type) (enc : TypeId × Value → H) :
    ReturnsInHanded {} Tryd.checked os 4 .any (fun w args => (Rows.focusTabsSpec.pre enc Tryd.prog Tryd.f4 Rows.focusTabsRow.domain false w args ∧ laidMetH Tryd.prog Rows.focusTabsRow.laid w) ∧ sizedMet enc Tryd.prog Tryd.f4 (OpenSpec.ofChange Rows.focusTabsSpec) false w args)
      (Rows.focusTabsSpec.post enc Tryd.prog Tryd.f4 false true false false) := by
  refine returnsInHanded_of_change_and (C := Tryd.checked) (X := fun w _ => laidMetH Tryd.prog Rows.focusTabsRow.laid w) (fun _ _ _ hh h => h.of_heap hh) own started (by kernel_rfl) Tryd.func4
    (ChangeSpec.witness_shaped (enc := enc) (C := Tryd.checked) (os := os) (X := fun w _ => laidMetH Tryd.prog Rows.focusTabsRow.laid w) false (World.laidAll Tryd.prog os Rows.focusTabsRow.laid) #[.slice none 0 0] 8 (World.laidAll_os _ _ _)
      (World.shaped_of_ZipB (by kernel_rfl) (by kernel_rfl)) (by kernel_rfl) (by kernel_rfl) (by kernel_rfl)
      (by rw [MakeChecks.laidMetH_plain _ _ _ (by kernel_rfl)]; exact laidMet_laidAll _ (by kernel_rfl) (by kernel_rfl))) ?_
  intro W base args ds gs before hval0 hW hcnd _ hL _
  have hT : Tab Tryd.prog (M1 W) := tables hL
  have hval : ∀ (j : Nat) t v, Tryd.f4.params[j]? = some t → args[j]? = some v → Value.okWide Tryd.prog W .any base t v := hval0
  obtain ⟨p, q, hA0, hV, hpq, hfz, hnd⟩ := id hW
  have hA : DataW.TrodAll enc Tryd.prog W 0 (fun _ => true) true Tryd.f4.params.toList args.toList ds p := hA0
  rw [Tryd.params4] at hA hval
  obtain ⟨v0, vs0, d0, ds0, p0, q0, hargs, rfl, rfl, h0, r0⟩ := trodAll_cons hA
  obtain ⟨rfl, rfl, rfl⟩ := trodAll_nil r0
  obtain rfl : args = #[v0] := by cases args; simp_all
  clear hA0 hA hval0 hcnd hargs
  obtain ⟨a0, k0, e0⟩ := open_one (fun k => (rd_slice Tryd.underlying58 (rd_int Tryd.underlying59) (sz := 1) (by kernel_rfl) (by decide) (fun _ => rfl))) (by kernel_rfl) (hval 0 58 _ rfl rfl) h0
  have walk : Calls Tryd.prog 4 #[v0] W fun e W' => e = .returned (.bool true) ∧ Below W.heap.size W W' :=
    law_walk (vs := [v0]) (l31_FocusTabs_c a0 (focusTabs_true a0 k0)) hT (fun ρ => ⟨e0 _ rfl ρ, trivial⟩)
  refine walk.mono fun e W' ⟨he, bel⟩ => ?_
  subst he
  exact ⟨_, rfl, law_post laidOut (by kernel_rfl) rfl Tryd.underlying4 rfl rfl rfl rfl hW bel⟩
theorem over : Rows.focusTabsRow.holds Tryd.pinned (OpenSpec.ofChange Rows.focusTabsSpec) :=
  OpenClaim.holds_of_wide 4 Tryd.f4 rfl rfl rfl rfl rfl rfl rfl ⟨rfl, rfl, rfl, rfl, rfl⟩ rfl rfl rfl rfl rfl (by kernel_rfl) Tryd.func4 (by kernel_rfl)
    (of_decide_eq_true (by kernel_rfl)) (by unfold Func.isWrapper; first | (rw [if_pos (by decide +kernel)]; kernel_rfl) | (rw [if_neg (by decide +kernel)]; exact ⟨rfl, rfl⟩))
    (fun os started H enc _ => lifted os started H enc)
end Go.Proofs.YtfoigppmcelgfaaDoor.focusTabs
namespace Go.Proofs.YtfoigppmcelgfaaDoor
/-- The given statement: the tied card. -/
theorem focusTabs_card : Rows.FocusTabsCardSaid :=
  Claim7.holds_tied_plain_at .later [] [.data, .data, .pinned] true (true, "1591c6fcc847ab55cc613365bc687cc316b6bb9a41dbd37ec885ec3c957177b5") false focusTabs.over (fun _ h => by cases h) (by kernel_rfl) (fun _ h => by cases h) focusTabs_row_tie rfl ⟨rfl, rfl⟩ (by kernel_rfl) rfl
    (fun f fn hf hfn => by
      obtain rfl : f = 4 := Option.some.inj ((show Tryd.prog.funcNamed "widgetry/widgetrylaw31.FocusTabs" = some 4 by kernel_rfl).symm.trans hf) |>.symm
      obtain rfl : fn = Tryd.f4 := (Option.some.inj (Tryd.func4.symm.trans hfn)).symm
      exact ⟨by kernel_rfl, fun j t ht => by
        rw [Tryd.params4] at ht
        have hm : t ∈ [58] := by simpa using Array.mem_of_getElem? ht
        have hall : ([58].all fun u => !Tryd.prog.wantsStandIn u) = true := by kernel_rfl
        exact (show Tryd.prog.wantsStandIn t = false by simpa using List.all_eq_true.1 hall t hm)⟩)
    (by kernel_rfl)
#print axioms focusTabs_card
end Go.Proofs.YtfoigppmcelgfaaDoor

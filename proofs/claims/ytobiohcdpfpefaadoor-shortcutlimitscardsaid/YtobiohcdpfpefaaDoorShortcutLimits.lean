/-
  ShortcutLimits: the law returns true for every input; what came in reads as it did. The card ties the listed variables to the program's text.
-/
import Derived.Test.YtobiohcdpfpefaaDoorShortcutLimitsB2
import Derived.Test.YtobiohcdpfpefaaDoorTie
import Derived.Test.YtobiohcdpfpefaaDoorCards
import Derived.ProofKit
import Derived.OpenShut
import Derived.LaidMore
import Derived.Lay
import Derived.SevenTiedAt
import Derived.Stop.Joined
namespace Go.Proofs.YtobiohcdpfpefaaDoor.shortcutLimits
open Go.E2
open Go.ChangeShapes Go.WideShapes Go.ChangeAt Go.RowKit
theorem own : ownKnob Tryd.prog.godebug = none := by kernel_rfl
theorem laidOut : laidOutB Tryd.prog = true := by kernel_rfl
theorem tables {W : World} (hL : laidMetH Tryd.prog Rows.shortcutLimitsRow.laid W) : Tab Tryd.prog (M1 W) :=
  tab_of (d1 := Rows.laid_unicode_utf8_first) (d2 := Rows.laid_unicode_utf8_acceptRanges) (e3 := 5) hL (by kernel_rfl) (by simp [Rows.shortcutLimitsRow]) (by simp [Rows.shortcutLimitsRow]) (by kernel_rfl) (by kernel_rfl) Tryd.underlying173 Tryd.underlying5 (by kernel_rfl) (by kernel_rfl) Tryd.underlying176 Tryd.underlying175 (by kernel_rfl) rfl rfl rfl rfl Tryd.underlying5 (by kernel_rfl) (by kernel_rfl) (.inl (by kernel_rfl))
set_option maxRecDepth 100000 in
theorem lifted (os : Os) (started : os.Started) (H : Type) (enc : TypeId × Value → H) :
    ReturnsInHanded {} Tryd.checked os 5 .any (fun w args => (Rows.shortcutLimitsSpec.pre enc Tryd.prog Tryd.f5 Rows.shortcutLimitsRow.domain false w args ∧ laidMetH Tryd.prog Rows.shortcutLimitsRow.laid w) ∧ sizedMet enc Tryd.prog Tryd.f5 (OpenSpec.ofChange Rows.shortcutLimitsSpec) false w args)
      (Rows.shortcutLimitsSpec.post enc Tryd.prog Tryd.f5 false true false false) := by
  refine returnsInHanded_of_change_and (C := Tryd.checked) (X := fun w _ => laidMetH Tryd.prog Rows.shortcutLimitsRow.laid w) (fun _ _ _ hh h => h.of_heap hh) own started (by kernel_rfl) Tryd.func5
    (ChangeSpec.witness_shaped (enc := enc) (C := Tryd.checked) (os := os) (X := fun w _ => laidMetH Tryd.prog Rows.shortcutLimitsRow.laid w) false (World.laidAll Tryd.prog os Rows.shortcutLimitsRow.laid) #[.int .u8 0] 8 (World.laidAll_os _ _ _)
      (World.shaped_of_ZipB (by kernel_rfl) (by kernel_rfl)) (by kernel_rfl) (by kernel_rfl) (by kernel_rfl)
      (by rw [MakeChecks.laidMetH_plain _ _ _ (by kernel_rfl)]; exact laidMet_laidAll _ (by kernel_rfl) (by kernel_rfl))) ?_
  intro W base args ds gs before hval0 hW hcnd _ hL _
  have hT : Tab Tryd.prog (M1 W) := tables hL
  have hval : ∀ (j : Nat) t v, Tryd.f5.params[j]? = some t → args[j]? = some v → Value.okWide Tryd.prog W .any base t v := hval0
  obtain ⟨p, q, hA0, hV, hpq, hfz, hnd⟩ := id hW
  have hA : DataW.TrodAll enc Tryd.prog W 0 (fun _ => true) true Tryd.f5.params.toList args.toList ds p := hA0
  rw [Tryd.params5] at hA hval
  obtain ⟨v0, vs0, d0, ds0, p0, q0, hargs, rfl, rfl, h0, r0⟩ := trodAll_cons hA
  obtain ⟨rfl, rfl, rfl⟩ := trodAll_nil r0
  obtain rfl : args = #[v0] := by cases args; simp_all
  clear hA0 hA hval0 hcnd hargs
  obtain ⟨a0, k0, e0⟩ := open_one (fun k => (rd_int Tryd.underlying5)) (by kernel_rfl) (hval 0 5 _ rfl rfl) h0
  have walk : Calls Tryd.prog 5 #[v0] W fun e W' => e = .returned (.bool true) ∧ Below W.heap.size W W' :=
    law_walk (vs := [v0]) (l32_ShortcutLimits_c a0 (limits32_true a0 k0)) hT (fun ρ => ⟨e0 _ rfl ρ, trivial⟩)
  refine walk.mono fun e W' ⟨he, bel⟩ => ?_
  subst he
  exact ⟨_, rfl, law_post laidOut (by kernel_rfl) rfl Tryd.underlying4 rfl rfl rfl rfl hW bel⟩
theorem over : Rows.shortcutLimitsRow.holds Tryd.pinned (OpenSpec.ofChange Rows.shortcutLimitsSpec) :=
  OpenClaim.holds_of_wide 5 Tryd.f5 rfl rfl rfl rfl rfl rfl rfl ⟨rfl, rfl, rfl, rfl, rfl⟩ rfl rfl rfl rfl rfl (by kernel_rfl) Tryd.func5 (by kernel_rfl)
    (of_decide_eq_true (by kernel_rfl)) (by unfold Func.isWrapper; first | (rw [if_pos (by decide +kernel)]; kernel_rfl) | (rw [if_neg (by decide +kernel)]; exact ⟨rfl, rfl⟩))
    (fun os started H enc _ => lifted os started H enc)
end Go.Proofs.YtobiohcdpfpefaaDoor.shortcutLimits
namespace Go.Proofs.YtobiohcdpfpefaaDoor
/-- The given statement: the tied card. -/
theorem shortcutLimits_card : Rows.ShortcutLimitsCardSaid :=
  Claim7.holds_tied_plain_at .later [] [.data, .pinned] true (true, "7be3d58119a6f9eeff455256437a9a5224f200148ab05f2dd380b3cdf826901a") false shortcutLimits.over (fun _ h => by cases h) (by kernel_rfl) (fun _ h => by cases h) shortcutLimits_row_tie rfl ⟨rfl, rfl⟩ (by kernel_rfl) rfl
    (fun f fn hf hfn => by
      obtain rfl : f = 5 := Option.some.inj ((show Tryd.prog.funcNamed "widgetry/widgetrylaw32.ShortcutLimits" = some 5 by kernel_rfl).symm.trans hf) |>.symm
      obtain rfl : fn = Tryd.f5 := (Option.some.inj (Tryd.func5.symm.trans hfn)).symm
      exact ⟨by kernel_rfl, fun j t ht => by
        rw [Tryd.params5] at ht
        have hm : t ∈ [5] := by simpa using Array.mem_of_getElem? ht
        have hall : ([5].all fun u => !Tryd.prog.wantsStandIn u) = true := by kernel_rfl
        exact (show Tryd.prog.wantsStandIn t = false by simpa using List.all_eq_true.1 hall t hm)⟩)
    (by kernel_rfl)
#print axioms shortcutLimits_card
end Go.Proofs.YtobiohcdpfpefaaDoor

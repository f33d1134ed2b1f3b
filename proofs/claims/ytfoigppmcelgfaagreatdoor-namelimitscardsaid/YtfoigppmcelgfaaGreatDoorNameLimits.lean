/-
  NameLimits: the law returns true for every input; what came in reads as it did. The card ties the listed variables to the program's text.
-/
import Derived.Test.YtfoigppmcelgfaaGreatDoorNameLimitsB5
import Derived.Test.YtfoigppmcelgfaaGreatDoorTie
import Derived.Test.YtfoigppmcelgfaaGreatDoorCards
import Derived.ProofKit
import Derived.OpenShut
import Derived.LaidMore
import Derived.Lay
import Derived.SevenTiedAt
import Derived.Stop.Joined
namespace Go.Proofs.YtfoigppmcelgfaaGreatDoor.nameLimits
open Go.E2
open Go.ChangeShapes Go.WideShapes Go.ChangeAt Go.RowKit
theorem own : ownKnob Tryz.prog.godebug = none := by kernel_rfl
theorem laidOut : laidOutB Tryz.prog = true := by kernel_rfl
theorem tables {W : World} (hL : laidMetH Tryz.prog Rows.nameLimitsRow.laid W) : Tab Tryz.prog (M1 W) :=
  tab_of (d1 := Rows.laid_unicode_utf8_first) (d2 := Rows.laid_unicode_utf8_acceptRanges) (e3 := 5) hL (by kernel_rfl) (by simp [Rows.nameLimitsRow]) (by simp [Rows.nameLimitsRow]) (by kernel_rfl) (by kernel_rfl) Tryz.underlying258 Tryz.underlying5 (by kernel_rfl) (by kernel_rfl) Tryz.underlying261 Tryz.underlying260 (by kernel_rfl) rfl rfl rfl rfl Tryz.underlying5 (by kernel_rfl) (by kernel_rfl) (.inr ⟨Rows.laid_widgetry_style_properties, 223, 222, 4, 3, _, _, _, _, (by simp [Rows.nameLimitsRow]), (by kernel_rfl), Tryz.underlying223, Tryz.underlying222, (by kernel_rfl), rfl, rfl, rfl, rfl, rfl, rfl, rfl, rfl, Tryz.underlying4, (by kernel_rfl), Tryz.underlying3, (by kernel_rfl), rfl⟩)
set_option maxRecDepth 100000 in
theorem lifted (os : Os) (started : os.Started) (H : Type) (enc : TypeId × Value → H) :
    ReturnsInHanded {} Tryz.checked os 7 .any (fun w args => (Rows.nameLimitsSpec.pre enc Tryz.prog Tryz.f7 Rows.nameLimitsRow.domain false w args ∧ laidMetH Tryz.prog Rows.nameLimitsRow.laid w) ∧ sizedMet enc Tryz.prog Tryz.f7 (OpenSpec.ofChange Rows.nameLimitsSpec) false w args)
      (Rows.nameLimitsSpec.post enc Tryz.prog Tryz.f7 false true false false) := by
  refine returnsInHanded_of_change_and (C := Tryz.checked) (X := fun w _ => laidMetH Tryz.prog Rows.nameLimitsRow.laid w) (fun _ _ _ hh h => h.of_heap hh) own started (by kernel_rfl) Tryz.func7
    (ChangeSpec.witness_shaped (enc := enc) (C := Tryz.checked) (os := os) (X := fun w _ => laidMetH Tryz.prog Rows.nameLimitsRow.laid w) false (World.laidAll Tryz.prog os Rows.nameLimitsRow.laid) #[.int .u8 0, .bool false] 8 (World.laidAll_os _ _ _)
      (World.shaped_of_ZipB (by kernel_rfl) (by kernel_rfl)) (by kernel_rfl) (by kernel_rfl) (by kernel_rfl)
      (by rw [MakeChecks.laidMetH_plain _ _ _ (by kernel_rfl)]; exact laidMet_laidAll _ (by kernel_rfl) (by kernel_rfl))) ?_
  intro W base args ds gs before hval0 hW hcnd _ hL _
  have hT : Tab Tryz.prog (M1 W) := tables hL
  have hval : ∀ (j : Nat) t v, Tryz.f7.params[j]? = some t → args[j]? = some v → Value.okWide Tryz.prog W .any base t v := hval0
  obtain ⟨p, q, hA0, hV, hpq, hfz, hnd⟩ := id hW
  have hA : DataW.TrodAll enc Tryz.prog W 0 (fun _ => true) true Tryz.f7.params.toList args.toList ds p := hA0
  rw [Tryz.params7] at hA hval
  obtain ⟨v0, vs0, d0, ds0, p0, q0, hargs, rfl, rfl, h0, r0⟩ := trodAll_cons hA
  obtain ⟨v1, vs1, d1, ds1, p1, q1, rfl, rfl, rfl, h1, r1⟩ := trodAll_cons r0
  obtain ⟨rfl, rfl, rfl⟩ := trodAll_nil r1
  obtain rfl : args = #[v0, v1] := by cases args; simp_all
  clear hA0 hA hval0 hcnd hargs
  obtain ⟨a0, k0, e0⟩ := open_one (fun k => (rd_int Tryz.underlying5)) (by kernel_rfl) (hval 0 5 _ rfl rfl) h0
  obtain ⟨a1, k1, e1⟩ := open_one (fun k => (rd_bool Tryz.underlying4)) (by kernel_rfl) (hval 1 4 _ rfl rfl) h1
  have walk : Calls Tryz.prog 7 #[v0, v1] W fun e W' => e = .returned (.bool true) ∧ Below W.heap.size W W' :=
    law_walk (vs := [v0, v1]) (l38_NameLimits_c a0 a1 (nameLimits_true a0 a1 k0)) hT (fun ρ => ⟨e0 _ rfl ρ, e1 _ rfl ρ, trivial⟩)
  refine walk.mono fun e W' ⟨he, bel⟩ => ?_
  subst he
  exact ⟨_, rfl, law_post laidOut (by kernel_rfl) rfl Tryz.underlying4 rfl rfl rfl rfl hW bel⟩
theorem over : Rows.nameLimitsRow.holds Tryz.pinned (OpenSpec.ofChange Rows.nameLimitsSpec) :=
  OpenClaim.holds_of_wide 7 Tryz.f7 rfl rfl rfl rfl rfl rfl rfl ⟨rfl, rfl, rfl, rfl, rfl⟩ rfl rfl rfl rfl rfl (by kernel_rfl) Tryz.func7 (by kernel_rfl)
    (of_decide_eq_true (by kernel_rfl)) (by unfold Func.isWrapper; first | (rw [if_pos (by decide +kernel)]; kernel_rfl) | (rw [if_neg (by decide +kernel)]; exact ⟨rfl, rfl⟩))
    (fun os started H enc _ => lifted os started H enc)
end Go.Proofs.YtfoigppmcelgfaaGreatDoor.nameLimits
namespace Go.Proofs.YtfoigppmcelgfaaGreatDoor
/-- The given statement: the tied card. -/
theorem nameLimits_card : Rows.NameLimitsCardSaid :=
  Claim7.holds_tied_plain_at .later [] [.data, .data, .data, .data, .data, .pinned] true (true, "de393c1f781bcbaa17eefc62852b66957236f799d412dad56d4a7afe8178a217") false nameLimits.over (fun _ h => by cases h) (by kernel_rfl) (fun _ h => by cases h) nameLimits_row_tie rfl ⟨rfl, rfl⟩ (by kernel_rfl) rfl
    (fun f fn hf hfn => by
      obtain rfl : f = 7 := Option.some.inj ((show Tryz.prog.funcNamed "widgetry/widgetrylaw38.NameLimits" = some 7 by kernel_rfl).symm.trans hf) |>.symm
      obtain rfl : fn = Tryz.f7 := (Option.some.inj (Tryz.func7.symm.trans hfn)).symm
      exact ⟨by kernel_rfl, fun j t ht => by
        rw [Tryz.params7] at ht
        have hm : t ∈ [5, 4] := by simpa using Array.mem_of_getElem? ht
        have hall : ([5, 4].all fun u => !Tryz.prog.wantsStandIn u) = true := by kernel_rfl
        exact (show Tryz.prog.wantsStandIn t = false by simpa using List.all_eq_true.1 hall t hm)⟩)
    (by kernel_rfl)
#print axioms nameLimits_card
end Go.Proofs.YtfoigppmcelgfaaGreatDoor

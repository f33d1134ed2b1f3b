/-
  ShortcutBack: the law returns true for every input; what came in reads as it did. The card ties the listed variables to the program's text.
-/
import Derived.Test.YtobiohcdpfpefaaDoorShortcutBackB3
import Derived.Test.YtobiohcdpfpefaaDoorTie
import Derived.Test.YtobiohcdpfpefaaDoorCards
import Derived.ProofKit
import Derived.OpenShut
import Derived.LaidMore
import Derived.Lay
import Derived.SevenTiedAt
import Derived.Stop.Joined
namespace Go.Proofs.YtobiohcdpfpefaaDoor.shortcutBack
open Go.E2
open Go.ChangeShapes Go.WideShapes Go.ChangeAt Go.RowKit
theorem own : ownKnob Tryd.prog.godebug = none := by kernel_rfl
theorem laidOut : laidOutB Tryd.prog = true := by kernel_rfl
def Chord.ok (x : Chord) : Prop := (Lit.int .i64 x.Key).wf = true ∧ (Lit.int .i64 x.Mods).wf = true ∧ True
theorem rd_Chord_34 (k : Nat) : Rd k Tryd.prog 34 Chord.cs Chord.ok := (rd_struct Tryd.underlying34 (by kernel_rfl) (rdF_cons (off := 0) (sz := 1) (tot := 2) rfl (by kernel_rfl) (rd_int Tryd.underlying3) (rdF_cons (off := 1) (sz := 1) (tot := 2) rfl (by kernel_rfl) (rd_int Tryd.underlying3) (rdF_nil (tot := 2))))).map (fun p => ⟨p.1, p.2.1⟩) (fun _ => rfl) (fun _ h => h)
theorem tables {W : World} (hL : laidMetH Tryd.prog Rows.shortcutBackRow.laid W) : Tab Tryd.prog (M1 W) :=
  tab_of (d1 := Rows.laid_unicode_utf8_first) (d2 := Rows.laid_unicode_utf8_acceptRanges) (e3 := 5) hL (by kernel_rfl) (by simp [Rows.shortcutBackRow]) (by simp [Rows.shortcutBackRow]) (by kernel_rfl) (by kernel_rfl) Tryd.underlying173 Tryd.underlying5 (by kernel_rfl) (by kernel_rfl) Tryd.underlying176 Tryd.underlying175 (by kernel_rfl) rfl rfl rfl rfl Tryd.underlying5 (by kernel_rfl) (by kernel_rfl) (.inl (by kernel_rfl))
set_option maxRecDepth 100000 in
theorem lifted (os : Os) (started : os.Started) (H : Type) (enc : TypeId × Value → H) :
    ReturnsInHanded {} Tryd.checked os 4 .any (fun w args => (Rows.shortcutBackSpec.pre enc Tryd.prog Tryd.f4 Rows.shortcutBackRow.domain false w args ∧ laidMetH Tryd.prog Rows.shortcutBackRow.laid w) ∧ sizedMet enc Tryd.prog Tryd.f4 (OpenSpec.ofChange Rows.shortcutBackSpec) false w args)
      (Rows.shortcutBackSpec.post enc Tryd.prog Tryd.f4 false true false false) := by
  refine returnsInHanded_of_change_and (C := Tryd.checked) (X := fun w _ => laidMetH Tryd.prog Rows.shortcutBackRow.laid w) (fun _ _ _ hh h => h.of_heap hh) own started (by kernel_rfl) Tryd.func4
    (ChangeSpec.witness_shaped (enc := enc) (C := Tryd.checked) (os := os) (X := fun w _ => laidMetH Tryd.prog Rows.shortcutBackRow.laid w) false (World.laidAll Tryd.prog os Rows.shortcutBackRow.laid) #[.string ⟨#[]⟩, .slice none 0 0, .slice none 0 0] 8 (World.laidAll_os _ _ _)
      (World.shaped_of_ZipB (by kernel_rfl) (by kernel_rfl)) (by kernel_rfl) (by kernel_rfl) (by kernel_rfl)
      (by rw [MakeChecks.laidMetH_plain _ _ _ (by kernel_rfl)]; exact laidMet_laidAll _ (by kernel_rfl) (by kernel_rfl))) ?_
  intro W base args ds gs before hval0 hW hcnd _ hL _
  have hT : Tab Tryd.prog (M1 W) := tables hL
  have hval : ∀ (j : Nat) t v, Tryd.f4.params[j]? = some t → args[j]? = some v → Value.okWide Tryd.prog W .any base t v := hval0
  obtain ⟨p, q, hA0, hV, hpq, hfz, hnd⟩ := id hW
  have hA : DataW.TrodAll enc Tryd.prog W 0 (fun _ => true) true Tryd.f4.params.toList args.toList ds p := hA0
  rw [Tryd.params4] at hA hval
  obtain ⟨v0, vs0, d0, ds0, p0, q0, hargs, rfl, rfl, h0, r0⟩ := trodAll_cons hA
  obtain ⟨v1, vs1, d1, ds1, p1, q1, rfl, rfl, rfl, h1, r1⟩ := trodAll_cons r0
  obtain ⟨v2, vs2, d2, ds2, p2, q2, rfl, rfl, rfl, h2, r2⟩ := trodAll_cons r1
  obtain ⟨rfl, rfl, rfl⟩ := trodAll_nil r2
  obtain rfl : args = #[v0, v1, v2] := by cases args; simp_all
  clear hA0 hA hval0 hcnd hargs
  obtain ⟨a0, k0, e0⟩ := open_one (fun k => (rd_str Tryd.underlying9)) (by kernel_rfl) (hval 0 9 _ rfl rfl) h0
  obtain ⟨a1, k1, e1⟩ := open_one (fun k => (rd_slice Tryd.underlying22 (rd_Chord_34 _) (sz := 2) (by kernel_rfl) (by decide) (fun _ => rfl))) (by kernel_rfl) (hval 1 22 _ rfl rfl) h1
  obtain ⟨a2, k2, e2⟩ := open_one (fun k => (rd_slice Tryd.underlying23 (rd_int Tryd.underlying3) (sz := 1) (by kernel_rfl) (by decide) (fun _ => rfl))) (by kernel_rfl) (hval 2 23 _ rfl rfl) h2
  have walk : Calls Tryd.prog 4 #[v0, v1, v2] W fun e W' => e = .returned (.bool true) ∧ Below W.heap.size W W' :=
    law_walk (vs := [v0, v1, v2]) (l32_ShortcutBack_c a0 a1 a2 (back32_true a0 a1 a2)) hT (fun ρ => ⟨e0 _ rfl ρ, e1 _ rfl ρ, e2 _ rfl ρ, trivial⟩)
  refine walk.mono fun e W' ⟨he, bel⟩ => ?_
  subst he
  exact ⟨_, rfl, law_post laidOut (by kernel_rfl) rfl Tryd.underlying4 rfl rfl rfl rfl hW bel⟩
theorem over : Rows.shortcutBackRow.holds Tryd.pinned (OpenSpec.ofChange Rows.shortcutBackSpec) :=
  OpenClaim.holds_of_wide 4 Tryd.f4 rfl rfl rfl rfl rfl rfl rfl ⟨rfl, rfl, rfl, rfl, rfl⟩ rfl rfl rfl rfl rfl (by kernel_rfl) Tryd.func4 (by kernel_rfl)
    (of_decide_eq_true (by kernel_rfl)) (by unfold Func.isWrapper; first | (rw [if_pos (by decide +kernel)]; kernel_rfl) | (rw [if_neg (by decide +kernel)]; exact ⟨rfl, rfl⟩))
    (fun os started H enc _ => lifted os started H enc)
end Go.Proofs.YtobiohcdpfpefaaDoor.shortcutBack
namespace Go.Proofs.YtobiohcdpfpefaaDoor
/-- The given statement: the tied card. -/
theorem shortcutBack_card : Rows.ShortcutBackCardSaid :=
  Claim7.holds_tied_plain_at .later [] [.data, .pinned] true (true, "7be3d58119a6f9eeff455256437a9a5224f200148ab05f2dd380b3cdf826901a") false shortcutBack.over (fun _ h => by cases h) (by kernel_rfl) (fun _ h => by cases h) shortcutBack_row_tie rfl ⟨rfl, rfl⟩ (by kernel_rfl) rfl
    (fun f fn hf hfn => by
      obtain rfl : f = 4 := Option.some.inj ((show Tryd.prog.funcNamed "widgetry/widgetrylaw32.ShortcutBack" = some 4 by kernel_rfl).symm.trans hf) |>.symm
      obtain rfl : fn = Tryd.f4 := (Option.some.inj (Tryd.func4.symm.trans hfn)).symm
      exact ⟨by kernel_rfl, fun j t ht => by
        rw [Tryd.params4] at ht
        have hm : t ∈ [9, 22, 23] := by simpa using Array.mem_of_getElem? ht
        have hall : ([9, 22, 23].all fun u => !Tryd.prog.wantsStandIn u) = true := by kernel_rfl
        exact (show Tryd.prog.wantsStandIn t = false by simpa using List.all_eq_true.1 hall t hm)⟩)
    (by kernel_rfl)
#print axioms shortcutBack_card
end Go.Proofs.YtobiohcdpfpefaaDoor

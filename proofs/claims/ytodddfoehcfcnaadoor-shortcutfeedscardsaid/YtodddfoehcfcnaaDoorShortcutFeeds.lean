/-
  ShortcutFeeds: the law returns true for every input; what came in reads as it did. The card ties the listed variables to the program's text.
-/
import Derived.Test.YtodddfoehcfcnaaDoorTie
import Derived.Test.YtodddfoehcfcnaaDoorCards
import Derived.Test.YtodddfoehcfcnaaDoorXz
import Derived.Test.YtodddfoehcfcnaaDoorW4
import Derived.Test.YtodddfoehcfcnaaDoorQ3
import Derived.ProofKit
import Derived.OpenShut
import Derived.LaidMore
import Derived.Lay
import Derived.SevenTiedAt
import Derived.Stop.Joined
namespace Go.Proofs.YtodddfoehcfcnaaDoor.shortcutFeeds
open Go.E2
open Go.ChangeShapes Go.WideShapes Go.ChangeAt Go.RowKit
theorem own : ownKnob Tryd.prog.godebug = none := by kernel_rfl
theorem laidOut : laidOutB Tryd.prog = true := by kernel_rfl
def Chord.ok (x : Chord) : Prop := (Lit.int .i64 x.Key).wf = true ∧ (Lit.int .i64 x.Mods).wf = true ∧ True
theorem rd_Chord_44 : Rd Tryd.prog 44 Chord.cs Chord.ok := (rd_struct Tryd.underlying44 (by kernel_rfl) (rdF_cons (off := 0) (sz := 1) (tot := 2) rfl (by kernel_rfl) (rd_int Tryd.underlying3) (rdF_cons (off := 1) (sz := 1) (tot := 2) rfl (by kernel_rfl) (rd_int Tryd.underlying3) (rdF_nil (tot := 2))))).map (fun p => ⟨p.1, p.2.1⟩) (fun _ => rfl) (fun _ h => h)
def PendingKeys.ok (x : PendingKeys) : Prop := (x.Keys.length ≤ maxLen ∧ ∀ a ∈ x.Keys, Chord.ok a) ∧ (Lit.int .i64 x.Time).wf = true ∧ True
theorem rd_PendingKeys_42 : Rd Tryd.prog 42 PendingKeys.cs PendingKeys.ok := (rd_struct Tryd.underlying42 (by kernel_rfl) (rdF_cons (off := 0) (sz := 1) (tot := 2) rfl (by kernel_rfl) (rd_slice Tryd.underlying40 rd_Chord_44 (sz := 2) (by kernel_rfl) (by decide) (fun _ => rfl)) (rdF_cons (off := 1) (sz := 1) (tot := 2) rfl (by kernel_rfl) (rd_int Tryd.underlying3) (rdF_nil (tot := 2))))).map (fun p => ⟨p.1, p.2.1⟩) (fun _ => rfl) (fun _ h => h)
def Shortcut.ok (x : Shortcut) : Prop := (Lit.int .i64 x.Node).wf = true ∧ (Lit.int .i64 x.Scope).wf = true ∧ (x.Keys.length ≤ maxLen ∧ ∀ a ∈ x.Keys, Chord.ok a) ∧ True
theorem rd_Shortcut_47 : Rd Tryd.prog 47 Shortcut.cs Shortcut.ok := (rd_struct Tryd.underlying47 (by kernel_rfl) (rdF_cons (off := 0) (sz := 1) (tot := 3) rfl (by kernel_rfl) (rd_int Tryd.underlying3) (rdF_cons (off := 1) (sz := 1) (tot := 3) rfl (by kernel_rfl) (rd_int Tryd.underlying3) (rdF_cons (off := 2) (sz := 1) (tot := 3) rfl (by kernel_rfl) (rd_slice Tryd.underlying40 rd_Chord_44 (sz := 2) (by kernel_rfl) (by decide) (fun _ => rfl)) (rdF_nil (tot := 3)))))).map (fun p => ⟨p.1, p.2.1, p.2.2.1⟩) (fun _ => rfl) (fun _ h => h)
set_option maxRecDepth 100000 in
theorem lifted (os : Os) (started : os.Started) (H : Type) (enc : TypeId × Value → H) :
    ReturnsInHanded {} Tryd.checked os 6 .any (fun w args => (Rows.shortcutFeedsSpec.pre enc Tryd.prog Tryd.f6 Rows.shortcutFeedsRow.domain false w args ∧ laidMetH Tryd.prog Rows.shortcutFeedsRow.laid w) ∧ sizedMet enc Tryd.prog Tryd.f6 (OpenSpec.ofChange Rows.shortcutFeedsSpec) false w args)
      (Rows.shortcutFeedsSpec.post enc Tryd.prog Tryd.f6 false true false false) := by
  refine returnsInHanded_of_change_and (C := Tryd.checked) (X := fun w _ => laidMetH Tryd.prog Rows.shortcutFeedsRow.laid w) (fun _ _ _ hh h => h.of_heap hh) own started (by kernel_rfl) Tryd.func6
    (ChangeSpec.witness_shaped (enc := enc) (C := Tryd.checked) (os := os) (X := fun w _ => laidMetH Tryd.prog Rows.shortcutFeedsRow.laid w) false (World.laidAll Tryd.prog os Rows.shortcutFeedsRow.laid) #[.agg #[.slice none 0 0, .int .i64 0], .slice none 0 0, .slice none 0 0, .agg #[.int .i64 0, .int .i64 0], .int .i64 0] 8 (World.laidAll_os _ _ _)
      (World.shaped_of_ZipB (by kernel_rfl) (by kernel_rfl)) (by kernel_rfl) (by kernel_rfl) (by kernel_rfl)
      (by rw [MakeChecks.laidMetH_plain _ _ _ (by kernel_rfl)]; exact laidMet_laidAll _ (by kernel_rfl) (by kernel_rfl))) ?_
  intro W base args ds gs before hval0 hW hcnd _ hL _
  have hval : ∀ (j : Nat) t v, Tryd.f6.params[j]? = some t → args[j]? = some v → Value.okWide Tryd.prog W .any base t v := hval0
  obtain ⟨p, q, hA0, hV, hpq, hfz, hnd⟩ := id hW
  have hA : DataW.TrodAll enc Tryd.prog W 0 (fun _ => true) true Tryd.f6.params.toList args.toList ds p := hA0
  rw [Tryd.params6] at hA hval
  obtain ⟨v0, vs0, d0, ds0, p0, q0, hargs, rfl, rfl, h0, r0⟩ := trodAll_cons hA
  obtain ⟨v1, vs1, d1, ds1, p1, q1, rfl, rfl, rfl, h1, r1⟩ := trodAll_cons r0
  obtain ⟨v2, vs2, d2, ds2, p2, q2, rfl, rfl, rfl, h2, r2⟩ := trodAll_cons r1
  obtain ⟨v3, vs3, d3, ds3, p3, q3, rfl, rfl, rfl, h3, r3⟩ := trodAll_cons r2
  obtain ⟨v4, vs4, d4, ds4, p4, q4, rfl, rfl, rfl, h4, r4⟩ := trodAll_cons r3
  obtain ⟨rfl, rfl, rfl⟩ := trodAll_nil r4
  obtain rfl : args = #[v0, v1, v2, v3, v4] := by cases args; simp_all
  clear hA0 hA hval0 hcnd hargs
  obtain ⟨a0, k0, e0⟩ := open_agg rd_PendingKeys_42 Tryd.underlying42 (hval 0 42 _ rfl rfl) h0
  obtain ⟨a1, k1, e1⟩ := open_one (rd_slice Tryd.underlying37 rd_Shortcut_47 (sz := 3) (by kernel_rfl) (by decide) (fun _ => rfl)) (by kernel_rfl) (hval 1 37 _ rfl rfl) h1
  obtain ⟨a2, k2, e2⟩ := open_one (rd_slice Tryd.underlying23 (rd_int Tryd.underlying3) (sz := 1) (by kernel_rfl) (by decide) (fun _ => rfl)) (by kernel_rfl) (hval 2 23 _ rfl rfl) h2
  obtain ⟨a3, k3, e3⟩ := open_agg rd_Chord_44 Tryd.underlying44 (hval 3 44 _ rfl rfl) h3
  obtain ⟨a4, k4, e4⟩ := open_one (rd_int Tryd.underlying3) (by kernel_rfl) (hval 4 3 _ rfl rfl) h4
  have walk : Calls Tryd.prog 6 #[v0, v1, v2, v3, v4] W fun e W' => e = .returned (.bool true) ∧ Below W.heap.size W W' :=
    law_walk (vs := [v0, v1, v2, v3, v4]) (l32_ShortcutFeeds_c a0 a1 a2 a3 a4 (feeds_true a0 a1 a2 a3 a4)) (fun ρ => ⟨e0 ρ, e1 _ rfl ρ, e2 _ rfl ρ, e3 ρ, e4 _ rfl ρ, trivial⟩)
  refine walk.mono fun e W' ⟨he, bel⟩ => ?_
  subst he
  exact ⟨_, rfl, law_post laidOut (by kernel_rfl) rfl Tryd.underlying4 rfl rfl rfl rfl hW bel⟩
theorem over : Rows.shortcutFeedsRow.holds Tryd.pinned (OpenSpec.ofChange Rows.shortcutFeedsSpec) :=
  OpenClaim.holds_of_wide 6 Tryd.f6 rfl rfl rfl rfl rfl rfl rfl ⟨rfl, rfl, rfl, rfl, rfl⟩ rfl rfl rfl rfl rfl (by kernel_rfl) Tryd.func6 (by kernel_rfl)
    (of_decide_eq_true (by kernel_rfl)) (by unfold Func.isWrapper; first | (rw [if_pos (by decide +kernel)]; kernel_rfl) | (rw [if_neg (by decide +kernel)]; exact ⟨rfl, rfl⟩))
    (fun os started H enc _ => lifted os started H enc)
end Go.Proofs.YtodddfoehcfcnaaDoor.shortcutFeeds
namespace Go.Proofs.YtodddfoehcfcnaaDoor
/-- The given statement: the tied card. -/
theorem shortcutFeeds_card : Rows.ShortcutFeedsCardSaid :=
  Claim7.holds_tied_plain_at .later [] [.data, .pinned] true (true, "8f84c41d790aaad06fbd370ad2c098981ded34107b3c55dd3034f19e2c6fdc25") false shortcutFeeds.over (fun _ h => by cases h) (by kernel_rfl) (fun _ h => by cases h) shortcutFeeds_row_tie rfl ⟨rfl, rfl⟩ (by kernel_rfl) rfl
    (fun f fn hf hfn => by
      obtain rfl : f = 6 := Option.some.inj ((show Tryd.prog.funcNamed "widgetry/widgetrylaw32.ShortcutFeeds" = some 6 by kernel_rfl).symm.trans hf) |>.symm
      obtain rfl : fn = Tryd.f6 := (Option.some.inj (Tryd.func6.symm.trans hfn)).symm
      exact ⟨by kernel_rfl, fun j t ht => by
        rw [Tryd.params6] at ht
        have hm : t ∈ [42, 37, 23, 44, 3] := by simpa using Array.mem_of_getElem? ht
        have hall : ([42, 37, 23, 44, 3].all fun u => !Tryd.prog.wantsStandIn u) = true := by kernel_rfl
        exact (show Tryd.prog.wantsStandIn t = false by simpa using List.all_eq_true.1 hall t hm)⟩)
    (by kernel_rfl)
#print axioms shortcutFeeds_card
end Go.Proofs.YtodddfoehcfcnaaDoor

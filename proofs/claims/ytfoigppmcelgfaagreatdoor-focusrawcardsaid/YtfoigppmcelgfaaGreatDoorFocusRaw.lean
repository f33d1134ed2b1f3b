/-
  FocusRaw: the law returns true for every input; what came in reads as it did. The card ties the listed variables to the program's text.
-/
import Derived.Test.YtfoigppmcelgfaaGreatDoorFocusRawB6
import Derived.Test.YtfoigppmcelgfaaGreatDoorTie
import Derived.Test.YtfoigppmcelgfaaGreatDoorCards
import Derived.ProofKit
import Derived.OpenShut
import Derived.LaidMore
import Derived.Lay
import Derived.SevenTiedAt
import Derived.Stop.Joined
namespace Go.Proofs.YtfoigppmcelgfaaGreatDoor.focusRaw
open Go.E2
open Go.ChangeShapes Go.WideShapes Go.ChangeAt Go.RowKit
theorem own : ownKnob Tryz.prog.godebug = none := by kernel_rfl
theorem laidOut : laidOutB Tryz.prog = true := by kernel_rfl
def FocusState.ok (x : FocusState) : Prop := (Lit.int .i64 x.Focused).wf = true ∧ True ∧ (x.Past.length ≤ maxLen ∧ ∀ a ∈ x.Past, (Lit.int .i64 a).wf = true) ∧ True
theorem rd_FocusState_59 (k : Nat) : Rd k Tryz.prog 59 FocusState.cs FocusState.ok := (rd_struct Tryz.underlying59 (by kernel_rfl) (rdF_cons (off := 0) (sz := 1) (tot := 3) rfl (by kernel_rfl) (rd_int Tryz.underlying3) (rdF_cons (off := 1) (sz := 1) (tot := 3) rfl (by kernel_rfl) (rd_bool Tryz.underlying4) (rdF_cons (off := 2) (sz := 1) (tot := 3) rfl (by kernel_rfl) (rd_slice Tryz.underlying57 (rd_int Tryz.underlying3) (sz := 1) (by kernel_rfl) (by decide) (fun _ => rfl)) (rdF_nil (tot := 3)))))).map (fun p => ⟨p.1, p.2.1, p.2.2.1⟩) (fun _ => rfl) (fun _ h => h)
mutual
def AValue.ok : AValue → Prop
  | ⟨v0, v1, v2, v3⟩ => (Lit.int .i64 v0).wf = true ∧ (Lit.int .i64 v1).wf = true ∧ v2.size ≤ maxLen ∧ (v3.length ≤ maxLen ∧ AValue.okL v3) ∧ True
def AValue.okL : List AValue → Prop
  | [] => True
  | x :: r => AValue.ok x ∧ AValue.okL r
end
theorem AValue.okL_eq : ∀ l, AValue.okL l ↔ ∀ a ∈ l, AValue.ok a
  | [] => by unfold AValue.okL; simp
  | x :: r => by unfold AValue.okL; rw [AValue.okL_eq r]; simp
theorem AValue.ok_eq (x : AValue) : AValue.ok x ↔ ((Lit.int .i64 x.Kind).wf = true ∧ (Lit.int .i64 x.N).wf = true ∧ x.S.size ≤ maxLen ∧ (x.L.length ≤ maxLen ∧ ∀ a ∈ x.L, AValue.ok a) ∧ True) := by
  cases x
  conv => lhs; unfold AValue.ok
  simp only [AValue.okL_eq]
theorem rd_AValue_53 : ∀ k, Rd k Tryz.prog 53 AValue.cs AValue.ok := by
  intro k
  induction k with
  | zero => exact rd_zero
  | succ k ih => exact (rd_struct1 Tryz.underlying53 (by kernel_rfl) (rdF_cons (off := 0) (sz := 1) (tot := 4) rfl (by kernel_rfl) (rd_int Tryz.underlying3) (rdF_cons (off := 1) (sz := 1) (tot := 4) rfl (by kernel_rfl) (rd_int Tryz.underlying3) (rdF_cons (off := 2) (sz := 1) (tot := 4) rfl (by kernel_rfl) (rd_str Tryz.underlying9) (rdF_cons (off := 3) (sz := 1) (tot := 4) rfl (by kernel_rfl) (rd_slice Tryz.underlying51 (ih) (sz := 4) (by kernel_rfl) (by decide) (fun x => by rw [AValue.cs_eq]; rfl)) (rdF_nil (tot := 4))))))).map (fun p => ⟨p.1, p.2.1, p.2.2.1, p.2.2.2.1⟩) (fun p => by rw [AValue.cs_eq]; rfl) (fun p h => by rw [AValue.ok_eq]; exact h)
def Attr.ok (x : Attr) : Prop := x.Name.size ≤ maxLen ∧ AValue.ok x.Value ∧ True
theorem rd_Attr_55 (k : Nat) : Rd k Tryz.prog 55 Attr.cs Attr.ok := (rd_struct Tryz.underlying55 (by kernel_rfl) (rdF_cons (off := 0) (sz := 1) (tot := 5) rfl (by kernel_rfl) (rd_str Tryz.underlying9) (rdF_cons (off := 1) (sz := 4) (tot := 5) rfl (by kernel_rfl) (rd_AValue_53 _) (rdF_nil (tot := 5))))).map (fun p => ⟨p.1, p.2.1⟩) (fun _ => by simp only [AValue.cs_eq]; rfl) (fun _ h => h)
def Action.ok (x : Action) : Prop := x.Event.size ≤ maxLen ∧ x.Instance.size ≤ maxLen ∧ x.Handler.size ≤ maxLen ∧ (x.Args.length ≤ maxLen ∧ ∀ a ∈ x.Args, AValue.ok a) ∧ True
theorem rd_Action_93 (k : Nat) : Rd k Tryz.prog 93 Action.cs Action.ok := (rd_struct Tryz.underlying93 (by kernel_rfl) (rdF_cons (off := 0) (sz := 1) (tot := 4) rfl (by kernel_rfl) (rd_str Tryz.underlying9) (rdF_cons (off := 1) (sz := 1) (tot := 4) rfl (by kernel_rfl) (rd_str Tryz.underlying9) (rdF_cons (off := 2) (sz := 1) (tot := 4) rfl (by kernel_rfl) (rd_str Tryz.underlying9) (rdF_cons (off := 3) (sz := 1) (tot := 4) rfl (by kernel_rfl) (rd_slice Tryz.underlying51 (rd_AValue_53 _) (sz := 4) (by kernel_rfl) (by decide) (fun x => by rw [AValue.cs_eq]; rfl)) (rdF_nil (tot := 4))))))).map (fun p => ⟨p.1, p.2.1, p.2.2.1, p.2.2.2.1⟩) (fun _ => rfl) (fun _ h => h)
def Node.ok (x : Node) : Prop := (Lit.int .i64 x.ID).wf = true ∧ (Lit.int .i64 x.Parent).wf = true ∧ (Lit.int .i64 x.Kind).wf = true ∧ x.Key.size ≤ maxLen ∧ (x.Attrs.length ≤ maxLen ∧ ∀ a ∈ x.Attrs, Attr.ok a) ∧ (x.Actions.length ≤ maxLen ∧ ∀ a ∈ x.Actions, Action.ok a) ∧ (x.Kids.length ≤ maxLen ∧ ∀ a ∈ x.Kids, (Lit.int .i64 a).wf = true) ∧ True
theorem rd_Node_61 (k : Nat) : Rd k Tryz.prog 61 Node.cs Node.ok := (rd_struct Tryz.underlying61 (by kernel_rfl) (rdF_cons (off := 0) (sz := 1) (tot := 7) rfl (by kernel_rfl) (rd_int Tryz.underlying3) (rdF_cons (off := 1) (sz := 1) (tot := 7) rfl (by kernel_rfl) (rd_int Tryz.underlying3) (rdF_cons (off := 2) (sz := 1) (tot := 7) rfl (by kernel_rfl) (rd_int Tryz.underlying3) (rdF_cons (off := 3) (sz := 1) (tot := 7) rfl (by kernel_rfl) (rd_str Tryz.underlying9) (rdF_cons (off := 4) (sz := 1) (tot := 7) rfl (by kernel_rfl) (rd_slice Tryz.underlying23 (rd_Attr_55 _) (sz := 5) (by kernel_rfl) (by decide) (fun _ => rfl)) (rdF_cons (off := 5) (sz := 1) (tot := 7) rfl (by kernel_rfl) (rd_slice Tryz.underlying24 (rd_Action_93 _) (sz := 4) (by kernel_rfl) (by decide) (fun _ => rfl)) (rdF_cons (off := 6) (sz := 1) (tot := 7) rfl (by kernel_rfl) (rd_slice Tryz.underlying57 (rd_int Tryz.underlying3) (sz := 1) (by kernel_rfl) (by decide) (fun _ => rfl)) (rdF_nil (tot := 7)))))))))).map (fun p => ⟨p.1, p.2.1, p.2.2.1, p.2.2.2.1, p.2.2.2.2.1, p.2.2.2.2.2.1, p.2.2.2.2.2.2.1⟩) (fun _ => rfl) (fun _ h => h)
def Tree.ok (x : Tree) : Prop := (Lit.int .i64 x.Root).wf = true ∧ (Lit.int .i64 x.Next).wf = true ∧ (x.Nodes.length ≤ maxLen ∧ ∀ a ∈ x.Nodes, Node.ok a) ∧ True
theorem rd_Tree_30 (k : Nat) : Rd k Tryz.prog 30 Tree.cs Tree.ok := (rd_struct Tryz.underlying30 (by kernel_rfl) (rdF_cons (off := 0) (sz := 1) (tot := 3) rfl (by kernel_rfl) (rd_int Tryz.underlying3) (rdF_cons (off := 1) (sz := 1) (tot := 3) rfl (by kernel_rfl) (rd_int Tryz.underlying3) (rdF_cons (off := 2) (sz := 1) (tot := 3) rfl (by kernel_rfl) (rd_slice Tryz.underlying28 (rd_Node_61 _) (sz := 7) (by kernel_rfl) (by decide) (fun _ => rfl)) (rdF_nil (tot := 3)))))).map (fun p => ⟨p.1, p.2.1, p.2.2.1⟩) (fun _ => rfl) (fun _ h => h)
def Styled.ok (x : Styled) : Prop := (Lit.int .i64 x.ID).wf = true ∧ (∀ i, i < 22 → (Lit.int .i64 (x.Style i)).wf = true) ∧ True
theorem rd_Styled_99 (k : Nat) : Rd k Tryz.prog 99 Styled.cs Styled.ok := (rd_struct Tryz.underlying99 (by kernel_rfl) (rdF_cons (off := 0) (sz := 1) (tot := 23) rfl (by kernel_rfl) (rd_int Tryz.underlying3) (rdF_cons (off := 1) (sz := 22) (tot := 23) rfl (by kernel_rfl) (rd_arr Tryz.underlying96 (by kernel_rfl) (by kernel_rfl) (rd_int Tryz.underlying3)) (rdF_nil (tot := 23))))).map (fun p => ⟨p.1, p.2.1⟩) (fun _ => rfl) (fun _ h => h)
theorem tables {W : World} (hL : laidMetH Tryz.prog Rows.focusRawRow.laid W) : Tab Tryz.prog (M1 W) :=
  tab_of (d1 := Rows.laid_unicode_utf8_first) (d2 := Rows.laid_unicode_utf8_acceptRanges) (e3 := 5) hL (by kernel_rfl) (by simp [Rows.focusRawRow]) (by simp [Rows.focusRawRow]) (by kernel_rfl) (by kernel_rfl) Tryz.underlying258 Tryz.underlying5 (by kernel_rfl) (by kernel_rfl) Tryz.underlying261 Tryz.underlying260 (by kernel_rfl) rfl rfl rfl rfl Tryz.underlying5 (by kernel_rfl) (by kernel_rfl) (.inr ⟨Rows.laid_widgetry_style_properties, 223, 222, 4, 3, _, _, _, _, (by simp [Rows.focusRawRow]), (by kernel_rfl), Tryz.underlying223, Tryz.underlying222, (by kernel_rfl), rfl, rfl, rfl, rfl, rfl, rfl, rfl, rfl, Tryz.underlying4, (by kernel_rfl), Tryz.underlying3, (by kernel_rfl), rfl⟩)
set_option maxRecDepth 100000 in
theorem lifted (os : Os) (started : os.Started) (H : Type) (enc : TypeId × Value → H) :
    ReturnsInHanded {} Tryz.checked os 5 .any (fun w args => (Rows.focusRawSpec.pre enc Tryz.prog Tryz.f5 Rows.focusRawRow.domain false w args ∧ laidMetH Tryz.prog Rows.focusRawRow.laid w) ∧ sizedMet enc Tryz.prog Tryz.f5 (OpenSpec.ofChange Rows.focusRawSpec) false w args)
      (Rows.focusRawSpec.post enc Tryz.prog Tryz.f5 false true false false) := by
  refine returnsInHanded_of_change_and (C := Tryz.checked) (X := fun w _ => laidMetH Tryz.prog Rows.focusRawRow.laid w) (fun _ _ _ hh h => h.of_heap hh) own started (by kernel_rfl) Tryz.func5
    (ChangeSpec.witness_shaped (enc := enc) (C := Tryz.checked) (os := os) (X := fun w _ => laidMetH Tryz.prog Rows.focusRawRow.laid w) false (World.laidAll Tryz.prog os Rows.focusRawRow.laid) #[.agg #[.int .i64 0, .bool false, .slice none 0 0], .int .i64 0, .bool false, .agg #[.int .i64 0, .int .i64 0, .slice none 0 0], .slice none 0 0] 8 (World.laidAll_os _ _ _)
      (World.shaped_of_ZipB (by kernel_rfl) (by kernel_rfl)) (by kernel_rfl) (by kernel_rfl) (by kernel_rfl)
      (by rw [MakeChecks.laidMetH_plain _ _ _ (by kernel_rfl)]; exact laidMet_laidAll _ (by kernel_rfl) (by kernel_rfl))) ?_
  intro W base args ds gs before hval0 hW hcnd _ hL _
  have hT : Tab Tryz.prog (M1 W) := tables hL
  have hval : ∀ (j : Nat) t v, Tryz.f5.params[j]? = some t → args[j]? = some v → Value.okWide Tryz.prog W .any base t v := hval0
  obtain ⟨p, q, hA0, hV, hpq, hfz, hnd⟩ := id hW
  have hA : DataW.TrodAll enc Tryz.prog W 0 (fun _ => true) true Tryz.f5.params.toList args.toList ds p := hA0
  rw [Tryz.params5] at hA hval
  obtain ⟨v0, vs0, d0, ds0, p0, q0, hargs, rfl, rfl, h0, r0⟩ := trodAll_cons hA
  obtain ⟨v1, vs1, d1, ds1, p1, q1, rfl, rfl, rfl, h1, r1⟩ := trodAll_cons r0
  obtain ⟨v2, vs2, d2, ds2, p2, q2, rfl, rfl, rfl, h2, r2⟩ := trodAll_cons r1
  obtain ⟨v3, vs3, d3, ds3, p3, q3, rfl, rfl, rfl, h3, r3⟩ := trodAll_cons r2
  obtain ⟨v4, vs4, d4, ds4, p4, q4, rfl, rfl, rfl, h4, r4⟩ := trodAll_cons r3
  obtain ⟨rfl, rfl, rfl⟩ := trodAll_nil r4
  obtain rfl : args = #[v0, v1, v2, v3, v4] := by cases args; simp_all
  clear hA0 hA hval0 hcnd hargs
  obtain ⟨a0, k0, e0⟩ := open_agg (fun k => (rd_FocusState_59 _)) Tryz.underlying59 (hval 0 59 _ rfl rfl) h0
  obtain ⟨a1, k1, e1⟩ := open_one (fun k => (rd_int Tryz.underlying3)) (by kernel_rfl) (hval 1 3 _ rfl rfl) h1
  obtain ⟨a2, k2, e2⟩ := open_one (fun k => (rd_bool Tryz.underlying4)) (by kernel_rfl) (hval 2 4 _ rfl rfl) h2
  obtain ⟨a3, k3, e3⟩ := open_agg (fun k => (rd_Tree_30 _)) Tryz.underlying30 (hval 3 30 _ rfl rfl) h3
  obtain ⟨a4, k4, e4⟩ := open_one (fun k => (rd_slice Tryz.underlying44 (rd_Styled_99 _) (sz := 23) (by kernel_rfl) (by decide) (fun _ => rfl))) (by kernel_rfl) (hval 4 44 _ rfl rfl) h4
  have walk : Calls Tryz.prog 5 #[v0, v1, v2, v3, v4] W fun e W' => e = .returned (.bool true) ∧ Below W.heap.size W W' :=
    law_walk (vs := [v0, v1, v2, v3, v4]) (l31_FocusRaw_c a0 a1 a2 a3 a4 (raw31_true a0 a1 a2 a3 a4 (fun n hn => by obtain ⟨_, _, _, h4, _⟩ := k3.2.2.1.2 n hn; unfold maxLen at h4; unfold N0; omega))) hT (fun ρ => ⟨e0 ρ, e1 _ rfl ρ, e2 _ rfl ρ, e3 ρ, e4 _ rfl ρ, trivial⟩)
  refine walk.mono fun e W' ⟨he, bel⟩ => ?_
  subst he
  exact ⟨_, rfl, law_post laidOut (by kernel_rfl) rfl Tryz.underlying4 rfl rfl rfl rfl hW bel⟩
theorem over : Rows.focusRawRow.holds Tryz.pinned (OpenSpec.ofChange Rows.focusRawSpec) :=
  OpenClaim.holds_of_wide 5 Tryz.f5 rfl rfl rfl rfl rfl rfl rfl ⟨rfl, rfl, rfl, rfl, rfl⟩ rfl rfl rfl rfl rfl (by kernel_rfl) Tryz.func5 (by kernel_rfl)
    (of_decide_eq_true (by kernel_rfl)) (by unfold Func.isWrapper; first | (rw [if_pos (by decide +kernel)]; kernel_rfl) | (rw [if_neg (by decide +kernel)]; exact ⟨rfl, rfl⟩))
    (fun os started H enc _ => lifted os started H enc)
end Go.Proofs.YtfoigppmcelgfaaGreatDoor.focusRaw
namespace Go.Proofs.YtfoigppmcelgfaaGreatDoor
/-- The given statement: the tied card. -/
theorem focusRaw_card : Rows.FocusRawCardSaid :=
  Claim7.holds_tied_plain_at .later [] [.data, .data, .pinned] true (true, "de393c1f781bcbaa17eefc62852b66957236f799d412dad56d4a7afe8178a217") false focusRaw.over (fun _ h => by cases h) (by kernel_rfl) (fun _ h => by cases h) focusRaw_row_tie rfl ⟨rfl, rfl⟩ (by kernel_rfl) rfl
    (fun f fn hf hfn => by
      obtain rfl : f = 5 := Option.some.inj ((show Tryz.prog.funcNamed "widgetry/widgetrylaw31.FocusRaw" = some 5 by kernel_rfl).symm.trans hf) |>.symm
      obtain rfl : fn = Tryz.f5 := (Option.some.inj (Tryz.func5.symm.trans hfn)).symm
      exact ⟨by kernel_rfl, fun j t ht => by
        rw [Tryz.params5] at ht
        have hm : t ∈ [59, 3, 4, 30, 44] := by simpa using Array.mem_of_getElem? ht
        have hall : ([59, 3, 4, 30, 44].all fun u => !Tryz.prog.wantsStandIn u) = true := by kernel_rfl
        exact (show Tryz.prog.wantsStandIn t = false by simpa using List.all_eq_true.1 hall t hm)⟩)
    (by kernel_rfl)
#print axioms focusRaw_card
end Go.Proofs.YtfoigppmcelgfaaGreatDoor

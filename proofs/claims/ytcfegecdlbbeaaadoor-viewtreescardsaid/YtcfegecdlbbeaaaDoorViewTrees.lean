/-
  ViewTrees: the law returns true for every input; what came in reads as it did. The card ties the listed variables to the program's text.
-/
import Derived.Test.YtcfegecdlbbeaaaDoorViewTreesB6
import Derived.Test.YtcfegecdlbbeaaaDoorTie
import Derived.Test.YtcfegecdlbbeaaaDoorCards
import Derived.ProofKit
import Derived.OpenShut
import Derived.LaidMore
import Derived.Lay
import Derived.SevenTiedAt
import Derived.Stop.Joined
namespace Go.Proofs.YtcfegecdlbbeaaaDoor.viewTrees
open Go.E2
open Go.ChangeShapes Go.WideShapes Go.ChangeAt Go.RowKit
theorem own : ownKnob Tryd.prog.godebug = none := by kernel_rfl
theorem laidOut : laidOutB Tryd.prog = true := by kernel_rfl
mutual
def AValue.ok : AValue → Prop
  | ⟨v0, v1, v2, v3⟩ => (Lit.int .i64 v0).wf = true ∧ (Lit.int .i64 v1).wf = true ∧ v2.size ≤ maxLen ∧ (v3.length ≤ maxLen ∧ AValue.okL v3) ∧ True
def AValue.okL : List AValue → Prop
  | [] => True
  | x :: r => AValue.ok x ∧ AValue.okL r
end
theorem AValue.okL_eq : ∀ l, AValue.okL l ↔ ∀ a ∈ l, AValue.ok a
  | [] => by unfold AValue.okL; simp
  | x :: r => by unfold AValue.okL; rw [AValue.okL_eq r]; simp
theorem AValue.ok_eq (x : AValue) : AValue.ok x ↔ ((Lit.int .i64 x.Kind).wf = true ∧ (Lit.int .i64 x.N).wf = true ∧ x.S.size ≤ maxLen ∧ (x.L.length ≤ maxLen ∧ ∀ a ∈ x.L, AValue.ok a) ∧ True) := by
  cases x
  conv => lhs; unfold AValue.ok
  simp only [AValue.okL_eq]
theorem rd_AValue_40 : ∀ k, Rd k Tryd.prog 40 AValue.cs AValue.ok := by
  intro k
  induction k with
  | zero => exact rd_zero
  | succ k ih => exact (rd_struct1 Tryd.underlying40 (by kernel_rfl) (rdF_cons (off := 0) (sz := 1) (tot := 4) rfl (by kernel_rfl) (rd_int Tryd.underlying3) (rdF_cons (off := 1) (sz := 1) (tot := 4) rfl (by kernel_rfl) (rd_int Tryd.underlying3) (rdF_cons (off := 2) (sz := 1) (tot := 4) rfl (by kernel_rfl) (rd_str Tryd.underlying9) (rdF_cons (off := 3) (sz := 1) (tot := 4) rfl (by kernel_rfl) (rd_slice Tryd.underlying38 (ih) (sz := 4) (by kernel_rfl) (by decide) (fun x => by rw [AValue.cs_eq]; rfl)) (rdF_nil (tot := 4))))))).map (fun p => ⟨p.1, p.2.1, p.2.2.1, p.2.2.2.1⟩) (fun p => by rw [AValue.cs_eq]; rfl) (fun p h => by rw [AValue.ok_eq]; exact h)
def Attr.ok (x : Attr) : Prop := x.Name.size ≤ maxLen ∧ AValue.ok x.Value ∧ True
theorem rd_Attr_43 (k : Nat) : Rd k Tryd.prog 43 Attr.cs Attr.ok := (rd_struct Tryd.underlying43 (by kernel_rfl) (rdF_cons (off := 0) (sz := 1) (tot := 5) rfl (by kernel_rfl) (rd_str Tryd.underlying9) (rdF_cons (off := 1) (sz := 4) (tot := 5) rfl (by kernel_rfl) (rd_AValue_40 _) (rdF_nil (tot := 5))))).map (fun p => ⟨p.1, p.2.1⟩) (fun _ => by simp only [AValue.cs_eq]; rfl) (fun _ h => h)
def Action.ok (x : Action) : Prop := x.Event.size ≤ maxLen ∧ x.Instance.size ≤ maxLen ∧ x.Handler.size ≤ maxLen ∧ (x.Args.length ≤ maxLen ∧ ∀ a ∈ x.Args, AValue.ok a) ∧ True
theorem rd_Action_45 (k : Nat) : Rd k Tryd.prog 45 Action.cs Action.ok := (rd_struct Tryd.underlying45 (by kernel_rfl) (rdF_cons (off := 0) (sz := 1) (tot := 4) rfl (by kernel_rfl) (rd_str Tryd.underlying9) (rdF_cons (off := 1) (sz := 1) (tot := 4) rfl (by kernel_rfl) (rd_str Tryd.underlying9) (rdF_cons (off := 2) (sz := 1) (tot := 4) rfl (by kernel_rfl) (rd_str Tryd.underlying9) (rdF_cons (off := 3) (sz := 1) (tot := 4) rfl (by kernel_rfl) (rd_slice Tryd.underlying38 (rd_AValue_40 _) (sz := 4) (by kernel_rfl) (by decide) (fun x => by rw [AValue.cs_eq]; rfl)) (rdF_nil (tot := 4))))))).map (fun p => ⟨p.1, p.2.1, p.2.2.1, p.2.2.2.1⟩) (fun _ => rfl) (fun _ h => h)
def Node.ok (x : Node) : Prop := (Lit.int .i64 x.ID).wf = true ∧ (Lit.int .i64 x.Parent).wf = true ∧ (Lit.int .i64 x.Kind).wf = true ∧ x.Key.size ≤ maxLen ∧ (x.Attrs.length ≤ maxLen ∧ ∀ a ∈ x.Attrs, Attr.ok a) ∧ (x.Actions.length ≤ maxLen ∧ ∀ a ∈ x.Actions, Action.ok a) ∧ (x.Kids.length ≤ maxLen ∧ ∀ a ∈ x.Kids, (Lit.int .i64 a).wf = true) ∧ True
theorem rd_Node_55 (k : Nat) : Rd k Tryd.prog 55 Node.cs Node.ok := (rd_struct Tryd.underlying55 (by kernel_rfl) (rdF_cons (off := 0) (sz := 1) (tot := 7) rfl (by kernel_rfl) (rd_int Tryd.underlying3) (rdF_cons (off := 1) (sz := 1) (tot := 7) rfl (by kernel_rfl) (rd_int Tryd.underlying3) (rdF_cons (off := 2) (sz := 1) (tot := 7) rfl (by kernel_rfl) (rd_int Tryd.underlying3) (rdF_cons (off := 3) (sz := 1) (tot := 7) rfl (by kernel_rfl) (rd_str Tryd.underlying9) (rdF_cons (off := 4) (sz := 1) (tot := 7) rfl (by kernel_rfl) (rd_slice Tryd.underlying27 (rd_Attr_43 _) (sz := 5) (by kernel_rfl) (by decide) (fun _ => rfl)) (rdF_cons (off := 5) (sz := 1) (tot := 7) rfl (by kernel_rfl) (rd_slice Tryd.underlying28 (rd_Action_45 _) (sz := 4) (by kernel_rfl) (by decide) (fun _ => rfl)) (rdF_cons (off := 6) (sz := 1) (tot := 7) rfl (by kernel_rfl) (rd_slice Tryd.underlying24 (rd_int Tryd.underlying3) (sz := 1) (by kernel_rfl) (by decide) (fun _ => rfl)) (rdF_nil (tot := 7)))))))))).map (fun p => ⟨p.1, p.2.1, p.2.2.1, p.2.2.2.1, p.2.2.2.2.1, p.2.2.2.2.2.1, p.2.2.2.2.2.2.1⟩) (fun _ => rfl) (fun _ h => h)
def Tree.ok (x : Tree) : Prop := (Lit.int .i64 x.Root).wf = true ∧ (Lit.int .i64 x.Next).wf = true ∧ (x.Nodes.length ≤ maxLen ∧ ∀ a ∈ x.Nodes, Node.ok a) ∧ True
theorem rd_Tree_51 (k : Nat) : Rd k Tryd.prog 51 Tree.cs Tree.ok := (rd_struct Tryd.underlying51 (by kernel_rfl) (rdF_cons (off := 0) (sz := 1) (tot := 3) rfl (by kernel_rfl) (rd_int Tryd.underlying3) (rdF_cons (off := 1) (sz := 1) (tot := 3) rfl (by kernel_rfl) (rd_int Tryd.underlying3) (rdF_cons (off := 2) (sz := 1) (tot := 3) rfl (by kernel_rfl) (rd_slice Tryd.underlying49 (rd_Node_55 _) (sz := 7) (by kernel_rfl) (by decide) (fun _ => rfl)) (rdF_nil (tot := 3)))))).map (fun p => ⟨p.1, p.2.1, p.2.2.1⟩) (fun _ => rfl) (fun _ h => h)
theorem tables {W : World} (hL : laidMetH Tryd.prog Rows.viewTreesRow.laid W) : Tab Tryd.prog (M1 W) :=
  tab_of (d1 := Rows.laid_unicode_utf8_first) (d2 := Rows.laid_unicode_utf8_acceptRanges) (e3 := 5) hL (by kernel_rfl) (by simp [Rows.viewTreesRow]) (by simp [Rows.viewTreesRow]) (by kernel_rfl) (by kernel_rfl) Tryd.underlying160 Tryd.underlying5 (by kernel_rfl) (by kernel_rfl) Tryd.underlying163 Tryd.underlying162 (by kernel_rfl) rfl rfl rfl rfl Tryd.underlying5 (by kernel_rfl) (by kernel_rfl)
set_option maxRecDepth 100000 in
theorem lifted (os : Os) (started : os.Started) (H : Type) (enc : TypeId × Value → H) :
    ReturnsInHanded {} Tryd.checked os 11 .any (fun w args => (Rows.viewTreesSpec.pre enc Tryd.prog Tryd.f11 Rows.viewTreesRow.domain false w args ∧ laidMetH Tryd.prog Rows.viewTreesRow.laid w) ∧ sizedMet enc Tryd.prog Tryd.f11 (OpenSpec.ofChange Rows.viewTreesSpec) false w args)
      (Rows.viewTreesSpec.post enc Tryd.prog Tryd.f11 false true false false) := by
  refine returnsInHanded_of_change_and (C := Tryd.checked) (X := fun w _ => laidMetH Tryd.prog Rows.viewTreesRow.laid w) (fun _ _ _ hh h => h.of_heap hh) own started (by kernel_rfl) Tryd.func11
    (ChangeSpec.witness_shaped (enc := enc) (C := Tryd.checked) (os := os) (X := fun w _ => laidMetH Tryd.prog Rows.viewTreesRow.laid w) false (World.laidAll Tryd.prog os Rows.viewTreesRow.laid) #[.agg #[.int .i64 0, .int .i64 0, .slice none 0 0], .int .i64 0, .int .i64 0] 8 (World.laidAll_os _ _ _)
      (World.shaped_of_ZipB (by kernel_rfl) (by kernel_rfl)) (by kernel_rfl) (by kernel_rfl) (by kernel_rfl)
      (by rw [MakeChecks.laidMetH_plain _ _ _ (by kernel_rfl)]; exact laidMet_laidAll _ (by kernel_rfl) (by kernel_rfl))) ?_
  intro W base args ds gs before hval0 hW hcnd _ hL _
  have hT : Tab Tryd.prog (M1 W) := tables hL
  have hval : ∀ (j : Nat) t v, Tryd.f11.params[j]? = some t → args[j]? = some v → Value.okWide Tryd.prog W .any base t v := hval0
  obtain ⟨p, q, hA0, hV, hpq, hfz, hnd⟩ := id hW
  have hA : DataW.TrodAll enc Tryd.prog W 0 (fun _ => true) true Tryd.f11.params.toList args.toList ds p := hA0
  rw [Tryd.params11] at hA hval
  obtain ⟨v0, vs0, d0, ds0, p0, q0, hargs, rfl, rfl, h0, r0⟩ := trodAll_cons hA
  obtain ⟨v1, vs1, d1, ds1, p1, q1, rfl, rfl, rfl, h1, r1⟩ := trodAll_cons r0
  obtain ⟨v2, vs2, d2, ds2, p2, q2, rfl, rfl, rfl, h2, r2⟩ := trodAll_cons r1
  obtain ⟨rfl, rfl, rfl⟩ := trodAll_nil r2
  obtain rfl : args = #[v0, v1, v2] := by cases args; simp_all
  clear hA0 hA hval0 hcnd hargs
  obtain ⟨a0, k0, e0⟩ := open_agg (fun k => (rd_Tree_51 _)) Tryd.underlying51 (hval 0 51 _ rfl rfl) h0
  obtain ⟨a1, k1, e1⟩ := open_one (fun k => (rd_int Tryd.underlying3)) (by kernel_rfl) (hval 1 3 _ rfl rfl) h1
  obtain ⟨a2, k2, e2⟩ := open_one (fun k => (rd_int Tryd.underlying3)) (by kernel_rfl) (hval 2 3 _ rfl rfl) h2
  have walk : Calls Tryd.prog 11 #[v0, v1, v2] W fun e W' => e = .returned (.bool true) ∧ Below W.heap.size W W' :=
    law_walk (vs := [v0, v1, v2]) (l14_ViewTrees_c a0 a1 a2 (trees_true a0 a1 a2 (fun n hn => by obtain ⟨_, _, _, h4, ⟨h5, _⟩, ⟨h6, h7⟩, _, _⟩ := k0.2.2.1.2 n hn; exact ⟨ltN h5, ltN h6, fun a ha => ltN (h7 a ha).2.2.2.1.1, ltN h4⟩))) hT (fun ρ => ⟨e0 ρ, e1 _ rfl ρ, e2 _ rfl ρ, trivial⟩)
  refine walk.mono fun e W' ⟨he, bel⟩ => ?_
  subst he
  exact ⟨_, rfl, law_post laidOut (by kernel_rfl) rfl Tryd.underlying4 rfl rfl rfl rfl hW bel⟩
theorem over : Rows.viewTreesRow.holds Tryd.pinned (OpenSpec.ofChange Rows.viewTreesSpec) :=
  OpenClaim.holds_of_wide 11 Tryd.f11 rfl rfl rfl rfl rfl rfl rfl ⟨rfl, rfl, rfl, rfl, rfl⟩ rfl rfl rfl rfl rfl (by kernel_rfl) Tryd.func11 (by kernel_rfl)
    (of_decide_eq_true (by kernel_rfl)) (by unfold Func.isWrapper; first | (rw [if_pos (by decide +kernel)]; kernel_rfl) | (rw [if_neg (by decide +kernel)]; exact ⟨rfl, rfl⟩))
    (fun os started H enc _ => lifted os started H enc)
end Go.Proofs.YtcfegecdlbbeaaaDoor.viewTrees
namespace Go.Proofs.YtcfegecdlbbeaaaDoor
/-- The given statement: the tied card. -/
theorem viewTrees_card : Rows.ViewTreesCardSaid :=
  Claim7.holds_tied_plain_at .later [] [.data, .data, .data, .data, .pinned] true (true, "fc655a731df175bc5225b2823f3ea53fe659414f7ab4f45c9a4e89c8ed89e81a") false viewTrees.over (fun _ h => by cases h) (by kernel_rfl) (fun _ h => by cases h) viewTrees_row_tie rfl ⟨rfl, rfl⟩ (by kernel_rfl) rfl
    (fun f fn hf hfn => by
      obtain rfl : f = 11 := Option.some.inj ((show Tryd.prog.funcNamed "widgetry/widgetrylaw14.ViewTrees" = some 11 by kernel_rfl).symm.trans hf) |>.symm
      obtain rfl : fn = Tryd.f11 := (Option.some.inj (Tryd.func11.symm.trans hfn)).symm
      exact ⟨by kernel_rfl, fun j t ht => by
        rw [Tryd.params11] at ht
        have hm : t ∈ [51, 3] := by simpa using Array.mem_of_getElem? ht
        have hall : ([51, 3].all fun u => !Tryd.prog.wantsStandIn u) = true := by kernel_rfl
        exact (show Tryd.prog.wantsStandIn t = false by simpa using List.all_eq_true.1 hall t hm)⟩)
    (by kernel_rfl)
#print axioms viewTrees_card
end Go.Proofs.YtcfegecdlbbeaaaDoor

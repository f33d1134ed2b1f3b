/-
  ViewRaw: the law returns true for every input; what came in reads as it did. The card ties the listed variables to the program's text.
-/
import Derived.Test.YtcfegecdlbbeaaaDoorViewRawB5
import Derived.Test.YtcfegecdlbbeaaaDoorTie
import Derived.Test.YtcfegecdlbbeaaaDoorCards
import Derived.ProofKit
import Derived.OpenShut
import Derived.LaidMore
import Derived.Lay
import Derived.SevenTiedAt
import Derived.Stop.Joined
namespace Go.Proofs.YtcfegecdlbbeaaaDoor.viewRaw
open Go.E2
open Go.ChangeShapes Go.WideShapes Go.ChangeAt Go.RowKit
theorem own : ownKnob Tryd.prog.godebug = none := by kernel_rfl
theorem laidOut : laidOutB Tryd.prog = true := by kernel_rfl
mutual
def AValue.ok : AValue → Prop
  | ⟨v0, v1, v2, v3⟩ => (Lit.int .i64 v0).wf = true ∧ (Lit.int .i64 v1).wf = true ∧ v2.size ≤ maxLen ∧ (v3.length ≤ maxLen ∧ AValue.okL v3) ∧ True
def AValue.okL : List AValue → Prop
  | [] => True
  | x :: r => AValue.ok x ∧ AValue.okL r
end
theorem AValue.okL_eq : ∀ l, AValue.okL l ↔ ∀ a ∈ l, AValue.ok a
  | [] => by unfold AValue.okL; simp
  | x :: r => by unfold AValue.okL; rw [AValue.okL_eq r]; simp
theorem AValue.ok_eq (x : AValue) : AValue.ok x ↔ ((Lit.int .i64 x.Kind).wf = true ∧ (Lit.int .i64 x.N).wf = true ∧ x.S.size ≤ maxLen ∧ (x.L.length ≤ maxLen ∧ ∀ a ∈ x.L, AValue.ok a) ∧ True) := by
  cases x
  conv => lhs; unfold AValue.ok
  simp only [AValue.okL_eq]
theorem rd_AValue_40 : ∀ k, Rd k Tryd.prog 40 AValue.cs AValue.ok := by
  intro k
  induction k with
  | zero => exact rd_zero
  | succ k ih => exact (rd_struct1 Tryd.underlying40 (by kernel_rfl) (rdF_cons (off := 0) (sz := 1) (tot := 4) rfl (by kernel_rfl) (rd_int Tryd.underlying3) (rdF_cons (off := 1) (sz := 1) (tot := 4) rfl (by kernel_rfl) (rd_int Tryd.underlying3) (rdF_cons (off := 2) (sz := 1) (tot := 4) rfl (by kernel_rfl) (rd_str Tryd.underlying9) (rdF_cons (off := 3) (sz := 1) (tot := 4) rfl (by kernel_rfl) (rd_slice Tryd.underlying38 (ih) (sz := 4) (by kernel_rfl) (by decide) (fun x => by rw [AValue.cs_eq]; rfl)) (rdF_nil (tot := 4))))))).map (fun p => ⟨p.1, p.2.1, p.2.2.1, p.2.2.2.1⟩) (fun p => by rw [AValue.cs_eq]; rfl) (fun p h => by rw [AValue.ok_eq]; exact h)
def Attr.ok (x : Attr) : Prop := x.Name.size ≤ maxLen ∧ AValue.ok x.Value ∧ True
theorem rd_Attr_43 (k : Nat) : Rd k Tryd.prog 43 Attr.cs Attr.ok := (rd_struct Tryd.underlying43 (by kernel_rfl) (rdF_cons (off := 0) (sz := 1) (tot := 5) rfl (by kernel_rfl) (rd_str Tryd.underlying9) (rdF_cons (off := 1) (sz := 4) (tot := 5) rfl (by kernel_rfl) (rd_AValue_40 _) (rdF_nil (tot := 5))))).map (fun p => ⟨p.1, p.2.1⟩) (fun _ => by simp only [AValue.cs_eq]; rfl) (fun _ h => h)
def Action.ok (x : Action) : Prop := x.Event.size ≤ maxLen ∧ x.Instance.size ≤ maxLen ∧ x.Handler.size ≤ maxLen ∧ (x.Args.length ≤ maxLen ∧ ∀ a ∈ x.Args, AValue.ok a) ∧ True
theorem rd_Action_45 (k : Nat) : Rd k Tryd.prog 45 Action.cs Action.ok := (rd_struct Tryd.underlying45 (by kernel_rfl) (rdF_cons (off := 0) (sz := 1) (tot := 4) rfl (by kernel_rfl) (rd_str Tryd.underlying9) (rdF_cons (off := 1) (sz := 1) (tot := 4) rfl (by kernel_rfl) (rd_str Tryd.underlying9) (rdF_cons (off := 2) (sz := 1) (tot := 4) rfl (by kernel_rfl) (rd_str Tryd.underlying9) (rdF_cons (off := 3) (sz := 1) (tot := 4) rfl (by kernel_rfl) (rd_slice Tryd.underlying38 (rd_AValue_40 _) (sz := 4) (by kernel_rfl) (by decide) (fun x => by rw [AValue.cs_eq]; rfl)) (rdF_nil (tot := 4))))))).map (fun p => ⟨p.1, p.2.1, p.2.2.1, p.2.2.2.1⟩) (fun _ => rfl) (fun _ h => h)
mutual
def View.ok : View → Prop
  | ⟨v0, v1, v2, v3, v4⟩ => (Lit.int .i64 v0).wf = true ∧ v1.size ≤ maxLen ∧ (v2.length ≤ maxLen ∧ ∀ a ∈ v2, Attr.ok a) ∧ (v3.length ≤ maxLen ∧ ∀ a ∈ v3, Action.ok a) ∧ (v4.length ≤ maxLen ∧ View.okL v4) ∧ True
def View.okL : List View → Prop
  | [] => True
  | x :: r => View.ok x ∧ View.okL r
end
theorem View.okL_eq : ∀ l, View.okL l ↔ ∀ a ∈ l, View.ok a
  | [] => by unfold View.okL; simp
  | x :: r => by unfold View.okL; rw [View.okL_eq r]; simp
theorem View.ok_eq (x : View) : View.ok x ↔ ((Lit.int .i64 x.Kind).wf = true ∧ x.Key.size ≤ maxLen ∧ (x.Attrs.length ≤ maxLen ∧ ∀ a ∈ x.Attrs, Attr.ok a) ∧ (x.Actions.length ≤ maxLen ∧ ∀ a ∈ x.Actions, Action.ok a) ∧ (x.Kids.length ≤ maxLen ∧ ∀ a ∈ x.Kids, View.ok a) ∧ True) := by
  cases x
  conv => lhs; unfold View.ok
  simp only [View.okL_eq]
theorem rd_View_31 : ∀ k, Rd k Tryd.prog 31 View.cs View.ok := by
  intro k
  induction k with
  | zero => exact rd_zero
  | succ k ih => exact (rd_struct1 Tryd.underlying31 (by kernel_rfl) (rdF_cons (off := 0) (sz := 1) (tot := 5) rfl (by kernel_rfl) (rd_int Tryd.underlying3) (rdF_cons (off := 1) (sz := 1) (tot := 5) rfl (by kernel_rfl) (rd_str Tryd.underlying9) (rdF_cons (off := 2) (sz := 1) (tot := 5) rfl (by kernel_rfl) (rd_slice Tryd.underlying27 (rd_Attr_43 _) (sz := 5) (by kernel_rfl) (by decide) (fun _ => rfl)) (rdF_cons (off := 3) (sz := 1) (tot := 5) rfl (by kernel_rfl) (rd_slice Tryd.underlying28 (rd_Action_45 _) (sz := 4) (by kernel_rfl) (by decide) (fun _ => rfl)) (rdF_cons (off := 4) (sz := 1) (tot := 5) rfl (by kernel_rfl) (rd_slice Tryd.underlying29 (ih) (sz := 5) (by kernel_rfl) (by decide) (fun x => by rw [View.cs_eq]; rfl)) (rdF_nil (tot := 5)))))))).map (fun p => ⟨p.1, p.2.1, p.2.2.1, p.2.2.2.1, p.2.2.2.2.1⟩) (fun p => by rw [View.cs_eq]; rfl) (fun p h => by rw [View.ok_eq]; exact h)
theorem tables {W : World} (hL : laidMetH Tryd.prog Rows.viewRawRow.laid W) : Tab Tryd.prog (M1 W) :=
  tab_of (d1 := Rows.laid_unicode_utf8_first) (d2 := Rows.laid_unicode_utf8_acceptRanges) (e3 := 5) hL (by kernel_rfl) (by simp [Rows.viewRawRow]) (by simp [Rows.viewRawRow]) (by kernel_rfl) (by kernel_rfl) Tryd.underlying160 Tryd.underlying5 (by kernel_rfl) (by kernel_rfl) Tryd.underlying163 Tryd.underlying162 (by kernel_rfl) rfl rfl rfl rfl Tryd.underlying5 (by kernel_rfl) (by kernel_rfl)
set_option maxRecDepth 100000 in
theorem lifted (os : Os) (started : os.Started) (H : Type) (enc : TypeId × Value → H) :
    ReturnsInHanded {} Tryd.checked os 8 .any (fun w args => (Rows.viewRawSpec.pre enc Tryd.prog Tryd.f8 Rows.viewRawRow.domain false w args ∧ laidMetH Tryd.prog Rows.viewRawRow.laid w) ∧ sizedMet enc Tryd.prog Tryd.f8 (OpenSpec.ofChange Rows.viewRawSpec) false w args)
      (Rows.viewRawSpec.post enc Tryd.prog Tryd.f8 false true false false) := by
  refine returnsInHanded_of_change_and (C := Tryd.checked) (X := fun w _ => laidMetH Tryd.prog Rows.viewRawRow.laid w) (fun _ _ _ hh h => h.of_heap hh) own started (by kernel_rfl) Tryd.func8
    (ChangeSpec.witness_shaped (enc := enc) (C := Tryd.checked) (os := os) (X := fun w _ => laidMetH Tryd.prog Rows.viewRawRow.laid w) false (World.laidAll Tryd.prog os Rows.viewRawRow.laid) #[.agg #[.int .i64 0, .string ⟨#[]⟩, .slice none 0 0, .slice none 0 0, .slice none 0 0], .agg #[.int .i64 0, .string ⟨#[]⟩, .slice none 0 0, .slice none 0 0, .slice none 0 0]] 8 (World.laidAll_os _ _ _)
      (World.shaped_of_ZipB (by kernel_rfl) (by kernel_rfl)) (by kernel_rfl) (by kernel_rfl) (by kernel_rfl)
      (by rw [MakeChecks.laidMetH_plain _ _ _ (by kernel_rfl)]; exact laidMet_laidAll _ (by kernel_rfl) (by kernel_rfl))) ?_
  intro W base args ds gs before hval0 hW hcnd _ hL _
  have hT : Tab Tryd.prog (M1 W) := tables hL
  have hval : ∀ (j : Nat) t v, Tryd.f8.params[j]? = some t → args[j]? = some v → Value.okWide Tryd.prog W .any base t v := hval0
  obtain ⟨p, q, hA0, hV, hpq, hfz, hnd⟩ := id hW
  have hA : DataW.TrodAll enc Tryd.prog W 0 (fun _ => true) true Tryd.f8.params.toList args.toList ds p := hA0
  rw [Tryd.params8] at hA hval
  obtain ⟨v0, vs0, d0, ds0, p0, q0, hargs, rfl, rfl, h0, r0⟩ := trodAll_cons hA
  obtain ⟨v1, vs1, d1, ds1, p1, q1, rfl, rfl, rfl, h1, r1⟩ := trodAll_cons r0
  obtain ⟨rfl, rfl, rfl⟩ := trodAll_nil r1
  obtain rfl : args = #[v0, v1] := by cases args; simp_all
  clear hA0 hA hval0 hcnd hargs
  obtain ⟨a0, k0, e0⟩ := open_agg (fun k => (rd_View_31 _)) Tryd.underlying31 (hval 0 31 _ rfl rfl) h0
  obtain ⟨a1, k1, e1⟩ := open_agg (fun k => (rd_View_31 _)) Tryd.underlying31 (hval 1 31 _ rfl rfl) h1
  have walk : Calls Tryd.prog 8 #[v0, v1] W fun e W' => e = .returned (.bool true) ∧ Below W.heap.size W W' :=
    law_walk (vs := [v0, v1]) (l14_ViewRaw_c a0 a1 (raw_true a0 a1 (ln_of (ok := View.ok) (fun v h => by rw [View.ok_eq] at h; obtain ⟨_, h1, ⟨h2, _⟩, ⟨h3, h4⟩, ⟨h5, h6⟩, _⟩ := h; exact ⟨h1, h2, h3, fun a ha => (h4 a ha).2.2.2.1.1, h5, h6⟩) _ _ (Nat.le_refl _) k0) (ln_of (ok := View.ok) (fun v h => by rw [View.ok_eq] at h; obtain ⟨_, h1, ⟨h2, _⟩, ⟨h3, h4⟩, ⟨h5, h6⟩, _⟩ := h; exact ⟨h1, h2, h3, fun a ha => (h4 a ha).2.2.2.1.1, h5, h6⟩) _ _ (Nat.le_refl _) k1))) hT (fun ρ => ⟨(by have h := e0 ρ; rw [View.cs_eq] at h; exact h), (by have h := e1 ρ; rw [View.cs_eq] at h; exact h), trivial⟩)
  refine walk.mono fun e W' ⟨he, bel⟩ => ?_
  subst he
  exact ⟨_, rfl, law_post laidOut (by kernel_rfl) rfl Tryd.underlying4 rfl rfl rfl rfl hW bel⟩
theorem over : Rows.viewRawRow.holds Tryd.pinned (OpenSpec.ofChange Rows.viewRawSpec) :=
  OpenClaim.holds_of_wide 8 Tryd.f8 rfl rfl rfl rfl rfl rfl rfl ⟨rfl, rfl, rfl, rfl, rfl⟩ rfl rfl rfl rfl rfl (by kernel_rfl) Tryd.func8 (by kernel_rfl)
    (of_decide_eq_true (by kernel_rfl)) (by unfold Func.isWrapper; first | (rw [if_pos (by decide +kernel)]; kernel_rfl) | (rw [if_neg (by decide +kernel)]; exact ⟨rfl, rfl⟩))
    (fun os started H enc _ => lifted os started H enc)
end Go.Proofs.YtcfegecdlbbeaaaDoor.viewRaw
namespace Go.Proofs.YtcfegecdlbbeaaaDoor
/-- The given statement: the tied card. -/
theorem viewRaw_card : Rows.ViewRawCardSaid :=
  Claim7.holds_tied_plain_at .later [] [.data, .data, .data, .data, .pinned] true (true, "fc655a731df175bc5225b2823f3ea53fe659414f7ab4f45c9a4e89c8ed89e81a") false viewRaw.over (fun _ h => by cases h) (by kernel_rfl) (fun _ h => by cases h) viewRaw_row_tie rfl ⟨rfl, rfl⟩ (by kernel_rfl) rfl
    (fun f fn hf hfn => by
      obtain rfl : f = 8 := Option.some.inj ((show Tryd.prog.funcNamed "widgetry/widgetrylaw14.ViewRaw" = some 8 by kernel_rfl).symm.trans hf) |>.symm
      obtain rfl : fn = Tryd.f8 := (Option.some.inj (Tryd.func8.symm.trans hfn)).symm
      exact ⟨by kernel_rfl, fun j t ht => by
        rw [Tryd.params8] at ht
        have hm : t ∈ [31] := by simpa using Array.mem_of_getElem? ht
        have hall : ([31].all fun u => !Tryd.prog.wantsStandIn u) = true := by kernel_rfl
        exact (show Tryd.prog.wantsStandIn t = false by simpa using List.all_eq_true.1 hall t hm)⟩)
    (by kernel_rfl)
#print axioms viewRaw_card
end Go.Proofs.YtcfegecdlbbeaaaDoor

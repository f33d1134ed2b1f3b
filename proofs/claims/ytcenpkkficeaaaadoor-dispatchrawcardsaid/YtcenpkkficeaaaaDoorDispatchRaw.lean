/-
  DispatchRaw: the law returns true for every input; what came in reads as it did. The card ties the listed variables to the program's text.
-/
import Derived.Test.YtcenpkkficeaaaaDoorDispatchRawB6
import Derived.Test.YtcenpkkficeaaaaDoorTie
import Derived.Test.YtcenpkkficeaaaaDoorCards
import Derived.ProofKit
import Derived.OpenShut
import Derived.LaidMore
import Derived.Lay
import Derived.SevenTiedAt
import Derived.Stop.Joined
namespace Go.Proofs.YtcenpkkficeaaaaDoor.dispatchRaw
open Go.E2
open Go.ChangeShapes Go.WideShapes Go.ChangeAt Go.RowKit
theorem own : ownKnob Tryd.prog.godebug = none := by kernel_rfl
theorem laidOut : laidOutB Tryd.prog = true := by kernel_rfl
mutual
def AValue.ok : AValue → Prop
  | ⟨v0, v1, v2, v3⟩ => (Lit.int .i64 v0).wf = true ∧ (Lit.int .i64 v1).wf = true ∧ v2.size ≤ maxLen ∧ (v3.length ≤ maxLen ∧ AValue.okL v3) ∧ True
def AValue.okL : List AValue → Prop
  | [] => True
  | x :: r => AValue.ok x ∧ AValue.okL r
end
theorem AValue.okL_eq : ∀ l, AValue.okL l ↔ ∀ a ∈ l, AValue.ok a
  | [] => by unfold AValue.okL; simp
  | x :: r => by unfold AValue.okL; rw [AValue.okL_eq r]; simp
theorem AValue.ok_eq (x : AValue) : AValue.ok x ↔ ((Lit.int .i64 x.Kind).wf = true ∧ (Lit.int .i64 x.N).wf = true ∧ x.S.size ≤ maxLen ∧ (x.L.length ≤ maxLen ∧ ∀ a ∈ x.L, AValue.ok a) ∧ True) := by
  cases x
  conv => lhs; unfold AValue.ok
  simp only [AValue.okL_eq]
theorem rd_AValue_55 : ∀ k, Rd k Tryd.prog 55 AValue.cs AValue.ok := by
  intro k
  induction k with
  | zero => exact rd_zero
  | succ k ih => exact (rd_struct1 Tryd.underlying55 (by kernel_rfl) (rdF_cons (off := 0) (sz := 1) (tot := 4) rfl (by kernel_rfl) (rd_int Tryd.underlying3) (rdF_cons (off := 1) (sz := 1) (tot := 4) rfl (by kernel_rfl) (rd_int Tryd.underlying3) (rdF_cons (off := 2) (sz := 1) (tot := 4) rfl (by kernel_rfl) (rd_str Tryd.underlying9) (rdF_cons (off := 3) (sz := 1) (tot := 4) rfl (by kernel_rfl) (rd_slice Tryd.underlying46 (ih) (sz := 4) (by kernel_rfl) (by decide) (fun x => by rw [AValue.cs_eq]; rfl)) (rdF_nil (tot := 4))))))).map (fun p => ⟨p.1, p.2.1, p.2.2.1, p.2.2.2.1⟩) (fun p => by rw [AValue.cs_eq]; rfl) (fun p h => by rw [AValue.ok_eq]; exact h)
def Attr.ok (x : Attr) : Prop := x.Name.size ≤ maxLen ∧ AValue.ok x.Value ∧ True
theorem rd_Attr_100 (k : Nat) : Rd k Tryd.prog 100 Attr.cs Attr.ok := (rd_struct Tryd.underlying100 (by kernel_rfl) (rdF_cons (off := 0) (sz := 1) (tot := 5) rfl (by kernel_rfl) (rd_str Tryd.underlying9) (rdF_cons (off := 1) (sz := 4) (tot := 5) rfl (by kernel_rfl) (rd_AValue_55 _) (rdF_nil (tot := 5))))).map (fun p => ⟨p.1, p.2.1⟩) (fun _ => by simp only [AValue.cs_eq]; rfl) (fun _ h => h)
def Action.ok (x : Action) : Prop := x.Event.size ≤ maxLen ∧ x.Instance.size ≤ maxLen ∧ x.Handler.size ≤ maxLen ∧ (x.Args.length ≤ maxLen ∧ ∀ a ∈ x.Args, AValue.ok a) ∧ True
theorem rd_Action_48 (k : Nat) : Rd k Tryd.prog 48 Action.cs Action.ok := (rd_struct Tryd.underlying48 (by kernel_rfl) (rdF_cons (off := 0) (sz := 1) (tot := 4) rfl (by kernel_rfl) (rd_str Tryd.underlying9) (rdF_cons (off := 1) (sz := 1) (tot := 4) rfl (by kernel_rfl) (rd_str Tryd.underlying9) (rdF_cons (off := 2) (sz := 1) (tot := 4) rfl (by kernel_rfl) (rd_str Tryd.underlying9) (rdF_cons (off := 3) (sz := 1) (tot := 4) rfl (by kernel_rfl) (rd_slice Tryd.underlying46 (rd_AValue_55 _) (sz := 4) (by kernel_rfl) (by decide) (fun x => by rw [AValue.cs_eq]; rfl)) (rdF_nil (tot := 4))))))).map (fun p => ⟨p.1, p.2.1, p.2.2.1, p.2.2.2.1⟩) (fun _ => rfl) (fun _ h => h)
def Node.ok (x : Node) : Prop := (Lit.int .i64 x.ID).wf = true ∧ (Lit.int .i64 x.Parent).wf = true ∧ (Lit.int .i64 x.Kind).wf = true ∧ x.Key.size ≤ maxLen ∧ (x.Attrs.length ≤ maxLen ∧ ∀ a ∈ x.Attrs, Attr.ok a) ∧ (x.Actions.length ≤ maxLen ∧ ∀ a ∈ x.Actions, Action.ok a) ∧ (x.Kids.length ≤ maxLen ∧ ∀ a ∈ x.Kids, (Lit.int .i64 a).wf = true) ∧ True
theorem rd_Node_39 (k : Nat) : Rd k Tryd.prog 39 Node.cs Node.ok := (rd_struct Tryd.underlying39 (by kernel_rfl) (rdF_cons (off := 0) (sz := 1) (tot := 7) rfl (by kernel_rfl) (rd_int Tryd.underlying3) (rdF_cons (off := 1) (sz := 1) (tot := 7) rfl (by kernel_rfl) (rd_int Tryd.underlying3) (rdF_cons (off := 2) (sz := 1) (tot := 7) rfl (by kernel_rfl) (rd_int Tryd.underlying3) (rdF_cons (off := 3) (sz := 1) (tot := 7) rfl (by kernel_rfl) (rd_str Tryd.underlying9) (rdF_cons (off := 4) (sz := 1) (tot := 7) rfl (by kernel_rfl) (rd_slice Tryd.underlying31 (rd_Attr_100 _) (sz := 5) (by kernel_rfl) (by decide) (fun _ => rfl)) (rdF_cons (off := 5) (sz := 1) (tot := 7) rfl (by kernel_rfl) (rd_slice Tryd.underlying32 (rd_Action_48 _) (sz := 4) (by kernel_rfl) (by decide) (fun _ => rfl)) (rdF_cons (off := 6) (sz := 1) (tot := 7) rfl (by kernel_rfl) (rd_slice Tryd.underlying22 (rd_int Tryd.underlying3) (sz := 1) (by kernel_rfl) (by decide) (fun _ => rfl)) (rdF_nil (tot := 7)))))))))).map (fun p => ⟨p.1, p.2.1, p.2.2.1, p.2.2.2.1, p.2.2.2.2.1, p.2.2.2.2.2.1, p.2.2.2.2.2.2.1⟩) (fun _ => rfl) (fun _ h => h)
def Tree.ok (x : Tree) : Prop := (Lit.int .i64 x.Root).wf = true ∧ (Lit.int .i64 x.Next).wf = true ∧ (x.Nodes.length ≤ maxLen ∧ ∀ a ∈ x.Nodes, Node.ok a) ∧ True
theorem rd_Tree_27 (k : Nat) : Rd k Tryd.prog 27 Tree.cs Tree.ok := (rd_struct Tryd.underlying27 (by kernel_rfl) (rdF_cons (off := 0) (sz := 1) (tot := 3) rfl (by kernel_rfl) (rd_int Tryd.underlying3) (rdF_cons (off := 1) (sz := 1) (tot := 3) rfl (by kernel_rfl) (rd_int Tryd.underlying3) (rdF_cons (off := 2) (sz := 1) (tot := 3) rfl (by kernel_rfl) (rd_slice Tryd.underlying25 (rd_Node_39 _) (sz := 7) (by kernel_rfl) (by decide) (fun _ => rfl)) (rdF_nil (tot := 3)))))).map (fun p => ⟨p.1, p.2.1, p.2.2.1⟩) (fun _ => rfl) (fun _ h => h)
theorem tables {W : World} (hL : laidMetH Tryd.prog Rows.dispatchRawRow.laid W) : Tab Tryd.prog (M1 W) :=
  tab_of (d1 := Rows.laid_unicode_utf8_first) (d2 := Rows.laid_unicode_utf8_acceptRanges) (e3 := 5) hL (by kernel_rfl) (by simp [Rows.dispatchRawRow]) (by simp [Rows.dispatchRawRow]) (by kernel_rfl) (by kernel_rfl) Tryd.underlying191 Tryd.underlying5 (by kernel_rfl) (by kernel_rfl) Tryd.underlying194 Tryd.underlying193 (by kernel_rfl) rfl rfl rfl rfl Tryd.underlying5 (by kernel_rfl) (by kernel_rfl)
set_option maxRecDepth 100000 in
theorem lifted (os : Os) (started : os.Started) (H : Type) (enc : TypeId × Value → H) :
    ReturnsInHanded {} Tryd.checked os 4 .any (fun w args => (Rows.dispatchRawSpec.pre enc Tryd.prog Tryd.f4 Rows.dispatchRawRow.domain false w args ∧ laidMetH Tryd.prog Rows.dispatchRawRow.laid w) ∧ sizedMet enc Tryd.prog Tryd.f4 (OpenSpec.ofChange Rows.dispatchRawSpec) false w args)
      (Rows.dispatchRawSpec.post enc Tryd.prog Tryd.f4 false true false false) := by
  refine returnsInHanded_of_change_and (C := Tryd.checked) (X := fun w _ => laidMetH Tryd.prog Rows.dispatchRawRow.laid w) (fun _ _ _ hh h => h.of_heap hh) own started (by kernel_rfl) Tryd.func4
    (ChangeSpec.witness_shaped (enc := enc) (C := Tryd.checked) (os := os) (X := fun w _ => laidMetH Tryd.prog Rows.dispatchRawRow.laid w) false (World.laidAll Tryd.prog os Rows.dispatchRawRow.laid) #[.agg #[.int .i64 0, .int .i64 0, .slice none 0 0], .int .i64 0, .string ⟨#[]⟩] 8 (World.laidAll_os _ _ _)
      (World.shaped_of_ZipB (by kernel_rfl) (by kernel_rfl)) (by kernel_rfl) (by kernel_rfl) (by kernel_rfl)
      (by rw [MakeChecks.laidMetH_plain _ _ _ (by kernel_rfl)]; exact laidMet_laidAll _ (by kernel_rfl) (by kernel_rfl))) ?_
  intro W base args ds gs before hval0 hW hcnd hwt hL _
  have hT : Tab Tryd.prog (M1 W) := tables hL
  have hval : ∀ (j : Nat) t v, Tryd.f4.params[j]? = some t → args[j]? = some v → Value.okWide Tryd.prog W .any base t v := hval0
  obtain ⟨p, q, hA0, hV, hpq, hfz, hnd⟩ := id hW
  have hA : DataW.TrodAll enc Tryd.prog W 0 (fun _ => true) true Tryd.f4.params.toList args.toList ds p := hA0
  rw [Tryd.params4] at hA hval
  obtain ⟨v0, vs0, d0, ds0, p0, q0, hargs, rfl, rfl, h0, r0⟩ := trodAll_cons hA
  obtain ⟨v1, vs1, d1, ds1, p1, q1, rfl, rfl, rfl, h1, r1⟩ := trodAll_cons r0
  obtain ⟨v2, vs2, d2, ds2, p2, q2, rfl, rfl, rfl, h2, r2⟩ := trodAll_cons r1
  obtain ⟨rfl, rfl, rfl⟩ := trodAll_nil r2
  obtain rfl : args = #[v0, v1, v2] := by cases args; simp_all
  clear hA0 hA hval0 hcnd hargs
  obtain ⟨a0, k0, e0⟩ := open_agg (fun k => (rd_Tree_27 _)) Tryd.underlying27 (hval 0 27 _ rfl rfl) h0
  obtain ⟨a1, k1, e1⟩ := open_one (fun k => (rd_int Tryd.underlying3)) (by kernel_rfl) (hval 1 3 _ rfl rfl) h1
  have hw2 : (d2.weights Tryd.prog 9).all (· ≤ reachBytes) = true := by
    have h3 := List.all_eq_true.1 hwt
    refine List.all_eq_true.2 (fun x hx => h3 x ?_)
    rw [Tryd.params4]
    show x ∈ d0.weights _ _ ++ (d1.weights _ _ ++ (d2.weights _ _ ++ _))
    exact List.mem_append_right _ (List.mem_append_right _ (List.mem_append_left _ hx))
  obtain ⟨a2, k2, e2⟩ := open_str Tryd.underlying9 (hval 2 9 _ rfl rfl) h2 hw2
  have walk : Calls Tryd.prog 4 #[v0, v1, v2] W fun e W' => e = .returned (.bool true) ∧ Below W.heap.size W W' :=
    law_walk (vs := [v0, v1, v2]) (l30_DispatchRaw_c a0 a1 a2 (raw30_true a0 a1 a2 (fun n hn => by obtain ⟨_, _, _, h4, _⟩ := k0.2.2.1.2 n hn; unfold maxLen at h4; unfold N0; omega) k2)) hT (fun ρ => ⟨e0 ρ, e1 _ rfl ρ, e2 _ rfl ρ, trivial⟩)
  refine walk.mono fun e W' ⟨he, bel⟩ => ?_
  subst he
  exact ⟨_, rfl, law_post laidOut (by kernel_rfl) rfl Tryd.underlying4 rfl rfl rfl rfl hW bel⟩
theorem over : Rows.dispatchRawRow.holds Tryd.pinned (OpenSpec.ofChange Rows.dispatchRawSpec) :=
  OpenClaim.holds_of_wide 4 Tryd.f4 rfl rfl rfl rfl rfl rfl rfl ⟨rfl, rfl, rfl, rfl, rfl⟩ rfl rfl rfl rfl rfl (by kernel_rfl) Tryd.func4 (by kernel_rfl)
    (of_decide_eq_true (by kernel_rfl)) (by unfold Func.isWrapper; first | (rw [if_pos (by decide +kernel)]; kernel_rfl) | (rw [if_neg (by decide +kernel)]; exact ⟨rfl, rfl⟩))
    (fun os started H enc _ => lifted os started H enc)
end Go.Proofs.YtcenpkkficeaaaaDoor.dispatchRaw
namespace Go.Proofs.YtcenpkkficeaaaaDoor
/-- The given statement: the tied card. -/
theorem dispatchRaw_card : Rows.DispatchRawCardSaid :=
  Claim7.holds_tied_plain_at .later [] [.data, .pinned] true (true, "a26fce08894f8a08989dadb335459040d8e7b468da2b500834c074af11360989") false dispatchRaw.over (fun _ h => by cases h) (by kernel_rfl) (fun _ h => by cases h) dispatchRaw_row_tie rfl ⟨rfl, rfl⟩ (by kernel_rfl) rfl
    (fun f fn hf hfn => by
      obtain rfl : f = 4 := Option.some.inj ((show Tryd.prog.funcNamed "widgetry/widgetrylaw30.DispatchRaw" = some 4 by kernel_rfl).symm.trans hf) |>.symm
      obtain rfl : fn = Tryd.f4 := (Option.some.inj (Tryd.func4.symm.trans hfn)).symm
      exact ⟨by kernel_rfl, fun j t ht => by
        rw [Tryd.params4] at ht
        have hm : t ∈ [27, 3, 9] := by simpa using Array.mem_of_getElem? ht
        have hall : ([27, 3, 9].all fun u => !Tryd.prog.wantsStandIn u) = true := by kernel_rfl
        exact (show Tryd.prog.wantsStandIn t = false by simpa using List.all_eq_true.1 hall t hm)⟩)
    (by kernel_rfl)
#print axioms dispatchRaw_card
end Go.Proofs.YtcenpkkficeaaaaDoor

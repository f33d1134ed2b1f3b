/-
  Part 3 of the texts under the law ShortcutScopes: the calculus, the plain functions, their walks, plain facts.
-/
import Derived.Test.YtobiohcdpfpefaaDoorShortcutScopesB2
import Derived.KernelRfl
import Derived.Test.YtobiohcdpfpefaaDoorProg
section
namespace Go.Proofs.YtobiohcdpfpefaaDoor
open Go Go.E2
def vw_attributes_L1 (l : (List Attr)) (k2 : Unit → Option Int) (again4 : Int → Option Int) (s3 : Int) : Option Int := sel (decide (s3 < (l.length : Int))) ((idxO l s3).bind fun x6 => (ex_Name x6.Name).bind fun x7 => sel (!x7) (some 4) ((gO (decide (s3 > 0)) (idxO l (IntKind.i64.wrap (s3 - 1)))).bind fun x9 => sel ((decide (s3 > 0)) && (!(Op.bytesLess x9.Name.toList x6.Name.toList))) (some 10) ((ex_Check x6.Value).bind fun x11 => sel (x11 != 0) (some x11) (again4 (IntKind.i64.wrap (s3 + 1)))))) (k2 ())
def vw_attributes (l : (List Attr)) : Option Int := jn (fun (_s1 : Unit) => some 0) fun k2 => loopK (vw_attributes_L1 l k2) N0 0
def vw_actions_L1 (x8 : Action) (k16 : Unit → Option Int) (again18 : Int → Option Int) (s17 : Int) : Option Int := sel (decide (s17 < (x8.Args.length : Int))) ((idxO x8.Args s17).bind fun x20 => (ex_Check x20).bind fun x21 => sel (x21 != 0) (some x21) (again18 (IntKind.i64.wrap (s17 + 1)))) (k16 ())
def vw_actions_L2 (l : (List Action)) (k2 : Unit → Option Int) (again4 : Int → Option Int) (s3 : Int) : Option Int := sel (decide (s3 < (l.length : Int))) (jn (fun (_s6 : Unit) => again4 (IntKind.i64.wrap (s3 + 1))) fun k7 => (idxO l s3).bind fun x8 => (ex_Name x8.Event).bind fun x9 => (gO (!(!x9)) (ex_Name x8.Handler)).bind fun x10 => sel ((!x9) || (!x10)) (some 4) ((gO (decide (s3 > 0)) (idxO l (IntKind.i64.wrap (s3 - 1)))).bind fun x12 => sel ((decide (s3 > 0)) && (!(Op.bytesLess x12.Event.toList x8.Event.toList))) (some 10) (sel ((decide ((x8.Instance.size : Int) > 400)) || (decide ((x8.Args.length : Int) > 100))) (some 2) (jn (fun (_s15 : Unit) => k7 ()) fun k16 => loopK (vw_actions_L1 x8 k16) N0 0)))) (k2 ())
def vw_actions (l : (List Action)) : Option Int := jn (fun (_s1 : Unit) => some 0) fun k2 => loopK (vw_actions_L2 l k2) N0 0
def vw_validate_L1 (self0 : View → Int → Int → Option (Int × Int)) (v : View) (depth : Int) (k14 : Int → Option (Int × Int)) (again16 : (Int × Int) → Option (Int × Int)) (s15 : Int × Int) : Option (Int × Int) := sel (decide (s15.1 < (v.Kids.length : Int))) ((idxO v.Kids s15.1).bind fun x18 => (self0 x18 (IntKind.i64.wrap (depth + 1)) s15.2).bind fun x19 => sel (x19.1 != 0) (some (x19.1, x19.2)) (again16 (IntKind.i64.wrap (s15.1 + 1), x19.2))) (k14 s15.2)
def vw_validate_L2 (v : View) (p_n : Int) (k12 : Unit → Option (Int × Int)) (again22 : (Int × (List (Str × Bool))) → Option (Int × Int)) (s21 : Int × (List (Str × Bool))) : Option (Int × Int) := sel (decide (s21.1 < (v.Kids.length : Int))) ((idxO v.Kids s21.1).bind fun x24 => (gO (!(x24.Key.toList == (ByteArray.mk #[]).toList)) (mgetO s21.2 x24.Key false)).bind fun x25 => sel ((!(x24.Key.toList == (ByteArray.mk #[]).toList)) && x25.1) (some (6, IntKind.i64.wrap (p_n + 1))) (again22 (IntKind.i64.wrap (s21.1 + 1), msetL s21.2 x24.Key true))) (k12 ())
def vw_validate_B (self0 : View → Int → Int → Option (Int × Int)) (v : View) (depth : Int) (p_n : Int) : Option (Int × Int) := sel (decide (depth > 16)) (some (8, IntKind.i64.wrap (p_n + 1))) (sel (decide ((IntKind.i64.wrap (p_n + 1)) > 400)) (some (2, IntKind.i64.wrap (p_n + 1))) (sel ((decide (v.Kind < 1)) || (decide (v.Kind > 13))) (some (9, IntKind.i64.wrap (p_n + 1))) ((vw_Key v.Key).bind fun x4 => sel (!x4) (some (4, IntKind.i64.wrap (p_n + 1))) (sel (((decide ((v.Attrs.length : Int) > 24)) || (decide ((v.Actions.length : Int) > 24))) || (decide ((v.Kids.length : Int) > 100))) (some (2, IntKind.i64.wrap (p_n + 1))) ((vw_attributes v.Attrs).bind fun x7 => sel (x7 != 0) (some (x7, IntKind.i64.wrap (p_n + 1))) ((vw_actions v.Actions).bind fun x9 => sel (x9 != 0) (some (x9, IntKind.i64.wrap (p_n + 1))) (jn (fun (_s11 : Unit) => jn (fun (s13 : Int) => some (0, s13)) fun k14 => loopK (vw_validate_L1 self0 v depth k14) N0 (0, IntKind.i64.wrap (p_n + 1))) fun k12 => loopK (vw_validate_L2 v p_n k12) N0 (0, ([] : (List (Str × Bool)))))))))))
def vw_validate : Nat → View → Int → Int → Option (Int × Int)
  | 0, _, _, _ => none
  | n + 1, v, depth, p_n => vw_validate_B (vw_validate n) v depth p_n
def vw_Validate (v : View) : Option Int := (vw_validate N0 v 1 0).bind fun x1 => some x1.1
def vw_value_B (_self0 : AValue → Option AValue) (self1 : (List AValue) → Option (List AValue)) (v : AValue) : Option AValue := (self1 v.L).bind fun x1 => some (AValue.mk v.Kind v.N v.S x1)
def vw_values_L1 (self0 : AValue → Option AValue) (l : (List AValue)) (k2 : (List AValue) → Option (List AValue)) (again4 : ((List AValue) × Int) → Option (List AValue)) (s3 : (List AValue) × Int) : Option (List AValue) := sel (decide (s3.2 < (l.length : Int))) ((idxO l s3.2).bind fun x6 => (self0 x6).bind fun x7 => (appO s3.1 ([x7])).bind fun x8 => again4 (x8, IntKind.i64.wrap (s3.2 + 1))) (k2 s3.1)
def vw_values_B (self0 : AValue → Option AValue) (_self1 : (List AValue) → Option (List AValue)) (l : (List AValue)) : Option (List AValue) := jn (fun (s1 : (List AValue)) => some s1) fun k2 => loopK (vw_values_L1 self0 l k2) N0 (([] : (List AValue)), 0)
mutual
def vw_value : Nat → AValue → Option AValue
  | 0, _ => none
  | n + 1, v => vw_value_B (vw_value n) (vw_values n) v
def vw_values : Nat → (List AValue) → Option (List AValue)
  | 0, _ => none
  | n + 1, l => vw_values_B (vw_value n) (vw_values n) l
end
def vw_copied_L1 (acts : (List Action)) (k4 : (List Action) → Option ((List Attr) × (List Action))) (again6 : ((List Action) × Int) → Option ((List Attr) × (List Action))) (s5 : (List Action) × Int) : Option ((List Attr) × (List Action)) := sel (decide (s5.2 < (acts.length : Int))) ((idxO acts s5.2).bind fun x8 => (vw_values N0 x8.Args).bind fun x9 => (appO s5.1 ([(Action.mk x8.Event x8.Instance x8.Handler x9)])).bind fun x10 => again6 (x10, IntKind.i64.wrap (s5.2 + 1))) (k4 s5.1)
def vw_copied_L2 (attrs : (List Attr)) (k2 : (List Attr) → Option ((List Attr) × (List Action))) (again12 : ((List Attr) × Int) → Option ((List Attr) × (List Action))) (s11 : (List Attr) × Int) : Option ((List Attr) × (List Action)) := sel (decide (s11.2 < (attrs.length : Int))) ((idxO attrs s11.2).bind fun x14 => (vw_value N0 x14.Value).bind fun x15 => (appO s11.1 ([(Attr.mk x14.Name x15)])).bind fun x16 => again12 (x16, IntKind.i64.wrap (s11.2 + 1))) (k2 s11.1)
def vw_copied (attrs : (List Attr)) (acts : (List Action)) : Option ((List Attr) × (List Action)) := jn (fun (s1 : (List Attr)) => jn (fun (s3 : (List Action)) => some (s1, s3)) fun k4 => loopK (vw_copied_L1 acts k4) N0 (([] : (List Action)), 0)) fun k2 => loopK (vw_copied_L2 attrs k2) N0 (([] : (List Attr)), 0)
def vw_preorder_L1 (self0 : (List (Int × Node)) → Int → Option (List Int)) (nodes : (List (Int × Node))) (k2 : (List Int) → Option (List Int)) (x3 : Node × Bool) (again5 : ((List Int) × Int) → Option (List Int)) (s4 : (List Int) × Int) : Option (List Int) := sel (decide (s4.2 < (x3.1.Kids.length : Int))) ((idxO x3.1.Kids s4.2).bind fun x7 => (self0 nodes x7).bind fun x8 => (appO s4.1 x8).bind fun x9 => again5 (x9, IntKind.i64.wrap (s4.2 + 1))) (k2 s4.1)
def vw_preorder_B (self0 : (List (Int × Node)) → Int → Option (List Int)) (nodes : (List (Int × Node))) (id : Int) : Option (List Int) := jn (fun (s1 : (List Int)) => some s1) fun k2 => (mgetO nodes id (Node.mk 0 0 0 ByteArray.empty ([] : (List Attr)) ([] : (List Action)) ([] : (List Int)))).bind fun x3 => loopK (vw_preorder_L1 self0 nodes k2 x3) N0 ([id], 0)
def vw_preorder : Nat → (List (Int × Node)) → Int → Option (List Int)
  | 0, _, _ => none
  | n + 1, nodes, id => vw_preorder_B (vw_preorder n) nodes id
def vw_graph_L1 (s2 : (List (Int × Node))) (x15 : Node) (k17 : (List (Int × Bool)) → Option ((List (Int × Node)) × Bool)) (again19 : (Int × (List (Int × Bool))) → Option ((List (Int × Node)) × Bool)) (s18 : Int × (List (Int × Bool))) : Option ((List (Int × Node)) × Bool) := sel (decide (s18.1 < (x15.Kids.length : Int))) ((idxO x15.Kids s18.1).bind fun x21 => (mgetO s2 x21 (Node.mk 0 0 0 ByteArray.empty ([] : (List Attr)) ([] : (List Action)) ([] : (List Int)))).bind fun x22 => (gO (!((!x22.2) || (x22.1.Parent != x15.ID))) (mgetO s18.2 x21 false)).bind fun x23 => sel (((!x22.2) || (x22.1.Parent != x15.ID)) || x23.1) (some (([] : (List (Int × Node))), false)) (again19 (IntKind.i64.wrap (s18.1 + 1), msetL s18.2 x21 true))) (k17 s18.2)
def vw_graph_L2 (t : Tree) (s2 : (List (Int × Node))) (k7 : (List (Int × Bool)) → Option ((List (Int × Node)) × Bool)) (again11 : (Int × (List (Int × Bool))) → Option ((List (Int × Node)) × Bool)) (s10 : Int × (List (Int × Bool))) : Option ((List (Int × Node)) × Bool) := sel (decide (s10.1 < (t.Nodes.length : Int))) (jn (fun (s13 : (List (Int × Bool))) => again11 (IntKind.i64.wrap (s10.1 + 1), s13)) fun k14 => (idxO t.Nodes s10.1).bind fun x15 => jn (fun (s16 : (List (Int × Bool))) => k14 s16) fun k17 => loopK (vw_graph_L1 s2 x15 k17) N0 (0, s10.2)) (k7 s10.2)
def vw_graph_L3 (t : Tree) (k3 : (List (Int × Node)) → Option ((List (Int × Node)) × Bool)) (again26 : (Int × Int × (List (Int × Node))) → Option ((List (Int × Node)) × Bool)) (s25 : Int × Int × (List (Int × Node))) : Option ((List (Int × Node)) × Bool) := sel (decide (s25.2.1 < (t.Nodes.length : Int))) ((idxO t.Nodes s25.2.1).bind fun x28 => sel (((decide (x28.ID ≤ s25.1)) || (decide (x28.ID ≥ t.Next))) || ((x28.Parent == 0) != (x28.ID == t.Root))) (some (([] : (List (Int × Node))), false)) (again26 (x28.ID, IntKind.i64.wrap (s25.2.1 + 1), msetL s25.2.2 x28.ID x28))) (k3 s25.2.2)
def vw_graph (t : Tree) : Option ((List (Int × Node)) × Bool) := sel ((((decide (t.Next < 2)) || (decide (t.Next > 1099511627776))) || (decide ((t.Nodes.length : Int) < 1))) || (decide ((t.Nodes.length : Int) > 400))) (some (([] : (List (Int × Node))), false)) (jn (fun (s2 : (List (Int × Node))) => (mgetO s2 t.Root (Node.mk 0 0 0 ByteArray.empty ([] : (List Attr)) ([] : (List Action)) ([] : (List Int)))).bind fun x4 => sel (!x4.2) (some (([] : (List (Int × Node))), false)) (jn (fun (s6 : (List (Int × Bool))) => sel ((s6.length : Int) != (s2.length : Int)) (some (([] : (List (Int × Node))), false)) ((vw_preorder N0 s2 t.Root).bind fun x9 => some (s2, (x9.length : Int) == (s2.length : Int)))) fun k7 => loopK (vw_graph_L2 t s2 k7) N0 (0, msetL ([] : (List (Int × Bool))) t.Root true))) fun k3 => loopK (vw_graph_L3 t k3) N0 (0, 0, ([] : (List (Int × Node)))))
def vw_described_L1 (self0 : (List (Int × Node)) → Int → Option View) (nodes : (List (Int × Node))) (x1 : Node × Bool) (k3 : (List View) → Option View) (again5 : (Int × (List View)) → Option View) (s4 : Int × (List View)) : Option View := sel (decide (s4.1 < (x1.1.Kids.length : Int))) ((idxO x1.1.Kids s4.1).bind fun x7 => (self0 nodes x7).bind fun x8 => (appO s4.2 ([x8])).bind fun x9 => again5 (IntKind.i64.wrap (s4.1 + 1), x9)) (k3 s4.2)
def vw_described_B (self0 : (List (Int × Node)) → Int → Option View) (nodes : (List (Int × Node))) (id : Int) : Option View := (mgetO nodes id (Node.mk 0 0 0 ByteArray.empty ([] : (List Attr)) ([] : (List Action)) ([] : (List Int)))).bind fun x1 => jn (fun (s2 : (List View)) => some (View.mk x1.1.Kind x1.1.Key x1.1.Attrs x1.1.Actions s2)) fun k3 => loopK (vw_described_L1 self0 nodes x1 k3) N0 (0, ([] : (List View)))
def vw_described : Nat → (List (Int × Node)) → Int → Option View
  | 0, _, _ => none
  | n + 1, nodes, id => vw_described_B (vw_described n) nodes id
def vw_examine (t : Tree) : Option ((List (Int × Node)) × View × Int) := (vw_graph t).bind fun x1 => sel (!x1.2) (some (([] : (List (Int × Node))), (View.mk 0 ByteArray.empty ([] : (List Attr)) ([] : (List Action)) ([] : (List View))), 12)) ((vw_described N0 x1.1 t.Root).bind fun x3 => (vw_Validate x3).bind fun x4 => some (x1.1, x3, x4))
def vw_Check (t : Tree) : Option Int := (vw_examine t).bind fun x1 => some x1.2.2
def vw_valid (t : Tree) : Option ((List (Int × Node)) × Bool) := (vw_examine t).bind fun x1 => some (x1.1, x1.2.2 == 0)
def slices_Reverse_Sl_int_int_L1 (k2 : (List Int) → Option (List Int)) (again4 : (Int × Int × (List Int)) → Option (List Int)) (s3 : Int × Int × (List Int)) : Option (List Int) := sel (decide (s3.1 < s3.2.1)) ((ixO s3.2.2.length s3.2.1).bind fun x6 => (s3.2.2[x6]?).bind fun x7 => (ixO s3.2.2.length s3.1).bind fun x8 => (s3.2.2[x8]?).bind fun x9 => (ixO s3.2.2.length s3.1).bind fun x10 => (ixO (List.set s3.2.2 x10 x7).length s3.2.1).bind fun x11 => again4 (IntKind.i64.wrap (s3.1 + 1), IntKind.i64.wrap (s3.2.1 - 1), List.set (List.set s3.2.2 x10 x7) x11 x9)) (k2 s3.2.2)
def slices_Reverse_Sl_int_int (p_s : (List Int)) : Option (List Int) := jn (fun (s1 : (List Int)) => some s1) fun k2 => loopK (slices_Reverse_Sl_int_int_L1 k2) N0 (0, IntKind.i64.wrap ((p_s.length : Int) - 1), p_s)
def vw_path_L1 (nodes : (List (Int × Node))) (k2 : (List Int) → Option (List Int)) (again6 : ((List Int) × Int × Int × Int × Str × (List Attr) × (List Action) × (List Int) × Bool) → Option (List Int)) (s5 : (List Int) × Int × Int × Int × Str × (List Attr) × (List Action) × (List Int) × Bool) : Option (List Int) := sel s5.2.2.2.2.2.2.2.2 ((appO s5.1 ([s5.2.1])).bind fun x8 => (mgetO nodes s5.2.2.1 (Node.mk 0 0 0 ByteArray.empty ([] : (List Attr)) ([] : (List Action)) ([] : (List Int)))).bind fun x9 => again6 (x8, x9.1.ID, x9.1.Parent, x9.1.Kind, x9.1.Key, x9.1.Attrs, x9.1.Actions, x9.1.Kids, x9.2)) (k2 s5.1)
def vw_path (nodes : (List (Int × Node))) (id : Int) : Option (List Int) := jn (fun (s1 : (List Int)) => (slices_Reverse_Sl_int_int s1).bind fun x3 => some x3) fun k2 => (mgetO nodes id (Node.mk 0 0 0 ByteArray.empty ([] : (List Attr)) ([] : (List Action)) ([] : (List Int)))).bind fun x4 => loopK (vw_path_L1 nodes k2) N0 (([] : List Int), x4.1.ID, x4.1.Parent, x4.1.Kind, x4.1.Key, x4.1.Attrs, x4.1.Actions, x4.1.Kids, x4.2)
end Go.Proofs.YtobiohcdpfpefaaDoor
end
section
namespace Go.Proofs.YtobiohcdpfpefaaDoor
open Go Go.E2
structure Chord where
  Key : Int
  Mods : Int
deriving Inhabited
def Chord.cs (x : Chord) : List Go.E2.D := [dI x.Key, dI x.Mods]
structure Shortcut where
  Node : Int
  Scope : Int
  Keys : (List Chord)
deriving Inhabited
def Shortcut.cs (x : Shortcut) : List Go.E2.D := [dI x.Node, dI x.Scope, .sl (List.map Chord.cs x.Keys)]
structure shortcut_choice where
  letter : Int
  at_ : Int
deriving Inhabited
def shortcut_choice.cs (x : shortcut_choice) : List Go.E2.D := [dI x.letter, dI x.at_]
structure shortcut_matcher where
  l : (List (List shortcut_choice))
  owner : (Nat → Int)
  taken : (Nat → Bool)
deriving Inhabited
def shortcut_matcher.cs (x : shortcut_matcher) : List Go.E2.D := [.sl (List.map (eSl shortcut_choice.cs) x.l), dI (x.owner 0), dI (x.owner 1), dI (x.owner 2), dI (x.owner 3), dI (x.owner 4), dI (x.owner 5), dI (x.owner 6), dI (x.owner 7), dI (x.owner 8), dI (x.owner 9), dI (x.owner 10), dI (x.owner 11), dI (x.owner 12), dI (x.owner 13), dI (x.owner 14), dI (x.owner 15), dI (x.owner 16), dI (x.owner 17), dI (x.owner 18), dI (x.owner 19), dI (x.owner 20), dI (x.owner 21), dI (x.owner 22), dI (x.owner 23), dI (x.owner 24), dI (x.owner 25), dI (x.owner 26), dI (x.owner 27), dI (x.owner 28), dI (x.owner 29), dI (x.owner 30), dI (x.owner 31), dI (x.owner 32), dI (x.owner 33), dI (x.owner 34), dI (x.owner 35), dB (x.taken 0), dB (x.taken 1), dB (x.taken 2), dB (x.taken 3), dB (x.taken 4), dB (x.taken 5), dB (x.taken 6), dB (x.taken 7), dB (x.taken 8), dB (x.taken 9), dB (x.taken 10), dB (x.taken 11), dB (x.taken 12), dB (x.taken 13), dB (x.taken 14), dB (x.taken 15), dB (x.taken 16), dB (x.taken 17), dB (x.taken 18), dB (x.taken 19), dB (x.taken 20), dB (x.taken 21), dB (x.taken 22), dB (x.taken 23), dB (x.taken 24), dB (x.taken 25), dB (x.taken 26), dB (x.taken 27), dB (x.taken 28), dB (x.taken 29), dB (x.taken 30), dB (x.taken 31), dB (x.taken 32), dB (x.taken 33), dB (x.taken 34), dB (x.taken 35)]
def sc_letter (p_r : Int) : Option Int := sel ((decide (p_r ≥ 97)) && (decide (p_r ≤ 122))) (some (IntKind.i64.wrap (IntKind.i32.wrap (p_r - 97)))) (sel ((decide (p_r ≥ 65)) && (decide (p_r ≤ 90))) (some (IntKind.i64.wrap (IntKind.i32.wrap (p_r - 65)))) (sel ((decide (p_r ≥ 48)) && (decide (p_r ≤ 57))) (some (IntKind.i64.wrap ((IntKind.i64.wrap (IntKind.i32.wrap (p_r - 48))) + 26))) (some (-1))))
def sc_choices_L1 (label : Str) (k2 : (List shortcut_choice) → Option (List shortcut_choice)) (again4 : ((List shortcut_choice) × Int × (Nat → Bool)) → Option (List shortcut_choice)) (s3 : (List shortcut_choice) × Int × (Nat → Bool)) : Option (List shortcut_choice) := sel (decide (s3.2.1 < ((runes label).length : Int))) (jn (fun (s6 : (List shortcut_choice) × (Nat → Bool)) => again4 (s6.1, IntKind.i64.wrap (s3.2.1 + 1), s6.2)) fun k7 => (idxO (runes label) s3.2.1).bind fun x8 => (sc_letter x8).bind fun x9 => (gO (decide (x9 ≥ 0)) (ixO 36 x9)).bind fun x10 => sel ((decide (x9 ≥ 0)) && (!(s3.2.2 x10))) ((ixO 36 x9).bind fun x12 => (appO s3.1 ([(shortcut_choice.mk x9 s3.2.1)])).bind fun x13 => k7 (x13, upd s3.2.2 x12 true)) (k7 (s3.1, s3.2.2))) (k2 s3.1)
def sc_choices (label : Str) : Option (List shortcut_choice) := jn (fun (s1 : (List shortcut_choice)) => some s1) fun k2 => loopK (sc_choices_L1 label k2) N0 (([] : (List shortcut_choice)), 0, (fun _ => false))
def sc_matcher_assign_L1 (self0 : shortcut_matcher → Int → (Nat → Bool) → Option (Bool × shortcut_matcher × (Nat → Bool))) (label : Int) (k2 : ((List (List shortcut_choice)) × (Nat → Int) × (Nat → Bool) × (Nat → Bool)) → Option (Bool × shortcut_matcher × (Nat → Bool))) (x3 : (List shortcut_choice)) (again5 : (Int × (List (List shortcut_choice)) × (Nat → Int) × (Nat → Bool) × (Nat → Bool)) → Option (Bool × shortcut_matcher × (Nat → Bool))) (s4 : Int × (List (List shortcut_choice)) × (Nat → Int) × (Nat → Bool) × (Nat → Bool)) : Option (Bool × shortcut_matcher × (Nat → Bool)) := sel (decide (s4.1 < (x3.length : Int))) (jn (fun (s7 : (List (List shortcut_choice)) × (Nat → Int) × (Nat → Bool) × (Nat → Bool)) => again5 (IntKind.i64.wrap (s4.1 + 1), s7.1, s7.2.1, s7.2.2.1, s7.2.2.2)) fun k8 => (idxO x3 s4.1).bind fun x9 => (ixO 36 x9.letter).bind fun x10 => (gO (!(s4.2.2.2.2 x10)) (ixO 36 x9.letter)).bind fun x11 => sel ((s4.2.2.2.2 x10) || (s4.2.2.2.1 x11)) (k8 (s4.2.1, s4.2.2.1, s4.2.2.2.1, s4.2.2.2.2)) ((ixO 36 x9.letter).bind fun x13 => (ixO 36 x9.letter).bind fun x14 => (gO (!(decide ((s4.2.2.1 x14) < 0))) (ixO 36 x9.letter)).bind fun x15 => (sel (!(decide ((s4.2.2.1 x14) < 0))) (self0 (shortcut_matcher.mk s4.2.1 s4.2.2.1 s4.2.2.2.1) (s4.2.2.1 x15) (upd s4.2.2.2.2 x13 true)) (some ((default : Bool), (shortcut_matcher.mk s4.2.1 s4.2.2.1 s4.2.2.2.1), upd s4.2.2.2.2 x13 true))).bind fun x16 => sel ((decide ((s4.2.2.1 x14) < 0)) || x16.1) ((ixO 36 x9.letter).bind fun x18 => some (true, (shortcut_matcher.mk x16.2.1.l (upd x16.2.1.owner x18 label) x16.2.1.taken), x16.2.2)) (k8 (x16.2.1.l, x16.2.1.owner, x16.2.1.taken, x16.2.2)))) (k2 (s4.2.1, s4.2.2.1, s4.2.2.2.1, s4.2.2.2.2))
def sc_matcher_assign_B (self0 : shortcut_matcher → Int → (Nat → Bool) → Option (Bool × shortcut_matcher × (Nat → Bool))) (m : shortcut_matcher) (label : Int) (seen : (Nat → Bool)) : Option (Bool × shortcut_matcher × (Nat → Bool)) := jn (fun (s1 : (List (List shortcut_choice)) × (Nat → Int) × (Nat → Bool) × (Nat → Bool)) => some (false, (shortcut_matcher.mk s1.1 s1.2.1 s1.2.2.1), s1.2.2.2)) fun k2 => (idxO m.l label).bind fun x3 => loopK (sc_matcher_assign_L1 self0 label k2 x3) N0 (0, m.l, m.owner, m.taken, seen)
def sc_matcher_assign : Nat → shortcut_matcher → Int → (Nat → Bool) → Option (Bool × shortcut_matcher × (Nat → Bool))
  | 0, _, _, _ => none
  | n + 1, m, label, seen => sc_matcher_assign_B (sc_matcher_assign n) m label seen
def sc_matcher_most_L1 (k4 : (Int × (List (List shortcut_choice)) × (Nat → Int) × (Nat → Bool)) → Option (Int × shortcut_matcher)) (again6 : (Int × Int × (List (List shortcut_choice)) × (Nat → Int) × (Nat → Bool)) → Option (Int × shortcut_matcher)) (s5 : Int × Int × (List (List shortcut_choice)) × (Nat → Int) × (Nat → Bool)) : Option (Int × shortcut_matcher) := sel (decide (s5.2.1 < (s5.2.2.1.length : Int))) (jn (fun (s8 : Int × (List (List shortcut_choice)) × (Nat → Int) × (Nat → Bool)) => again6 (s8.1, IntKind.i64.wrap (s5.2.1 + 1), s8.2.1, s8.2.2.1, s8.2.2.2)) fun k9 => (sc_matcher_assign 40 (shortcut_matcher.mk s5.2.2.1 s5.2.2.2.1 s5.2.2.2.2) s5.2.1 (fun _ => false)).bind fun x10 => sel x10.1 (k9 (IntKind.i64.wrap (s5.1 + 1), x10.2.1.l, x10.2.1.owner, x10.2.1.taken)) (k9 (s5.1, x10.2.1.l, x10.2.1.owner, x10.2.1.taken))) (k4 (s5.1, s5.2.2.1, s5.2.2.2.1, s5.2.2.2.2))
def sc_matcher_most_L2 (k2 : (Nat → Int) → Option (Int × shortcut_matcher)) (again13 : (Int × (Nat → Int)) → Option (Int × shortcut_matcher)) (s12 : Int × (Nat → Int)) : Option (Int × shortcut_matcher) := sel (decide (s12.1 < 36)) ((ixO 36 s12.1).bind fun x15 => again13 (IntKind.i64.wrap (s12.1 + 1), upd s12.2 x15 (-1))) (k2 s12.2)
def sc_matcher_most (m : shortcut_matcher) (first : Int) : Option (Int × shortcut_matcher) := jn (fun (s1 : (Nat → Int)) => jn (fun (s3 : Int × (List (List shortcut_choice)) × (Nat → Int) × (Nat → Bool)) => some (s3.1, (shortcut_matcher.mk s3.2.1 s3.2.2.1 s3.2.2.2))) fun k4 => loopK (sc_matcher_most_L1 k4) N0 (0, first, m.l, s1, m.taken)) fun k2 => loopK (sc_matcher_most_L2 k2) N0 (0, m.owner)
def sc_Mnemonics_L1 (s8 : (List Int) × Int × Int × (List (List shortcut_choice)) × (Nat → Int) × (Nat → Bool)) (k14 : (Int × Int × (List (List shortcut_choice)) × (Nat → Int) × (Nat → Bool)) → Option ((List Int) × Int)) (x16 : (List shortcut_choice)) (again18 : (Int × (List (List shortcut_choice)) × (Nat → Int) × (Nat → Bool)) → Option ((List Int) × Int)) (s17 : Int × (List (List shortcut_choice)) × (Nat → Int) × (Nat → Bool)) : Option ((List Int) × Int) := sel (decide (s17.1 < (x16.length : Int))) (jn (fun (s20 : (List (List shortcut_choice)) × (Nat → Int) × (Nat → Bool)) => again18 (IntKind.i64.wrap (s17.1 + 1), s20.1, s20.2.1, s20.2.2)) fun k21 => (idxO x16 s17.1).bind fun x22 => (ixO 36 x22.letter).bind fun x23 => sel (s17.2.2.2 x23) (k21 (s17.2.1, s17.2.2.1, s17.2.2.2)) ((ixO 36 x22.letter).bind fun x25 => (sc_matcher_most (shortcut_matcher.mk s17.2.1 s17.2.2.1 (upd s17.2.2.2 x25 true)) (IntKind.i64.wrap (s8.2.2.1 + 1))).bind fun x26 => sel (x26.1 == (IntKind.i64.wrap (s8.2.1 - 1))) (k14 (IntKind.i64.wrap (s8.2.1 - 1), x22.at_, x26.2.l, x26.2.owner, x26.2.taken)) ((ixO 36 x22.letter).bind fun x28 => k21 (x26.2.l, x26.2.owner, upd x26.2.taken x28 false)))) (k14 (s8.2.1, (-1), s17.2.1, s17.2.2.1, s17.2.2.2))
def sc_Mnemonics_L2 (labels : (List Str)) (k7 : (List Int) → Option ((List Int) × Int)) (again9 : ((List Int) × Int × Int × (List (List shortcut_choice)) × (Nat → Int) × (Nat → Bool)) → Option ((List Int) × Int)) (s8 : (List Int) × Int × Int × (List (List shortcut_choice)) × (Nat → Int) × (Nat → Bool)) : Option ((List Int) × Int) := sel (decide (s8.2.2.1 < (labels.length : Int))) (jn (fun (s11 : (List Int) × Int × (List (List shortcut_choice)) × (Nat → Int) × (Nat → Bool)) => again9 (s11.1, s11.2.1, IntKind.i64.wrap (s8.2.2.1 + 1), s11.2.2.1, s11.2.2.2.1, s11.2.2.2.2)) fun k12 => jn (fun (s13 : Int × Int × (List (List shortcut_choice)) × (Nat → Int) × (Nat → Bool)) => (appO s8.1 ([s13.2.1])).bind fun x15 => k12 (x15, s13.1, s13.2.2.1, s13.2.2.2.1, s13.2.2.2.2)) fun k14 => (idxO s8.2.2.2.1 s8.2.2.1).bind fun x16 => loopK (sc_Mnemonics_L1 s8 k14 x16) N0 (0, s8.2.2.2.1, s8.2.2.2.2.1, s8.2.2.2.2.2)) (k7 s8.1)
def sc_Mnemonics_L3 (labels : (List Str)) (k3 : (List (List shortcut_choice)) → Option ((List Int) × Int)) (again30 : (Int × (List (List shortcut_choice))) → Option ((List Int) × Int)) (s29 : Int × (List (List shortcut_choice))) : Option ((List Int) × Int) := sel (decide (s29.1 < (labels.length : Int))) ((idxO labels s29.1).bind fun x32 => sel (decide ((x32.size : Int) > 2000)) (some (([] : (List Int)), 2)) ((sc_choices x32).bind fun x34 => (appO s29.2 ([x34])).bind fun x35 => again30 (IntKind.i64.wrap (s29.1 + 1), x35))) (k3 s29.2)
def sc_Mnemonics (labels : (List Str)) : Option ((List Int) × Int) := sel (decide ((labels.length : Int) > 24)) (some (([] : (List Int)), 2)) (jn (fun (s2 : (List (List shortcut_choice))) => (okO (decide (0 ≤ (labels.length : Int)) && decide ((labels.length : Int) ≤ 1073741824)) (labels.length : Int)).bind fun _x4 => (sc_matcher_most (shortcut_matcher.mk s2 (fun _ => 0) (fun _ => false)) 0).bind fun x5 => jn (fun (s6 : (List Int)) => some (s6, 0)) fun k7 => loopK (sc_Mnemonics_L2 labels k7) N0 (([] : (List Int)), x5.1, 0, x5.2.l, x5.2.owner, x5.2.taken)) fun k3 => loopK (sc_Mnemonics_L3 labels k3) N0 (0, ([] : (List (List shortcut_choice)))))
def unicode_utf8_decodeRuneInStringSlow (p_s : Str) : Option (Int × Int) := sel (decide ((p_s.size : Int) < 1)) (some (65533, 0)) ((sidxO p_s 0).bind fun x2 => (idxO utf8First x2).bind fun x3 => sel (decide (x3 ≥ 240)) ((sidxO p_s 0).bind fun x5 => some (bOr .i32 (bAndNot .i32 (IntKind.i32.wrap x5) (bShr .i32 (bShl .i32 (IntKind.i32.wrap x3) 31) 31)) (bAnd .i32 65533 (bShr .i32 (bShl .i32 (IntKind.i32.wrap x3) 31) 31)), 1)) ((idxO utf8Accept (bShr .u8 x3 4)).bind fun x6 => sel (decide ((p_s.size : Int) < (IntKind.i64.wrap (bAnd .u8 x3 7)))) (some (65533, 1)) ((sidxO p_s 1).bind fun x8 => sel ((decide (x8 < x6.1)) || (decide (x6.2 < x8))) (some (65533, 1)) (sel (decide ((IntKind.i64.wrap (bAnd .u8 x3 7)) ≤ 2)) (some (bOr .i32 (bShl .i32 (IntKind.i32.wrap (bAnd .u8 x2 31)) 6) (IntKind.i32.wrap (bAnd .u8 x8 63)), 2)) ((sidxO p_s 2).bind fun x11 => sel ((decide (x11 < 128)) || (decide (191 < x11))) (some (65533, 1)) (sel (decide ((IntKind.i64.wrap (bAnd .u8 x3 7)) ≤ 3)) (some (bOr .i32 (bOr .i32 (bShl .i32 (IntKind.i32.wrap (bAnd .u8 x2 15)) 12) (bShl .i32 (IntKind.i32.wrap (bAnd .u8 x8 63)) 6)) (IntKind.i32.wrap (bAnd .u8 x11 63)), 3)) ((sidxO p_s 3).bind fun x14 => sel ((decide (x14 < 128)) || (decide (191 < x14))) (some (65533, 1)) (some (bOr .i32 (bOr .i32 (bOr .i32 (bShl .i32 (IntKind.i32.wrap (bAnd .u8 x2 7)) 18) (bShl .i32 (IntKind.i32.wrap (bAnd .u8 x8 63)) 12)) (bShl .i32 (IntKind.i32.wrap (bAnd .u8 x11 63)) 6)) (IntKind.i32.wrap (bAnd .u8 x14 63)), 4)))))))))
def stringslite_IndexByte (p_s : Str) (c : Int) : Option Int := some (idxByte p_s c)
def stringslite_Index (p_s : Str) (substr : Str) : Option Int := sel (((substr.size : Int) == 0) || (substr.toList == p_s.toList)) (some 0) (sel ((substr.size : Int) == 1) ((sidxO substr 0).bind fun x3 => (stringslite_IndexByte p_s x3).bind fun x4 => some x4) (sel (decide ((substr.size : Int) ≥ (p_s.size : Int))) (some (-1)) ((none : Option Int))))
def strings_Index (p_s : Str) (substr : Str) : Option Int := (stringslite_Index p_s substr).bind fun x1 => some x1
def strings_Count_L1 (substr : Str) (again5 : (Str × Int) → Option Int) (s4 : Str × Int) : Option Int := (strings_Index s4.1 substr).bind fun x6 => sel (x6 == (-1)) (some s4.2) ((sslcO s4.1 (IntKind.i64.wrap (x6 + (substr.size : Int))) (s4.1.size : Int)).bind fun x8 => again5 (x8, IntKind.i64.wrap (s4.2 + 1)))
def strings_Count (p_s : Str) (substr : Str) : Option Int := sel ((substr.size : Int) == 0) ((none : Option Int)) (sel ((substr.size : Int) == 1) ((sidxO substr 0).bind fun x3 => some (cntByte p_s x3)) (loopK (strings_Count_L1 substr) N0 (p_s, 0)))
def strings_genSplit_L1 (p_s : Str) (sep : Str) (sepSave : Int) (s3 : Int) (k7 : (Str × Int × (List Str)) → Option (List Str)) (again11 : (Str × Int × (List Str)) → Option (List Str)) (s10 : Str × Int × (List Str)) : Option (List Str) := sel (decide (s10.2.1 < (IntKind.i64.wrap ((mnI s3 (IntKind.i64.wrap ((p_s.size : Int) + 1))) - 1)))) ((strings_Index s10.1 sep).bind fun x13 => sel (decide (x13 < 0)) (k7 (s10.1, s10.2.1, s10.2.2)) ((sslcO s10.1 0 (IntKind.i64.wrap (x13 + sepSave))).bind fun x15 => (ixO s10.2.2.length s10.2.1).bind fun x16 => (sslcO s10.1 (IntKind.i64.wrap (x13 + (sep.size : Int))) (s10.1.size : Int)).bind fun x17 => again11 (x17, IntKind.i64.wrap (s10.2.1 + 1), List.set s10.2.2 x16 x15))) (k7 (s10.1, s10.2.1, s10.2.2))
def strings_genSplit (p_s : Str) (sep : Str) (sepSave : Int) (p_n : Int) : Option (List Str) := sel (p_n == 0) (some ([] : (List Str))) (sel (sep.toList == (ByteArray.mk #[]).toList) ((none : Option (List Str))) (jn (fun (s3 : Int) => (mkO (mnI s3 (IntKind.i64.wrap ((p_s.size : Int) + 1))) ByteArray.empty).bind fun x5 => jn (fun (s6 : Str × Int × (List Str)) => (ixO s6.2.2.length s6.2.1).bind fun x8 => (slcO (List.set s6.2.2 x8 s6.1) 0 (IntKind.i64.wrap (s6.2.1 + 1))).bind fun x9 => some x9) fun k7 => loopK (strings_genSplit_L1 p_s sep sepSave s3 k7) N0 (p_s, 0, x5)) fun k4 => sel (decide (p_n < 0)) ((strings_Count p_s sep).bind fun x19 => k4 (IntKind.i64.wrap (x19 + 1))) (k4 p_n)))
def strings_Split (p_s : Str) (sep : Str) : Option (List Str) := (strings_genSplit p_s sep 0 (-1)).bind fun x1 => some x1
def stringslite_HasPrefix (p_s : Str) (p_prefix : Str) : Option Bool := (gO (decide ((p_s.size : Int) ≥ (p_prefix.size : Int))) (sslcO p_s 0 (p_prefix.size : Int))).bind fun x1 => some ((decide ((p_s.size : Int) ≥ (p_prefix.size : Int))) && (x1.toList == p_prefix.toList))
def stringslite_CutPrefix (p_s : Str) (p_prefix : Str) : Option (Str × Bool) := (stringslite_HasPrefix p_s p_prefix).bind fun x1 => sel (!x1) (some (p_s, false)) ((sslcO p_s (p_prefix.size : Int) (p_s.size : Int)).bind fun x3 => some (x3, true))
def strings_CutPrefix (p_s : Str) (p_prefix : Str) : Option (Str × Bool) := (stringslite_CutPrefix p_s p_prefix).bind fun x1 => some (x1.1, x1.2)
def unicode_utf8_DecodeRuneInString (p_s : Str) : Option (Int × Int) := (gO (!(p_s.toList == (ByteArray.mk #[]).toList)) (sidxO p_s 0)).bind fun x1 => sel ((!(p_s.toList == (ByteArray.mk #[]).toList)) && (decide (x1 < 128))) ((sidxO p_s 0).bind fun x3 => some (IntKind.i32.wrap x3, 1)) ((unicode_utf8_decodeRuneInStringSlow p_s).bind fun x4 => some (x4.1, x4.2))
def slices_Index_Sl_string_string_L1 (p_s : (List Str)) (v : Str) (k2 : Unit → Option Int) (again4 : Int → Option Int) (s3 : Int) : Option Int := sel (decide (s3 < (p_s.length : Int))) ((idxO p_s s3).bind fun x6 => sel (v.toList == x6.toList) (some s3) (again4 (IntKind.i64.wrap (s3 + 1)))) (k2 ())
def slices_Index_Sl_string_string (p_s : (List Str)) (v : Str) : Option Int := jn (fun (_s1 : Unit) => some (-1)) fun k2 => loopK (slices_Index_Sl_string_string_L1 p_s v k2) N0 0
def sc_modifiers  : Option (List Str) := some ([(ByteArray.mk #[99, 116, 114, 108]), (ByteArray.mk #[97, 108, 116]), (ByteArray.mk #[115, 104, 105, 102, 116]), (ByteArray.mk #[109, 101, 116, 97])])
def sc_keys  : Option (List Str) := some ([(ByteArray.mk #[116, 97, 98]), (ByteArray.mk #[101, 110, 116, 101, 114]), (ByteArray.mk #[101, 115, 99, 97, 112, 101]), (ByteArray.mk #[98, 97, 99, 107, 115, 112, 97, 99, 101]), (ByteArray.mk #[100, 101, 108, 101, 116, 101]), (ByteArray.mk #[108, 101, 102, 116]), (ByteArray.mk #[114, 105, 103, 104, 116]), (ByteArray.mk #[117, 112]), (ByteArray.mk #[100, 111, 119, 110]), (ByteArray.mk #[104, 111, 109, 101]), (ByteArray.mk #[101, 110, 100]), (ByteArray.mk #[102, 49]), (ByteArray.mk #[102, 50]), (ByteArray.mk #[102, 51]), (ByteArray.mk #[102, 52]), (ByteArray.mk #[102, 53]), (ByteArray.mk #[102, 54]), (ByteArray.mk #[102, 55]), (ByteArray.mk #[102, 56]), (ByteArray.mk #[102, 57]), (ByteArray.mk #[102, 49, 48]), (ByteArray.mk #[102, 49, 49]), (ByteArray.mk #[102, 49, 50])])
def sc_character (key : Int) : Option Bool := some ((((decide (key ≥ 32)) && (decide (key ≤ 1114111))) && ((decide (key < 55296)) || (decide (key > 57343)))) && ((decide (key < 65)) || (decide (key > 90))))
def sc_chord_L1 (k2 : (Str × Int) → Option (Chord × Bool)) (x10 : (List Str)) (again12 : (Str × Int × Int) → Option (Chord × Bool)) (s11 : Str × Int × Int) : Option (Chord × Bool) := sel (decide (s11.2.1 < (x10.length : Int))) (jn (fun (s14 : Str × Int) => again12 (s14.1, IntKind.i64.wrap (s11.2.1 + 1), s14.2)) fun k15 => (idxO x10 s11.2.1).bind fun x16 => (catO x16 (ByteArray.mk #[43])).bind fun x17 => (strings_CutPrefix s11.1 x17).bind fun x18 => sel x18.2 ((shO s11.2.1 (bShl .i64 1 s11.2.1)).bind fun x20 => k15 (x18.1, bOr .i64 s11.2.2 x20)) (k15 (s11.1, s11.2.2))) (k2 (s11.1, s11.2.2))
def sc_chord (p_s : Str) : Option (Chord × Bool) := jn (fun (s1 : Str × Int) => (sc_keys).bind fun x3 => (slices_Index_Sl_string_string x3 s1.1).bind fun x4 => sel (decide (x4 ≥ 0)) (some ((Chord.mk (IntKind.i64.wrap (1 + x4)) s1.2), true)) (sel (s1.1.toList == (ByteArray.mk #[115, 112, 97, 99, 101]).toList) (some ((Chord.mk 32 s1.2), true)) ((unicode_utf8_DecodeRuneInString s1.1).bind fun x7 => (gO (!((((x7.2 != (s1.1.size : Int)) || (x7.2 == 0)) || ((x7.1 == 65533) && (x7.2 == 1))) || (x7.1 == 32))) (sc_character (IntKind.i64.wrap x7.1))).bind fun x8 => sel (((((x7.2 != (s1.1.size : Int)) || (x7.2 == 0)) || ((x7.1 == 65533) && (x7.2 == 1))) || (x7.1 == 32)) || (!x8)) (some ((Chord.mk 0 0), false)) (some ((Chord.mk (IntKind.i64.wrap x7.1) s1.2), true))))) fun k2 => (sc_modifiers).bind fun x10 => loopK (sc_chord_L1 k2 x10) N0 (p_s, 0, 0)
def sc_Parse_L1 (k3 : (List Chord) → Option ((List Chord) × Int)) (x5 : (List Str)) (again7 : ((List Chord) × Int) → Option ((List Chord) × Int)) (s6 : (List Chord) × Int) : Option ((List Chord) × Int) := sel (decide (s6.2 < (x5.length : Int))) ((idxO x5 s6.2).bind fun x9 => (sc_chord x9).bind fun x10 => sel (!x10.2) (some (([] : (List Chord)), 3)) ((appO s6.1 ([x10.1])).bind fun x12 => again7 (x12, IntKind.i64.wrap (s6.2 + 1)))) (k3 s6.1)
def sc_Parse (p_s : Str) : Option ((List Chord) × Int) := sel (decide ((p_s.size : Int) > 100)) (some (([] : (List Chord)), 2)) (jn (fun (s2 : (List Chord)) => sel (decide ((s2.length : Int) > 3)) (some (([] : (List Chord)), 2)) (some (s2, 0))) fun k3 => (strings_Split p_s (ByteArray.mk #[32])).bind fun x5 => loopK (sc_Parse_L1 k3 x5) N0 (([] : (List Chord)), 0))
def l32_same_L1 (a : (List Chord)) (b : (List Chord)) (k3 : Unit → Option Bool) (again5 : Int → Option Bool) (s4 : Int) : Option Bool := sel (decide (s4 < (a.length : Int))) ((idxO a s4).bind fun x7 => (idxO b s4).bind fun x8 => sel (!((x7.Key == x8.Key) && (x7.Mods == x8.Mods))) (some false) (again5 (IntKind.i64.wrap (s4 + 1)))) (k3 ())
def l32_same (a : (List Chord)) (b : (List Chord)) : Option Bool := sel ((a.length : Int) != (b.length : Int)) (some false) (jn (fun (_s2 : Unit) => some true) fun k3 => loopK (l32_same_L1 a b k3) N0 0)
def l32_awake  : Option Bool := (sc_Parse (ByteArray.mk #[99, 116, 114, 108, 43, 107, 32, 99, 116, 114, 108, 43, 115, 104, 105, 102, 116, 43, 99])).bind fun x1 => (sc_Mnemonics ([(ByteArray.mk #[83, 97, 118, 101]), (ByteArray.mk #[83, 97, 118, 101, 32, 97, 115]), (ByteArray.mk #[83, 117, 109])])).bind fun x2 => (gO ((x1.2 == 0) && (x2.2 == 0)) (l32_same x1.1 ([(Chord.mk 107 1), (Chord.mk 99 5)]))).bind fun x3 => (gO ((((x1.2 == 0) && (x2.2 == 0)) && x3) && ((x2.1.length : Int) == 3)) (idxO x2.1 0)).bind fun x4 => (gO (((((x1.2 == 0) && (x2.2 == 0)) && x3) && ((x2.1.length : Int) == 3)) && (x4 == 0)) (idxO x2.1 1)).bind fun x5 => (gO ((((((x1.2 == 0) && (x2.2 == 0)) && x3) && ((x2.1.length : Int) == 3)) && (x4 == 0)) && (x5 == 1)) (idxO x2.1 2)).bind fun x6 => some (((((((x1.2 == 0) && (x2.2 == 0)) && x3) && ((x2.1.length : Int) == 3)) && (x4 == 0)) && (x5 == 1)) && (x6 == 1))
end Go.Proofs.YtobiohcdpfpefaaDoor
end
section
namespace Go.Proofs.YtobiohcdpfpefaaDoor
open Go Go.E2
def vw_Attr_L1 (l : (List Attr)) (name : Str) (k2 : Unit → Option (AValue × Bool)) (again4 : Int → Option (AValue × Bool)) (s3 : Int) : Option (AValue × Bool) := sel (decide (s3 < (l.length : Int))) ((idxO l s3).bind fun x6 => sel (x6.Name.toList == name.toList) ((vw_value N0 x6.Value).bind fun x8 => some (x8, true)) (again4 (IntKind.i64.wrap (s3 + 1)))) (k2 ())
def vw_Attr (l : (List Attr)) (name : Str) : Option (AValue × Bool) := jn (fun (_s1 : Unit) => some ((AValue.mk 0 0 ByteArray.empty ([] : (List AValue))), false)) fun k2 => loopK (vw_Attr_L1 l name k2) N0 0
def vw_Flag (l : (List Attr)) (name : Str) : Option Bool := (vw_Attr l name).bind fun x1 => some ((x1.1.Kind == 2) && (x1.1.N == 1))
end Go.Proofs.YtobiohcdpfpefaaDoor
end
section
namespace Go.Proofs.YtobiohcdpfpefaaDoor
open Go Go.E2
structure Styled where
  ID : Int
  Style : (Nat → Int)
deriving Inhabited
def Styled.cs (x : Styled) : List Go.E2.D := [dI x.ID, dI (x.Style 0), dI (x.Style 1), dI (x.Style 2), dI (x.Style 3), dI (x.Style 4), dI (x.Style 5), dI (x.Style 6), dI (x.Style 7), dI (x.Style 8), dI (x.Style 9), dI (x.Style 10), dI (x.Style 11), dI (x.Style 12), dI (x.Style 13), dI (x.Style 14), dI (x.Style 15), dI (x.Style 16), dI (x.Style 17), dI (x.Style 18), dI (x.Style 19), dI (x.Style 20), dI (x.Style 21)]
def widgetry_style_exists (prop : Int) : Option Bool := some ((decide (prop ≥ 0)) && (decide (prop < 22)))
def widgetry_style_InRange (prop : Int) (p_n : Int) : Option Bool := (widgetry_style_exists prop).bind fun x1 => (gO x1 (idxO styProps prop)).bind fun x2 => (gO (x1 && (decide (p_n ≥ x2.2.1))) (idxO styProps prop)).bind fun x3 => some ((x1 && (decide (p_n ≥ x2.2.1))) && (decide (p_n ≤ x3.2.2.1)))
def r17_Initial  : Option (Nat → Int) := some (upd (upd (upd (upd (upd (upd (upd (upd (fun _ => 0) 1 (-1)) 2 16) 5 1) 6 3) 11 1) 12 (-1)) 14 1048576) 16 1048576)
end Go.Proofs.YtobiohcdpfpefaaDoor
end
section
namespace Go.Proofs.YtobiohcdpfpefaaDoor
open Go Go.E2
def widgetry_layout_isText (kind : Int) : Option Bool := some ((((kind == 2) || (kind == 4)) || (kind == 7)) || (kind == 9))
def widgetry_layout_isFigure (kind : Int) : Option Bool := some ((kind == 5) || (kind == 13))
def widgetry_layout_complete_1 (p_n : Node) (p_s : Styled) : Option Bool := some (p_n.ID == p_s.ID)
def slices_EqualFunc_Sl_Node_Sl_Styled_Node_Styled_L1 (p_s1 : (List Node)) (p_s2 : (List Styled)) (k3 : Unit → Option Bool) (again5 : Int → Option Bool) (s4 : Int) : Option Bool := sel (decide (s4 < (p_s1.length : Int))) ((idxO p_s1 s4).bind fun x7 => (idxO p_s2 s4).bind fun x8 => (widgetry_layout_complete_1 x7 x8).bind fun x9 => sel (!x9) (some false) (again5 (IntKind.i64.wrap (s4 + 1)))) (k3 ())
def slices_EqualFunc_Sl_Node_Sl_Styled_Node_Styled (p_s1 : (List Node)) (p_s2 : (List Styled)) : Option Bool := sel ((p_s1.length : Int) != (p_s2.length : Int)) (some false) (jn (fun (_s2 : Unit) => some true) fun k3 => loopK (slices_EqualFunc_Sl_Node_Sl_Styled_Node_Styled_L1 p_s1 p_s2 k3) N0 0)
def widgetry_layout_complete (t : Tree) (st : (List Styled)) : Option Bool := (slices_EqualFunc_Sl_Node_Sl_Styled_Node_Styled t.Nodes st).bind fun x1 => some x1
def widgetry_layout_styled_L1 (x8 : Styled) (k10 : Unit → Option Bool) (again12 : Int → Option Bool) (s11 : Int) : Option Bool := sel (decide (s11 < 22)) ((ixO 22 s11).bind fun x14 => (widgetry_style_InRange s11 (x8.Style x14)).bind fun x15 => sel (!x15) (some false) (again12 (IntKind.i64.wrap (s11 + 1)))) (k10 ())
def widgetry_layout_styled_L2 (st : (List Styled)) (k2 : Unit → Option Bool) (again4 : Int → Option Bool) (s3 : Int) : Option Bool := sel (decide (s3 < (st.length : Int))) (jn (fun (_s6 : Unit) => again4 (IntKind.i64.wrap (s3 + 1))) fun k7 => (idxO st s3).bind fun x8 => jn (fun (_s9 : Unit) => k7 ()) fun k10 => loopK (widgetry_layout_styled_L1 x8 k10) N0 0) (k2 ())
def widgetry_layout_styled (st : (List Styled)) : Option Bool := jn (fun (_s1 : Unit) => some true) fun k2 => loopK (widgetry_layout_styled_L2 st k2) N0 0
structure Advance where
  From : Int
  To : Int
  Width : Int
deriving Inhabited
def Advance.cs (x : Advance) : List Go.E2.D := [.v (.int .i32 x.From), .v (.int .i32 x.To), dI x.Width]
structure Kern where
  A : Int
  B : Int
  D : Int
deriving Inhabited
def Kern.cs (x : Kern) : List Go.E2.D := [.v (.int .i32 x.A), .v (.int .i32 x.B), dI x.D]
structure Ligature where
  A : Int
  B : Int
  Glyph : Int
  Width : Int
deriving Inhabited
def Ligature.cs (x : Ligature) : List Go.E2.D := [.v (.int .i32 x.A), .v (.int .i32 x.B), dI x.Glyph, dI x.Width]
structure Font where
  Units : Int
  Ascent : Int
  Descent : Int
  Gap : Int
  Default : Int
  Advances : (List Advance)
  Kerns : (List Kern)
  Ligatures : (List Ligature)
deriving Inhabited
def Font.cs (x : Font) : List Go.E2.D := [dI x.Units, dI x.Ascent, dI x.Descent, dI x.Gap, dI x.Default, .sl (List.map Advance.cs x.Advances), .sl (List.map Kern.cs x.Kerns), .sl (List.map Ligature.cs x.Ligatures)]
structure layout_scene where
  t : Tree
  fonts : (List Font)
  nodes : (List (Int × Node))
  style : (List (Int × (Nat → Int)))
  kids : (List (Int × Nat))
  shown : (List Int)
  least : (List (Int × Int))
  most : (List (Int × Int))
  tall : (List ((Int × Int) × Int))
  first : (List ((Int × Int) × Int))
deriving Inhabited
def layout_scene.cs (x : layout_scene) : List Go.E2.D := [dI x.t.Root, dI x.t.Next, .sl (List.map Node.cs x.t.Nodes), .sl (List.map Font.cs x.fonts), .mp true (encM (kInt .i64) Node.cs x.nodes), .mp true (encM (kInt .i64) (eArr 22 (dInt .i64)) x.style), .mp false (encM (kInt .i64) (eJ 1) x.kids), .sl (List.map (eInt .i64) x.shown), .mp false (encM (kInt .i64) (eInt .i64) x.least), .mp false (encM (kInt .i64) (eInt .i64) x.most), .mp false (encM (kPair .i64) (eInt .i64) x.tall), .mp false (encM (kPair .i64) (eInt .i64) x.first)]
def widgetry_layout_scene_hidden (p_x : layout_scene) (id : Int) : Option (Bool × layout_scene) := (mgetO p_x.style id (fun _ => 0)).bind fun x1 => (gO (!((x1.1 5) == 0)) (mgetO p_x.nodes id (Node.mk 0 0 0 ByteArray.empty ([] : (List Attr)) ([] : (List Action)) ([] : (List Int))))).bind fun x2 => (gO (!((x1.1 5) == 0)) (vw_Flag x2.1.Attrs (ByteArray.mk #[104, 105, 100, 100, 101, 110]))).bind fun x3 => some (((x1.1 5) == 0) || x3, p_x)
def widgetry_layout_scene_show_L1 (self0 : layout_scene → Int → Option layout_scene) (id : Int) (x2 : Node × Bool) (again7 : (Int × Int × Int × (List Node) × (List Font) × (List (Int × Node)) × (List (Int × (Nat → Int))) × (List (Int × Nat)) × (List Int) × (List (Int × Int)) × (List (Int × Int)) × (List ((Int × Int) × Int)) × (List ((Int × Int) × Int))) → Option layout_scene) (s6 : Int × Int × Int × (List Node) × (List Font) × (List (Int × Node)) × (List (Int × (Nat → Int))) × (List (Int × Nat)) × (List Int) × (List (Int × Int)) × (List (Int × Int)) × (List ((Int × Int) × Int)) × (List ((Int × Int) × Int))) : Option layout_scene := sel (decide (s6.1 < (x2.1.Kids.length : Int))) (jn (fun (s9 : Int × Int × (List Node) × (List Font) × (List (Int × Node)) × (List (Int × (Nat → Int))) × (List (Int × Nat)) × (List Int) × (List (Int × Int)) × (List (Int × Int)) × (List ((Int × Int) × Int)) × (List ((Int × Int) × Int))) => again7 (IntKind.i64.wrap (s6.1 + 1), s9.1, s9.2.1, s9.2.2.1, s9.2.2.2.1, s9.2.2.2.2.1, s9.2.2.2.2.2.1, s9.2.2.2.2.2.2.1, s9.2.2.2.2.2.2.2.1, s9.2.2.2.2.2.2.2.2.1, s9.2.2.2.2.2.2.2.2.2.1, s9.2.2.2.2.2.2.2.2.2.2.1, s9.2.2.2.2.2.2.2.2.2.2.2)) fun k10 => (idxO x2.1.Kids s6.1).bind fun x11 => (widgetry_layout_scene_hidden (layout_scene.mk (Tree.mk s6.2.1 s6.2.2.1 s6.2.2.2.1) s6.2.2.2.2.1 s6.2.2.2.2.2.1 s6.2.2.2.2.2.2.1 s6.2.2.2.2.2.2.2.1 s6.2.2.2.2.2.2.2.2.1 s6.2.2.2.2.2.2.2.2.2.1 s6.2.2.2.2.2.2.2.2.2.2.1 s6.2.2.2.2.2.2.2.2.2.2.2.1 s6.2.2.2.2.2.2.2.2.2.2.2.2) x11).bind fun x12 => sel (!x12.1) ((mgetO x12.2.kids id 0).bind fun x14 => (jappO x14.1 ([x11]).length).bind fun x15 => (self0 (layout_scene.mk x12.2.t x12.2.fonts x12.2.nodes x12.2.style (msetL x12.2.kids id x15) x12.2.shown x12.2.least x12.2.most x12.2.tall x12.2.first) x11).bind fun x16 => k10 (x16.t.Root, x16.t.Next, x16.t.Nodes, x16.fonts, x16.nodes, x16.style, x16.kids, x16.shown, x16.least, x16.most, x16.tall, x16.first)) (k10 (x12.2.t.Root, x12.2.t.Next, x12.2.t.Nodes, x12.2.fonts, x12.2.nodes, x12.2.style, x12.2.kids, x12.2.shown, x12.2.least, x12.2.most, x12.2.tall, x12.2.first))) (some (layout_scene.mk (Tree.mk s6.2.1 s6.2.2.1 s6.2.2.2.1) s6.2.2.2.2.1 s6.2.2.2.2.2.1 s6.2.2.2.2.2.2.1 s6.2.2.2.2.2.2.2.1 s6.2.2.2.2.2.2.2.2.1 s6.2.2.2.2.2.2.2.2.2.1 s6.2.2.2.2.2.2.2.2.2.2.1 s6.2.2.2.2.2.2.2.2.2.2.2.1 s6.2.2.2.2.2.2.2.2.2.2.2.2))
def widgetry_layout_scene_show_B (self0 : layout_scene → Int → Option layout_scene) (p_x : layout_scene) (id : Int) : Option layout_scene := (appO p_x.shown ([id])).bind fun x1 => (mgetO p_x.nodes id (Node.mk 0 0 0 ByteArray.empty ([] : (List Attr)) ([] : (List Action)) ([] : (List Int)))).bind fun x2 => (widgetry_layout_isText x2.1.Kind).bind fun x3 => (gO (!x3) (widgetry_layout_isFigure x2.1.Kind)).bind fun x4 => sel (x3 || x4) (some (layout_scene.mk p_x.t p_x.fonts p_x.nodes p_x.style p_x.kids x1 p_x.least p_x.most p_x.tall p_x.first)) (loopK (widgetry_layout_scene_show_L1 self0 id x2) N0 (0, p_x.t.Root, p_x.t.Next, p_x.t.Nodes, p_x.fonts, p_x.nodes, p_x.style, p_x.kids, x1, p_x.least, p_x.most, p_x.tall, p_x.first))
def widgetry_layout_scene_show : Nat → layout_scene → Int → Option layout_scene
  | 0, _, _ => none
  | n + 1, p_x, id => widgetry_layout_scene_show_B (widgetry_layout_scene_show n) p_x id
def widgetry_layout_open_L1 (t : Tree) (st : (List Styled)) (k2 : ((List (Int × Node)) × (List (Int × (Nat → Int)))) → Option layout_scene) (again9 : (Int × (List (Int × Node)) × (List (Int × (Nat → Int)))) → Option layout_scene) (s8 : Int × (List (Int × Node)) × (List (Int × (Nat → Int)))) : Option layout_scene := sel (decide (s8.1 < (t.Nodes.length : Int))) ((idxO t.Nodes s8.1).bind fun x11 => (idxO st s8.1).bind fun x12 => (mgetO s8.2.1 x11.ID (Node.mk 0 0 0 ByteArray.empty ([] : (List Attr)) ([] : (List Action)) ([] : (List Int)))).bind fun _x13 => (mgetO s8.2.2 x11.ID (fun _ => 0)).bind fun _x14 => again9 (IntKind.i64.wrap (s8.1 + 1), msetL s8.2.1 x11.ID x11, msetL s8.2.2 x11.ID x12.Style)) (k2 (s8.2.1, s8.2.2))
def widgetry_layout_open (t : Tree) (st : (List Styled)) (fonts : (List Font)) : Option layout_scene := jn (fun (s1 : (List (Int × Node)) × (List (Int × (Nat → Int)))) => jn (fun (s3 : Int × Int × (List Node) × (List Font) × (List (Int × Node)) × (List (Int × (Nat → Int))) × (List (Int × Nat)) × (List Int) × (List (Int × Int)) × (List (Int × Int)) × (List ((Int × Int) × Int)) × (List ((Int × Int) × Int))) => some (layout_scene.mk (Tree.mk s3.1 s3.2.1 s3.2.2.1) s3.2.2.2.1 s3.2.2.2.2.1 s3.2.2.2.2.2.1 s3.2.2.2.2.2.2.1 s3.2.2.2.2.2.2.2.1 s3.2.2.2.2.2.2.2.2.1 s3.2.2.2.2.2.2.2.2.2.1 s3.2.2.2.2.2.2.2.2.2.2.1 s3.2.2.2.2.2.2.2.2.2.2.2)) fun k4 => (widgetry_layout_scene_hidden (layout_scene.mk t fonts s1.1 s1.2 ([] : (List (Int × Nat))) ([] : (List Int)) ([] : (List (Int × Int))) ([] : (List (Int × Int))) ([] : (List ((Int × Int) × Int))) ([] : (List ((Int × Int) × Int)))) t.Root).bind fun x5 => sel (!x5.1) ((widgetry_layout_scene_show N0 x5.2 t.Root).bind fun x7 => k4 (x7.t.Root, x7.t.Next, x7.t.Nodes, x7.fonts, x7.nodes, x7.style, x7.kids, x7.shown, x7.least, x7.most, x7.tall, x7.first)) (k4 (x5.2.t.Root, x5.2.t.Next, x5.2.t.Nodes, x5.2.fonts, x5.2.nodes, x5.2.style, x5.2.kids, x5.2.shown, x5.2.least, x5.2.most, x5.2.tall, x5.2.first))) fun k2 => loopK (widgetry_layout_open_L1 t st k2) N0 (0, ([] : (List (Int × Node))), ([] : (List (Int × (Nat → Int)))))
def widgetry_layout_Shown (t : Tree) (st : (List Styled)) : Option (List Int) := (vw_Check t).bind fun x1 => (gO (!(x1 != 0)) (widgetry_layout_complete t st)).bind fun x2 => (gO (!((x1 != 0) || (!x2))) (widgetry_layout_styled st)).bind fun x3 => sel (((x1 != 0) || (!x2)) || (!x3)) (some ([] : (List Int))) ((widgetry_layout_open t st ([] : (List Font))).bind fun x5 => some x5.shown)
end Go.Proofs.YtobiohcdpfpefaaDoor
end
section
namespace Go.Proofs.YtobiohcdpfpefaaDoor
open Go Go.E2
def slices_Clone_Sl_int_int (s : (List Int)) : Option (List Int) := appO [] s
def vw_Find_L1 (t : Tree) (id : Int) (k2 : Unit → Option (Node × Bool)) (again4 : Int → Option (Node × Bool)) (s3 : Int) : Option (Node × Bool) := sel (decide (s3 < (t.Nodes.length : Int))) ((idxO t.Nodes s3).bind fun x6 => sel (x6.ID != id) (again4 (IntKind.i64.wrap (s3 + 1))) ((vw_copied x6.Attrs x6.Actions).bind fun x8 => (slices_Clone_Sl_int_int x6.Kids).bind fun x9 => some ((Node.mk x6.ID x6.Parent x6.Kind x6.Key x8.1 x8.2 x9), true))) (k2 ())
def vw_Find (t : Tree) (id : Int) : Option (Node × Bool) := jn (fun (_s1 : Unit) => some ((Node.mk 0 0 0 ByteArray.empty ([] : (List Attr)) ([] : (List Action)) ([] : (List Int))), false)) fun k2 => loopK (vw_Find_L1 t id k2) N0 0
def vw_Order (t : Tree) : Option (List Int) := (vw_valid t).bind fun x1 => sel (!x1.2) (some ([] : (List Int))) ((vw_preorder N0 x1.1 t.Root).bind fun x3 => some x3)
def vw_Path (t : Tree) (id : Int) : Option (List Int) := (vw_valid t).bind fun x1 => sel (!x1.2) (some ([] : (List Int))) ((vw_path x1.1 id).bind fun x3 => some x3)
end Go.Proofs.YtobiohcdpfpefaaDoor
end
section
namespace Go.Proofs.YtobiohcdpfpefaaDoor
open Go Go.E2
structure dispatch_step where
  node : Node
  disabled : Bool
deriving Inhabited
def dispatch_step.cs (x : dispatch_step) : List Go.E2.D := [dI x.node.ID, dI x.node.Parent, dI x.node.Kind, dS x.node.Key, .sl (List.map Attr.cs x.node.Attrs), .sl (List.map Action.cs x.node.Actions), .sl (List.map (eInt .i64) x.node.Kids), dB x.disabled]
def dp_steps_L1 (t : Tree) (k2 : (List dispatch_step) → Option (List dispatch_step)) (x3 : (List Int)) (again5 : ((List dispatch_step) × Bool × Int) → Option (List dispatch_step)) (s4 : (List dispatch_step) × Bool × Int) : Option (List dispatch_step) := sel (decide (s4.2.2 < (x3.length : Int))) ((idxO x3 s4.2.2).bind fun x7 => (vw_Find t x7).bind fun x8 => (gO (!s4.2.1) (vw_Flag x8.1.Attrs (ByteArray.mk #[100, 105, 115, 97, 98, 108, 101, 100]))).bind fun x9 => (appO s4.1 ([(dispatch_step.mk x8.1 (s4.2.1 || x9))])).bind fun x10 => again5 (x10, s4.2.1 || x9, IntKind.i64.wrap (s4.2.2 + 1))) (k2 s4.1)
def dp_steps (t : Tree) (id : Int) : Option (List dispatch_step) := jn (fun (s1 : (List dispatch_step)) => some s1) fun k2 => (vw_Path t id).bind fun x3 => loopK (dp_steps_L1 t k2 x3) N0 (([] : (List dispatch_step)), false, 0)
def dp_Disabled (t : Tree) (id : Int) : Option Bool := (dp_steps t id).bind fun x1 => (gO (decide ((x1.length : Int) > 0)) (idxO x1 (IntKind.i64.wrap ((x1.length : Int) - 1)))).bind fun x2 => some ((decide ((x1.length : Int) > 0)) && x2.disabled)
end Go.Proofs.YtobiohcdpfpefaaDoor
end
section
namespace Go.Proofs.YtobiohcdpfpefaaDoor
open Go Go.E2
def slices_Index_Sl_int_int_L1 (p_s : (List Int)) (v : Int) (k2 : Unit → Option Int) (again4 : Int → Option Int) (s3 : Int) : Option Int := sel (decide (s3 < (p_s.length : Int))) ((idxO p_s s3).bind fun x6 => sel (v == x6) (some s3) (again4 (IntKind.i64.wrap (s3 + 1)))) (k2 ())
def slices_Index_Sl_int_int (p_s : (List Int)) (v : Int) : Option Int := jn (fun (_s1 : Unit) => some (-1)) fun k2 => loopK (slices_Index_Sl_int_int_L1 p_s v k2) N0 0
def slices_Contains_Sl_int_int (p_s : (List Int)) (v : Int) : Option Bool := (slices_Index_Sl_int_int p_s v).bind fun x1 => some (decide (x1 ≥ 0))
def ht_Shown_L1 (st : (List Styled)) (id : Int) (k5 : Unit → Option Bool) (again7 : Int → Option Bool) (s6 : Int) : Option Bool := sel (decide (s6 < (st.length : Int))) ((idxO st s6).bind fun x9 => sel (x9.ID == id) (some ((x9.Style 21) == 0)) (again7 (IntKind.i64.wrap (s6 + 1)))) (k5 ())
def ht_Shown (t : Tree) (st : (List Styled)) (id : Int) : Option Bool := (widgetry_layout_Shown t st).bind fun x1 => (slices_Contains_Sl_int_int x1 id).bind fun x2 => sel (!x2) (some false) (jn (fun (_s4 : Unit) => some false) fun k5 => loopK (ht_Shown_L1 st id k5) N0 0)
end Go.Proofs.YtobiohcdpfpefaaDoor
end
section
namespace Go.Proofs.YtobiohcdpfpefaaDoor
open Go Go.E2
def sc_Collect_L1 (t : Tree) (k18 : Int → Option (List Shortcut)) (x20 : (List Int)) (again22 : (Int × Int) → Option (List Shortcut)) (s21 : Int × Int) : Option (List Shortcut) := sel (decide (s21.1 < (x20.length : Int))) (jn (fun (s24 : Int) => again22 (IntKind.i64.wrap (s21.1 + 1), s24)) fun k25 => (idxO x20 s21.1).bind fun x26 => (vw_Find t x26).bind fun x27 => sel (x27.1.Kind == 12) (k25 x26) (k25 s21.2)) (k18 s21.2)
def sc_Collect_L2 (t : Tree) (st : (List Styled)) (k2 : (List Shortcut) → Option (List Shortcut)) (x3 : (List Int)) (again5 : ((List Shortcut) × Int) → Option (List Shortcut)) (s4 : (List Shortcut) × Int) : Option (List Shortcut) := sel (decide (s4.2 < (x3.length : Int))) (jn (fun (s7 : (List Shortcut)) => again5 (s7, IntKind.i64.wrap (s4.2 + 1))) fun k8 => (idxO x3 s4.2).bind fun x9 => (vw_Find t x9).bind fun x10 => (vw_Attr x10.1.Attrs (ByteArray.mk #[115, 104, 111, 114, 116, 99, 117, 116])).bind fun x11 => (gO (!((!x11.2) || (x11.1.Kind != 3))) (ht_Shown t st x9)).bind fun x12 => (gO (!(((!x11.2) || (x11.1.Kind != 3)) || (!x12))) (dp_Disabled t x9)).bind fun x13 => sel ((((!x11.2) || (x11.1.Kind != 3)) || (!x12)) || x13) (k8 s4.1) ((sc_Parse x11.1.S).bind fun x15 => sel (x15.2 != 0) (k8 s4.1) (jn (fun (s17 : Int) => (appO s4.1 ([(Shortcut.mk x9 s17 x15.1)])).bind fun x19 => k8 x19) fun k18 => (vw_Path t x9).bind fun x20 => loopK (sc_Collect_L1 t k18 x20) N0 (0, t.Root)))) (k2 s4.1)
def sc_Collect (t : Tree) (st : (List Styled)) : Option (List Shortcut) := jn (fun (s1 : (List Shortcut)) => some s1) fun k2 => (vw_Order t).bind fun x3 => loopK (sc_Collect_L2 t st k2 x3) N0 (([] : (List Shortcut)), 0)
end Go.Proofs.YtobiohcdpfpefaaDoor
end
section
namespace Go.Proofs.YtobiohcdpfpefaaDoor
open Go Go.E2
def r14_build_L1 (self0 : View → Int → Tree → Option Tree) (v : View) (t : Tree) (k3 : ((List Int) × Int × Int × (List Node)) → Option Tree) (again7 : ((List Int) × Int × Int × Int × (List Node)) → Option Tree) (s6 : (List Int) × Int × Int × Int × (List Node)) : Option Tree := sel (decide (s6.2.1 < (v.Kids.length : Int))) ((appO s6.1 ([s6.2.2.2.1])).bind fun x9 => (idxO v.Kids s6.2.1).bind fun x10 => (self0 x10 t.Next (Tree.mk s6.2.2.1 s6.2.2.2.1 s6.2.2.2.2)).bind fun x11 => again7 (x9, IntKind.i64.wrap (s6.2.1 + 1), x11.Root, x11.Next, x11.Nodes)) (k3 (s6.1, s6.2.2.1, s6.2.2.2.1, s6.2.2.2.2))
def r14_build_B (self0 : View → Int → Tree → Option Tree) (v : View) (parent : Int) (t : Tree) : Option Tree := (appO t.Nodes ([(Node.mk t.Next parent v.Kind v.Key v.Attrs v.Actions ([] : (List Int)))])).bind fun x1 => jn (fun (s2 : (List Int) × Int × Int × (List Node)) => (ixO s2.2.2.2.length (t.Nodes.length : Int)).bind fun x4 => (s2.2.2.2[x4]?).bind fun x5 => some (Tree.mk s2.2.1 s2.2.2.1 (List.set s2.2.2.2 x4 (Node.mk x5.ID x5.Parent x5.Kind x5.Key x5.Attrs x5.Actions s2.1)))) fun k3 => loopK (r14_build_L1 self0 v t k3) N0 (([] : (List Int)), 0, t.Root, IntKind.i64.wrap (t.Next + 1), x1)
def r14_build : Nat → View → Int → Tree → Option Tree
  | 0, _, _, _ => none
  | n + 1, v, parent, t => r14_build_B (r14_build n) v parent t
def r14_Build (v : View) (next : Int) : Option (Tree × Int) := (r14_Validate v).bind fun x1 => sel (x1 != 0) (some ((Tree.mk 0 0 ([] : (List Node))), x1)) (sel ((decide (next < 1)) || (decide (next > 1099511627376))) (some ((Tree.mk 0 0 ([] : (List Node))), 1)) ((r14_build N0 v 0 (Tree.mk next next ([] : (List Node)))).bind fun x4 => some (x4, 0)))
end Go.Proofs.YtobiohcdpfpefaaDoor
end
section
namespace Go.Proofs.YtobiohcdpfpefaaDoor
open Go Go.E2
def l32_ShortcutScopes_L1 (x7 : Tree × Int) (k10 : (List Styled) → Option Bool) (again21 : ((List Styled) × Int) → Option Bool) (s20 : (List Styled) × Int) : Option Bool := sel (decide (s20.2 < (x7.1.Nodes.length : Int))) ((idxO x7.1.Nodes s20.2).bind fun x23 => (r17_Initial).bind fun x24 => (appO s20.1 ([(Styled.mk x23.ID x24)])).bind fun x25 => again21 (x25, IntKind.i64.wrap (s20.2 + 1))) (k10 s20.1)
def l32_ShortcutScopes_L2 (depth : Int) (dialog : Bool) (k6 : (Int × (List Attr) × (List Action) × (List View)) → Option Bool) (again27 : (Int × Int × (List Attr) × (List Action) × (List View)) → Option Bool) (s26 : Int × Int × (List Attr) × (List Action) × (List View)) : Option Bool := sel (decide (s26.1 < (IntKind.i64.wrap (depth.tmod 5)))) (jn (fun (s29 : Int) => again27 (IntKind.i64.wrap (s26.1 + 1), s29, ([] : (List Attr)), ([] : (List Action)), [(View.mk s26.2.1 ByteArray.empty s26.2.2.1 s26.2.2.2.1 s26.2.2.2.2)])) fun k30 => sel dialog (k30 12) (k30 1)) (k6 (s26.2.1, s26.2.2.1, s26.2.2.2.1, s26.2.2.2.2))
def l32_ShortcutScopes (depth : Int) (dialog : Bool) (disabled : Bool) (hidden : Bool) : Option Bool := jn (fun (s1 : (List Attr)) => jn (fun (s3 : (List Attr)) => jn (fun (s5 : Int × (List Attr) × (List Action) × (List View)) => (r14_Build (View.mk s5.1 ByteArray.empty s5.2.1 s5.2.2.1 s5.2.2.2) 1).bind fun x7 => sel (x7.2 != 0) (some false) (jn (fun (s9 : (List Styled)) => (sc_Collect x7.1 s9).bind fun x11 => sel (hidden || disabled) ((gO ((x11.length : Int) == 0) l32_awake).bind fun x13 => some (((x11.length : Int) == 0) && x13)) (jn (fun (s14 : Int) => (gO ((x11.length : Int) == 1) (idxO x11 0)).bind fun x16 => (gO (((x11.length : Int) == 1) && (x16.Node == (IntKind.i64.wrap ((IntKind.i64.wrap (depth.tmod 5)) + 1)))) (idxO x11 0)).bind fun x17 => (gO ((((x11.length : Int) == 1) && (x16.Node == (IntKind.i64.wrap ((IntKind.i64.wrap (depth.tmod 5)) + 1)))) && (x17.Scope == s14)) l32_awake).bind fun x18 => some (((((x11.length : Int) == 1) && (x16.Node == (IntKind.i64.wrap ((IntKind.i64.wrap (depth.tmod 5)) + 1)))) && (x17.Scope == s14)) && x18)) fun k15 => sel (dialog && (decide ((IntKind.i64.wrap (depth.tmod 5)) > 0))) (k15 (IntKind.i64.wrap (depth.tmod 5))) (k15 1))) fun k10 => loopK (l32_ShortcutScopes_L1 x7 k10) N0 (([] : (List Styled)), 0))) fun k6 => loopK (l32_ShortcutScopes_L2 depth dialog k6) N0 (0, 3, s3, ([] : (List Action)), ([] : (List View)))) fun k4 => sel hidden ((appO ([(Attr.mk (ByteArray.mk #[104, 105, 100, 100, 101, 110]) (AValue.mk 2 1 ByteArray.empty ([] : (List AValue))))]) ([(Attr.mk (ByteArray.mk #[115, 104, 111, 114, 116, 99, 117, 116]) (AValue.mk 3 0 (ByteArray.mk #[99, 116, 114, 108, 43, 115]) ([] : (List AValue))))])).bind fun x33 => k4 x33) (k4 s1)) fun k2 => sel disabled ((appO ([(Attr.mk (ByteArray.mk #[100, 105, 115, 97, 98, 108, 101, 100]) (AValue.mk 2 1 ByteArray.empty ([] : (List AValue))))]) ([(Attr.mk (ByteArray.mk #[115, 104, 111, 114, 116, 99, 117, 116]) (AValue.mk 3 0 (ByteArray.mk #[99, 116, 114, 108, 43, 115]) ([] : (List AValue))))])).bind fun x35 => k2 x35) (k2 ([(Attr.mk (ByteArray.mk #[115, 104, 111, 114, 116, 99, 117, 116]) (AValue.mk 3 0 (ByteArray.mk #[99, 116, 114, 108, 43, 115]) ([] : (List AValue))))]))
end Go.Proofs.YtobiohcdpfpefaaDoor
end
section
set_option maxRecDepth 100000
namespace Go.Proofs.YtobiohcdpfpefaaDoor
open Go Go.E2
theorem r11_letter_c (c : Int) {r : Bool} (hr : r11_letter c = some r) : Con Tryd.prog 97 [.c (.d (.v (.int .u8 c)))] [] (.s (aB r)) [] := by
  unfold r11_letter at hr
  refine Con.of_ok 17 0 [.tmp 2] [(0, .s (.c (.d (.v (.int .u8 c)))))] Tryd.func97 rfl rfl rfl rfl rfl rfl rfl rfl fun w g M ρ _ => (Ok.seq (Ok.region (OkOps.y (aB false) (OkOps.nil (Ok.seq (Ok.region (OkOps.y (.c (.d (.v (.int .u8 c)))) (OkOps.y (aB (decide (c ≥ 97))) (OkOps.y (aB (decide (c ≥ 97))) (OkOps.q (triQG (x := .c (.d (.v (.int .u8 c)))) rfl rfl trivial rfl) (OkOps.q (triQG (x := aB (decide (c ≤ 122))) rfl rfl ⟨fun h => h, trivial⟩ rfl) (OkOps.q (triAnd rfl rfl (fun h => h) rfl) (OkOps.y (aB ((decide (c ≥ 97)) && (decide (c ≤ 122)))) (OkOps.q (triQG (x := .c (.d (.v (.int .u8 c)))) rfl rfl trivial rfl) (OkOps.q (triQG (x := aB (decide (c ≥ 65))) rfl rfl ⟨fun h => h, trivial⟩ rfl) ?_)))))))))))))))
  refine OkOps.q (triQG (x := aB (decide (c ≥ 65))) rfl rfl ⟨fun h => h, trivial⟩ rfl) (OkOps.q (triQG (x := .c (.d (.v (.int .u8 c)))) rfl rfl trivial rfl) (OkOps.q (triQG (x := aB (decide (c ≤ 90))) rfl rfl ⟨fun h => h, trivial⟩ rfl) ?_))
  refine OkOps.q (triAndG rfl rfl rfl (fun h => h) (fun h h2 => by rw [h, h2]; rfl) rfl) ?_
  refine OkOps.q (triOr rfl rfl (fun h => by rw [h]; rfl) rfl) ?_
  refine OkOps.y (aB (((decide (c ≥ 97)) && (decide (c ≤ 122))) || ((decide (c ≥ 65)) && (decide (c ≤ 90))))) (OkOps.nil (Ok.ret ?_))
  obtain rfl := Option.some.inj hr
  exact ⟨_, rfl, .inl rfl, trivial⟩
theorem r11_Name_c (p_s : Str) {r : Bool} (hr : r11_Name p_s = some r) : Con Tryd.prog 78 [aS p_s] [] (.s (aB r)) [] := by
  unfold r11_Name at hr
  refine Con.of_ok 53 0 [.tmp 2] [(0, .s (aS p_s))] Tryd.func78 rfl rfl rfl rfl rfl rfl rfl rfl fun w g M ρ _ => (Ok.seq (Ok.region (OkOps.y (aB false) (OkOps.nil (Ok.seq (Ok.seq (Ok.region (OkOps.y (aS p_s) (OkOps.y (aI (p_s.size : Int)) (OkOps.y (aB (decide ((p_s.size : Int) < 1))) (OkOps.y (aB (decide ((p_s.size : Int) < 1))) (OkOps.q (triQG (x := aS p_s) rfl rfl trivial rfl) (OkOps.q (triQG (x := aI (p_s.size : Int)) rfl rfl ⟨fun h => h, trivial⟩ rfl) (OkOps.q (triQG (x := aB (decide ((p_s.size : Int) > 24))) rfl rfl ⟨fun h => h, trivial⟩ rfl) ?_))))))))))))))
  refine OkOps.q (triOr rfl rfl (fun h => by rw [h]; rfl) rfl) ?_
  refine OkOps.y (aB ((decide ((p_s.size : Int) < 1)) || (decide ((p_s.size : Int) > 24)))) (OkOps.q (triQG (x := aS p_s) rfl rfl trivial rfl) ?_)
  obtain ⟨x1, hx1, hr⟩ := bind_some hr
  refine OkOps.q (triSIdxG (gO_t hx1) rfl rfl rfl rfl ⟨fun h => h, trivial⟩ rfl) ?_
  obtain ⟨x2, hx2, hr⟩ := bind_some hr
  refine OkOps.q (triCallG (x := aB x2) (fun hg => r11_letter_c _ (gO_t hx2 hg)) rfl rfl ⟨.inl rfl, trivial⟩ ⟨fun h => h, trivial⟩ entry97 rfl rfl rfl) (OkOps.q (triQG (x := aB (!x2)) rfl rfl ⟨fun h => h, trivial⟩ rfl) ?_)
  refine OkOps.q (triOr rfl rfl (fun h => by rw [h]; rfl) rfl) ?_
  refine OkOps.nil ?_
  refine Ok.cond (b := ((decide ((p_s.size : Int) < 1)) || (decide ((p_s.size : Int) > 24))) || (!x2)) rfl (fun h3 => ?_) (fun h3 => ?_)
  have hr := selT h3 hr
  refine Ok.seq (Ok.region (OkOps.y (aB false) (OkOps.nil (Ok.ret ?_))))
  obtain rfl := Option.some.inj hr
  exact ⟨_, rfl, .inl rfl, trivial⟩
  have hr := selF h3 hr
  refine Ok.skip ?_
  obtain ⟨k5, hk5, hr⟩ := jn_some hr
  refine Ok.join (fun (s4 : Unit) => ⟨[], [], 0⟩) k5 r (fun s4 hr => ?_) ?_
  rw [hk5] at hr
  refine Ok.seq (Ok.region (OkOps.y (aB true) (OkOps.nil (Ok.ret ?_))))
  obtain rfl := Option.some.inj hr
  exact ⟨_, rfl, .inl rfl, trivial⟩
  clear hk5
  refine Ok.seq (Ok.region (OkOps.y (aI 1) (OkOps.nil (Ok.block (Ok.loopK (fun (s6 : Int) => ⟨[(0, .s (aS p_s)), (3, .s (aI s6))], [], 0⟩) hr (Conv.mk (tau []) ⟨⟨_, rfl, .inl rfl⟩, ⟨_, rfl, .inl rfl⟩, trivial⟩ trivial rfl rfl rfl rfl) ?_)))))
  clear hr
  intro again7 s6 hr
  unfold r11_Name_L1 at hr
  refine Ok.seq (Ok.seq (Ok.region (OkOps.y (aI s6) (OkOps.y (aS p_s) (OkOps.y (aI (p_s.size : Int)) (OkOps.y (aB (decide (s6 < (p_s.size : Int)))) (OkOps.nil ?_)))))))
  refine Ok.cond (b := decide (s6 < (p_s.size : Int))) rfl (fun h8 => ?_) (fun h8 => ?_)
  have hr := selT h8 hr
  refine Ok.skip (Ok.seq (Ok.block (Ok.seq (Ok.region (OkOps.y (aS p_s) (OkOps.y (aI s6) ?_))))))
  obtain ⟨x9, hx9, hr⟩ := bind_some hr
  refine OkOps.q (triSIdx hx9 rfl rfl rfl trivial rfl) ?_
  obtain ⟨x10, hx10, hr⟩ := bind_some hr
  refine OkOps.q (triCl (tau []) (.s (aB x10)) [] (r11_letter_c _ hx10) rfl ⟨.inl rfl, trivial⟩ trivial entry97 trivial) (OkOps.y (aB (!x10)) (OkOps.y (aB (!x10)) (OkOps.q (triQG (x := aS p_s) rfl rfl trivial rfl) (OkOps.q (triQG (x := aI s6) rfl rfl trivial rfl) ?_))))
  obtain ⟨x11, hx11, hr⟩ := bind_some hr
  refine OkOps.q (triSIdxG (gO_t hx11) rfl rfl rfl rfl ⟨fun h => h, ⟨fun h => h, trivial⟩⟩ rfl) (OkOps.q (triQG (x := aB (decide (x11 < 48))) rfl rfl ⟨fun h => h, trivial⟩ rfl) (OkOps.q (triQG (x := aB (decide (x11 < 48))) rfl rfl ⟨fun h => h, trivial⟩ rfl) (OkOps.q (triQG (x := aS p_s) rfl rfl trivial rfl) (OkOps.q (triQG (x := aI s6) rfl rfl trivial rfl) ?_))))
  obtain ⟨x12, hx12, hr⟩ := bind_some hr
  refine OkOps.q (triSIdxG (gO_t hx12) rfl rfl rfl rfl ⟨fun h => h, ⟨fun h => h, trivial⟩⟩ rfl) (OkOps.q (triQG (x := aB (decide (x12 > 57))) rfl rfl ⟨fun h => h, trivial⟩ rfl) ?_)
  refine OkOps.q (triOrG rfl rfl rfl (fun h => h) (fun h h2 => by rw [h, h2]; rfl) rfl) ?_
  refine OkOps.q (triAnd rfl rfl (fun h => h) rfl) (OkOps.y (aB ((!x10) && ((decide (x11 < 48)) || (decide (x12 > 57))))) (OkOps.q (triQG (x := aS p_s) rfl rfl trivial rfl) (OkOps.q (triQG (x := aI s6) rfl rfl trivial rfl) ?_)))
  obtain ⟨x13, hx13, hr⟩ := bind_some hr
  refine OkOps.q (triSIdxG (gO_t hx13) rfl rfl rfl rfl ⟨fun h => h, ⟨fun h => h, trivial⟩⟩ rfl) (OkOps.q (triQG (x := aB (x13 != 45)) rfl rfl ⟨fun h => h, trivial⟩ rfl) (OkOps.q (triAnd rfl rfl (fun h => h) rfl) (OkOps.y (aB (((!x10) && ((decide (x11 < 48)) || (decide (x12 > 57)))) && (x13 != 45))) (OkOps.q (triQG (x := aS p_s) rfl rfl trivial rfl) (OkOps.q (triQG (x := aI s6) rfl rfl trivial rfl) ?_)))))
  obtain ⟨x14, hx14, hr⟩ := bind_some hr
  refine OkOps.q (triSIdxG (gO_t hx14) rfl rfl rfl rfl ⟨fun h => h, ⟨fun h => h, trivial⟩⟩ rfl) (OkOps.q (triQG (x := aB (x14 != 95)) rfl rfl ⟨fun h => h, trivial⟩ rfl) (OkOps.q (triAnd rfl rfl (fun h => h) rfl) (OkOps.nil ?_)))
  refine Ok.cond (b := (((!x10) && ((decide (x11 < 48)) || (decide (x12 > 57)))) && (x13 != 45)) && (x14 != 95)) rfl (fun h15 => ?_) (fun h15 => ?_)
  have hr := selT h15 hr
  refine Ok.seq (Ok.region (OkOps.y (aB false) (OkOps.nil (Ok.ret ?_))))
  obtain rfl := Option.some.inj hr
  exact ⟨_, rfl, .inl rfl, trivial⟩
  have hr := selF h15 hr
  refine Ok.skip (Ok.region (OkOps.y (aI s6) (OkOps.y (aI (IntKind.i64.wrap (s6 + 1))) (OkOps.y (aI (IntKind.i64.wrap (s6 + 1))) (OkOps.nil ?_)))))
  exact ⟨IntKind.i64.wrap (s6 + 1), hr, (Conv.mk (tau []) ⟨⟨_, rfl, .inl rfl⟩, ⟨_, rfl, .inl rfl⟩, trivial⟩ trivial rfl rfl rfl rfl)⟩
  have hr := selF h8 hr
  refine Ok.exit ?_
  exact ⟨(), hr, (Conv.mk (tau []) trivial trivial rfl rfl rfl rfl)⟩
theorem ex_Name_c (p_s : Str) {r : Bool} (hr : ex_Name p_s = some r) : Con Tryd.prog 123 [aS p_s] [] (.s (aB r)) [] := by
  unfold ex_Name at hr
  refine Con.of_ok 59 0 [.tmp 2] [(0, .s (aS p_s))] Tryd.func123 rfl rfl rfl rfl rfl rfl rfl rfl fun w g M ρ _ => (Ok.seq (Ok.region (OkOps.y (aB false) (OkOps.nil (Ok.seq (Ok.seq (Ok.region (OkOps.y (aS p_s) (OkOps.y (aI (p_s.size : Int)) (OkOps.y (aB ((p_s.size : Int) == 0)) (OkOps.y (aB ((p_s.size : Int) == 0)) (OkOps.q (triQG (x := aS p_s) rfl rfl trivial rfl) (OkOps.q (triQG (x := aI (p_s.size : Int)) rfl rfl ⟨fun h => h, trivial⟩ rfl) (OkOps.q (triQG (x := aB (decide ((p_s.size : Int) > 24))) rfl rfl ⟨fun h => h, trivial⟩ rfl) ?_))))))))))))))
  refine OkOps.q (triOr rfl rfl (fun h => by rw [h]; rfl) rfl) ?_
  refine OkOps.nil ?_
  refine Ok.cond (b := ((p_s.size : Int) == 0) || (decide ((p_s.size : Int) > 24))) rfl (fun h1 => ?_) (fun h1 => ?_)
  have hr := selT h1 hr
  refine Ok.seq (Ok.region (OkOps.y (aB false) (OkOps.nil (Ok.ret ?_))))
  obtain rfl := Option.some.inj hr
  exact ⟨_, rfl, .inl rfl, trivial⟩
  have hr := selF h1 hr
  refine Ok.skip ?_
  obtain ⟨k3, hk3, hr⟩ := jn_some hr
  refine Ok.join (fun (s2 : Unit) => ⟨[], [], 0⟩) k3 r (fun s2 hr => ?_) ?_
  rw [hk3] at hr
  refine Ok.seq (Ok.region (OkOps.y (aB true) (OkOps.nil (Ok.ret ?_))))
  obtain rfl := Option.some.inj hr
  exact ⟨_, rfl, .inl rfl, trivial⟩
  clear hk3
  refine Ok.seq (Ok.region (OkOps.y (aS p_s) (OkOps.y (aI (p_s.size : Int)) (OkOps.y (aI 0) (OkOps.nil (Ok.block (Ok.loopK (fun (s4 : Int) => ⟨[(0, .s (aS p_s)), (15, .s (aI (p_s.size : Int))), (16, .s (aI s4))], [], 0⟩) hr (Conv.mk (tau []) ⟨⟨_, rfl, .inl rfl⟩, ⟨_, rfl, .inl rfl⟩, ⟨_, rfl, .inl rfl⟩, trivial⟩ trivial rfl rfl rfl rfl) ?_)))))))
  clear hr
  intro again5 s4 hr
  unfold ex_Name_L1 at hr
  refine Ok.seq (Ok.region (OkOps.y (aB (decide (s4 < (p_s.size : Int)))) (OkOps.nil (Ok.seq ?_))))
  refine Ok.cond (b := decide (s4 < (p_s.size : Int))) rfl (fun h6 => ?_) (fun h6 => ?_)
  have hr := selT h6 hr
  refine Ok.skip (Ok.seq (Ok.block (Ok.seq (Ok.region (OkOps.y (aI s4) (OkOps.y (aI s4) (OkOps.nil (Ok.seq (Ok.region (OkOps.y (aS p_s) (OkOps.y (aI s4) ?_)))))))))))
  obtain ⟨x7, hx7, hr⟩ := bind_some hr
  refine OkOps.q (triSIdx hx7 rfl rfl rfl trivial rfl) (OkOps.y (.c (.d (.v (.int .u8 x7)))) (OkOps.nil (Ok.seq (Ok.region (OkOps.y (.c (.d (.v (.int .u8 x7)))) (OkOps.y (aB (decide (x7 ≥ 97))) (OkOps.y (aB (decide (x7 ≥ 97))) (OkOps.q (triQG (x := .c (.d (.v (.int .u8 x7)))) rfl rfl trivial rfl) (OkOps.q (triQG (x := aB (decide (x7 ≤ 122))) rfl rfl ⟨fun h => h, trivial⟩ rfl) (OkOps.q (triAnd rfl rfl (fun h => h) rfl) (OkOps.y (aB ((decide (x7 ≥ 97)) && (decide (x7 ≤ 122)))) (OkOps.q (triQG (x := .c (.d (.v (.int .u8 x7)))) rfl rfl trivial rfl) (OkOps.q (triQG (x := aB (decide (x7 ≥ 65))) rfl rfl ⟨fun h => h, trivial⟩ rfl) (OkOps.q (triQG (x := aB (decide (x7 ≥ 65))) rfl rfl ⟨fun h => h, trivial⟩ rfl) (OkOps.q (triQG (x := .c (.d (.v (.int .u8 x7)))) rfl rfl trivial rfl) ?_)))))))))))))))
  refine OkOps.q (triQG (x := aB (decide (x7 ≤ 90))) rfl rfl ⟨fun h => h, trivial⟩ rfl) ?_
  refine OkOps.q (triAndG rfl rfl rfl (fun h => h) (fun h h2 => by rw [h, h2]; rfl) rfl) ?_
  refine OkOps.q (triOr rfl rfl (fun h => by rw [h]; rfl) rfl) ?_
  refine OkOps.y (aB (((decide (x7 ≥ 97)) && (decide (x7 ≤ 122))) || ((decide (x7 ≥ 65)) && (decide (x7 ≤ 90))))) (OkOps.nil (Ok.seq (Ok.region (OkOps.y (aB (((decide (x7 ≥ 97)) && (decide (x7 ≤ 122))) || ((decide (x7 ≥ 65)) && (decide (x7 ≤ 90))))) (OkOps.y (aB (!(((decide (x7 ≥ 97)) && (decide (x7 ≤ 122))) || ((decide (x7 ≥ 65)) && (decide (x7 ≤ 90)))))) (OkOps.y (aB (!(((decide (x7 ≥ 97)) && (decide (x7 ≤ 122))) || ((decide (x7 ≥ 65)) && (decide (x7 ≤ 90)))))) (OkOps.q (triQG (x := aI s4) rfl rfl trivial rfl) (OkOps.q (triQG (x := aB (s4 == 0)) rfl rfl ⟨fun h => h, trivial⟩ rfl) (OkOps.q (triQG (x := aB (s4 == 0)) rfl rfl ⟨fun h => h, trivial⟩ rfl) (OkOps.q (triQG (x := .c (.d (.v (.int .u8 x7)))) rfl rfl trivial rfl) (OkOps.q (triQG (x := aB (decide (x7 < 48))) rfl rfl ⟨fun h => h, trivial⟩ rfl) (OkOps.q (triQG (x := aB (decide (x7 < 48))) rfl rfl ⟨fun h => h, trivial⟩ rfl) (OkOps.q (triQG (x := .c (.d (.v (.int .u8 x7)))) rfl rfl trivial rfl) (OkOps.q (triQG (x := aB (decide (x7 > 57))) rfl rfl ⟨fun h => h, trivial⟩ rfl) ?_))))))))))))))
  refine OkOps.q (triOrG rfl rfl rfl (fun h => h) (fun h h2 => by rw [h, h2]; rfl) rfl) ?_
  refine OkOps.q (triQG (x := aB ((decide (x7 < 48)) || (decide (x7 > 57)))) rfl rfl ⟨fun h => h, trivial⟩ rfl) (OkOps.q (triQG (x := .c (.d (.v (.int .u8 x7)))) rfl rfl trivial rfl) (OkOps.q (triQG (x := aB (x7 != 45)) rfl rfl ⟨fun h => h, trivial⟩ rfl) ?_))
  refine OkOps.q (triAndG rfl rfl rfl (fun h => h) (fun h h2 => by rw [h, h2]; rfl) rfl) ?_
  refine OkOps.q (triQG (x := aB (((decide (x7 < 48)) || (decide (x7 > 57))) && (x7 != 45))) rfl rfl ⟨fun h => h, trivial⟩ rfl) (OkOps.q (triQG (x := .c (.d (.v (.int .u8 x7)))) rfl rfl trivial rfl) (OkOps.q (triQG (x := aB (x7 != 95)) rfl rfl ⟨fun h => h, trivial⟩ rfl) ?_))
  refine OkOps.q (triAndG rfl rfl rfl (fun h => h) (fun h h2 => by rw [h, h2]; rfl) rfl) ?_
  refine OkOps.q (triOrG rfl rfl rfl (fun h => h) (fun h h2 => by rw [h, h2]; rfl) rfl) ?_
  refine OkOps.q (triAnd rfl rfl (fun h => h) rfl) (OkOps.nil ?_)
  refine Ok.cond (b := (!(((decide (x7 ≥ 97)) && (decide (x7 ≤ 122))) || ((decide (x7 ≥ 65)) && (decide (x7 ≤ 90))))) && ((s4 == 0) || ((((decide (x7 < 48)) || (decide (x7 > 57))) && (x7 != 45)) && (x7 != 95)))) rfl (fun h8 => ?_) (fun h8 => ?_)
  have hr := selT h8 hr
  refine Ok.seq (Ok.region (OkOps.y (aB false) (OkOps.nil (Ok.ret ?_))))
  obtain rfl := Option.some.inj hr
  exact ⟨_, rfl, .inl rfl, trivial⟩
  have hr := selF h8 hr
  refine Ok.skip (Ok.region (OkOps.y (aI (IntKind.i64.wrap (s4 + 1))) (OkOps.y (aI (IntKind.i64.wrap (s4 + 1))) (OkOps.nil ?_))))
  exact ⟨IntKind.i64.wrap (s4 + 1), hr, (Conv.mk (tau []) ⟨⟨_, rfl, .inl rfl⟩, ⟨_, rfl, .inl rfl⟩, ⟨_, rfl, .inl rfl⟩, trivial⟩ trivial rfl rfl rfl rfl)⟩
  have hr := selF h6 hr
  refine Ok.exit ?_
  exact ⟨(), hr, (Conv.mk (tau []) trivial trivial rfl rfl rfl rfl)⟩
theorem r13_Key_c (p_s : Str) {r : Bool} (hr : r13_Key p_s = some r) : Con Tryd.prog 96 [aS p_s] [] (.s (aB r)) [] := by
  unfold r13_Key at hr
  refine Con.of_ok 47 0 [.tmp 2] [(0, .s (aS p_s))] Tryd.func96 rfl rfl rfl rfl rfl rfl rfl rfl fun w g M ρ _ => (Ok.seq (Ok.region (OkOps.y (aB false) (OkOps.nil ?_))))
  obtain ⟨k2, hk2, hr⟩ := jn_some hr
  refine Ok.join (fun (s1 : Unit) => ⟨[(0, .s (aS p_s))], [], 0⟩) k2 r (fun s1 hr => ?_) ?_
  rw [hk2] at hr
  refine Ok.seq (Ok.region (OkOps.y (aS p_s) (OkOps.y (aI (p_s.size : Int)) (OkOps.y (aB (decide ((p_s.size : Int) ≤ 24))) (OkOps.y (aB (decide ((p_s.size : Int) ≤ 24))) (OkOps.nil (Ok.ret ?_)))))))
  obtain rfl := Option.some.inj hr
  exact ⟨_, rfl, .inl rfl, trivial⟩
  clear hk2
  refine Ok.seq (Ok.region (OkOps.y (aI 0) (OkOps.nil (Ok.block (Ok.loopK (fun (s3 : Int) => ⟨[(0, .s (aS p_s)), (3, .s (aI s3))], [], 0⟩) hr (Conv.mk (tau []) ⟨⟨_, rfl, .inl rfl⟩, ⟨_, rfl, .inl rfl⟩, trivial⟩ trivial rfl rfl rfl rfl) ?_)))))
  clear hr
  intro again4 s3 hr
  unfold r13_Key_L1 at hr
  refine Ok.seq (Ok.seq (Ok.region (OkOps.y (aI s3) (OkOps.y (aS p_s) (OkOps.y (aI (p_s.size : Int)) (OkOps.y (aB (decide (s3 < (p_s.size : Int)))) (OkOps.nil ?_)))))))
  refine Ok.cond (b := decide (s3 < (p_s.size : Int))) rfl (fun h5 => ?_) (fun h5 => ?_)
  have hr := selT h5 hr
  refine Ok.skip (Ok.seq (Ok.block (Ok.seq (Ok.region (OkOps.y (aS p_s) (OkOps.y (aI s3) ?_))))))
  obtain ⟨x6, hx6, hr⟩ := bind_some hr
  refine OkOps.q (triSIdx hx6 rfl rfl rfl trivial rfl) (OkOps.y (.c (.d (.v (.int .u8 x6)))) (OkOps.nil (Ok.seq (Ok.region (OkOps.y (.c (.d (.v (.int .u8 x6)))) (OkOps.y (aB (decide (x6 < 97))) (OkOps.y (aB (decide (x6 < 97))) (OkOps.q (triQG (x := .c (.d (.v (.int .u8 x6)))) rfl rfl trivial rfl) (OkOps.q (triQG (x := aB (decide (x6 > 122))) rfl rfl ⟨fun h => h, trivial⟩ rfl) ?_)))))))))
  refine OkOps.q (triOr rfl rfl (fun h => by rw [h]; rfl) rfl) ?_
  refine OkOps.y (aB ((decide (x6 < 97)) || (decide (x6 > 122)))) (OkOps.q (triQG (x := .c (.d (.v (.int .u8 x6)))) rfl rfl trivial rfl) (OkOps.q (triQG (x := aB (decide (x6 < 65))) rfl rfl ⟨fun h => h, trivial⟩ rfl) (OkOps.q (triQG (x := aB (decide (x6 < 65))) rfl rfl ⟨fun h => h, trivial⟩ rfl) (OkOps.q (triQG (x := .c (.d (.v (.int .u8 x6)))) rfl rfl trivial rfl) (OkOps.q (triQG (x := aB (decide (x6 > 90))) rfl rfl ⟨fun h => h, trivial⟩ rfl) ?_)))))
  refine OkOps.q (triOrG rfl rfl rfl (fun h => h) (fun h h2 => by rw [h, h2]; rfl) rfl) ?_
  refine OkOps.q (triAnd rfl rfl (fun h => h) rfl) (OkOps.y (aB (((decide (x6 < 97)) || (decide (x6 > 122))) && ((decide (x6 < 65)) || (decide (x6 > 90))))) (OkOps.q (triQG (x := .c (.d (.v (.int .u8 x6)))) rfl rfl trivial rfl) (OkOps.q (triQG (x := aB (decide (x6 < 48))) rfl rfl ⟨fun h => h, trivial⟩ rfl) (OkOps.q (triQG (x := aB (decide (x6 < 48))) rfl rfl ⟨fun h => h, trivial⟩ rfl) (OkOps.q (triQG (x := .c (.d (.v (.int .u8 x6)))) rfl rfl trivial rfl) (OkOps.q (triQG (x := aB (decide (x6 > 57))) rfl rfl ⟨fun h => h, trivial⟩ rfl) ?_))))))
  refine OkOps.q (triOrG rfl rfl rfl (fun h => h) (fun h h2 => by rw [h, h2]; rfl) rfl) ?_
  refine OkOps.q (triAnd rfl rfl (fun h => h) rfl) (OkOps.y (aB ((((decide (x6 < 97)) || (decide (x6 > 122))) && ((decide (x6 < 65)) || (decide (x6 > 90)))) && ((decide (x6 < 48)) || (decide (x6 > 57))))) (OkOps.q (triQG (x := .c (.d (.v (.int .u8 x6)))) rfl rfl trivial rfl) (OkOps.q (triQG (x := aB (x6 != 45)) rfl rfl ⟨fun h => h, trivial⟩ rfl) (OkOps.q (triAnd rfl rfl (fun h => h) rfl) (OkOps.y (aB (((((decide (x6 < 97)) || (decide (x6 > 122))) && ((decide (x6 < 65)) || (decide (x6 > 90)))) && ((decide (x6 < 48)) || (decide (x6 > 57)))) && (x6 != 45))) (OkOps.q (triQG (x := .c (.d (.v (.int .u8 x6)))) rfl rfl trivial rfl) (OkOps.q (triQG (x := aB (x6 != 95)) rfl rfl ⟨fun h => h, trivial⟩ rfl) (OkOps.q (triAnd rfl rfl (fun h => h) rfl) (OkOps.nil ?_)))))))))
  refine Ok.cond (b := (((((decide (x6 < 97)) || (decide (x6 > 122))) && ((decide (x6 < 65)) || (decide (x6 > 90)))) && ((decide (x6 < 48)) || (decide (x6 > 57)))) && (x6 != 45)) && (x6 != 95)) rfl (fun h7 => ?_) (fun h7 => ?_)
  have hr := selT h7 hr
  refine Ok.seq (Ok.region (OkOps.y (aB false) (OkOps.nil (Ok.ret ?_))))
  obtain rfl := Option.some.inj hr
  exact ⟨_, rfl, .inl rfl, trivial⟩
  have hr := selF h7 hr
  refine Ok.skip (Ok.region (OkOps.y (aI s3) (OkOps.y (aI (IntKind.i64.wrap (s3 + 1))) (OkOps.y (aI (IntKind.i64.wrap (s3 + 1))) (OkOps.nil ?_)))))
  exact ⟨IntKind.i64.wrap (s3 + 1), hr, (Conv.mk (tau []) ⟨⟨_, rfl, .inl rfl⟩, ⟨_, rfl, .inl rfl⟩, trivial⟩ trivial rfl rfl rfl rfl)⟩
  have hr := selF h5 hr
  refine Ok.exit ?_
  exact ⟨(), hr, (Conv.mk (tau []) ⟨⟨_, rfl, .inl rfl⟩, trivial⟩ trivial rfl rfl rfl rfl)⟩
theorem r14_Key_c (p_s : Str) {r : Bool} (hr : r14_Key p_s = some r) : Con Tryd.prog 77 [aS p_s] [] (.s (aB r)) [] := by
  unfold r14_Key at hr
  refine Con.of_ok 5 0 [.tmp 2] [(0, .s (aS p_s))] Tryd.func77 rfl rfl rfl rfl rfl rfl rfl rfl fun w g M ρ _ => (Ok.seq (Ok.region (OkOps.y (aB false) (OkOps.nil (Ok.seq (Ok.region (OkOps.y (aS p_s) ?_)))))))
  obtain ⟨x1, hx1, hr⟩ := bind_some hr
  refine OkOps.q (triCl (tau []) (.s (aB x1)) [] (r13_Key_c _ hx1) rfl ⟨.inl rfl, trivial⟩ trivial entry96 trivial) (OkOps.y (aB x1) (OkOps.nil (Ok.ret ?_)))
  obtain rfl := Option.some.inj hr
  exact ⟨_, rfl, .inl rfl, trivial⟩
theorem vw_Key_c (p_s : Str) {r : Bool} (hr : vw_Key p_s = some r) : Con Tryd.prog 120 [aS p_s] [] (.s (aB r)) [] := by
  unfold vw_Key at hr
  refine Con.of_ok 47 0 [.tmp 2] [(0, .s (aS p_s))] Tryd.func120 rfl rfl rfl rfl rfl rfl rfl rfl fun w g M ρ _ => (Ok.seq (Ok.region (OkOps.y (aB false) (OkOps.nil ?_))))
  obtain ⟨k2, hk2, hr⟩ := jn_some hr
  refine Ok.join (fun (s1 : Unit) => ⟨[(0, .s (aS p_s))], [], 0⟩) k2 r (fun s1 hr => ?_) ?_
  rw [hk2] at hr
  refine Ok.seq (Ok.region (OkOps.y (aS p_s) (OkOps.y (aI (p_s.size : Int)) (OkOps.y (aB (decide ((p_s.size : Int) ≤ 24))) (OkOps.y (aB (decide ((p_s.size : Int) ≤ 24))) (OkOps.nil (Ok.ret ?_)))))))
  obtain rfl := Option.some.inj hr
  exact ⟨_, rfl, .inl rfl, trivial⟩
  clear hk2
  refine Ok.seq (Ok.region (OkOps.y (aS p_s) (OkOps.y (aI (p_s.size : Int)) (OkOps.y (aI 0) (OkOps.nil (Ok.block (Ok.loopK (fun (s3 : Int) => ⟨[(0, .s (aS p_s)), (6, .s (aI (p_s.size : Int))), (7, .s (aI s3))], [], 0⟩) hr (Conv.mk (tau []) ⟨⟨_, rfl, .inl rfl⟩, ⟨_, rfl, .inl rfl⟩, ⟨_, rfl, .inl rfl⟩, trivial⟩ trivial rfl rfl rfl rfl) ?_)))))))
  clear hr
  intro again4 s3 hr
  unfold vw_Key_L1 at hr
  refine Ok.seq (Ok.region (OkOps.y (aB (decide (s3 < (p_s.size : Int)))) (OkOps.nil (Ok.seq ?_))))
  refine Ok.cond (b := decide (s3 < (p_s.size : Int))) rfl (fun h5 => ?_) (fun h5 => ?_)
  have hr := selT h5 hr
  refine Ok.skip (Ok.seq (Ok.block (Ok.seq (Ok.region (OkOps.y (aI s3) (OkOps.y (aI s3) (OkOps.nil (Ok.seq (Ok.region (OkOps.y (aS p_s) (OkOps.y (aI s3) ?_)))))))))))
  obtain ⟨x6, hx6, hr⟩ := bind_some hr
  refine OkOps.q (triSIdx hx6 rfl rfl rfl trivial rfl) (OkOps.y (.c (.d (.v (.int .u8 x6)))) (OkOps.nil (Ok.seq (Ok.region (OkOps.y (.c (.d (.v (.int .u8 x6)))) (OkOps.y (aB (decide (x6 < 97))) (OkOps.y (aB (decide (x6 < 97))) (OkOps.q (triQG (x := .c (.d (.v (.int .u8 x6)))) rfl rfl trivial rfl) (OkOps.q (triQG (x := aB (decide (x6 > 122))) rfl rfl ⟨fun h => h, trivial⟩ rfl) ?_)))))))))
  refine OkOps.q (triOr rfl rfl (fun h => by rw [h]; rfl) rfl) ?_
  refine OkOps.y (aB ((decide (x6 < 97)) || (decide (x6 > 122)))) (OkOps.q (triQG (x := .c (.d (.v (.int .u8 x6)))) rfl rfl trivial rfl) (OkOps.q (triQG (x := aB (decide (x6 < 65))) rfl rfl ⟨fun h => h, trivial⟩ rfl) (OkOps.q (triQG (x := aB (decide (x6 < 65))) rfl rfl ⟨fun h => h, trivial⟩ rfl) (OkOps.q (triQG (x := .c (.d (.v (.int .u8 x6)))) rfl rfl trivial rfl) (OkOps.q (triQG (x := aB (decide (x6 > 90))) rfl rfl ⟨fun h => h, trivial⟩ rfl) ?_)))))
  refine OkOps.q (triOrG rfl rfl rfl (fun h => h) (fun h h2 => by rw [h, h2]; rfl) rfl) ?_
  refine OkOps.q (triAnd rfl rfl (fun h => h) rfl) (OkOps.y (aB (((decide (x6 < 97)) || (decide (x6 > 122))) && ((decide (x6 < 65)) || (decide (x6 > 90))))) (OkOps.q (triQG (x := .c (.d (.v (.int .u8 x6)))) rfl rfl trivial rfl) (OkOps.q (triQG (x := aB (decide (x6 < 48))) rfl rfl ⟨fun h => h, trivial⟩ rfl) (OkOps.q (triQG (x := aB (decide (x6 < 48))) rfl rfl ⟨fun h => h, trivial⟩ rfl) (OkOps.q (triQG (x := .c (.d (.v (.int .u8 x6)))) rfl rfl trivial rfl) (OkOps.q (triQG (x := aB (decide (x6 > 57))) rfl rfl ⟨fun h => h, trivial⟩ rfl) ?_))))))
  refine OkOps.q (triOrG rfl rfl rfl (fun h => h) (fun h h2 => by rw [h, h2]; rfl) rfl) ?_
  refine OkOps.q (triAnd rfl rfl (fun h => h) rfl) (OkOps.y (aB ((((decide (x6 < 97)) || (decide (x6 > 122))) && ((decide (x6 < 65)) || (decide (x6 > 90)))) && ((decide (x6 < 48)) || (decide (x6 > 57))))) (OkOps.q (triQG (x := .c (.d (.v (.int .u8 x6)))) rfl rfl trivial rfl) (OkOps.q (triQG (x := aB (x6 != 45)) rfl rfl ⟨fun h => h, trivial⟩ rfl) (OkOps.q (triAnd rfl rfl (fun h => h) rfl) (OkOps.y (aB (((((decide (x6 < 97)) || (decide (x6 > 122))) && ((decide (x6 < 65)) || (decide (x6 > 90)))) && ((decide (x6 < 48)) || (decide (x6 > 57)))) && (x6 != 45))) (OkOps.q (triQG (x := .c (.d (.v (.int .u8 x6)))) rfl rfl trivial rfl) (OkOps.q (triQG (x := aB (x6 != 95)) rfl rfl ⟨fun h => h, trivial⟩ rfl) (OkOps.q (triAnd rfl rfl (fun h => h) rfl) (OkOps.nil ?_)))))))))
  refine Ok.cond (b := (((((decide (x6 < 97)) || (decide (x6 > 122))) && ((decide (x6 < 65)) || (decide (x6 > 90)))) && ((decide (x6 < 48)) || (decide (x6 > 57)))) && (x6 != 45)) && (x6 != 95)) rfl (fun h7 => ?_) (fun h7 => ?_)
  have hr := selT h7 hr
  refine Ok.seq (Ok.region (OkOps.y (aB false) (OkOps.nil (Ok.ret ?_))))
  obtain rfl := Option.some.inj hr
  exact ⟨_, rfl, .inl rfl, trivial⟩
  have hr := selF h7 hr
  refine Ok.skip (Ok.region (OkOps.y (aI (IntKind.i64.wrap (s3 + 1))) (OkOps.y (aI (IntKind.i64.wrap (s3 + 1))) (OkOps.nil ?_))))
  exact ⟨IntKind.i64.wrap (s3 + 1), hr, (Conv.mk (tau []) ⟨⟨_, rfl, .inl rfl⟩, ⟨_, rfl, .inl rfl⟩, ⟨_, rfl, .inl rfl⟩, trivial⟩ trivial rfl rfl rfl rfl)⟩
  have hr := selF h5 hr
  refine Ok.exit ?_
  exact ⟨(), hr, (Conv.mk (tau []) ⟨⟨_, rfl, .inl rfl⟩, trivial⟩ trivial rfl rfl rfl rfl)⟩
theorem r11_UTF8_c (p_s : Str) {r : Bool} (hr : r11_UTF8 p_s = some r) : Con Tryd.prog 118 [aS p_s] [] (.s (aB r)) [] := by
  unfold r11_UTF8 at hr
  refine Con.of_ok 8 0 [.tmp 2] [(0, .s (aS p_s))] Tryd.func118 rfl rfl rfl rfl rfl rfl rfl rfl fun w g M ρ _ => (Ok.seq (Ok.region (OkOps.y (aB false) (OkOps.nil (Ok.seq (Ok.region (OkOps.y (aS p_s) (OkOps.q (triRunes rfl rfl trivial rfl) (OkOps.q (triOfRunes (L := runes p_s) rfl rfl trivial rfl) (OkOps.y (aS p_s) (OkOps.y (aB ((ofRunes (runes p_s)).toList == p_s.toList)) (OkOps.y (aB ((ofRunes (runes p_s)).toList == p_s.toList)) (OkOps.nil (Ok.ret ?_))))))))))))))
  obtain rfl := Option.some.inj hr
  exact ⟨_, rfl, .inl rfl, trivial⟩
theorem ex_fields_c (v : AValue) {r : Bool} (hr : ex_fields v = some r) : Con Tryd.prog 128 [.agg [cI v.Kind, cI v.N, cS v.S, .d (.sl (List.map AValue.cs v.L))]] [] (.s (aB r)) [] := by
  unfold ex_fields at hr
  refine Con.of_ok 38 0 [.tmp 2] [(0, .s (.agg [cI v.Kind, cI v.N, cS v.S, .d (.sl (List.map AValue.cs v.L))]))] Tryd.func128 rfl rfl rfl rfl rfl rfl rfl rfl fun w g M ρ _ => (Ok.seq (Ok.region (OkOps.m 0 (triBox (j := 0) (cs := [cI v.Kind, cI v.N, cS v.S, .d (.sl (List.map AValue.cs v.L))]) rfl rfl rfl rfl rfl) (OkOps.y (aB false) (OkOps.nil (Ok.seq (Ok.seq (Ok.region (OkOps.y (.c (.loc 0 0)) (OkOps.y (aI v.Kind) (OkOps.nil (Ok.block ?_))))))))))))
  obtain ⟨k2, hk2, hr⟩ := jn_some hr
  refine Ok.join (fun (s1 : Bool) => ⟨[(1, .s (.c (.loc 0 0))), (4, .s (aI v.Kind)), (5, .s (aB s1))], [(0, .blk [cI v.Kind, cI v.N, cS v.S, .d (.sl (List.map AValue.cs v.L))] 47)], 0⟩) k2 r (fun s1 hr => ?_) ?_
  rw [hk2] at hr
  refine Ok.cond (b := s1) rfl (fun h3 => ?_) (fun h3 => ?_)
  have hr := selT h3 hr
  refine Ok.seq (Ok.region (OkOps.y (.c (.loc 0 2)) (OkOps.y (aS v.S) (OkOps.y (aB (v.S.toList == (ByteArray.mk #[]).toList)) (OkOps.y (aB (v.S.toList == (ByteArray.mk #[]).toList)) (OkOps.q (triQG (x := .c (.loc 0 3)) rfl rfl trivial rfl) (OkOps.q (triQG (x := .c (.d (.sl (List.map AValue.cs v.L)))) rfl rfl ⟨fun h => h, trivial⟩ rfl) (OkOps.q (triLenG (enc := AValue.cs) v.L rfl rfl rfl ⟨fun h => h, trivial⟩ rfl) (OkOps.q (triQG (x := aB ((v.L.length : Int) == 0)) rfl rfl ⟨fun h => h, trivial⟩ rfl) (OkOps.q (triAnd rfl rfl (fun h => h) rfl) (OkOps.y (aB ((v.S.toList == (ByteArray.mk #[]).toList) && ((v.L.length : Int) == 0))) (OkOps.nil (Ok.ret ?_)))))))))))))
  obtain rfl := Option.some.inj hr
  exact ⟨_, rfl, .inl rfl, trivial⟩
  have hr := selF h3 hr
  refine Ok.seq (Ok.region (OkOps.y (aB (v.Kind == 3)) (OkOps.y (aB (v.Kind == 3)) (OkOps.nil ?_))))
  refine Ok.cond (b := v.Kind == 3) rfl (fun h4 => ?_) (fun h4 => ?_)
  have hr := selT h4 hr
  refine Ok.seq (Ok.region (OkOps.y (.c (.loc 0 1)) (OkOps.y (aI v.N) (OkOps.y (aB (v.N == 0)) (OkOps.y (aB (v.N == 0)) (OkOps.q (triQG (x := .c (.loc 0 3)) rfl rfl trivial rfl) (OkOps.q (triQG (x := .c (.d (.sl (List.map AValue.cs v.L)))) rfl rfl ⟨fun h => h, trivial⟩ rfl) (OkOps.q (triLenG (enc := AValue.cs) v.L rfl rfl rfl ⟨fun h => h, trivial⟩ rfl) (OkOps.q (triQG (x := aB ((v.L.length : Int) == 0)) rfl rfl ⟨fun h => h, trivial⟩ rfl) (OkOps.q (triAnd rfl rfl (fun h => h) rfl) (OkOps.y (aB ((v.N == 0) && ((v.L.length : Int) == 0))) (OkOps.nil (Ok.ret ?_)))))))))))))
  obtain rfl := Option.some.inj hr
  exact ⟨_, rfl, .inl rfl, trivial⟩
  have hr := selF h4 hr
  refine Ok.seq (Ok.region (OkOps.y (aB (v.Kind == 4)) (OkOps.y (aB (v.Kind == 4)) (OkOps.nil ?_))))
  refine Ok.cond (b := v.Kind == 4) rfl (fun h5 => ?_) (fun h5 => ?_)
  have hr := selT h5 hr
  refine Ok.seq (Ok.region (OkOps.y (.c (.loc 0 1)) (OkOps.y (aI v.N) (OkOps.y (aB (v.N == 0)) (OkOps.y (aB (v.N == 0)) (OkOps.q (triQG (x := .c (.loc 0 2)) rfl rfl trivial rfl) (OkOps.q (triQG (x := aS v.S) rfl rfl ⟨fun h => h, trivial⟩ rfl) (OkOps.q (triQG (x := aB (v.S.toList == (ByteArray.mk #[]).toList)) rfl rfl ⟨fun h => h, trivial⟩ rfl) (OkOps.q (triAnd rfl rfl (fun h => h) rfl) (OkOps.y (aB ((v.N == 0) && (v.S.toList == (ByteArray.mk #[]).toList))) (OkOps.nil (Ok.ret ?_))))))))))))
  obtain rfl := Option.some.inj hr
  exact ⟨_, rfl, .inl rfl, trivial⟩
  have hr := selF h5 hr
  refine Ok.skip (Ok.seq (Ok.region (OkOps.y (aB false) (OkOps.nil (Ok.ret ?_)))))
  obtain rfl := Option.some.inj hr
  exact ⟨_, rfl, .inl rfl, trivial⟩
  clear hk2
  refine Ok.seq (Ok.region (OkOps.y (aB (v.Kind == 1)) (OkOps.y (aB (v.Kind == 1)) (OkOps.nil ?_))))
  refine Ok.cond (b := v.Kind == 1) rfl (fun h6 => ?_) (fun h6 => ?_)
  have hr := selT h6 hr
  refine Ok.skip ?_
  exact ⟨v.Kind == 1, hr, (Conv.mk (tau []) ⟨⟨_, rfl, .inl rfl⟩, ⟨_, rfl, .inl rfl⟩, ⟨_, rfl, .inl rfl⟩, trivial⟩ ⟨rfl, trivial⟩ rfl rfl rfl rfl)⟩
  have hr := selF h6 hr
  refine Ok.region (OkOps.y (aB (v.Kind == 2)) (OkOps.y (aB (v.Kind == 2)) (OkOps.nil ?_)))
  exact ⟨v.Kind == 2, hr, (Conv.mk (tau []) ⟨⟨_, rfl, .inl rfl⟩, ⟨_, rfl, .inl rfl⟩, ⟨_, rfl, .inl rfl⟩, trivial⟩ ⟨rfl, trivial⟩ rfl rfl rfl rfl)⟩
theorem ex_within_c (p_n : Int) {r : Bool} (hr : ex_within p_n = some r) : Con Tryd.prog 129 [aI p_n] [] (.s (aB r)) [] := by
  unfold ex_within at hr
  refine Con.of_ok 9 0 [.tmp 2] [(0, .s (aI p_n))] Tryd.func129 rfl rfl rfl rfl rfl rfl rfl rfl fun w g M ρ _ => (Ok.seq (Ok.region (OkOps.y (aB false) (OkOps.nil (Ok.seq (Ok.region (OkOps.y (aI p_n) (OkOps.y (aB (decide (p_n ≥ (-1099511627776)))) (OkOps.y (aB (decide (p_n ≥ (-1099511627776)))) (OkOps.q (triQG (x := aI p_n) rfl rfl trivial rfl) (OkOps.q (triQG (x := aB (decide (p_n ≤ 1099511627776))) rfl rfl ⟨fun h => h, trivial⟩ rfl) (OkOps.q (triAnd rfl rfl (fun h => h) rfl) (OkOps.y (aB ((decide (p_n ≥ (-1099511627776))) && (decide (p_n ≤ 1099511627776)))) (OkOps.nil (Ok.ret ?_)))))))))))))))
  obtain rfl := Option.some.inj hr
  exact ⟨_, rfl, .inl rfl, trivial⟩
theorem unicode_utf8_word_string_c (p_s : Str) {r : Int} (hr : unicode_utf8_word_string p_s = some r) : Con Tryd.prog 133 [aS p_s] [] (.s (.c (.d (.v (.int .u64 r))))) [] := by
  unfold unicode_utf8_word_string at hr
  refine Con.of_ok 59 0 [.tmp 2] [(0, .s (aS p_s))] Tryd.func133 rfl rfl rfl rfl rfl rfl rfl rfl fun w g M ρ _ => (Ok.seq (Ok.region (OkOps.y (.c (.d (.v (.int .u64 0)))) (OkOps.nil (Ok.seq ?_)))))
  refine Ok.cond (b := false) rfl (fun h => by cases h) (fun _ => ?_)
  refine Ok.skip (Ok.seq (Ok.regionD (by kernel_rfl) (OkD.x (aS p_s) rfl trivial rfl ?_)))
  obtain ⟨x2, hx2, hr⟩ := bind_some hr
  refine OkD.q (triSIdx hx2 rfl rfl rfl trivial rfl) (OkD.x (.c (.d (.v (.int .u64 (IntKind.u64.wrap x2))))) rfl trivial rfl (OkD.x (aS p_s) rfl trivial rfl ?_))
  obtain ⟨x3, hx3, hr⟩ := bind_some hr
  refine OkD.q (triSIdx hx3 rfl rfl rfl trivial rfl) (OkD.x (.c (.d (.v (.int .u64 (IntKind.u64.wrap x3))))) rfl trivial rfl (OkD.x (.c (.d (.v (.int .u64 (bShl .u64 (IntKind.u64.wrap x3) 8))))) rfl trivial rfl (OkD.x (.c (.d (.v (.int .u64 (bOr .u64 (IntKind.u64.wrap x2) (bShl .u64 (IntKind.u64.wrap x3) 8)))))) rfl trivial rfl (OkD.x (aS p_s) rfl trivial rfl ?_))))
  obtain ⟨x4, hx4, hr⟩ := bind_some hr
  refine OkD.q (triSIdx hx4 rfl rfl rfl trivial rfl) (OkD.x (.c (.d (.v (.int .u64 (IntKind.u64.wrap x4))))) rfl trivial rfl (OkD.x (.c (.d (.v (.int .u64 (bShl .u64 (IntKind.u64.wrap x4) 16))))) rfl trivial rfl (OkD.x (.c (.d (.v (.int .u64 (bOr .u64 (bOr .u64 (IntKind.u64.wrap x2) (bShl .u64 (IntKind.u64.wrap x3) 8)) (bShl .u64 (IntKind.u64.wrap x4) 16)))))) rfl trivial rfl (OkD.x (aS p_s) rfl trivial rfl ?_))))
  obtain ⟨x5, hx5, hr⟩ := bind_some hr
  refine OkD.q (triSIdx hx5 rfl rfl rfl trivial rfl) (OkD.x (.c (.d (.v (.int .u64 (IntKind.u64.wrap x5))))) rfl trivial rfl (OkD.x (.c (.d (.v (.int .u64 (bShl .u64 (IntKind.u64.wrap x5) 24))))) rfl trivial rfl (OkD.x (.c (.d (.v (.int .u64 (bOr .u64 (bOr .u64 (bOr .u64 (IntKind.u64.wrap x2) (bShl .u64 (IntKind.u64.wrap x3) 8)) (bShl .u64 (IntKind.u64.wrap x4) 16)) (bShl .u64 (IntKind.u64.wrap x5) 24)))))) rfl trivial rfl (OkD.x (aS p_s) rfl trivial rfl ?_))))
  obtain ⟨x6, hx6, hr⟩ := bind_some hr
  refine OkD.q (triSIdx hx6 rfl rfl rfl trivial rfl) (OkD.x (.c (.d (.v (.int .u64 (IntKind.u64.wrap x6))))) rfl trivial rfl (OkD.x (.c (.d (.v (.int .u64 (bShl .u64 (IntKind.u64.wrap x6) 32))))) rfl trivial rfl (OkD.x (.c (.d (.v (.int .u64 (bOr .u64 (bOr .u64 (bOr .u64 (bOr .u64 (IntKind.u64.wrap x2) (bShl .u64 (IntKind.u64.wrap x3) 8)) (bShl .u64 (IntKind.u64.wrap x4) 16)) (bShl .u64 (IntKind.u64.wrap x5) 24)) (bShl .u64 (IntKind.u64.wrap x6) 32)))))) rfl trivial rfl (OkD.x (aS p_s) rfl trivial rfl ?_))))
  obtain ⟨x7, hx7, hr⟩ := bind_some hr
  refine OkD.q (triSIdx hx7 rfl rfl rfl trivial rfl) (OkD.x (.c (.d (.v (.int .u64 (IntKind.u64.wrap x7))))) rfl trivial rfl (OkD.x (.c (.d (.v (.int .u64 (bShl .u64 (IntKind.u64.wrap x7) 40))))) rfl trivial rfl (OkD.x (.c (.d (.v (.int .u64 (bOr .u64 (bOr .u64 (bOr .u64 (bOr .u64 (bOr .u64 (IntKind.u64.wrap x2) (bShl .u64 (IntKind.u64.wrap x3) 8)) (bShl .u64 (IntKind.u64.wrap x4) 16)) (bShl .u64 (IntKind.u64.wrap x5) 24)) (bShl .u64 (IntKind.u64.wrap x6) 32)) (bShl .u64 (IntKind.u64.wrap x7) 40)))))) rfl trivial rfl (OkD.x (aS p_s) rfl trivial rfl ?_))))
  obtain ⟨x8, hx8, hr⟩ := bind_some hr
  refine OkD.q (triSIdx hx8 rfl rfl rfl trivial rfl) (OkD.x (.c (.d (.v (.int .u64 (IntKind.u64.wrap x8))))) rfl trivial rfl (OkD.x (.c (.d (.v (.int .u64 (bShl .u64 (IntKind.u64.wrap x8) 48))))) rfl trivial rfl (OkD.x (.c (.d (.v (.int .u64 (bOr .u64 (bOr .u64 (bOr .u64 (bOr .u64 (bOr .u64 (bOr .u64 (IntKind.u64.wrap x2) (bShl .u64 (IntKind.u64.wrap x3) 8)) (bShl .u64 (IntKind.u64.wrap x4) 16)) (bShl .u64 (IntKind.u64.wrap x5) 24)) (bShl .u64 (IntKind.u64.wrap x6) 32)) (bShl .u64 (IntKind.u64.wrap x7) 40)) (bShl .u64 (IntKind.u64.wrap x8) 48)))))) rfl trivial rfl (OkD.x (aS p_s) rfl trivial rfl ?_))))
  obtain ⟨x9, hx9, hr⟩ := bind_some hr
  refine OkD.q (triSIdx hx9 rfl rfl rfl trivial rfl) (OkD.x (.c (.d (.v (.int .u64 (IntKind.u64.wrap x9))))) rfl trivial rfl (OkD.x (.c (.d (.v (.int .u64 (bShl .u64 (IntKind.u64.wrap x9) 56))))) rfl trivial rfl (OkD.x (.c (.d (.v (.int .u64 (bOr .u64 (bOr .u64 (bOr .u64 (bOr .u64 (bOr .u64 (bOr .u64 (bOr .u64 (IntKind.u64.wrap x2) (bShl .u64 (IntKind.u64.wrap x3) 8)) (bShl .u64 (IntKind.u64.wrap x4) 16)) (bShl .u64 (IntKind.u64.wrap x5) 24)) (bShl .u64 (IntKind.u64.wrap x6) 32)) (bShl .u64 (IntKind.u64.wrap x7) 40)) (bShl .u64 (IntKind.u64.wrap x8) 48)) (bShl .u64 (IntKind.u64.wrap x9) 56)))))) rfl trivial rfl (OkD.x (.c (.d (.v (.int .u64 (bOr .u64 (bOr .u64 (bOr .u64 (bOr .u64 (bOr .u64 (bOr .u64 (bOr .u64 (IntKind.u64.wrap x2) (bShl .u64 (IntKind.u64.wrap x3) 8)) (bShl .u64 (IntKind.u64.wrap x4) 16)) (bShl .u64 (IntKind.u64.wrap x5) 24)) (bShl .u64 (IntKind.u64.wrap x6) 32)) (bShl .u64 (IntKind.u64.wrap x7) 40)) (bShl .u64 (IntKind.u64.wrap x8) 48)) (bShl .u64 (IntKind.u64.wrap x9) 56)))))) rfl trivial rfl (OkD.nil (by kernel_rfl) (Ok.ret ?_))))))
  obtain rfl := Option.some.inj hr
  exact ⟨_, rfl, .inl rfl, trivial⟩
theorem unicode_utf8_ValidString_c (p_s : Str) {r : Bool} (hr : unicode_utf8_ValidString p_s = some r) : Con Tryd.prog 130 [aS p_s] [] (.s (aB r)) [] := by
  unfold unicode_utf8_ValidString at hr
  refine Con.of_ok 169 0 [.tmp 2] [(0, .s (aS p_s))] Tryd.func130 rfl rfl rfl rfl rfl rfl rfl rfl fun w g M ρ _ => (Ok.seq (Ok.region (OkOps.y (aB false) (OkOps.nil ?_))))
  obtain ⟨k2, hk2, hr⟩ := jn_some hr
  refine Ok.join (fun (s1 : Unit) => ⟨[], [], 0⟩) k2 r (fun s1 hr => ?_) ?_
  rw [hk2] at hr
  refine Ok.seq (Ok.region (OkOps.y (aB true) (OkOps.nil (Ok.ret ?_))))
  obtain rfl := Option.some.inj hr
  exact ⟨_, rfl, .inl rfl, trivial⟩
  clear hk2
  refine Ok.block (Ok.loopK (fun (s3 : Str) => ⟨[(0, .s (aS s3))], [], 0⟩) hr (Conv.mk (tau []) ⟨⟨_, rfl, .inl rfl⟩, trivial⟩ trivial rfl rfl rfl rfl) ?_)
  clear hr
  intro again4 s3 hr
  unfold unicode_utf8_ValidString_L2 at hr
  refine Ok.seq (Ok.seq (Ok.region (OkOps.y (aS s3) (OkOps.y (aI (s3.size : Int)) (OkOps.y (aB (decide ((s3.size : Int) > 0))) (OkOps.nil ?_))))))
  refine Ok.cond (b := decide ((s3.size : Int) > 0)) rfl (fun h5 => ?_) (fun h5 => ?_)
  have hr := selT h5 hr
  refine Ok.skip ?_
  obtain ⟨k7, hk7, hr⟩ := jn_some hr
  refine Ok.joinEnd (fun (s6 : Str) => ⟨[(0, .s (aS s6))], [], 0⟩) k7 r (fun s6 hr => ?_) ?_
  rw [hk7] at hr
  exact ⟨s6, hr, (Conv.mk (tau []) ⟨⟨_, rfl, .inl rfl⟩, trivial⟩ trivial rfl rfl rfl rfl)⟩
  clear hk7
  refine Ok.block (Ok.seq (Ok.region (OkOps.y (aS s3) ?_)))
  obtain ⟨x8, hx8, hr⟩ := bind_some hr
  refine OkOps.q (triSIdx hx8 rfl rfl rfl trivial rfl) (OkOps.y (.c (.d (.v (.int .u8 x8)))) (OkOps.nil (Ok.seq (Ok.seq (Ok.region (OkOps.y (.c (.d (.v (.int .u8 x8)))) (OkOps.y (aB (decide (x8 < 128))) (OkOps.nil ?_))))))))
  refine Ok.cond (b := decide (x8 < 128)) rfl (fun h9 => ?_) (fun h9 => ?_)
  have hr := selT h9 hr
  refine Ok.seq (Ok.region (OkOps.y (aS s3) ?_))
  obtain ⟨x10, hx10, hr⟩ := bind_some hr
  refine OkOps.q (triSSlc hx10 rfl rfl rfl (.inr ⟨_, rfl⟩) (.inl ⟨rfl, rfl⟩) rfl trivial rfl) (OkOps.y (aS x10) (OkOps.nil ?_))
  obtain ⟨k12, hk12, hr⟩ := jn_some hr
  refine Ok.join (fun (s11 : Str) => ⟨[(0, .s (aS s11))], [], 0⟩) k12 r (fun s11 hr => ?_) ?_
  rw [hk12] at hr
  refine Ok.exit ?_
  exact ⟨s11, hr, (Conv.mk (tau []) ⟨⟨_, rfl, .inl rfl⟩, trivial⟩ trivial rfl rfl rfl rfl)⟩
  clear hk12
  refine Ok.seq (Ok.region (OkOps.y (aS x10) (OkOps.y (aI (x10.size : Int)) (OkOps.y (aB (decide ((x10.size : Int) > 8))) (OkOps.y (aB (decide ((x10.size : Int) > 8))) (OkOps.q (triQG (x := aS x10) rfl rfl trivial rfl) ?_))))))
  obtain ⟨x13, hx13, hr⟩ := bind_some hr
  refine OkOps.q (triCallG (x := .c (.d (.v (.int .u64 x13)))) (fun hg => unicode_utf8_word_string_c _ (gO_t hx13 hg)) rfl rfl ⟨.inl rfl, trivial⟩ ⟨fun h => h, trivial⟩ entry133 rfl rfl rfl) (OkOps.q (triQG (x := .c (.d (.v (.int .u64 (bAnd .u64 x13 9259542123273814144))))) rfl rfl ⟨fun h => h, trivial⟩ rfl) (OkOps.q (triQG (x := aB ((bAnd .u64 x13 9259542123273814144) == 0)) rfl rfl ⟨fun h => h, trivial⟩ rfl) (OkOps.q (triAnd rfl rfl (fun h => h) rfl) (OkOps.nil ?_))))
  refine Ok.cond (b := (decide ((x10.size : Int) > 8)) && ((bAnd .u64 x13 9259542123273814144) == 0)) rfl (fun h14 => ?_) (fun h14 => ?_)
  have hr := selT h14 hr
  refine Ok.seq (Ok.region (OkOps.y (aS x10) ?_))
  obtain ⟨x15, hx15, hr⟩ := bind_some hr
  refine OkOps.q (triSSlc hx15 rfl rfl rfl (.inr ⟨_, rfl⟩) (.inl ⟨rfl, rfl⟩) rfl trivial rfl) (OkOps.y (aS x15) (OkOps.nil (Ok.seq (Ok.regionD (by kernel_rfl) (OkD.x (aS x15) rfl trivial rfl (OkD.x (aI (x15.size : Int)) rfl trivial rfl (OkD.x (aB (decide ((x15.size : Int) > 16))) rfl trivial rfl (OkD.x (aB (decide ((x15.size : Int) > 16))) rfl trivial rfl (OkD.q (triQG (x := aS x15) rfl rfl trivial rfl) ?_)))))))))
  obtain ⟨x16, hx16, hr⟩ := bind_some hr
  refine OkD.q (triCallG (x := .c (.d (.v (.int .u64 x16)))) (fun hg => unicode_utf8_word_string_c _ (gO_t hx16 hg)) rfl rfl ⟨.inl rfl, trivial⟩ ⟨fun h => h, trivial⟩ entry133 rfl rfl rfl) (OkD.q (triQG (x := aS x15) rfl rfl trivial rfl) ?_)
  obtain ⟨x17, hx17, hr⟩ := bind_some hr
  refine OkD.q (triSSlcG (gO_t hx17) rfl rfl rfl rfl (.inr ⟨_, rfl⟩) (.inl ⟨rfl, rfl⟩) rfl ⟨fun h => h, trivial⟩ rfl) ?_
  obtain ⟨x18, hx18, hr⟩ := bind_some hr
  refine OkD.q (triCallG (x := .c (.d (.v (.int .u64 x18)))) (fun hg => unicode_utf8_word_string_c _ (gO_t hx18 hg)) rfl rfl ⟨.inl rfl, trivial⟩ ⟨fun h => h, trivial⟩ entry133 rfl rfl rfl) (OkD.q (triQG (x := .c (.d (.v (.int .u64 (bOr .u64 x16 x18))))) rfl rfl ⟨fun h => h, ⟨fun h => h, trivial⟩⟩ rfl) (OkD.q (triQG (x := .c (.d (.v (.int .u64 (bAnd .u64 (bOr .u64 x16 x18) 9259542123273814144))))) rfl rfl ⟨fun h => h, trivial⟩ rfl) (OkD.q (triQG (x := aB ((bAnd .u64 (bOr .u64 x16 x18) 9259542123273814144) == 0)) rfl rfl ⟨fun h => h, trivial⟩ rfl) (OkD.q (triAnd rfl rfl (fun h => h) rfl) (OkD.nil (by kernel_rfl) ?_)))))
  refine Ok.cond (b := (decide ((x15.size : Int) > 16)) && ((bAnd .u64 (bOr .u64 x16 x18) 9259542123273814144) == 0)) rfl (fun h19 => ?_) (fun h19 => ?_)
  have hr := selT h19 hr
  refine Ok.seq (Ok.region (OkOps.y (aS x15) ?_))
  obtain ⟨x20, hx20, hr⟩ := bind_some hr
  refine OkOps.q (triSSlc hx20 rfl rfl rfl (.inr ⟨_, rfl⟩) (.inl ⟨rfl, rfl⟩) rfl trivial rfl) (OkOps.y (aS x20) (OkOps.nil (Ok.block (Ok.loopK (fun (s21 : Str) => ⟨[(0, .s (aS s21))], [], 0⟩) hr (Conv.mk (tau []) ⟨⟨_, rfl, .inl rfl⟩, trivial⟩ trivial rfl rfl rfl rfl) ?_))))
  clear hr
  intro again22 s21 hr
  unfold unicode_utf8_ValidString_L1 at hr
  refine Ok.seq (Ok.seq (Ok.regionD (by kernel_rfl) (OkD.x (aS s21) rfl trivial rfl (OkD.x (aI (s21.size : Int)) rfl trivial rfl (OkD.x (aB (decide ((s21.size : Int) > 32))) rfl trivial rfl (OkD.x (aB (decide ((s21.size : Int) > 32))) rfl trivial rfl (OkD.q (triQG (x := aS s21) rfl rfl trivial rfl) ?_)))))))
  obtain ⟨x23, hx23, hr⟩ := bind_some hr
  refine OkD.q (triCallG (x := .c (.d (.v (.int .u64 x23)))) (fun hg => unicode_utf8_word_string_c _ (gO_t hx23 hg)) rfl rfl ⟨.inl rfl, trivial⟩ ⟨fun h => h, trivial⟩ entry133 rfl rfl rfl) (OkD.q (triQG (x := aS s21) rfl rfl trivial rfl) ?_)
  obtain ⟨x24, hx24, hr⟩ := bind_some hr
  refine OkD.q (triSSlcG (gO_t hx24) rfl rfl rfl rfl (.inr ⟨_, rfl⟩) (.inl ⟨rfl, rfl⟩) rfl ⟨fun h => h, trivial⟩ rfl) ?_
  obtain ⟨x25, hx25, hr⟩ := bind_some hr
  refine OkD.q (triCallG (x := .c (.d (.v (.int .u64 x25)))) (fun hg => unicode_utf8_word_string_c _ (gO_t hx25 hg)) rfl rfl ⟨.inl rfl, trivial⟩ ⟨fun h => h, trivial⟩ entry133 rfl rfl rfl) (OkD.q (triQG (x := .c (.d (.v (.int .u64 (bOr .u64 x23 x25))))) rfl rfl ⟨fun h => h, ⟨fun h => h, trivial⟩⟩ rfl) (OkD.q (triQG (x := aS s21) rfl rfl trivial rfl) ?_))
  obtain ⟨x26, hx26, hr⟩ := bind_some hr
  refine OkD.q (triSSlcG (gO_t hx26) rfl rfl rfl rfl (.inr ⟨_, rfl⟩) (.inl ⟨rfl, rfl⟩) rfl ⟨fun h => h, trivial⟩ rfl) ?_
  obtain ⟨x27, hx27, hr⟩ := bind_some hr
  refine OkD.q (triCallG (x := .c (.d (.v (.int .u64 x27)))) (fun hg => unicode_utf8_word_string_c _ (gO_t hx27 hg)) rfl rfl ⟨.inl rfl, trivial⟩ ⟨fun h => h, trivial⟩ entry133 rfl rfl rfl) (OkD.q (triQG (x := aS s21) rfl rfl trivial rfl) ?_)
  obtain ⟨x28, hx28, hr⟩ := bind_some hr
  refine OkD.q (triSSlcG (gO_t hx28) rfl rfl rfl rfl (.inr ⟨_, rfl⟩) (.inl ⟨rfl, rfl⟩) rfl ⟨fun h => h, trivial⟩ rfl) ?_
  obtain ⟨x29, hx29, hr⟩ := bind_some hr
  refine OkD.q (triCallG (x := .c (.d (.v (.int .u64 x29)))) (fun hg => unicode_utf8_word_string_c _ (gO_t hx29 hg)) rfl rfl ⟨.inl rfl, trivial⟩ ⟨fun h => h, trivial⟩ entry133 rfl rfl rfl) (OkD.q (triQG (x := .c (.d (.v (.int .u64 (bOr .u64 x27 x29))))) rfl rfl ⟨fun h => h, ⟨fun h => h, trivial⟩⟩ rfl) (OkD.q (triQG (x := .c (.d (.v (.int .u64 (bOr .u64 (bOr .u64 x23 x25) (bOr .u64 x27 x29)))))) rfl rfl ⟨fun h => h, ⟨fun h => h, trivial⟩⟩ rfl) (OkD.q (triQG (x := .c (.d (.v (.int .u64 (bAnd .u64 (bOr .u64 (bOr .u64 x23 x25) (bOr .u64 x27 x29)) 9259542123273814144))))) rfl rfl ⟨fun h => h, trivial⟩ rfl) (OkD.q (triQG (x := aB ((bAnd .u64 (bOr .u64 (bOr .u64 x23 x25) (bOr .u64 x27 x29)) 9259542123273814144) == 0)) rfl rfl ⟨fun h => h, trivial⟩ rfl) (OkD.q (triAnd rfl rfl (fun h => h) rfl) (OkD.nil (by kernel_rfl) ?_))))))
  refine Ok.cond (b := (decide ((s21.size : Int) > 32)) && ((bAnd .u64 (bOr .u64 (bOr .u64 x23 x25) (bOr .u64 x27 x29)) 9259542123273814144) == 0)) rfl (fun h30 => ?_) (fun h30 => ?_)
  have hr := selT h30 hr
  refine Ok.skip (Ok.block (Ok.region (OkOps.y (aS s21) ?_)))
  obtain ⟨x31, hx31, hr⟩ := bind_some hr
  refine OkOps.q (triSSlc hx31 rfl rfl rfl (.inr ⟨_, rfl⟩) (.inl ⟨rfl, rfl⟩) rfl trivial rfl) (OkOps.y (aS x31) (OkOps.nil ?_))
  exact ⟨x31, hr, (Conv.mk (tau []) ⟨⟨_, rfl, .inl rfl⟩, trivial⟩ trivial rfl rfl rfl rfl)⟩
  have hr := selF h30 hr
  refine Ok.exit ?_
  exact ⟨s21, hr, (Conv.mk (tau []) ⟨⟨_, rfl, .inl rfl⟩, trivial⟩ trivial rfl rfl rfl rfl)⟩
  have hr := selF h19 hr
  refine Ok.skip ?_
  exact ⟨x15, hr, (Conv.mk (tau []) ⟨⟨_, rfl, .inl rfl⟩, trivial⟩ trivial rfl rfl rfl rfl)⟩
  have hr := selF h14 hr
  refine Ok.skip ?_
  exact ⟨x10, hr, (Conv.mk (tau []) ⟨⟨_, rfl, .inl rfl⟩, trivial⟩ trivial rfl rfl rfl rfl)⟩
  have hr := selF h9 hr
  refine Ok.skip (Ok.seq (Ok.region (OkOps.y (.c (.d (.v (.int .u8 x8)))) ?_)))
  obtain ⟨x32, hx32, hr⟩ := bind_some hr
  refine OkOps.q (triFirst (y := x32) hx32 (by kernel_rfl) rfl rfl trivial rfl) (OkOps.y (.c (.d (.v (.int .u8 x32)))) (OkOps.y (.c (.d (.v (.int .u8 x32)))) (OkOps.nil (Ok.seq (Ok.region (OkOps.y (.c (.d (.v (.int .u8 x32)))) (OkOps.y (.c (.d (.v (.int .u8 (bAnd .u8 x32 7))))) (OkOps.y (aI (IntKind.i64.wrap (bAnd .u8 x32 7))) (OkOps.y (aI (IntKind.i64.wrap (bAnd .u8 x32 7))) (OkOps.nil (Ok.seq (Ok.region (OkOps.y (.c (.d (.v (.int .u8 x32)))) (OkOps.y (.c (.d (.v (.int .u8 (bShr .u8 x32 4))))) ?_))))))))))))))
  obtain ⟨x33, hx33, hr⟩ := bind_some hr
  refine OkOps.q (triAccept (y := x33) hx33 (by kernel_rfl) rfl rfl trivial rfl) (OkOps.y (.agg [.d (.v (.int .u8 x33.1)), .d (.v (.int .u8 x33.2))]) (OkOps.m 0 (triAlloc (j := 0) (cs := [.d (.v (.int .u8 0)), .d (.v (.int .u8 0))]) rfl rfl rfl rfl) (OkOps.w (triStore (cs' := [.d (.v (.int .u8 x33.1)), .d (.v (.int .u8 x33.2))]) rfl rfl rfl rfl rfl rfl rfl rfl rfl) (OkOps.nil (Ok.seq (Ok.region (OkOps.y (aI (IntKind.i64.wrap (bAnd .u8 x32 7))) (OkOps.nil (Ok.block (Ok.seq (Ok.region (OkOps.y (aB ((IntKind.i64.wrap (bAnd .u8 x32 7)) == 2)) (OkOps.y (aB ((IntKind.i64.wrap (bAnd .u8 x32 7)) == 2)) (OkOps.nil ?_))))))))))))))
  refine Ok.cond (b := (IntKind.i64.wrap (bAnd .u8 x32 7)) == 2) rfl (fun h34 => ?_) (fun h34 => ?_)
  have hr := selT h34 hr
  refine Ok.seq (Ok.seq (Ok.regionD (by kernel_rfl) (OkD.x (aS s3) rfl trivial rfl (OkD.x (aI (s3.size : Int)) rfl trivial rfl (OkD.x (aB (decide ((s3.size : Int) < 2))) rfl trivial rfl (OkD.x (aB (decide ((s3.size : Int) < 2))) rfl trivial rfl (OkD.q (triQG (x := aS s3) rfl rfl trivial rfl) ?_)))))))
  obtain ⟨x35, hx35, hr⟩ := bind_some hr
  refine OkD.q (triSIdxG (gO_t hx35) rfl rfl rfl rfl ⟨fun h => h, trivial⟩ rfl) (OkD.q (triQG (x := .c (.loc 0 0)) rfl rfl trivial rfl) (OkD.q (triQG (x := .c (.d (.v (.int .u8 x33.1)))) rfl rfl ⟨fun h => h, trivial⟩ rfl) (OkD.q (triQG (x := aB (decide (x35 < x33.1))) rfl rfl ⟨fun h => h, ⟨fun h => h, trivial⟩⟩ rfl) ?_)))
  refine OkD.q (triOr rfl rfl (fun h => by rw [h]; rfl) rfl) ?_
  refine OkD.x (aB ((decide ((s3.size : Int) < 2)) || (decide (x35 < x33.1)))) rfl trivial rfl (OkD.q (triQG (x := .c (.loc 0 1)) rfl rfl trivial rfl) (OkD.q (triQG (x := .c (.d (.v (.int .u8 x33.2)))) rfl rfl ⟨fun h => h, trivial⟩ rfl) (OkD.q (triQG (x := aS s3) rfl rfl trivial rfl) ?_)))
  obtain ⟨x36, hx36, hr⟩ := bind_some hr
  refine OkD.q (triSIdxG (gO_t hx36) rfl rfl rfl rfl ⟨fun h => h, trivial⟩ rfl) (OkD.q (triQG (x := aB (decide (x33.2 < x36))) rfl rfl ⟨fun h => h, ⟨fun h => h, trivial⟩⟩ rfl) ?_)
  refine OkD.q (triOr rfl rfl (fun h => by rw [h]; rfl) rfl) ?_
  refine OkD.nil (by kernel_rfl) ?_
  refine Ok.cond (b := ((decide ((s3.size : Int) < 2)) || (decide (x35 < x33.1))) || (decide (x33.2 < x36))) rfl (fun h37 => ?_) (fun h37 => ?_)
  have hr := selT h37 hr
  refine Ok.seq (Ok.region (OkOps.y (aB false) (OkOps.nil (Ok.ret ?_))))
  obtain rfl := Option.some.inj hr
  exact ⟨_, rfl, .inl rfl, trivial⟩
  have hr := selF h37 hr
  refine Ok.skip (Ok.region (OkOps.y (aS s3) ?_))
  obtain ⟨x38, hx38, hr⟩ := bind_some hr
  refine OkOps.q (triSSlc hx38 rfl rfl rfl (.inr ⟨_, rfl⟩) (.inl ⟨rfl, rfl⟩) rfl trivial rfl) (OkOps.y (aS x38) (OkOps.nil ?_))
  exact ⟨x38, hr, (Conv.mk (tau []) ⟨⟨_, rfl, .inl rfl⟩, trivial⟩ trivial rfl rfl rfl rfl)⟩
  have hr := selF h34 hr
  refine Ok.seq (Ok.region (OkOps.y (aB ((IntKind.i64.wrap (bAnd .u8 x32 7)) == 3)) (OkOps.y (aB ((IntKind.i64.wrap (bAnd .u8 x32 7)) == 3)) (OkOps.nil ?_))))
  refine Ok.cond (b := (IntKind.i64.wrap (bAnd .u8 x32 7)) == 3) rfl (fun h39 => ?_) (fun h39 => ?_)
  have hr := selT h39 hr
  refine Ok.seq (Ok.seq (Ok.regionD (by kernel_rfl) (OkD.x (aS s3) rfl trivial rfl (OkD.x (aI (s3.size : Int)) rfl trivial rfl (OkD.x (aB (decide ((s3.size : Int) < 3))) rfl trivial rfl (OkD.x (aB (decide ((s3.size : Int) < 3))) rfl trivial rfl (OkD.q (triQG (x := aS s3) rfl rfl trivial rfl) ?_)))))))
  obtain ⟨x40, hx40, hr⟩ := bind_some hr
  refine OkD.q (triSIdxG (gO_t hx40) rfl rfl rfl rfl ⟨fun h => h, trivial⟩ rfl) (OkD.q (triQG (x := .c (.loc 0 0)) rfl rfl trivial rfl) (OkD.q (triQG (x := .c (.d (.v (.int .u8 x33.1)))) rfl rfl ⟨fun h => h, trivial⟩ rfl) (OkD.q (triQG (x := aB (decide (x40 < x33.1))) rfl rfl ⟨fun h => h, ⟨fun h => h, trivial⟩⟩ rfl) ?_)))
  refine OkD.q (triOr rfl rfl (fun h => by rw [h]; rfl) rfl) ?_
  refine OkD.x (aB ((decide ((s3.size : Int) < 3)) || (decide (x40 < x33.1)))) rfl trivial rfl (OkD.q (triQG (x := .c (.loc 0 1)) rfl rfl trivial rfl) (OkD.q (triQG (x := .c (.d (.v (.int .u8 x33.2)))) rfl rfl ⟨fun h => h, trivial⟩ rfl) (OkD.q (triQG (x := aS s3) rfl rfl trivial rfl) ?_)))
  obtain ⟨x41, hx41, hr⟩ := bind_some hr
  refine OkD.q (triSIdxG (gO_t hx41) rfl rfl rfl rfl ⟨fun h => h, trivial⟩ rfl) (OkD.q (triQG (x := aB (decide (x33.2 < x41))) rfl rfl ⟨fun h => h, ⟨fun h => h, trivial⟩⟩ rfl) ?_)
  refine OkD.q (triOr rfl rfl (fun h => by rw [h]; rfl) rfl) ?_
  refine OkD.x (aB (((decide ((s3.size : Int) < 3)) || (decide (x40 < x33.1))) || (decide (x33.2 < x41)))) rfl trivial rfl (OkD.q (triQG (x := aS s3) rfl rfl trivial rfl) ?_)
  obtain ⟨x42, hx42, hr⟩ := bind_some hr
  refine OkD.q (triSIdxG (gO_t hx42) rfl rfl rfl rfl ⟨fun h => h, trivial⟩ rfl) (OkD.q (triQG (x := aB (decide (x42 < 128))) rfl rfl ⟨fun h => h, trivial⟩ rfl) ?_)
  refine OkD.q (triOr rfl rfl (fun h => by rw [h]; rfl) rfl) ?_
  refine OkD.x (aB ((((decide ((s3.size : Int) < 3)) || (decide (x40 < x33.1))) || (decide (x33.2 < x41))) || (decide (x42 < 128)))) rfl trivial rfl (OkD.q (triQG (x := aS s3) rfl rfl trivial rfl) ?_)
  obtain ⟨x43, hx43, hr⟩ := bind_some hr
  refine OkD.q (triSIdxG (gO_t hx43) rfl rfl rfl rfl ⟨fun h => h, trivial⟩ rfl) (OkD.q (triQG (x := aB (decide (191 < x43))) rfl rfl ⟨fun h => h, trivial⟩ rfl) ?_)
  refine OkD.q (triOr rfl rfl (fun h => by rw [h]; rfl) rfl) ?_
  refine OkD.nil (by kernel_rfl) ?_
  refine Ok.cond (b := ((((decide ((s3.size : Int) < 3)) || (decide (x40 < x33.1))) || (decide (x33.2 < x41))) || (decide (x42 < 128))) || (decide (191 < x43))) rfl (fun h44 => ?_) (fun h44 => ?_)
  have hr := selT h44 hr
  refine Ok.seq (Ok.region (OkOps.y (aB false) (OkOps.nil (Ok.ret ?_))))
  obtain rfl := Option.some.inj hr
  exact ⟨_, rfl, .inl rfl, trivial⟩
  have hr := selF h44 hr
  refine Ok.skip (Ok.region (OkOps.y (aS s3) ?_))
  obtain ⟨x45, hx45, hr⟩ := bind_some hr
  refine OkOps.q (triSSlc hx45 rfl rfl rfl (.inr ⟨_, rfl⟩) (.inl ⟨rfl, rfl⟩) rfl trivial rfl) (OkOps.y (aS x45) (OkOps.nil ?_))
  exact ⟨x45, hr, (Conv.mk (tau []) ⟨⟨_, rfl, .inl rfl⟩, trivial⟩ trivial rfl rfl rfl rfl)⟩
  have hr := selF h39 hr
  refine Ok.seq (Ok.region (OkOps.y (aB ((IntKind.i64.wrap (bAnd .u8 x32 7)) == 4)) (OkOps.y (aB ((IntKind.i64.wrap (bAnd .u8 x32 7)) == 4)) (OkOps.nil ?_))))
  refine Ok.cond (b := (IntKind.i64.wrap (bAnd .u8 x32 7)) == 4) rfl (fun h46 => ?_) (fun h46 => ?_)
  have hr := selT h46 hr
  refine Ok.seq (Ok.seq (Ok.regionD (by kernel_rfl) (OkD.x (aS s3) rfl trivial rfl (OkD.x (aI (s3.size : Int)) rfl trivial rfl (OkD.x (aB (decide ((s3.size : Int) < 4))) rfl trivial rfl (OkD.x (aB (decide ((s3.size : Int) < 4))) rfl trivial rfl (OkD.q (triQG (x := aS s3) rfl rfl trivial rfl) ?_)))))))
  obtain ⟨x47, hx47, hr⟩ := bind_some hr
  refine OkD.q (triSIdxG (gO_t hx47) rfl rfl rfl rfl ⟨fun h => h, trivial⟩ rfl) (OkD.q (triQG (x := .c (.loc 0 0)) rfl rfl trivial rfl) (OkD.q (triQG (x := .c (.d (.v (.int .u8 x33.1)))) rfl rfl ⟨fun h => h, trivial⟩ rfl) (OkD.q (triQG (x := aB (decide (x47 < x33.1))) rfl rfl ⟨fun h => h, ⟨fun h => h, trivial⟩⟩ rfl) ?_)))
  refine OkD.q (triOr rfl rfl (fun h => by rw [h]; rfl) rfl) ?_
  refine OkD.x (aB ((decide ((s3.size : Int) < 4)) || (decide (x47 < x33.1)))) rfl trivial rfl (OkD.q (triQG (x := .c (.loc 0 1)) rfl rfl trivial rfl) (OkD.q (triQG (x := .c (.d (.v (.int .u8 x33.2)))) rfl rfl ⟨fun h => h, trivial⟩ rfl) (OkD.q (triQG (x := aS s3) rfl rfl trivial rfl) ?_)))
  obtain ⟨x48, hx48, hr⟩ := bind_some hr
  refine OkD.q (triSIdxG (gO_t hx48) rfl rfl rfl rfl ⟨fun h => h, trivial⟩ rfl) (OkD.q (triQG (x := aB (decide (x33.2 < x48))) rfl rfl ⟨fun h => h, ⟨fun h => h, trivial⟩⟩ rfl) ?_)
  refine OkD.q (triOr rfl rfl (fun h => by rw [h]; rfl) rfl) ?_
  refine OkD.x (aB (((decide ((s3.size : Int) < 4)) || (decide (x47 < x33.1))) || (decide (x33.2 < x48)))) rfl trivial rfl (OkD.q (triQG (x := aS s3) rfl rfl trivial rfl) ?_)
  obtain ⟨x49, hx49, hr⟩ := bind_some hr
  refine OkD.q (triSIdxG (gO_t hx49) rfl rfl rfl rfl ⟨fun h => h, trivial⟩ rfl) (OkD.q (triQG (x := aB (decide (x49 < 128))) rfl rfl ⟨fun h => h, trivial⟩ rfl) ?_)
  refine OkD.q (triOr rfl rfl (fun h => by rw [h]; rfl) rfl) ?_
  refine OkD.x (aB ((((decide ((s3.size : Int) < 4)) || (decide (x47 < x33.1))) || (decide (x33.2 < x48))) || (decide (x49 < 128)))) rfl trivial rfl (OkD.q (triQG (x := aS s3) rfl rfl trivial rfl) ?_)
  obtain ⟨x50, hx50, hr⟩ := bind_some hr
  refine OkD.q (triSIdxG (gO_t hx50) rfl rfl rfl rfl ⟨fun h => h, trivial⟩ rfl) (OkD.q (triQG (x := aB (decide (191 < x50))) rfl rfl ⟨fun h => h, trivial⟩ rfl) ?_)
  refine OkD.q (triOr rfl rfl (fun h => by rw [h]; rfl) rfl) ?_
  refine OkD.x (aB (((((decide ((s3.size : Int) < 4)) || (decide (x47 < x33.1))) || (decide (x33.2 < x48))) || (decide (x49 < 128))) || (decide (191 < x50)))) rfl trivial rfl (OkD.q (triQG (x := aS s3) rfl rfl trivial rfl) ?_)
  obtain ⟨x51, hx51, hr⟩ := bind_some hr
  refine OkD.q (triSIdxG (gO_t hx51) rfl rfl rfl rfl ⟨fun h => h, trivial⟩ rfl) (OkD.q (triQG (x := aB (decide (x51 < 128))) rfl rfl ⟨fun h => h, trivial⟩ rfl) ?_)
  refine OkD.q (triOr rfl rfl (fun h => by rw [h]; rfl) rfl) ?_
  refine OkD.x (aB ((((((decide ((s3.size : Int) < 4)) || (decide (x47 < x33.1))) || (decide (x33.2 < x48))) || (decide (x49 < 128))) || (decide (191 < x50))) || (decide (x51 < 128)))) rfl trivial rfl (OkD.q (triQG (x := aS s3) rfl rfl trivial rfl) ?_)
  obtain ⟨x52, hx52, hr⟩ := bind_some hr
  refine OkD.q (triSIdxG (gO_t hx52) rfl rfl rfl rfl ⟨fun h => h, trivial⟩ rfl) (OkD.q (triQG (x := aB (decide (191 < x52))) rfl rfl ⟨fun h => h, trivial⟩ rfl) ?_)
  refine OkD.q (triOr rfl rfl (fun h => by rw [h]; rfl) rfl) ?_
  refine OkD.nil (by kernel_rfl) ?_
  refine Ok.cond (b := ((((((decide ((s3.size : Int) < 4)) || (decide (x47 < x33.1))) || (decide (x33.2 < x48))) || (decide (x49 < 128))) || (decide (191 < x50))) || (decide (x51 < 128))) || (decide (191 < x52))) rfl (fun h53 => ?_) (fun h53 => ?_)
  have hr := selT h53 hr
  refine Ok.seq (Ok.region (OkOps.y (aB false) (OkOps.nil (Ok.ret ?_))))
  obtain rfl := Option.some.inj hr
  exact ⟨_, rfl, .inl rfl, trivial⟩
  have hr := selF h53 hr
  refine Ok.skip (Ok.region (OkOps.y (aS s3) ?_))
  obtain ⟨x54, hx54, hr⟩ := bind_some hr
  refine OkOps.q (triSSlc hx54 rfl rfl rfl (.inr ⟨_, rfl⟩) (.inl ⟨rfl, rfl⟩) rfl trivial rfl) (OkOps.y (aS x54) (OkOps.nil ?_))
  exact ⟨x54, hr, (Conv.mk (tau []) ⟨⟨_, rfl, .inl rfl⟩, trivial⟩ trivial rfl rfl rfl rfl)⟩
  have hr := selF h46 hr
  refine Ok.seq (Ok.region (OkOps.y (aB false) (OkOps.nil (Ok.ret ?_))))
  obtain rfl := Option.some.inj hr
  exact ⟨_, rfl, .inl rfl, trivial⟩
  have hr := selF h5 hr
  refine Ok.exit ?_
  exact ⟨(), hr, (Conv.mk (tau []) trivial trivial rfl rfl rfl rfl)⟩
theorem ex_listOf_c (t : AType) {r : AType} (hr : ex_listOf t = some r) : Con Tryd.prog 132 [.agg [cI t.Kind, .d (.sl (List.map AType.cs t.Of))]] [] (.s (.agg [cI r.Kind, .d (.sl (List.map AType.cs r.Of))])) [] := by
  unfold ex_listOf at hr
  refine Con.of_ok 6 0 [.cell 2 183] [(0, .s (.agg [cI t.Kind, .d (.sl (List.map AType.cs t.Of))]))] Tryd.func132 rfl rfl rfl rfl rfl rfl rfl rfl fun w g M ρ _ => (Ok.seq (Ok.region (OkOps.m 0 (triBox (j := 0) (cs := [cI t.Kind, .d (.sl (List.map AType.cs t.Of))]) rfl rfl rfl rfl rfl) (OkOps.m 0 (triAlloc (j := 1) (cs := [cI 0, .d (.v (.slice none 0 0))]) rfl rfl rfl rfl) (OkOps.nil (Ok.seq (Ok.region (OkOps.y (.agg [cI t.Kind, .d (.sl (List.map AType.cs t.Of))]) ?_))))))))
  refine OkOps.m 0 (triBST (sz := 2) (enc := AType.cs) (j := 2) ([t]) rfl rfl rfl rfl rfl (rows := [[dI t.Kind, .sl (List.map AType.cs t.Of)]]) (by simp only [List.map, AType.cs_eq]) rfl rfl (fun x => by rw [AType.cs_eq]; rfl) trivial rfl rfl) ?_
  refine OkOps.y (.agg [cI 4, .tl 2 (List.map AType.cs ([t]))]) (OkOps.w (triStore (cs' := [cI 4, .tl 2 (List.map AType.cs ([t]))]) rfl rfl rfl rfl rfl rfl rfl rfl rfl) (OkOps.nil (Ok.ret ?_)))
  obtain rfl := Option.some.inj hr
  exact ⟨_, rfl, .inr rfl, trivial⟩
theorem ex_join_B_c (self0 : AType → AType → Option (AType × Bool)) (hself0 : ∀ (a : AType) (b : AType) {r : AType × Bool}, self0 a b = some r → Con Tryd.prog 134 [.agg [cI a.Kind, .d (.sl (List.map AType.cs a.Of))], .agg [cI b.Kind, .d (.sl (List.map AType.cs b.Of))]] [] (.tup [.agg [cI r.1.Kind, .d (.sl (List.map AType.cs r.1.Of))], aB r.2]) []) (a : AType) (b : AType) {r : AType × Bool} (hr : ex_join_B self0 a b = some r) : Con Tryd.prog 134 [.agg [cI a.Kind, .d (.sl (List.map AType.cs a.Of))], .agg [cI b.Kind, .d (.sl (List.map AType.cs b.Of))]] [] (.tup [.agg [cI r.1.Kind, .d (.sl (List.map AType.cs r.1.Of))], aB r.2]) [] := by
  unfold ex_join_B at hr
  refine Con.of_ok 44 0 [.cell 4 183, .tmp 5] [(0, .s (.agg [cI a.Kind, .d (.sl (List.map AType.cs a.Of))])), (1, .s (.agg [cI b.Kind, .d (.sl (List.map AType.cs b.Of))]))] Tryd.func134 rfl rfl rfl rfl rfl rfl rfl rfl fun w g M ρ _ => (Ok.seq (Ok.region (OkOps.m 0 (triBox (j := 0) (cs := [cI a.Kind, .d (.sl (List.map AType.cs a.Of))]) rfl rfl rfl rfl rfl) (OkOps.m 0 (triBox (j := 1) (cs := [cI b.Kind, .d (.sl (List.map AType.cs b.Of))]) rfl rfl rfl rfl rfl) (OkOps.m 0 (triAlloc (j := 2) (cs := [cI 0, .d (.v (.slice none 0 0))]) rfl rfl rfl rfl) (OkOps.y (aB false) (OkOps.nil (Ok.seq (Ok.block (Ok.seq (Ok.region (OkOps.y (.c (.loc 0 0)) (OkOps.y (aI a.Kind) (OkOps.y (.c (.loc 1 0)) (OkOps.y (aI b.Kind) ?_)))))))))))))))
  refine OkOps.y (aB (a.Kind != b.Kind)) (OkOps.y (aB (a.Kind != b.Kind)) (OkOps.nil ?_))
  refine Ok.cond (b := a.Kind != b.Kind) rfl (fun h1 => ?_) (fun h1 => ?_)
  have hr := selT h1 hr
  refine Ok.seq (Ok.region (OkOps.y (.agg [cI 0, .d (.v (.slice none 0 0))]) (OkOps.w (triStore (cs' := [cI 0, .d (.v (.slice none 0 0))]) rfl rfl rfl rfl rfl rfl rfl rfl rfl) (OkOps.y (aB false) (OkOps.nil (Ok.ret ?_))))))
  obtain rfl := Option.some.inj hr
  exact ⟨_, rfl, .inr rfl, trivial⟩
  have hr := selF h1 hr
  refine Ok.seq (Ok.region (OkOps.y (.c (.loc 0 1)) (OkOps.y (.c (.d (.sl (List.map AType.cs a.Of)))) (OkOps.q (triLen (enc := AType.cs) a.Of rfl rfl trivial rfl) (OkOps.y (aB ((a.Of.length : Int) == 0)) (OkOps.y (aB ((a.Of.length : Int) == 0)) (OkOps.nil ?_)))))))
  refine Ok.cond (b := (a.Of.length : Int) == 0) rfl (fun h2 => ?_) (fun h2 => ?_)
  have hr := selT h2 hr
  refine Ok.seq (Ok.region (OkOps.y (.agg [cI b.Kind, .d (.sl (List.map AType.cs b.Of))]) (OkOps.w (triStore (cs' := [cI b.Kind, .d (.sl (List.map AType.cs b.Of))]) rfl rfl rfl rfl rfl rfl rfl rfl rfl) (OkOps.y (aB true) (OkOps.nil (Ok.ret ?_))))))
  obtain rfl := Option.some.inj hr
  exact ⟨_, rfl, .inl rfl, trivial⟩
  have hr := selF h2 hr
  refine Ok.seq (Ok.region (OkOps.y (.c (.loc 1 1)) (OkOps.y (.c (.d (.sl (List.map AType.cs b.Of)))) (OkOps.q (triLen (enc := AType.cs) b.Of rfl rfl trivial rfl) (OkOps.y (aB ((b.Of.length : Int) == 0)) (OkOps.y (aB ((b.Of.length : Int) == 0)) (OkOps.nil ?_)))))))
  refine Ok.cond (b := (b.Of.length : Int) == 0) rfl (fun h3 => ?_) (fun h3 => ?_)
  have hr := selT h3 hr
  refine Ok.seq (Ok.region (OkOps.y (.agg [cI a.Kind, .d (.sl (List.map AType.cs a.Of))]) (OkOps.w (triStore (cs' := [cI a.Kind, .d (.sl (List.map AType.cs a.Of))]) rfl rfl rfl rfl rfl rfl rfl rfl rfl) (OkOps.y (aB true) (OkOps.nil (Ok.ret ?_))))))
  obtain rfl := Option.some.inj hr
  exact ⟨_, rfl, .inl rfl, trivial⟩
  have hr := selF h3 hr
  refine Ok.skip (Ok.seq (Ok.regionD (by kernel_rfl) (OkD.x (.c (.loc 0 1)) rfl trivial rfl (OkD.x (.c (.d (.sl (List.map AType.cs a.Of)))) rfl trivial rfl ?_))))
  obtain ⟨x4, hx4, hr⟩ := bind_some hr
  refine OkD.q (triIdx (enc := AType.cs) (L := a.Of) (row := [dI x4.Kind, .sl (List.map AType.cs x4.Of)]) hx4 (AType.cs_eq _) rfl rfl rfl (fun x => by rw [AType.cs_eq]; rfl) trivial rfl) ?_
  refine OkD.x (.agg [cI x4.Kind, .d (.sl (List.map AType.cs x4.Of))]) rfl trivial rfl (OkD.x (.c (.loc 1 1)) rfl trivial rfl (OkD.x (.c (.d (.sl (List.map AType.cs b.Of)))) rfl trivial rfl ?_))
  obtain ⟨x5, hx5, hr⟩ := bind_some hr
  refine OkD.q (triIdx (enc := AType.cs) (L := b.Of) (row := [dI x5.Kind, .sl (List.map AType.cs x5.Of)]) hx5 (AType.cs_eq _) rfl rfl rfl (fun x => by rw [AType.cs_eq]; rfl) trivial rfl) ?_
  refine OkD.x (.agg [cI x5.Kind, .d (.sl (List.map AType.cs x5.Of))]) rfl trivial rfl ?_
  obtain ⟨x6, hx6, hr⟩ := bind_some hr
  refine OkD.q (triCl (tau []) (.tup [.agg [cI x6.1.Kind, .d (.sl (List.map AType.cs x6.1.Of))], aB x6.2]) [] (hself0 _ _ hx6) rfl ⟨.inl rfl, .inl rfl, trivial⟩ trivial entry134 trivial) (OkD.q (triMv (v := .tup [.agg [cI x6.1.Kind, .d (.sl (List.map AType.cs x6.1.Of))], aB x6.2]) rfl rfl) (OkD.x (.agg [cI x6.1.Kind, .d (.sl (List.map AType.cs x6.1.Of))]) rfl trivial rfl (OkD.x (aB x6.2) rfl trivial rfl (OkD.m 0 (triAlloc (j := 3) (cs := [cI 0, .d (.v (.slice none 0 0))]) rfl rfl rfl rfl) (OkD.w (triStore (cs' := [cI x6.1.Kind, .d (.sl (List.map AType.cs x6.1.Of))]) rfl rfl rfl rfl rfl rfl rfl rfl rfl) (OkD.x (aB x6.2) rfl trivial rfl (OkD.nil (by kernel_rfl) (Ok.seq (Ok.seq (Ok.region (OkOps.y (aB x6.2) (OkOps.y (aB (!x6.2)) (OkOps.nil ?_)))))))))))))
  refine Ok.cond (b := !x6.2) rfl (fun h7 => ?_) (fun h7 => ?_)
  have hr := selT h7 hr
  refine Ok.seq (Ok.region (OkOps.y (.agg [cI 0, .d (.v (.slice none 0 0))]) (OkOps.w (triStore (cs' := [cI 0, .d (.v (.slice none 0 0))]) rfl rfl rfl rfl rfl rfl rfl rfl rfl) (OkOps.y (aB false) (OkOps.nil (Ok.ret ?_))))))
  obtain rfl := Option.some.inj hr
  exact ⟨_, rfl, .inr rfl, trivial⟩
  have hr := selF h7 hr
  refine Ok.skip (Ok.seq (Ok.region (OkOps.y (.agg [cI x6.1.Kind, .d (.sl (List.map AType.cs x6.1.Of))]) ?_)))
  obtain ⟨x8, hx8, hr⟩ := bind_some hr
  refine OkOps.q (triCl (tau []) (.s (.agg [cI x8.Kind, .d (.sl (List.map AType.cs x8.Of))])) [] (ex_listOf_c _ hx8) rfl ⟨.inl rfl, trivial⟩ trivial entry132 trivial) (OkOps.w (triStore (cs' := [cI x8.Kind, .d (.sl (List.map AType.cs x8.Of))]) rfl rfl rfl rfl rfl rfl rfl rfl rfl) (OkOps.y (aB true) (OkOps.nil (Ok.ret ?_))))
  obtain rfl := Option.some.inj hr
  exact ⟨_, rfl, .inl rfl, trivial⟩
theorem ex_join_all : ∀ n : Nat, (∀ (a : AType) (b : AType) {r : AType × Bool}, ex_join n a b = some r → Con Tryd.prog 134 [.agg [cI a.Kind, .d (.sl (List.map AType.cs a.Of))], .agg [cI b.Kind, .d (.sl (List.map AType.cs b.Of))]] [] (.tup [.agg [cI r.1.Kind, .d (.sl (List.map AType.cs r.1.Of))], aB r.2]) []) ∧ True := by
  intro n
  induction n with
  | zero => exact ⟨(by intros; rename_i hr; cases hr), trivial⟩
  | succ n ih => exact ⟨(by intros; rename_i hr; exact ex_join_B_c _ ih.1 _ _ hr), trivial⟩
theorem ex_join_c (n : Nat) (a : AType) (b : AType) {r : AType × Bool} (hr : ex_join n a b = some r) : Con Tryd.prog 134 [.agg [cI a.Kind, .d (.sl (List.map AType.cs a.Of))], .agg [cI b.Kind, .d (.sl (List.map AType.cs b.Of))]] [] (.tup [.agg [cI r.1.Kind, .d (.sl (List.map AType.cs r.1.Of))], aB r.2]) [] := (ex_join_all n).1 a b hr
theorem ex_common_c (l : (List AType)) {r : AType × Bool} (hr : ex_common l = some r) : Con Tryd.prog 131 [.c (.d (.sl (List.map AType.cs l)))] [] (.tup [.agg [cI r.1.Kind, .d (.sl (List.map AType.cs r.1.Of))], aB r.2]) [] := by
  unfold ex_common at hr
  refine Con.of_ok 34 0 [.cell 2 183, .tmp 3] [(0, .s (.c (.d (.sl (List.map AType.cs l)))))] Tryd.func131 rfl rfl rfl rfl rfl rfl rfl rfl fun w g M ρ _ => (Ok.seq (Ok.region (OkOps.m 0 (triAlloc (j := 0) (cs := [cI 0, .d (.v (.slice none 0 0))]) rfl rfl rfl rfl) (OkOps.y (aB false) (OkOps.nil (Ok.seq (Ok.seq (Ok.region (OkOps.y (.c (.d (.sl (List.map AType.cs l)))) (OkOps.q (triLen (enc := AType.cs) l rfl rfl trivial rfl) (OkOps.y (aB ((l.length : Int) == 0)) (OkOps.nil ?_))))))))))))
  refine Ok.cond (b := (l.length : Int) == 0) rfl (fun h1 => ?_) (fun h1 => ?_)
  have hr := selT h1 hr
  refine Ok.seq (Ok.region (OkOps.y (.agg [cI 4, .d (.v (.slice none 0 0))]) (OkOps.w (triStore (cs' := [cI 4, .d (.v (.slice none 0 0))]) rfl rfl rfl rfl rfl rfl rfl rfl rfl) (OkOps.y (aB true) (OkOps.nil (Ok.ret ?_))))))
  obtain rfl := Option.some.inj hr
  exact ⟨_, rfl, .inr rfl, trivial⟩
  have hr := selF h1 hr
  refine Ok.skip (Ok.seq (Ok.region (OkOps.y (.c (.d (.sl (List.map AType.cs l)))) ?_)))
  obtain ⟨x2, hx2, hr⟩ := bind_some hr
  refine OkOps.q (triIdx (enc := AType.cs) (L := l) (row := [dI x2.Kind, .sl (List.map AType.cs x2.Of)]) hx2 (AType.cs_eq _) rfl rfl rfl (fun x => by rw [AType.cs_eq]; rfl) trivial rfl) ?_
  refine OkOps.y (.agg [cI x2.Kind, .d (.sl (List.map AType.cs x2.Of))]) (OkOps.m 0 (triAlloc (j := 1) (cs := [cI 0, .d (.v (.slice none 0 0))]) rfl rfl rfl rfl) (OkOps.w (triStore (cs' := [cI x2.Kind, .d (.sl (List.map AType.cs x2.Of))]) rfl rfl rfl rfl rfl rfl rfl rfl rfl) (OkOps.nil ?_)))
  obtain ⟨k4, hk4, hr⟩ := jn_some hr
  refine Ok.join (fun (s3 : Int × (List AType)) => ⟨[(2, .s (.c (.loc 0 0))), (4, .s (.c (.loc 1 0)))], [(0, .blk [cI 0, .d (.v (.slice none 0 0))] 183), (1, .blk [cI s3.1, .d (.sl (List.map AType.cs s3.2))] 183)], 0⟩) k4 r (fun s3 hr => ?_) ?_
  rw [hk4] at hr
  refine Ok.seq (Ok.region (OkOps.y (.agg [cI s3.1, .d (.sl (List.map AType.cs s3.2))]) ?_))
  obtain ⟨x5, hx5, hr⟩ := bind_some hr
  refine OkOps.q (triCl (tau []) (.s (.agg [cI x5.Kind, .d (.sl (List.map AType.cs x5.Of))])) [] (ex_listOf_c _ hx5) rfl ⟨.inl rfl, trivial⟩ trivial entry132 trivial) (OkOps.w (triStore (cs' := [cI x5.Kind, .d (.sl (List.map AType.cs x5.Of))]) rfl rfl rfl rfl rfl rfl rfl rfl rfl) (OkOps.y (aB true) (OkOps.nil (Ok.ret ?_))))
  obtain rfl := Option.some.inj hr
  exact ⟨_, rfl, .inl rfl, trivial⟩
  clear hk4
  refine Ok.seq (Ok.region (OkOps.y (.c (.d (.sl (List.map AType.cs l)))) ?_))
  obtain ⟨x6, hx6, hr⟩ := bind_some hr
  refine OkOps.q (triSlc (enc := AType.cs) (L := l) hx6 rfl rfl rfl (.inr ⟨_, rfl⟩) (.inl ⟨rfl, rfl⟩) rfl (fun x => by rw [AType.cs_eq]; rfl) trivial rfl) ?_
  refine OkOps.q (triLen (enc := AType.cs) x6 rfl rfl trivial rfl) (OkOps.y (aI 0) (OkOps.nil (Ok.block (Ok.loopK (fun (s7 : Int × Int × (List AType)) => ⟨[(2, .s (.c (.loc 0 0))), (4, .s (.c (.loc 1 0))), (16, .s (.c (.d (.sl (List.map AType.cs x6))))), (17, .s (aI (x6.length : Int))), (18, .s (aI s7.1))], [(0, .blk [cI 0, .d (.v (.slice none 0 0))] 183), (1, .blk [cI s7.2.1, .d (.sl (List.map AType.cs s7.2.2))] 183)], 0⟩) hr (Conv.mk (tau []) ⟨⟨_, rfl, .inl rfl⟩, ⟨_, rfl, .inl rfl⟩, ⟨_, rfl, .inl rfl⟩, ⟨_, rfl, .inl rfl⟩, ⟨_, rfl, .inl rfl⟩, trivial⟩ ⟨rfl, rfl, trivial⟩ rfl rfl rfl rfl) ?_))))
  clear hr
  intro again8 s7 hr
  unfold ex_common_L1 at hr
  refine Ok.seq (Ok.region (OkOps.y (aB (decide (s7.1 < (x6.length : Int)))) (OkOps.nil (Ok.seq ?_))))
  refine Ok.cond (b := decide (s7.1 < (x6.length : Int))) rfl (fun h9 => ?_) (fun h9 => ?_)
  have hr := selT h9 hr
  refine Ok.skip (Ok.seq (Ok.block (Ok.seq (Ok.region ?_))))
  obtain ⟨x10, hx10, hr⟩ := bind_some hr
  refine OkOps.q (triIdx (enc := AType.cs) (L := x6) (row := [dI x10.Kind, .sl (List.map AType.cs x10.Of)]) hx10 (AType.cs_eq _) rfl rfl rfl (fun x => by rw [AType.cs_eq]; rfl) trivial rfl) ?_
  refine OkOps.y (.agg [cI x10.Kind, .d (.sl (List.map AType.cs x10.Of))]) (OkOps.m 0 (triAlloc (j := 2) (cs := [cI 0, .d (.v (.slice none 0 0))]) rfl rfl rfl rfl) (OkOps.w (triStore (cs' := [cI x10.Kind, .d (.sl (List.map AType.cs x10.Of))]) rfl rfl rfl rfl rfl rfl rfl rfl rfl) (OkOps.nil (Ok.seq (Ok.region (OkOps.y (aB false) (OkOps.nil (Ok.seq (Ok.region (OkOps.y (.agg [cI s7.2.1, .d (.sl (List.map AType.cs s7.2.2))]) (OkOps.y (.agg [cI x10.Kind, .d (.sl (List.map AType.cs x10.Of))]) ?_)))))))))))
  obtain ⟨x11, hx11, hr⟩ := bind_some hr
  refine OkOps.q (triCl (tau []) (.tup [.agg [cI x11.1.Kind, .d (.sl (List.map AType.cs x11.1.Of))], aB x11.2]) [] (ex_join_c _ _ _ hx11) rfl ⟨.inl rfl, .inl rfl, trivial⟩ trivial entry134 trivial) (OkOps.q (triMv (v := .tup [.agg [cI x11.1.Kind, .d (.sl (List.map AType.cs x11.1.Of))], aB x11.2]) rfl rfl) (OkOps.y (.agg [cI x11.1.Kind, .d (.sl (List.map AType.cs x11.1.Of))]) (OkOps.y (aB x11.2) (OkOps.w (triStore (cs' := [cI x11.1.Kind, .d (.sl (List.map AType.cs x11.1.Of))]) rfl rfl rfl rfl rfl rfl rfl rfl rfl) (OkOps.y (aB x11.2) (OkOps.nil (Ok.seq (Ok.region (OkOps.y (aB x11.2) (OkOps.y (aB (!x11.2)) (OkOps.nil ?_)))))))))))
  refine Ok.cond (b := !x11.2) rfl (fun h12 => ?_) (fun h12 => ?_)
  have hr := selT h12 hr
  refine Ok.seq (Ok.region (OkOps.y (.agg [cI 0, .d (.v (.slice none 0 0))]) (OkOps.w (triStore (cs' := [cI 0, .d (.v (.slice none 0 0))]) rfl rfl rfl rfl rfl rfl rfl rfl rfl) (OkOps.y (aB false) (OkOps.nil (Ok.ret ?_))))))
  obtain rfl := Option.some.inj hr
  exact ⟨_, rfl, .inr rfl, trivial⟩
  have hr := selF h12 hr
  refine Ok.skip (Ok.region (OkOps.y (aI (IntKind.i64.wrap (s7.1 + 1))) (OkOps.y (aI (IntKind.i64.wrap (s7.1 + 1))) (OkOps.nil ?_))))
  exact ⟨(IntKind.i64.wrap (s7.1 + 1), x11.1.Kind, x11.1.Of), hr, (Conv.mk (tau []) ⟨⟨_, rfl, .inl rfl⟩, ⟨_, rfl, .inl rfl⟩, ⟨_, rfl, .inl rfl⟩, ⟨_, rfl, .inl rfl⟩, ⟨_, rfl, .inl rfl⟩, trivial⟩ ⟨rfl, rfl, trivial⟩ rfl rfl rfl rfl)⟩
  have hr := selF h9 hr
  refine Ok.exit ?_
  exact ⟨(s7.2.1, s7.2.2), hr, (Conv.mk (tau []) ⟨⟨_, rfl, .inl rfl⟩, ⟨_, rfl, .inl rfl⟩, trivial⟩ ⟨rfl, rfl, trivial⟩ rfl rfl rfl rfl)⟩
theorem ex_check_B_c (self0 : AValue → Int → Int → Option (AType × Int × Int)) (hself0 : ∀ (v : AValue) (depth : Int) (p_n : Int) {r : AType × Int × Int}, self0 v depth p_n = some r → Con Tryd.prog 126 [.agg [cI v.Kind, cI v.N, cS v.S, .d (.sl (List.map AValue.cs v.L))], aI depth, .c (.loc 0 0)] [(0, .blk [cI p_n] 3)] (.tup [.agg [cI r.1.Kind, .d (.sl (List.map AType.cs r.1.Of))], aI r.2.1]) [(0, .blk [cI r.2.2] 3)]) (v : AValue) (depth : Int) (p_n : Int) {r : AType × Int × Int} (hr : ex_check_B self0 v depth p_n = some r) : Con Tryd.prog 126 [.agg [cI v.Kind, cI v.N, cS v.S, .d (.sl (List.map AValue.cs v.L))], aI depth, .c (.loc 0 0)] [(0, .blk [cI p_n] 3)] (.tup [.agg [cI r.1.Kind, .d (.sl (List.map AType.cs r.1.Of))], aI r.2.1]) [(0, .blk [cI r.2.2] 3)] := by
  unfold ex_check_B at hr
  refine Con.of_ok 121 0 [.cell 6 183, .tmp 7] [(0, .s (.agg [cI v.Kind, cI v.N, cS v.S, .d (.sl (List.map AValue.cs v.L))])), (1, .s (aI depth)), (2, .s (.c (.loc 0 0)))] Tryd.func126 rfl rfl rfl rfl rfl rfl rfl rfl fun w g M ρ _ => (Ok.seq (Ok.region (OkOps.m 0 (triBox (j := 1) (cs := [cI v.Kind, cI v.N, cS v.S, .d (.sl (List.map AValue.cs v.L))]) rfl rfl rfl rfl rfl) (OkOps.m 0 (triAlloc (j := 2) (cs := [cI 0, .d (.v (.slice none 0 0))]) rfl rfl rfl rfl) (OkOps.y (aI 0) (OkOps.nil (Ok.seq (Ok.seq (Ok.region (OkOps.y (.c (.loc 1 0)) (OkOps.y (aI v.Kind) (OkOps.y (aB (v.Kind == 4)) (OkOps.y (aB (v.Kind == 4)) (OkOps.q (triQG (x := aI depth) rfl rfl trivial rfl) (OkOps.q (triQG (x := aB (decide (depth ≥ 16))) rfl rfl ⟨fun h => h, trivial⟩ rfl) ?_)))))))))))))))
  refine OkOps.q (triAnd rfl rfl (fun h => h) rfl) (OkOps.nil ?_)
  refine Ok.cond (b := (v.Kind == 4) && (decide (depth ≥ 16))) rfl (fun h1 => ?_) (fun h1 => ?_)
  have hr := selT h1 hr
  refine Ok.seq (Ok.region (OkOps.y (.agg [cI 0, .d (.v (.slice none 0 0))]) (OkOps.w (triStore (cs' := [cI 0, .d (.v (.slice none 0 0))]) rfl rfl rfl rfl rfl rfl rfl rfl rfl) (OkOps.y (aI 8) (OkOps.nil (Ok.ret ?_))))))
  obtain rfl := Option.some.inj hr
  exact ⟨_, rfl, .inr rfl, ⟨rfl, trivial⟩⟩
  have hr := selF h1 hr
  refine Ok.skip (Ok.seq (Ok.region (OkOps.y (.c (.loc 0 0)) (OkOps.y (.c (.loc 0 0)) (OkOps.y (aI p_n) (OkOps.y (aI (IntKind.i64.wrap (p_n + 1))) (OkOps.y (.c (.loc 0 0)) (OkOps.w (triStore (cs' := [cI (IntKind.i64.wrap (p_n + 1))]) rfl rfl rfl rfl rfl rfl rfl rfl rfl) (OkOps.nil (Ok.seq (Ok.block (Ok.seq (Ok.region (OkOps.y (.agg [cI v.Kind, cI v.N, cS v.S, .d (.sl (List.map AValue.cs v.L))]) ?_))))))))))))))
  obtain ⟨x2, hx2, hr⟩ := bind_some hr
  refine OkOps.q (triCl (tau []) (.s (aB x2)) [] (ex_fields_c _ hx2) rfl ⟨.inl rfl, trivial⟩ trivial entry128 trivial) (OkOps.y (aB (!x2)) (OkOps.y (aB (!x2)) (OkOps.nil ?_)))
  refine Ok.cond (b := !x2) rfl (fun h3 => ?_) (fun h3 => ?_)
  have hr := selT h3 hr
  refine Ok.seq (Ok.region (OkOps.y (.agg [cI 0, .d (.v (.slice none 0 0))]) (OkOps.w (triStore (cs' := [cI 0, .d (.v (.slice none 0 0))]) rfl rfl rfl rfl rfl rfl rfl rfl rfl) (OkOps.y (aI 9) (OkOps.nil (Ok.ret ?_))))))
  obtain rfl := Option.some.inj hr
  exact ⟨_, rfl, .inr rfl, ⟨rfl, trivial⟩⟩
  have hr := selF h3 hr
  obtain ⟨k5, hk5, hr⟩ := jn_some hr
  refine Ok.join (fun (s4 : Bool) => ⟨[(1, .s (aI depth)), (2, .s (.c (.loc 0 0))), (3, .s (.c (.loc 1 0))), (6, .s (.c (.loc 2 0))), (33, .s (aB s4))], [(0, .blk [cI (IntKind.i64.wrap (p_n + 1))] 3), (1, .blk [cI v.Kind, cI v.N, cS v.S, .d (.sl (List.map AValue.cs v.L))] 47), (2, .blk [cI 0, .d (.v (.slice none 0 0))] 183)], 0⟩) k5 r (fun s4 hr => ?_) ?_
  rw [hk5] at hr
  refine Ok.cond (b := s4) rfl (fun h6 => ?_) (fun h6 => ?_)
  have hr := selT h6 hr
  refine Ok.seq (Ok.region (OkOps.y (.agg [cI 0, .d (.v (.slice none 0 0))]) (OkOps.w (triStore (cs' := [cI 0, .d (.v (.slice none 0 0))]) rfl rfl rfl rfl rfl rfl rfl rfl rfl) (OkOps.y (aI 1) (OkOps.nil (Ok.ret ?_))))))
  obtain rfl := Option.some.inj hr
  exact ⟨_, rfl, .inr rfl, ⟨rfl, trivial⟩⟩
  have hr := selF h6 hr
  refine Ok.seq (Ok.region (OkOps.y (.c (.loc 1 2)) (OkOps.y (aS v.S) (OkOps.y (aI (v.S.size : Int)) (OkOps.y (aB (decide ((v.S.size : Int) > 2000))) (OkOps.y (aB (decide ((v.S.size : Int) > 2000))) (OkOps.q (triQG (x := .c (.loc 1 3)) rfl rfl trivial rfl) (OkOps.q (triQG (x := .c (.d (.sl (List.map AValue.cs v.L)))) rfl rfl ⟨fun h => h, trivial⟩ rfl) (OkOps.q (triLenG (enc := AValue.cs) v.L rfl rfl rfl ⟨fun h => h, trivial⟩ rfl) (OkOps.q (triQG (x := aB (decide ((v.L.length : Int) > 100))) rfl rfl ⟨fun h => h, trivial⟩ rfl) ?_))))))))))
  refine OkOps.q (triOr rfl rfl (fun h => by rw [h]; rfl) rfl) ?_
  refine OkOps.y (aB ((decide ((v.S.size : Int) > 2000)) || (decide ((v.L.length : Int) > 100)))) (OkOps.q (triQG (x := .c (.loc 0 0)) rfl rfl trivial rfl) (OkOps.q (triQG (x := .c (.loc 0 0)) rfl rfl ⟨fun h => h, trivial⟩ rfl) (OkOps.q (triQG (x := aI (IntKind.i64.wrap (p_n + 1))) rfl rfl ⟨fun h => h, trivial⟩ rfl) (OkOps.q (triQG (x := aB (decide ((IntKind.i64.wrap (p_n + 1)) > 1000))) rfl rfl ⟨fun h => h, trivial⟩ rfl) ?_))))
  refine OkOps.q (triOr rfl rfl (fun h => by rw [h]; rfl) rfl) ?_
  refine OkOps.y (aB (((decide ((v.S.size : Int) > 2000)) || (decide ((v.L.length : Int) > 100))) || (decide ((IntKind.i64.wrap (p_n + 1)) > 1000)))) (OkOps.nil ?_)
  refine Ok.cond (b := ((decide ((v.S.size : Int) > 2000)) || (decide ((v.L.length : Int) > 100))) || (decide ((IntKind.i64.wrap (p_n + 1)) > 1000))) rfl (fun h7 => ?_) (fun h7 => ?_)
  have hr := selT h7 hr
  refine Ok.seq (Ok.region (OkOps.y (.agg [cI 0, .d (.v (.slice none 0 0))]) (OkOps.w (triStore (cs' := [cI 0, .d (.v (.slice none 0 0))]) rfl rfl rfl rfl rfl rfl rfl rfl rfl) (OkOps.y (aI 2) (OkOps.nil (Ok.ret ?_))))))
  obtain rfl := Option.some.inj hr
  exact ⟨_, rfl, .inr rfl, ⟨rfl, trivial⟩⟩
  have hr := selF h7 hr
  refine Ok.seq (Ok.region (OkOps.y (.c (.loc 1 2)) (OkOps.y (aS v.S) ?_)))
  obtain ⟨x8, hx8, hr⟩ := bind_some hr
  refine OkOps.q (triCl (tau []) (.s (aB x8)) [] (unicode_utf8_ValidString_c _ hx8) rfl ⟨.inl rfl, trivial⟩ trivial entry130 trivial) (OkOps.y (aB (!x8)) (OkOps.y (aB (!x8)) (OkOps.nil ?_)))
  refine Ok.cond (b := !x8) rfl (fun h9 => ?_) (fun h9 => ?_)
  have hr := selT h9 hr
  refine Ok.seq (Ok.region (OkOps.y (.agg [cI 0, .d (.v (.slice none 0 0))]) (OkOps.w (triStore (cs' := [cI 0, .d (.v (.slice none 0 0))]) rfl rfl rfl rfl rfl rfl rfl rfl rfl) (OkOps.y (aI 3) (OkOps.nil (Ok.ret ?_))))))
  obtain rfl := Option.some.inj hr
  exact ⟨_, rfl, .inr rfl, ⟨rfl, trivial⟩⟩
  have hr := selF h9 hr
  refine Ok.seq (Ok.region (OkOps.y (.c (.loc 1 0)) (OkOps.y (aI v.Kind) (OkOps.y (aB (v.Kind != 4)) (OkOps.y (aB (v.Kind != 4)) (OkOps.nil ?_))))))
  refine Ok.cond (b := v.Kind != 4) rfl (fun h10 => ?_) (fun h10 => ?_)
  have hr := selT h10 hr
  refine Ok.seq (Ok.region (OkOps.y (.c (.loc 1 0)) (OkOps.y (aI v.Kind) (OkOps.y (.agg [cI v.Kind, .d (.v (.slice none 0 0))]) (OkOps.w (triStore (cs' := [cI v.Kind, .d (.v (.slice none 0 0))]) rfl rfl rfl rfl rfl rfl rfl rfl rfl) (OkOps.y (aI 0) (OkOps.nil (Ok.ret ?_))))))))
  obtain rfl := Option.some.inj hr
  exact ⟨_, rfl, .inr rfl, ⟨rfl, trivial⟩⟩
  have hr := selF h10 hr
  refine Ok.skip (Ok.seq (Ok.region (OkOps.y (.c (.d (.v (.slice none 0 0)))) (OkOps.nil ?_))))
  obtain ⟨k12, hk12, hr⟩ := jn_some hr
  refine Ok.join (fun (s11 : (List AType) × Int) => ⟨[(6, .s (.c (.loc 2 0))), (8, .s (.c (.tl 1004 (List.map AType.cs s11.1))))], [(0, .blk [cI s11.2] 3), (2, .blk [cI 0, .d (.v (.slice none 0 0))] 183), (1004, .tail 2)], 0⟩) k12 r (fun s11 hr => ?_) ?_
  rw [hk12] at hr
  refine Ok.seq (Ok.region (OkOps.y (.c (.tl 1004 (List.map AType.cs s11.1))) ?_))
  obtain ⟨x13, hx13, hr⟩ := bind_some hr
  refine OkOps.q (triCl (tau []) (.tup [.agg [cI x13.1.Kind, .d (.sl (List.map AType.cs x13.1.Of))], aB x13.2]) [] (ex_common_c _ hx13) rfl ⟨.inr rfl, trivial⟩ trivial entry131 trivial) (OkOps.q (triMv (v := .tup [.agg [cI x13.1.Kind, .d (.sl (List.map AType.cs x13.1.Of))], aB x13.2]) rfl rfl) (OkOps.y (.agg [cI x13.1.Kind, .d (.sl (List.map AType.cs x13.1.Of))]) (OkOps.y (aB x13.2) (OkOps.m 0 (triAlloc (j := 3) (cs := [cI 0, .d (.v (.slice none 0 0))]) rfl rfl rfl rfl) (OkOps.w (triStore (cs' := [cI x13.1.Kind, .d (.sl (List.map AType.cs x13.1.Of))]) rfl rfl rfl rfl rfl rfl rfl rfl rfl) (OkOps.y (aB x13.2) (OkOps.nil (Ok.seq (Ok.seq (Ok.region (OkOps.y (aB x13.2) (OkOps.y (aB (!x13.2)) (OkOps.nil ?_)))))))))))))
  refine Ok.cond (b := !x13.2) rfl (fun h14 => ?_) (fun h14 => ?_)
  have hr := selT h14 hr
  refine Ok.seq (Ok.region (OkOps.y (.agg [cI 0, .d (.v (.slice none 0 0))]) (OkOps.w (triStore (cs' := [cI 0, .d (.v (.slice none 0 0))]) rfl rfl rfl rfl rfl rfl rfl rfl rfl) (OkOps.y (aI 5) (OkOps.nil (Ok.ret ?_))))))
  obtain rfl := Option.some.inj hr
  exact ⟨_, rfl, .inr rfl, ⟨rfl, trivial⟩⟩
  have hr := selF h14 hr
  refine Ok.skip (Ok.seq (Ok.region (OkOps.y (.agg [cI x13.1.Kind, .d (.sl (List.map AType.cs x13.1.Of))]) (OkOps.w (triStore (cs' := [cI x13.1.Kind, .d (.sl (List.map AType.cs x13.1.Of))]) rfl rfl rfl rfl rfl rfl rfl rfl rfl) (OkOps.y (aI 0) (OkOps.nil (Ok.ret ?_)))))))
  obtain rfl := Option.some.inj hr
  exact ⟨_, rfl, .inl rfl, ⟨rfl, trivial⟩⟩
  clear hk12
  refine Ok.seq (Ok.region (OkOps.y (.c (.loc 1 3)) (OkOps.y (.c (.d (.sl (List.map AValue.cs v.L)))) (OkOps.q (triLen (enc := AValue.cs) v.L rfl rfl trivial rfl) (OkOps.y (aI 0) (OkOps.nil (Ok.block (Ok.loopK (fun (s15 : (List AType) × Int × Int) => ⟨[(1, .s (aI depth)), (2, .s (.c (.loc 0 0))), (6, .s (.c (.loc 2 0))), (8, .s (.c (.tl 1007 (List.map AType.cs s15.1)))), (89, .s (.c (.d (.sl (List.map AValue.cs v.L))))), (90, .s (aI (v.L.length : Int))), (91, .s (aI s15.2.1))], [(0, .blk [cI s15.2.2] 3), (2, .blk [cI 0, .d (.v (.slice none 0 0))] 183), (1007, .tail 2)], 0⟩) hr (Conv.trans (Conv.nil 8 1009 2 0 rfl rfl) (Conv.mk (tau [(1007, 1009)]) ⟨⟨_, rfl, .inl rfl⟩, ⟨_, rfl, .inl rfl⟩, ⟨_, rfl, .inl rfl⟩, ⟨_, rfl, .inl rfl⟩, ⟨_, rfl, .inl rfl⟩, ⟨_, rfl, .inl rfl⟩, ⟨_, rfl, .inl rfl⟩, trivial⟩ ⟨rfl, rfl, rfl, trivial⟩ rfl rfl rfl rfl)) ?_))))))))
  clear hr
  intro again16 s15 hr
  unfold ex_check_L1 at hr
  refine Ok.seq (Ok.region (OkOps.y (aB (decide (s15.2.1 < (v.L.length : Int)))) (OkOps.nil (Ok.seq ?_))))
  refine Ok.cond (b := decide (s15.2.1 < (v.L.length : Int))) rfl (fun h17 => ?_) (fun h17 => ?_)
  have hr := selT h17 hr
  refine Ok.skip (Ok.seq (Ok.block (Ok.seq (Ok.region ?_))))
  obtain ⟨x18, hx18, hr⟩ := bind_some hr
  refine OkOps.q (triIdx (enc := AValue.cs) (L := v.L) (row := [dI x18.Kind, dI x18.N, dS x18.S, .sl (List.map AValue.cs x18.L)]) hx18 (AValue.cs_eq _) rfl rfl rfl (fun x => by rw [AValue.cs_eq]; rfl) trivial rfl) ?_
  refine OkOps.y (.agg [cI x18.Kind, cI x18.N, cS x18.S, .d (.sl (List.map AValue.cs x18.L))]) (OkOps.m 0 (triAlloc (j := 4) (cs := [cI 0, cI 0, cS ByteArray.empty, .d (.v (.slice none 0 0))]) rfl rfl rfl rfl) (OkOps.w (triStore (cs' := [cI x18.Kind, cI x18.N, cS x18.S, .d (.sl (List.map AValue.cs x18.L))]) rfl rfl rfl rfl rfl rfl rfl rfl rfl) (OkOps.nil (Ok.seq (Ok.region (OkOps.y (.agg [cI x18.Kind, cI x18.N, cS x18.S, .d (.sl (List.map AValue.cs x18.L))]) (OkOps.y (aI depth) (OkOps.y (aI (IntKind.i64.wrap (depth + 1))) (OkOps.y (.c (.loc 0 0)) ?_)))))))))
  obtain ⟨x19, hx19, hr⟩ := bind_some hr
  refine OkOps.m 0 (triCl (tau [(0, 0)]) (.tup [.agg [cI x19.1.Kind, .d (.sl (List.map AType.cs x19.1.Of))], aI x19.2.1]) [(0, .blk [cI x19.2.2] 3)] (hself0 _ _ _ hx19) rfl ⟨.inl rfl, .inl rfl, .inl rfl, trivial⟩ trivial entry126 ⟨rfl, trivial⟩) (OkOps.q (triMv (v := .tup [.agg [cI x19.1.Kind, .d (.sl (List.map AType.cs x19.1.Of))], aI x19.2.1]) rfl rfl) (OkOps.y (.agg [cI x19.1.Kind, .d (.sl (List.map AType.cs x19.1.Of))]) (OkOps.y (aI x19.2.1) (OkOps.m 0 (triAlloc (j := 5) (cs := [cI 0, .d (.v (.slice none 0 0))]) rfl rfl rfl rfl) (OkOps.w (triStore (cs' := [cI x19.1.Kind, .d (.sl (List.map AType.cs x19.1.Of))]) rfl rfl rfl rfl rfl rfl rfl rfl rfl) (OkOps.y (aI x19.2.1) (OkOps.nil (Ok.seq (Ok.seq (Ok.region (OkOps.y (aI x19.2.1) (OkOps.y (aB (x19.2.1 != 0)) (OkOps.nil ?_)))))))))))))
  refine Ok.cond (b := x19.2.1 != 0) rfl (fun h20 => ?_) (fun h20 => ?_)
  have hr := selT h20 hr
  refine Ok.seq (Ok.region (OkOps.y (.agg [cI 0, .d (.v (.slice none 0 0))]) (OkOps.y (aI x19.2.1) (OkOps.w (triStore (cs' := [cI 0, .d (.v (.slice none 0 0))]) rfl rfl rfl rfl rfl rfl rfl rfl rfl) (OkOps.y (aI x19.2.1) (OkOps.nil (Ok.ret ?_)))))))
  obtain rfl := Option.some.inj hr
  exact ⟨_, rfl, .inr rfl, ⟨rfl, trivial⟩⟩
  have hr := selF h20 hr
  refine Ok.skip (Ok.region (OkOps.y (.c (.tl 1007 (List.map AType.cs s15.1))) (OkOps.y (.agg [cI x19.1.Kind, .d (.sl (List.map AType.cs x19.1.Of))]) ?_)))
  refine OkOps.m 0 (triBST (sz := 2) (enc := AType.cs) (j := 6) ([x19.1]) rfl rfl rfl rfl rfl (rows := [[dI x19.1.Kind, .sl (List.map AType.cs x19.1.Of)]]) (by simp only [List.map, AType.cs_eq]) rfl rfl (fun x => by rw [AType.cs_eq]; rfl) trivial rfl rfl) ?_
  obtain ⟨x21, hx21, hr⟩ := bind_some hr
  refine OkOps.m2 0 (triApp (enc := AType.cs) (L := s15.1) (X := [x19.1]) (j := 1007) (j' := 7) hx21 rfl rfl rfl rfl rfl rfl (fun x => by rw [AType.cs_eq]; rfl) (fun x => by rw [AType.cs_eq]; rfl) (by decide) trivial rfl rfl) ?_
  refine OkOps.y (.c (.tl 7 (List.map AType.cs x21))) (OkOps.nil (Ok.region (OkOps.y (aI (IntKind.i64.wrap (s15.2.1 + 1))) (OkOps.y (aI (IntKind.i64.wrap (s15.2.1 + 1))) (OkOps.nil ?_)))))
  exact ⟨(x21, IntKind.i64.wrap (s15.2.1 + 1), x19.2.2), hr, (Conv.mk (tau [(1007, 7)]) ⟨⟨_, rfl, .inl rfl⟩, ⟨_, rfl, .inl rfl⟩, ⟨_, rfl, .inl rfl⟩, ⟨_, rfl, .inl rfl⟩, ⟨_, rfl, .inl rfl⟩, ⟨_, rfl, .inl rfl⟩, ⟨_, rfl, .inl rfl⟩, trivial⟩ ⟨rfl, rfl, rfl, trivial⟩ rfl rfl rfl rfl)⟩
  have hr := selF h17 hr
  refine Ok.exit ?_
  exact ⟨(s15.1, s15.2.2), hr, (Conv.mk (tau [(1004, 1007)]) ⟨⟨_, rfl, .inl rfl⟩, ⟨_, rfl, .inl rfl⟩, trivial⟩ ⟨rfl, rfl, rfl, trivial⟩ rfl rfl rfl rfl)⟩
  clear hk5
  refine Ok.seq (Ok.region (OkOps.y (.c (.loc 1 0)) (OkOps.y (aI v.Kind) (OkOps.y (aB (v.Kind == 1)) (OkOps.y (aB (v.Kind == 1)) (OkOps.q (triQG (x := .c (.loc 1 1)) rfl rfl trivial rfl) (OkOps.q (triQG (x := aI v.N) rfl rfl ⟨fun h => h, trivial⟩ rfl) ?_)))))))
  obtain ⟨x22, hx22, hr⟩ := bind_some hr
  refine OkOps.q (triCallG (x := aB x22) (fun hg => ex_within_c _ (gO_t hx22 hg)) rfl rfl ⟨.inl rfl, trivial⟩ ⟨fun h => h, trivial⟩ entry129 rfl rfl rfl) (OkOps.q (triQG (x := aB (!x22)) rfl rfl ⟨fun h => h, trivial⟩ rfl) (OkOps.q (triAnd rfl rfl (fun h => h) rfl) (OkOps.y (aB ((v.Kind == 1) && (!x22))) (OkOps.nil ?_))))
  refine Ok.cond (b := (v.Kind == 1) && (!x22)) rfl (fun h23 => ?_) (fun h23 => ?_)
  have hr := selT h23 hr
  refine Ok.skip ?_
  exact ⟨(v.Kind == 1) && (!x22), hr, (Conv.mk (tau []) ⟨⟨_, rfl, .inl rfl⟩, ⟨_, rfl, .inl rfl⟩, ⟨_, rfl, .inl rfl⟩, ⟨_, rfl, .inl rfl⟩, ⟨_, rfl, .inl rfl⟩, trivial⟩ ⟨rfl, rfl, rfl, trivial⟩ rfl rfl rfl rfl)⟩
  have hr := selF h23 hr
  refine Ok.region (OkOps.y (.c (.loc 1 0)) (OkOps.y (aI v.Kind) (OkOps.y (aB (v.Kind == 2)) (OkOps.y (aB (v.Kind == 2)) (OkOps.q (triQG (x := .c (.loc 1 1)) rfl rfl trivial rfl) (OkOps.q (triQG (x := aI v.N) rfl rfl ⟨fun h => h, trivial⟩ rfl) (OkOps.q (triQG (x := aB (v.N != 0)) rfl rfl ⟨fun h => h, trivial⟩ rfl) (OkOps.q (triAnd rfl rfl (fun h => h) rfl) (OkOps.y (aB ((v.Kind == 2) && (v.N != 0))) (OkOps.q (triQG (x := .c (.loc 1 1)) rfl rfl trivial rfl) (OkOps.q (triQG (x := aI v.N) rfl rfl ⟨fun h => h, trivial⟩ rfl) (OkOps.q (triQG (x := aB (v.N != 1)) rfl rfl ⟨fun h => h, trivial⟩ rfl) (OkOps.q (triAnd rfl rfl (fun h => h) rfl) (OkOps.y (aB (((v.Kind == 2) && (v.N != 0)) && (v.N != 1))) (OkOps.nil ?_)))))))))))))))
  exact ⟨((v.Kind == 2) && (v.N != 0)) && (v.N != 1), hr, (Conv.mk (tau []) ⟨⟨_, rfl, .inl rfl⟩, ⟨_, rfl, .inl rfl⟩, ⟨_, rfl, .inl rfl⟩, ⟨_, rfl, .inl rfl⟩, ⟨_, rfl, .inl rfl⟩, trivial⟩ ⟨rfl, rfl, rfl, trivial⟩ rfl rfl rfl rfl)⟩
theorem ex_check_all : ∀ n : Nat, (∀ (v : AValue) (depth : Int) (p_n : Int) {r : AType × Int × Int}, ex_check n v depth p_n = some r → Con Tryd.prog 126 [.agg [cI v.Kind, cI v.N, cS v.S, .d (.sl (List.map AValue.cs v.L))], aI depth, .c (.loc 0 0)] [(0, .blk [cI p_n] 3)] (.tup [.agg [cI r.1.Kind, .d (.sl (List.map AType.cs r.1.Of))], aI r.2.1]) [(0, .blk [cI r.2.2] 3)]) ∧ True := by
  intro n
  induction n with
  | zero => exact ⟨(by intros; rename_i hr; cases hr), trivial⟩
  | succ n ih => exact ⟨(by intros; rename_i hr; exact ex_check_B_c _ ih.1 _ _ _ hr), trivial⟩
theorem ex_check_c (n : Nat) (v : AValue) (depth : Int) (p_n : Int) {r : AType × Int × Int} (hr : ex_check n v depth p_n = some r) : Con Tryd.prog 126 [.agg [cI v.Kind, cI v.N, cS v.S, .d (.sl (List.map AValue.cs v.L))], aI depth, .c (.loc 0 0)] [(0, .blk [cI p_n] 3)] (.tup [.agg [cI r.1.Kind, .d (.sl (List.map AType.cs r.1.Of))], aI r.2.1]) [(0, .blk [cI r.2.2] 3)] := (ex_check_all n).1 v depth p_n hr
theorem ex_copyType_B_c (self0 : AType → Option AType) (hself0 : ∀ (t : AType) {r : AType}, self0 t = some r → Con Tryd.prog 127 [.agg [cI t.Kind, .d (.sl (List.map AType.cs t.Of))]] [] (.s (.agg [cI r.Kind, .d (.sl (List.map AType.cs r.Of))])) []) (t : AType) {r : AType} (hr : ex_copyType_B self0 t = some r) : Con Tryd.prog 127 [.agg [cI t.Kind, .d (.sl (List.map AType.cs t.Of))]] [] (.s (.agg [cI r.Kind, .d (.sl (List.map AType.cs r.Of))])) [] := by
  unfold ex_copyType_B at hr
  refine Con.of_ok 16 0 [.cell 2 183] [(0, .s (.agg [cI t.Kind, .d (.sl (List.map AType.cs t.Of))]))] Tryd.func127 rfl rfl rfl rfl rfl rfl rfl rfl fun w g M ρ _ => (Ok.seq (Ok.region (OkOps.m 0 (triBox (j := 0) (cs := [cI t.Kind, .d (.sl (List.map AType.cs t.Of))]) rfl rfl rfl rfl rfl) (OkOps.m 0 (triAlloc (j := 1) (cs := [cI 0, .d (.v (.slice none 0 0))]) rfl rfl rfl rfl) (OkOps.nil (Ok.seq (Ok.seq (Ok.region (OkOps.y (.c (.loc 0 1)) (OkOps.y (.c (.d (.sl (List.map AType.cs t.Of)))) (OkOps.q (triLen (enc := AType.cs) t.Of rfl rfl trivial rfl) (OkOps.y (aB ((t.Of.length : Int) == 0)) (OkOps.nil ?_)))))))))))))
  refine Ok.cond (b := (t.Of.length : Int) == 0) rfl (fun h1 => ?_) (fun h1 => ?_)
  have hr := selT h1 hr
  refine Ok.seq (Ok.region (OkOps.y (.c (.loc 0 0)) (OkOps.y (aI t.Kind) (OkOps.y (.agg [cI t.Kind, .d (.v (.slice none 0 0))]) (OkOps.w (triStore (cs' := [cI t.Kind, .d (.v (.slice none 0 0))]) rfl rfl rfl rfl rfl rfl rfl rfl rfl) (OkOps.nil (Ok.ret ?_)))))))
  obtain rfl := Option.some.inj hr
  exact ⟨_, rfl, .inr rfl, trivial⟩
  have hr := selF h1 hr
  refine Ok.skip (Ok.seq (Ok.region (OkOps.y (.c (.loc 0 1)) (OkOps.y (.c (.d (.sl (List.map AType.cs t.Of)))) ?_))))
  obtain ⟨x2, hx2, hr⟩ := bind_some hr
  refine OkOps.q (triIdx (enc := AType.cs) (L := t.Of) (row := [dI x2.Kind, .sl (List.map AType.cs x2.Of)]) hx2 (AType.cs_eq _) rfl rfl rfl (fun x => by rw [AType.cs_eq]; rfl) trivial rfl) ?_
  refine OkOps.y (.agg [cI x2.Kind, .d (.sl (List.map AType.cs x2.Of))]) ?_
  obtain ⟨x3, hx3, hr⟩ := bind_some hr
  refine OkOps.q (triCl (tau []) (.s (.agg [cI x3.Kind, .d (.sl (List.map AType.cs x3.Of))])) [] (hself0 _ hx3) rfl ⟨.inl rfl, trivial⟩ trivial entry127 trivial) ?_
  obtain ⟨x4, hx4, hr⟩ := bind_some hr
  refine OkOps.q (triCl (tau []) (.s (.agg [cI x4.Kind, .d (.sl (List.map AType.cs x4.Of))])) [] (ex_listOf_c _ hx4) rfl ⟨.inl rfl, trivial⟩ trivial entry132 trivial) (OkOps.w (triStore (cs' := [cI x4.Kind, .d (.sl (List.map AType.cs x4.Of))]) rfl rfl rfl rfl rfl rfl rfl rfl rfl) (OkOps.nil (Ok.ret ?_)))
  obtain rfl := Option.some.inj hr
  exact ⟨_, rfl, .inl rfl, trivial⟩
theorem ex_copyType_all : ∀ n : Nat, (∀ (t : AType) {r : AType}, ex_copyType n t = some r → Con Tryd.prog 127 [.agg [cI t.Kind, .d (.sl (List.map AType.cs t.Of))]] [] (.s (.agg [cI r.Kind, .d (.sl (List.map AType.cs r.Of))])) []) ∧ True := by
  intro n
  induction n with
  | zero => exact ⟨(by intros; rename_i hr; cases hr), trivial⟩
  | succ n ih => exact ⟨(by intros; rename_i hr; exact ex_copyType_B_c _ ih.1 _ hr), trivial⟩
theorem ex_copyType_c (n : Nat) (t : AType) {r : AType} (hr : ex_copyType n t = some r) : Con Tryd.prog 127 [.agg [cI t.Kind, .d (.sl (List.map AType.cs t.Of))]] [] (.s (.agg [cI r.Kind, .d (.sl (List.map AType.cs r.Of))])) [] := (ex_copyType_all n).1 t hr
theorem ex_TypeOf_c (v : AValue) {r : AType × Int} (hr : ex_TypeOf v = some r) : Con Tryd.prog 125 [.agg [cI v.Kind, cI v.N, cS v.S, .d (.sl (List.map AValue.cs v.L))]] [] (.tup [.agg [cI r.1.Kind, .d (.sl (List.map AType.cs r.1.Of))], aI r.2]) [] := by
  unfold ex_TypeOf at hr
  refine Con.of_ok 18 0 [.cell 2 183, .tmp 3] [(0, .s (.agg [cI v.Kind, cI v.N, cS v.S, .d (.sl (List.map AValue.cs v.L))]))] Tryd.func125 rfl rfl rfl rfl rfl rfl rfl rfl fun w g M ρ _ => (Ok.seq (Ok.region (OkOps.m 0 (triBox (j := 0) (cs := [cI v.Kind, cI v.N, cS v.S, .d (.sl (List.map AValue.cs v.L))]) rfl rfl rfl rfl rfl) (OkOps.m 0 (triAlloc (j := 1) (cs := [cI 0, .d (.v (.slice none 0 0))]) rfl rfl rfl rfl) (OkOps.y (aI 0) (OkOps.nil (Ok.seq (Ok.region (OkOps.m 0 (triAlloc (j := 2) (cs := [cI 0]) rfl rfl rfl rfl) (OkOps.w (triStore (cs' := [cI 0]) rfl rfl rfl rfl rfl rfl rfl rfl rfl) (OkOps.nil (Ok.seq (Ok.region (OkOps.y (.agg [cI v.Kind, cI v.N, cS v.S, .d (.sl (List.map AValue.cs v.L))]) ?_))))))))))))))
  obtain ⟨x1, hx1, hr⟩ := bind_some hr
  refine OkOps.m 0 (triCl (tau [(0, 2)]) (.tup [.agg [cI x1.1.Kind, .d (.sl (List.map AType.cs x1.1.Of))], aI x1.2.1]) [(2, .blk [cI x1.2.2] 3)] (ex_check_c _ _ _ _ hx1) rfl ⟨.inl rfl, .inl rfl, .inl rfl, trivial⟩ trivial entry126 ⟨rfl, trivial⟩) (OkOps.q (triMv (v := .tup [.agg [cI x1.1.Kind, .d (.sl (List.map AType.cs x1.1.Of))], aI x1.2.1]) rfl rfl) (OkOps.y (.agg [cI x1.1.Kind, .d (.sl (List.map AType.cs x1.1.Of))]) (OkOps.y (aI x1.2.1) (OkOps.m 0 (triAlloc (j := 3) (cs := [cI 0, .d (.v (.slice none 0 0))]) rfl rfl rfl rfl) (OkOps.w (triStore (cs' := [cI x1.1.Kind, .d (.sl (List.map AType.cs x1.1.Of))]) rfl rfl rfl rfl rfl rfl rfl rfl rfl) (OkOps.y (aI x1.2.1) (OkOps.nil (Ok.seq (Ok.seq (Ok.region (OkOps.y (aI x1.2.1) (OkOps.y (aB (x1.2.1 != 0)) (OkOps.nil ?_)))))))))))))
  refine Ok.cond (b := x1.2.1 != 0) rfl (fun h2 => ?_) (fun h2 => ?_)
  have hr := selT h2 hr
  refine Ok.seq (Ok.region (OkOps.y (.agg [cI 0, .d (.v (.slice none 0 0))]) (OkOps.y (aI x1.2.1) (OkOps.w (triStore (cs' := [cI 0, .d (.v (.slice none 0 0))]) rfl rfl rfl rfl rfl rfl rfl rfl rfl) (OkOps.y (aI x1.2.1) (OkOps.nil (Ok.ret ?_)))))))
  obtain rfl := Option.some.inj hr
  exact ⟨_, rfl, .inr rfl, trivial⟩
  have hr := selF h2 hr
  refine Ok.skip (Ok.seq (Ok.region (OkOps.y (.agg [cI x1.1.Kind, .d (.sl (List.map AType.cs x1.1.Of))]) ?_)))
  obtain ⟨x3, hx3, hr⟩ := bind_some hr
  refine OkOps.q (triCl (tau []) (.s (.agg [cI x3.Kind, .d (.sl (List.map AType.cs x3.Of))])) [] (ex_copyType_c _ _ hx3) rfl ⟨.inl rfl, trivial⟩ trivial entry127 trivial) (OkOps.w (triStore (cs' := [cI x3.Kind, .d (.sl (List.map AType.cs x3.Of))]) rfl rfl rfl rfl rfl rfl rfl rfl rfl) (OkOps.y (aI 0) (OkOps.nil (Ok.ret ?_))))
  obtain rfl := Option.some.inj hr
  exact ⟨_, rfl, .inl rfl, trivial⟩
theorem ex_Check_c (v : AValue) {r : Int} (hr : ex_Check v = some r) : Con Tryd.prog 124 [.agg [cI v.Kind, cI v.N, cS v.S, .d (.sl (List.map AValue.cs v.L))]] [] (.s (aI r)) [] := by
  unfold ex_Check at hr
  refine Con.of_ok 11 0 [.tmp 2] [(0, .s (.agg [cI v.Kind, cI v.N, cS v.S, .d (.sl (List.map AValue.cs v.L))]))] Tryd.func124 rfl rfl rfl rfl rfl rfl rfl rfl fun w g M ρ _ => (Ok.seq (Ok.region (OkOps.m 0 (triBox (j := 0) (cs := [cI v.Kind, cI v.N, cS v.S, .d (.sl (List.map AValue.cs v.L))]) rfl rfl rfl rfl rfl) (OkOps.y (aI 0) (OkOps.nil (Ok.seq (Ok.region (OkOps.y (.agg [cI v.Kind, cI v.N, cS v.S, .d (.sl (List.map AValue.cs v.L))]) ?_))))))))
  obtain ⟨x1, hx1, hr⟩ := bind_some hr
  refine OkOps.q (triCl (tau []) (.tup [.agg [cI x1.1.Kind, .d (.sl (List.map AType.cs x1.1.Of))], aI x1.2]) [] (ex_TypeOf_c _ hx1) rfl ⟨.inl rfl, trivial⟩ trivial entry125 trivial) (OkOps.q (triMv (v := .tup [.agg [cI x1.1.Kind, .d (.sl (List.map AType.cs x1.1.Of))], aI x1.2]) rfl rfl) (OkOps.y (.agg [cI x1.1.Kind, .d (.sl (List.map AType.cs x1.1.Of))]) (OkOps.y (aI x1.2) (OkOps.m 0 (triAlloc (j := 1) (cs := [cI 0, .d (.v (.slice none 0 0))]) rfl rfl rfl rfl) (OkOps.w (triStore (cs' := [cI x1.1.Kind, .d (.sl (List.map AType.cs x1.1.Of))]) rfl rfl rfl rfl rfl rfl rfl rfl rfl) (OkOps.y (aI x1.2) (OkOps.nil (Ok.seq (Ok.region (OkOps.y (aI x1.2) (OkOps.y (aI x1.2) (OkOps.nil (Ok.ret ?_)))))))))))))
  obtain rfl := Option.some.inj hr
  exact ⟨_, rfl, .inl rfl, trivial⟩
end Go.Proofs.YtobiohcdpfpefaaDoor
end
section
set_option maxRecDepth 100000
namespace Go.Proofs.YtobiohcdpfpefaaDoor
open Go Go.E2
theorem r11_join_B_c (self0 : AType → AType → Option (AType × Bool)) (hself0 : ∀ (a : AType) (b : AType) {r : AType × Bool}, self0 a b = some r → Con Tryd.prog 119 [.agg [cI a.Kind, .d (.sl (List.map AType.cs a.Of))], .agg [cI b.Kind, .d (.sl (List.map AType.cs b.Of))]] [] (.tup [.agg [cI r.1.Kind, .d (.sl (List.map AType.cs r.1.Of))], aB r.2]) []) (a : AType) (b : AType) {r : AType × Bool} (hr : r11_join_B self0 a b = some r) : Con Tryd.prog 119 [.agg [cI a.Kind, .d (.sl (List.map AType.cs a.Of))], .agg [cI b.Kind, .d (.sl (List.map AType.cs b.Of))]] [] (.tup [.agg [cI r.1.Kind, .d (.sl (List.map AType.cs r.1.Of))], aB r.2]) [] := by
  unfold r11_join_B at hr
  refine Con.of_ok 44 0 [.cell 4 183, .tmp 5] [(0, .s (.agg [cI a.Kind, .d (.sl (List.map AType.cs a.Of))])), (1, .s (.agg [cI b.Kind, .d (.sl (List.map AType.cs b.Of))]))] Tryd.func119 rfl rfl rfl rfl rfl rfl rfl rfl fun w g M ρ _ => (Ok.seq (Ok.region (OkOps.m 0 (triBox (j := 0) (cs := [cI a.Kind, .d (.sl (List.map AType.cs a.Of))]) rfl rfl rfl rfl rfl) (OkOps.m 0 (triBox (j := 1) (cs := [cI b.Kind, .d (.sl (List.map AType.cs b.Of))]) rfl rfl rfl rfl rfl) (OkOps.m 0 (triAlloc (j := 2) (cs := [cI 0, .d (.v (.slice none 0 0))]) rfl rfl rfl rfl) (OkOps.y (aB false) (OkOps.nil (Ok.seq (Ok.seq (Ok.region (OkOps.y (.c (.loc 0 0)) (OkOps.y (aI a.Kind) (OkOps.y (.c (.loc 1 0)) (OkOps.y (aI b.Kind) (OkOps.y (aB (a.Kind != b.Kind)) ?_)))))))))))))))
  refine OkOps.nil ?_
  refine Ok.cond (b := a.Kind != b.Kind) rfl (fun h1 => ?_) (fun h1 => ?_)
  have hr := selT h1 hr
  refine Ok.seq (Ok.region (OkOps.y (.agg [cI 0, .d (.v (.slice none 0 0))]) (OkOps.w (triStore (cs' := [cI 0, .d (.v (.slice none 0 0))]) rfl rfl rfl rfl rfl rfl rfl rfl rfl) (OkOps.y (aB false) (OkOps.nil (Ok.ret ?_))))))
  obtain rfl := Option.some.inj hr
  exact ⟨_, rfl, .inr rfl, trivial⟩
  have hr := selF h1 hr
  refine Ok.skip (Ok.seq (Ok.seq (Ok.region (OkOps.y (.c (.loc 0 1)) (OkOps.y (.c (.d (.sl (List.map AType.cs a.Of)))) (OkOps.q (triLen (enc := AType.cs) a.Of rfl rfl trivial rfl) (OkOps.y (aB ((a.Of.length : Int) == 0)) (OkOps.nil ?_))))))))
  refine Ok.cond (b := (a.Of.length : Int) == 0) rfl (fun h2 => ?_) (fun h2 => ?_)
  have hr := selT h2 hr
  refine Ok.seq (Ok.region (OkOps.y (.agg [cI b.Kind, .d (.sl (List.map AType.cs b.Of))]) (OkOps.w (triStore (cs' := [cI b.Kind, .d (.sl (List.map AType.cs b.Of))]) rfl rfl rfl rfl rfl rfl rfl rfl rfl) (OkOps.y (aB true) (OkOps.nil (Ok.ret ?_))))))
  obtain rfl := Option.some.inj hr
  exact ⟨_, rfl, .inl rfl, trivial⟩
  have hr := selF h2 hr
  refine Ok.skip (Ok.seq (Ok.seq (Ok.region (OkOps.y (.c (.loc 1 1)) (OkOps.y (.c (.d (.sl (List.map AType.cs b.Of)))) (OkOps.q (triLen (enc := AType.cs) b.Of rfl rfl trivial rfl) (OkOps.y (aB ((b.Of.length : Int) == 0)) (OkOps.nil ?_))))))))
  refine Ok.cond (b := (b.Of.length : Int) == 0) rfl (fun h3 => ?_) (fun h3 => ?_)
  have hr := selT h3 hr
  refine Ok.seq (Ok.region (OkOps.y (.agg [cI a.Kind, .d (.sl (List.map AType.cs a.Of))]) (OkOps.w (triStore (cs' := [cI a.Kind, .d (.sl (List.map AType.cs a.Of))]) rfl rfl rfl rfl rfl rfl rfl rfl rfl) (OkOps.y (aB true) (OkOps.nil (Ok.ret ?_))))))
  obtain rfl := Option.some.inj hr
  exact ⟨_, rfl, .inl rfl, trivial⟩
  have hr := selF h3 hr
  refine Ok.skip (Ok.seq (Ok.regionD (by kernel_rfl) (OkD.x (.c (.loc 0 1)) rfl trivial rfl (OkD.x (.c (.d (.sl (List.map AType.cs a.Of)))) rfl trivial rfl ?_))))
  obtain ⟨x4, hx4, hr⟩ := bind_some hr
  refine OkD.q (triIdx (enc := AType.cs) (L := a.Of) (row := [dI x4.Kind, .sl (List.map AType.cs x4.Of)]) hx4 (AType.cs_eq _) rfl rfl rfl (fun x => by rw [AType.cs_eq]; rfl) trivial rfl) ?_
  refine OkD.x (.agg [cI x4.Kind, .d (.sl (List.map AType.cs x4.Of))]) rfl trivial rfl (OkD.x (.c (.loc 1 1)) rfl trivial rfl (OkD.x (.c (.d (.sl (List.map AType.cs b.Of)))) rfl trivial rfl ?_))
  obtain ⟨x5, hx5, hr⟩ := bind_some hr
  refine OkD.q (triIdx (enc := AType.cs) (L := b.Of) (row := [dI x5.Kind, .sl (List.map AType.cs x5.Of)]) hx5 (AType.cs_eq _) rfl rfl rfl (fun x => by rw [AType.cs_eq]; rfl) trivial rfl) ?_
  refine OkD.x (.agg [cI x5.Kind, .d (.sl (List.map AType.cs x5.Of))]) rfl trivial rfl ?_
  obtain ⟨x6, hx6, hr⟩ := bind_some hr
  refine OkD.q (triCl (tau []) (.tup [.agg [cI x6.1.Kind, .d (.sl (List.map AType.cs x6.1.Of))], aB x6.2]) [] (hself0 _ _ hx6) rfl ⟨.inl rfl, .inl rfl, trivial⟩ trivial entry119 trivial) (OkD.q (triMv (v := .tup [.agg [cI x6.1.Kind, .d (.sl (List.map AType.cs x6.1.Of))], aB x6.2]) rfl rfl) (OkD.x (.agg [cI x6.1.Kind, .d (.sl (List.map AType.cs x6.1.Of))]) rfl trivial rfl (OkD.x (aB x6.2) rfl trivial rfl (OkD.m 0 (triAlloc (j := 3) (cs := [cI 0, .d (.v (.slice none 0 0))]) rfl rfl rfl rfl) (OkD.w (triStore (cs' := [cI x6.1.Kind, .d (.sl (List.map AType.cs x6.1.Of))]) rfl rfl rfl rfl rfl rfl rfl rfl rfl) (OkD.x (aB x6.2) rfl trivial rfl (OkD.nil (by kernel_rfl) (Ok.seq (Ok.seq (Ok.region (OkOps.y (aB x6.2) (OkOps.y (aB (!x6.2)) (OkOps.nil ?_)))))))))))))
  refine Ok.cond (b := !x6.2) rfl (fun h7 => ?_) (fun h7 => ?_)
  have hr := selT h7 hr
  refine Ok.seq (Ok.region (OkOps.y (.agg [cI 0, .d (.v (.slice none 0 0))]) (OkOps.w (triStore (cs' := [cI 0, .d (.v (.slice none 0 0))]) rfl rfl rfl rfl rfl rfl rfl rfl rfl) (OkOps.y (aB false) (OkOps.nil (Ok.ret ?_))))))
  obtain rfl := Option.some.inj hr
  exact ⟨_, rfl, .inr rfl, trivial⟩
  have hr := selF h7 hr
  refine Ok.skip (Ok.seq (Ok.region (OkOps.y (.c (.loc 0 0)) (OkOps.y (aI a.Kind) (OkOps.y (.agg [cI x6.1.Kind, .d (.sl (List.map AType.cs x6.1.Of))]) ?_)))))
  refine OkOps.m 0 (triBST (sz := 2) (enc := AType.cs) (j := 4) ([x6.1]) rfl rfl rfl rfl rfl (rows := [[dI x6.1.Kind, .sl (List.map AType.cs x6.1.Of)]]) (by simp only [List.map, AType.cs_eq]) rfl rfl (fun x => by rw [AType.cs_eq]; rfl) trivial rfl rfl) ?_
  refine OkOps.y (.agg [cI a.Kind, .tl 4 (List.map AType.cs ([x6.1]))]) (OkOps.w (triStore (cs' := [cI a.Kind, .tl 4 (List.map AType.cs ([x6.1]))]) rfl rfl rfl rfl rfl rfl rfl rfl rfl) (OkOps.y (aB true) (OkOps.nil (Ok.ret ?_))))
  obtain rfl := Option.some.inj hr
  exact ⟨_, rfl, .inr rfl, trivial⟩
theorem r11_join_all : ∀ n : Nat, (∀ (a : AType) (b : AType) {r : AType × Bool}, r11_join n a b = some r → Con Tryd.prog 119 [.agg [cI a.Kind, .d (.sl (List.map AType.cs a.Of))], .agg [cI b.Kind, .d (.sl (List.map AType.cs b.Of))]] [] (.tup [.agg [cI r.1.Kind, .d (.sl (List.map AType.cs r.1.Of))], aB r.2]) []) ∧ True := by
  intro n
  induction n with
  | zero => exact ⟨(by intros; rename_i hr; cases hr), trivial⟩
  | succ n ih => exact ⟨(by intros; rename_i hr; exact r11_join_B_c _ ih.1 _ _ hr), trivial⟩
theorem r11_join_c (n : Nat) (a : AType) (b : AType) {r : AType × Bool} (hr : r11_join n a b = some r) : Con Tryd.prog 119 [.agg [cI a.Kind, .d (.sl (List.map AType.cs a.Of))], .agg [cI b.Kind, .d (.sl (List.map AType.cs b.Of))]] [] (.tup [.agg [cI r.1.Kind, .d (.sl (List.map AType.cs r.1.Of))], aB r.2]) [] := (r11_join_all n).1 a b hr
theorem r11_check_B_c (self0 : AValue → Int → Int → Option (AType × Int × Int)) (hself0 : ∀ (v : AValue) (depth : Int) (met : Int) {r : AType × Int × Int}, self0 v depth met = some r → Con Tryd.prog 111 [.agg [cI v.Kind, cI v.N, cS v.S, .d (.sl (List.map AValue.cs v.L))], aI depth, aI met] [] (.tup [.agg [cI r.1.Kind, .d (.sl (List.map AType.cs r.1.Of))], aI r.2.1, aI r.2.2]) []) (v : AValue) (depth : Int) (met : Int) {r : AType × Int × Int} (hr : r11_check_B self0 v depth met = some r) : Con Tryd.prog 111 [.agg [cI v.Kind, cI v.N, cS v.S, .d (.sl (List.map AValue.cs v.L))], aI depth, aI met] [] (.tup [.agg [cI r.1.Kind, .d (.sl (List.map AType.cs r.1.Of))], aI r.2.1, aI r.2.2]) [] := by
  unfold r11_check_B at hr
  refine Con.of_ok 184 0 [.cell 6 183, .tmp 7, .tmp 8] [(0, .s (.agg [cI v.Kind, cI v.N, cS v.S, .d (.sl (List.map AValue.cs v.L))])), (1, .s (aI depth)), (2, .s (aI met))] Tryd.func111 rfl rfl rfl rfl rfl rfl rfl rfl fun w g M ρ _ => (Ok.seq (Ok.region (OkOps.m 0 (triBox (j := 0) (cs := [cI v.Kind, cI v.N, cS v.S, .d (.sl (List.map AValue.cs v.L))]) rfl rfl rfl rfl rfl) (OkOps.m 0 (triAlloc (j := 1) (cs := [cI 0, .d (.v (.slice none 0 0))]) rfl rfl rfl rfl) (OkOps.y (aI 0) (OkOps.y (aI 0) (OkOps.nil (Ok.seq (Ok.region (OkOps.y (aI met) (OkOps.y (aI (IntKind.i64.wrap (met + 1))) (OkOps.y (aI (IntKind.i64.wrap (met + 1))) (OkOps.nil (Ok.seq (Ok.region ?_)))))))))))))))
  refine OkOps.y (.c (.loc 0 0)) (OkOps.y (aI v.Kind) (OkOps.y (aB (v.Kind == 4)) (OkOps.y (aB (v.Kind == 4)) (OkOps.nil (Ok.seq (Ok.seq (Ok.region (OkOps.y (aB (v.Kind == 4)) (OkOps.y (aB (v.Kind == 4)) (OkOps.q (triQG (x := aI depth) rfl rfl trivial rfl) (OkOps.q (triQG (x := aB (decide (depth > 16))) rfl rfl ⟨fun h => h, trivial⟩ rfl) (OkOps.q (triAnd rfl rfl (fun h => h) rfl) (OkOps.nil ?_)))))))))))))
  refine Ok.cond (b := (v.Kind == 4) && (decide (depth > 16))) rfl (fun h1 => ?_) (fun h1 => ?_)
  have hr := selT h1 hr
  refine Ok.seq (Ok.region (OkOps.y (.agg [cI 0, .d (.v (.slice none 0 0))]) (OkOps.y (aI (IntKind.i64.wrap (met + 1))) (OkOps.w (triStore (cs' := [cI 0, .d (.v (.slice none 0 0))]) rfl rfl rfl rfl rfl rfl rfl rfl rfl) (OkOps.y (aI (IntKind.i64.wrap (met + 1))) (OkOps.y (aI 8) (OkOps.nil (Ok.ret ?_))))))))
  obtain rfl := Option.some.inj hr
  exact ⟨_, rfl, .inr rfl, trivial⟩
  have hr := selF h1 hr
  refine Ok.skip (Ok.seq (Ok.seq (Ok.region (OkOps.y (.c (.loc 0 0)) (OkOps.y (aI v.Kind) (OkOps.y (aB (decide (v.Kind < 1))) (OkOps.y (aB (decide (v.Kind < 1))) (OkOps.q (triQG (x := .c (.loc 0 0)) rfl rfl trivial rfl) (OkOps.q (triQG (x := aI v.Kind) rfl rfl ⟨fun h => h, trivial⟩ rfl) (OkOps.q (triQG (x := aB (decide (v.Kind > 4))) rfl rfl ⟨fun h => h, trivial⟩ rfl) ?_))))))))))
  refine OkOps.q (triOr rfl rfl (fun h => by rw [h]; rfl) rfl) ?_
  refine OkOps.y (aB ((decide (v.Kind < 1)) || (decide (v.Kind > 4)))) (OkOps.q (triQG (x := .c (.loc 0 1)) rfl rfl trivial rfl) (OkOps.q (triQG (x := aI v.N) rfl rfl ⟨fun h => h, trivial⟩ rfl) (OkOps.q (triQG (x := aB (v.N != 0)) rfl rfl ⟨fun h => h, trivial⟩ rfl) (OkOps.q (triQG (x := aB (v.N != 0)) rfl rfl ⟨fun h => h, trivial⟩ rfl) (OkOps.q (triQG (x := .c (.loc 0 0)) rfl rfl trivial rfl) (OkOps.q (triQG (x := aI v.Kind) rfl rfl ⟨fun h => h, trivial⟩ rfl) (OkOps.q (triQG (x := aB (v.Kind != 1)) rfl rfl ⟨fun h => h, trivial⟩ rfl) ?_)))))))
  refine OkOps.q (triAndG rfl rfl rfl (fun h => h) (fun h h2 => by rw [h, h2]; rfl) rfl) ?_
  refine OkOps.q (triQG (x := aB ((v.N != 0) && (v.Kind != 1))) rfl rfl ⟨fun h => h, trivial⟩ rfl) (OkOps.q (triQG (x := .c (.loc 0 0)) rfl rfl trivial rfl) (OkOps.q (triQG (x := aI v.Kind) rfl rfl ⟨fun h => h, trivial⟩ rfl) (OkOps.q (triQG (x := aB (v.Kind != 2)) rfl rfl ⟨fun h => h, trivial⟩ rfl) ?_)))
  refine OkOps.q (triAndG rfl rfl rfl (fun h => h) (fun h h2 => by rw [h, h2]; rfl) rfl) ?_
  refine OkOps.q (triOr rfl rfl (fun h => by rw [h]; rfl) rfl) ?_
  refine OkOps.y (aB (((decide (v.Kind < 1)) || (decide (v.Kind > 4))) || (((v.N != 0) && (v.Kind != 1)) && (v.Kind != 2)))) (OkOps.q (triQG (x := .c (.loc 0 2)) rfl rfl trivial rfl) (OkOps.q (triQG (x := aS v.S) rfl rfl ⟨fun h => h, trivial⟩ rfl) (OkOps.q (triQG (x := aB (!(v.S.toList == (ByteArray.mk #[]).toList))) rfl rfl ⟨fun h => h, trivial⟩ rfl) (OkOps.q (triQG (x := aB (!(v.S.toList == (ByteArray.mk #[]).toList))) rfl rfl ⟨fun h => h, trivial⟩ rfl) (OkOps.q (triQG (x := .c (.loc 0 0)) rfl rfl trivial rfl) (OkOps.q (triQG (x := aI v.Kind) rfl rfl ⟨fun h => h, trivial⟩ rfl) (OkOps.q (triQG (x := aB (v.Kind != 3)) rfl rfl ⟨fun h => h, trivial⟩ rfl) ?_)))))))
  refine OkOps.q (triAndG rfl rfl rfl (fun h => h) (fun h h2 => by rw [h, h2]; rfl) rfl) ?_
  refine OkOps.q (triOr rfl rfl (fun h => by rw [h]; rfl) rfl) ?_
  refine OkOps.y (aB ((((decide (v.Kind < 1)) || (decide (v.Kind > 4))) || (((v.N != 0) && (v.Kind != 1)) && (v.Kind != 2))) || ((!(v.S.toList == (ByteArray.mk #[]).toList)) && (v.Kind != 3)))) (OkOps.q (triQG (x := .c (.loc 0 3)) rfl rfl trivial rfl) (OkOps.q (triQG (x := .c (.d (.sl (List.map AValue.cs v.L)))) rfl rfl ⟨fun h => h, trivial⟩ rfl) (OkOps.q (triLenG (enc := AValue.cs) v.L rfl rfl rfl ⟨fun h => h, trivial⟩ rfl) (OkOps.q (triQG (x := aB (decide ((v.L.length : Int) > 0))) rfl rfl ⟨fun h => h, trivial⟩ rfl) (OkOps.q (triQG (x := aB (decide ((v.L.length : Int) > 0))) rfl rfl ⟨fun h => h, trivial⟩ rfl) (OkOps.q (triQG (x := aB (v.Kind == 4)) rfl rfl trivial rfl) (OkOps.q (triQG (x := aB (!(v.Kind == 4))) rfl rfl ⟨fun h => h, trivial⟩ rfl) ?_)))))))
  refine OkOps.q (triAndG rfl rfl rfl (fun h => h) (fun h h2 => by rw [h, h2]; rfl) rfl) ?_
  refine OkOps.q (triOr rfl rfl (fun h => by rw [h]; rfl) rfl) ?_
  refine OkOps.nil ?_
  refine Ok.cond (b := ((((decide (v.Kind < 1)) || (decide (v.Kind > 4))) || (((v.N != 0) && (v.Kind != 1)) && (v.Kind != 2))) || ((!(v.S.toList == (ByteArray.mk #[]).toList)) && (v.Kind != 3))) || ((decide ((v.L.length : Int) > 0)) && (!(v.Kind == 4)))) rfl (fun h2 => ?_) (fun h2 => ?_)
  have hr := selT h2 hr
  refine Ok.seq (Ok.region (OkOps.y (.agg [cI 0, .d (.v (.slice none 0 0))]) (OkOps.y (aI (IntKind.i64.wrap (met + 1))) (OkOps.w (triStore (cs' := [cI 0, .d (.v (.slice none 0 0))]) rfl rfl rfl rfl rfl rfl rfl rfl rfl) (OkOps.y (aI (IntKind.i64.wrap (met + 1))) (OkOps.y (aI 9) (OkOps.nil (Ok.ret ?_))))))))
  obtain rfl := Option.some.inj hr
  exact ⟨_, rfl, .inr rfl, trivial⟩
  have hr := selF h2 hr
  refine Ok.skip (Ok.seq (Ok.seq (Ok.region (OkOps.y (.c (.loc 0 0)) (OkOps.y (aI v.Kind) (OkOps.y (aB (v.Kind == 1)) (OkOps.y (aB (v.Kind == 1)) (OkOps.q (triQG (x := .c (.loc 0 1)) rfl rfl trivial rfl) (OkOps.q (triQG (x := aI v.N) rfl rfl ⟨fun h => h, trivial⟩ rfl) (OkOps.q (triQG (x := aB (decide (v.N < (-1099511627776)))) rfl rfl ⟨fun h => h, trivial⟩ rfl) (OkOps.q (triQG (x := aB (decide (v.N < (-1099511627776)))) rfl rfl ⟨fun h => h, trivial⟩ rfl) (OkOps.q (triQG (x := .c (.loc 0 1)) rfl rfl trivial rfl) (OkOps.q (triQG (x := aI v.N) rfl rfl ⟨fun h => h, trivial⟩ rfl) (OkOps.q (triQG (x := aB (decide (v.N > 1099511627776))) rfl rfl ⟨fun h => h, trivial⟩ rfl) ?_))))))))))))))
  refine OkOps.q (triOrG rfl rfl rfl (fun h => h) (fun h h2 => by rw [h, h2]; rfl) rfl) ?_
  refine OkOps.q (triAnd rfl rfl (fun h => h) rfl) (OkOps.y (aB ((v.Kind == 1) && ((decide (v.N < (-1099511627776))) || (decide (v.N > 1099511627776))))) (OkOps.q (triQG (x := .c (.loc 0 0)) rfl rfl trivial rfl) (OkOps.q (triQG (x := aI v.Kind) rfl rfl ⟨fun h => h, trivial⟩ rfl) (OkOps.q (triQG (x := aB (v.Kind == 2)) rfl rfl ⟨fun h => h, trivial⟩ rfl) (OkOps.q (triQG (x := aB (v.Kind == 2)) rfl rfl ⟨fun h => h, trivial⟩ rfl) (OkOps.q (triQG (x := .c (.loc 0 1)) rfl rfl trivial rfl) (OkOps.q (triQG (x := aI v.N) rfl rfl ⟨fun h => h, trivial⟩ rfl) (OkOps.q (triQG (x := aB (v.N != 0)) rfl rfl ⟨fun h => h, trivial⟩ rfl) ?_))))))))
  refine OkOps.q (triAndG rfl rfl rfl (fun h => h) (fun h h2 => by rw [h, h2]; rfl) rfl) ?_
  refine OkOps.q (triQG (x := aB ((v.Kind == 2) && (v.N != 0))) rfl rfl ⟨fun h => h, trivial⟩ rfl) (OkOps.q (triQG (x := .c (.loc 0 1)) rfl rfl trivial rfl) (OkOps.q (triQG (x := aI v.N) rfl rfl ⟨fun h => h, trivial⟩ rfl) (OkOps.q (triQG (x := aB (v.N != 1)) rfl rfl ⟨fun h => h, trivial⟩ rfl) ?_)))
  refine OkOps.q (triAndG rfl rfl rfl (fun h => h) (fun h h2 => by rw [h, h2]; rfl) rfl) ?_
  refine OkOps.q (triOr rfl rfl (fun h => by rw [h]; rfl) rfl) ?_
  refine OkOps.nil ?_
  refine Ok.cond (b := ((v.Kind == 1) && ((decide (v.N < (-1099511627776))) || (decide (v.N > 1099511627776)))) || (((v.Kind == 2) && (v.N != 0)) && (v.N != 1))) rfl (fun h3 => ?_) (fun h3 => ?_)
  have hr := selT h3 hr
  refine Ok.seq (Ok.region (OkOps.y (.agg [cI 0, .d (.v (.slice none 0 0))]) (OkOps.y (aI (IntKind.i64.wrap (met + 1))) (OkOps.w (triStore (cs' := [cI 0, .d (.v (.slice none 0 0))]) rfl rfl rfl rfl rfl rfl rfl rfl rfl) (OkOps.y (aI (IntKind.i64.wrap (met + 1))) (OkOps.y (aI 1) (OkOps.nil (Ok.ret ?_))))))))
  obtain rfl := Option.some.inj hr
  exact ⟨_, rfl, .inr rfl, trivial⟩
  have hr := selF h3 hr
  refine Ok.skip (Ok.seq (Ok.seq (Ok.region (OkOps.y (.c (.loc 0 2)) (OkOps.y (aS v.S) (OkOps.y (aI (v.S.size : Int)) (OkOps.y (aB (decide ((v.S.size : Int) > 2000))) (OkOps.y (aB (decide ((v.S.size : Int) > 2000))) (OkOps.q (triQG (x := .c (.loc 0 3)) rfl rfl trivial rfl) (OkOps.q (triQG (x := .c (.d (.sl (List.map AValue.cs v.L)))) rfl rfl ⟨fun h => h, trivial⟩ rfl) (OkOps.q (triLenG (enc := AValue.cs) v.L rfl rfl rfl ⟨fun h => h, trivial⟩ rfl) (OkOps.q (triQG (x := aB (decide ((v.L.length : Int) > 100))) rfl rfl ⟨fun h => h, trivial⟩ rfl) ?_))))))))))))
  refine OkOps.q (triOr rfl rfl (fun h => by rw [h]; rfl) rfl) ?_
  refine OkOps.y (aB ((decide ((v.S.size : Int) > 2000)) || (decide ((v.L.length : Int) > 100)))) (OkOps.q (triQG (x := aI (IntKind.i64.wrap (met + 1))) rfl rfl trivial rfl) (OkOps.q (triQG (x := aB (decide ((IntKind.i64.wrap (met + 1)) > 1000))) rfl rfl ⟨fun h => h, trivial⟩ rfl) ?_))
  refine OkOps.q (triOr rfl rfl (fun h => by rw [h]; rfl) rfl) ?_
  refine OkOps.nil ?_
  refine Ok.cond (b := ((decide ((v.S.size : Int) > 2000)) || (decide ((v.L.length : Int) > 100))) || (decide ((IntKind.i64.wrap (met + 1)) > 1000))) rfl (fun h4 => ?_) (fun h4 => ?_)
  have hr := selT h4 hr
  refine Ok.seq (Ok.region (OkOps.y (.agg [cI 0, .d (.v (.slice none 0 0))]) (OkOps.y (aI (IntKind.i64.wrap (met + 1))) (OkOps.w (triStore (cs' := [cI 0, .d (.v (.slice none 0 0))]) rfl rfl rfl rfl rfl rfl rfl rfl rfl) (OkOps.y (aI (IntKind.i64.wrap (met + 1))) (OkOps.y (aI 2) (OkOps.nil (Ok.ret ?_))))))))
  obtain rfl := Option.some.inj hr
  exact ⟨_, rfl, .inr rfl, trivial⟩
  have hr := selF h4 hr
  refine Ok.skip (Ok.seq (Ok.seq (Ok.region (OkOps.y (.c (.loc 0 2)) (OkOps.y (aS v.S) ?_)))))
  obtain ⟨x5, hx5, hr⟩ := bind_some hr
  refine OkOps.q (triCl (tau []) (.s (aB x5)) [] (r11_UTF8_c _ hx5) rfl ⟨.inl rfl, trivial⟩ trivial entry118 trivial) (OkOps.y (aB (!x5)) (OkOps.nil ?_))
  refine Ok.cond (b := !x5) rfl (fun h6 => ?_) (fun h6 => ?_)
  have hr := selT h6 hr
  refine Ok.seq (Ok.region (OkOps.y (.agg [cI 0, .d (.v (.slice none 0 0))]) (OkOps.y (aI (IntKind.i64.wrap (met + 1))) (OkOps.w (triStore (cs' := [cI 0, .d (.v (.slice none 0 0))]) rfl rfl rfl rfl rfl rfl rfl rfl rfl) (OkOps.y (aI (IntKind.i64.wrap (met + 1))) (OkOps.y (aI 3) (OkOps.nil (Ok.ret ?_))))))))
  obtain rfl := Option.some.inj hr
  exact ⟨_, rfl, .inr rfl, trivial⟩
  have hr := selF h6 hr
  refine Ok.skip (Ok.seq (Ok.region (OkOps.y (.c (.loc 0 0)) (OkOps.y (aI v.Kind) (OkOps.y (.agg [cI v.Kind, .d (.v (.slice none 0 0))]) (OkOps.m 0 (triAlloc (j := 2) (cs := [cI 0, .d (.v (.slice none 0 0))]) rfl rfl rfl rfl) (OkOps.w (triStore (cs' := [cI v.Kind, .d (.v (.slice none 0 0))]) rfl rfl rfl rfl rfl rfl rfl rfl rfl) (OkOps.nil (Ok.seq (Ok.region (OkOps.y (aB true) (OkOps.nil ?_))))))))))))
  obtain ⟨k8, hk8, hr⟩ := jn_some hr
  refine Ok.join (fun (s7 : Int × Bool × (List AType)) => ⟨[(2, .s (aI s7.1)), (6, .s (.c (.loc 1 0))), (10, .s (.c (.loc 2 0))), (11, .s (aB s7.2.1))], [(1, .blk [cI 0, .d (.v (.slice none 0 0))] 183), (2, .blk [cI v.Kind, .tl 1007 (List.map AType.cs s7.2.2)] 183), (1007, .tail 2)], 0⟩) k8 r (fun s7 hr => ?_) ?_
  rw [hk8] at hr
  refine Ok.seq (Ok.seq (Ok.region (OkOps.y (aB s7.2.1) (OkOps.y (aB (!s7.2.1)) (OkOps.nil ?_)))))
  refine Ok.cond (b := !s7.2.1) rfl (fun h9 => ?_) (fun h9 => ?_)
  have hr := selT h9 hr
  refine Ok.seq (Ok.region (OkOps.y (.agg [cI 0, .d (.v (.slice none 0 0))]) (OkOps.y (aI s7.1) (OkOps.w (triStore (cs' := [cI 0, .d (.v (.slice none 0 0))]) rfl rfl rfl rfl rfl rfl rfl rfl rfl) (OkOps.y (aI s7.1) (OkOps.y (aI 5) (OkOps.nil (Ok.ret ?_))))))))
  obtain rfl := Option.some.inj hr
  exact ⟨_, rfl, .inr rfl, trivial⟩
  have hr := selF h9 hr
  refine Ok.skip (Ok.seq (Ok.region (OkOps.y (.agg [cI v.Kind, .tl 1007 (List.map AType.cs s7.2.2)]) (OkOps.y (aI s7.1) (OkOps.w (triStore (cs' := [cI v.Kind, .tl 1007 (List.map AType.cs s7.2.2)]) rfl rfl rfl rfl rfl rfl rfl rfl rfl) (OkOps.y (aI s7.1) (OkOps.y (aI 0) (OkOps.nil (Ok.ret ?_)))))))))
  obtain rfl := Option.some.inj hr
  exact ⟨_, rfl, .inr rfl, trivial⟩
  clear hk8
  refine Ok.seq (Ok.region (OkOps.y (aI 0) (OkOps.nil (Ok.block (Ok.loopK (fun (s10 : Int × Bool × Int × (List AType)) => ⟨[(1, .s (aI depth)), (2, .s (aI s10.1)), (3, .s (.c (.loc 0 0))), (6, .s (.c (.loc 1 0))), (10, .s (.c (.loc 2 0))), (11, .s (aB s10.2.1)), (12, .s (aI s10.2.2.1))], [(0, .blk [cI v.Kind, cI v.N, cS v.S, .d (.sl (List.map AValue.cs v.L))] 47), (1, .blk [cI 0, .d (.v (.slice none 0 0))] 183), (2, .blk [cI v.Kind, .tl 1011 (List.map AType.cs s10.2.2.2)] 183), (1011, .tail 2)], 0⟩) hr (Conv.trans (Conv.nilO 2 1 1014 2 [cI v.Kind, .d (.v (.slice none 0 0))] [cI v.Kind, .tl 1014 (List.map AType.cs ([] : (List AType)))] 183 0 rfl rfl rfl rfl) (Conv.mk (tau [(1011, 1014)]) ⟨⟨_, rfl, .inl rfl⟩, ⟨_, rfl, .inl rfl⟩, ⟨_, rfl, .inl rfl⟩, ⟨_, rfl, .inl rfl⟩, ⟨_, rfl, .inl rfl⟩, ⟨_, rfl, .inl rfl⟩, ⟨_, rfl, .inl rfl⟩, trivial⟩ ⟨rfl, rfl, rfl, rfl, trivial⟩ rfl rfl rfl rfl)) ?_)))))
  clear hr
  intro again11 s10 hr
  unfold r11_check_L1 at hr
  refine Ok.seq (Ok.seq (Ok.region (OkOps.y (aI s10.2.2.1) (OkOps.y (.c (.loc 0 3)) (OkOps.y (.c (.d (.sl (List.map AValue.cs v.L)))) (OkOps.q (triLen (enc := AValue.cs) v.L rfl rfl trivial rfl) (OkOps.y (aB (decide (s10.2.2.1 < (v.L.length : Int)))) (OkOps.nil ?_))))))))
  refine Ok.cond (b := decide (s10.2.2.1 < (v.L.length : Int))) rfl (fun h12 => ?_) (fun h12 => ?_)
  have hr := selT h12 hr
  refine Ok.skip ?_
  obtain ⟨k14, hk14, hr⟩ := jn_some hr
  refine Ok.join (fun (s13 : Int × Bool × (List AType)) => ⟨[(1, .s (aI depth)), (2, .s (aI s13.1)), (3, .s (.c (.loc 0 0))), (6, .s (.c (.loc 1 0))), (10, .s (.c (.loc 2 0))), (11, .s (aB s13.2.1)), (12, .s (aI s10.2.2.1))], [(0, .blk [cI v.Kind, cI v.N, cS v.S, .d (.sl (List.map AValue.cs v.L))] 47), (1, .blk [cI 0, .d (.v (.slice none 0 0))] 183), (2, .blk [cI v.Kind, .tl 1015 (List.map AType.cs s13.2.2)] 183), (1015, .tail 2)], 0⟩) k14 r (fun s13 hr => ?_) ?_
  rw [hk14] at hr
  refine Ok.region (OkOps.y (aI s10.2.2.1) (OkOps.y (aI (IntKind.i64.wrap (s10.2.2.1 + 1))) (OkOps.y (aI (IntKind.i64.wrap (s10.2.2.1 + 1))) (OkOps.nil ?_))))
  exact ⟨(s13.1, s13.2.1, IntKind.i64.wrap (s10.2.2.1 + 1), s13.2.2), hr, (Conv.mk (tau [(1011, 1015)]) ⟨⟨_, rfl, .inl rfl⟩, ⟨_, rfl, .inl rfl⟩, ⟨_, rfl, .inl rfl⟩, ⟨_, rfl, .inl rfl⟩, ⟨_, rfl, .inl rfl⟩, ⟨_, rfl, .inl rfl⟩, ⟨_, rfl, .inl rfl⟩, trivial⟩ ⟨rfl, rfl, rfl, rfl, trivial⟩ rfl rfl rfl rfl)⟩
  clear hk14
  refine Ok.block (Ok.seq (Ok.region (OkOps.y (.c (.loc 0 3)) (OkOps.y (.c (.d (.sl (List.map AValue.cs v.L)))) (OkOps.y (aI s10.2.2.1) ?_)))))
  obtain ⟨x15, hx15, hr⟩ := bind_some hr
  refine OkOps.q (triIdx (enc := AValue.cs) (L := v.L) (row := [dI x15.Kind, dI x15.N, dS x15.S, .sl (List.map AValue.cs x15.L)]) hx15 (AValue.cs_eq _) rfl rfl rfl (fun x => by rw [AValue.cs_eq]; rfl) trivial rfl) ?_
  refine OkOps.y (.agg [cI x15.Kind, cI x15.N, cS x15.S, .d (.sl (List.map AValue.cs x15.L))]) (OkOps.y (aI depth) (OkOps.y (aI (IntKind.i64.wrap (depth + 1))) (OkOps.y (aI s10.1) ?_)))
  obtain ⟨x16, hx16, hr⟩ := bind_some hr
  refine OkOps.q (triCl (tau []) (.tup [.agg [cI x16.1.Kind, .d (.sl (List.map AType.cs x16.1.Of))], aI x16.2.1, aI x16.2.2]) [] (hself0 _ _ _ hx16) rfl ⟨.inl rfl, .inl rfl, .inl rfl, trivial⟩ trivial entry111 trivial) (OkOps.q (triMv (v := .tup [.agg [cI x16.1.Kind, .d (.sl (List.map AType.cs x16.1.Of))], aI x16.2.1, aI x16.2.2]) rfl rfl) (OkOps.y (.agg [cI x16.1.Kind, .d (.sl (List.map AType.cs x16.1.Of))]) (OkOps.y (aI x16.2.1) (OkOps.y (aI x16.2.2) (OkOps.m 0 (triAlloc (j := 3) (cs := [cI 0, .d (.v (.slice none 0 0))]) rfl rfl rfl rfl) (OkOps.w (triStore (cs' := [cI x16.1.Kind, .d (.sl (List.map AType.cs x16.1.Of))]) rfl rfl rfl rfl rfl rfl rfl rfl rfl) (OkOps.y (aI x16.2.1) (OkOps.y (aI x16.2.2) (OkOps.nil (Ok.seq (Ok.region (OkOps.y (aI x16.2.1) (OkOps.y (aI x16.2.1) (OkOps.nil (Ok.seq ?_)))))))))))))))
  refine Ok.seq (Ok.region (OkOps.y (aI x16.2.2) (OkOps.y (aB (x16.2.2 != 0)) (OkOps.nil ?_))))
  refine Ok.cond (b := x16.2.2 != 0) rfl (fun h17 => ?_) (fun h17 => ?_)
  have hr := selT h17 hr
  refine Ok.seq (Ok.region (OkOps.y (.agg [cI 0, .d (.v (.slice none 0 0))]) (OkOps.y (aI x16.2.1) (OkOps.y (aI x16.2.2) (OkOps.w (triStore (cs' := [cI 0, .d (.v (.slice none 0 0))]) rfl rfl rfl rfl rfl rfl rfl rfl rfl) (OkOps.y (aI x16.2.1) (OkOps.y (aI x16.2.2) (OkOps.nil (Ok.ret ?_)))))))))
  obtain rfl := Option.some.inj hr
  exact ⟨_, rfl, .inr rfl, trivial⟩
  have hr := selF h17 hr
  refine Ok.skip (Ok.seq (Ok.seq (Ok.region (OkOps.y (aB s10.2.1) (OkOps.y (aB (!s10.2.1)) (OkOps.nil ?_))))))
  refine Ok.cond (b := !s10.2.1) rfl (fun h18 => ?_) (fun h18 => ?_)
  have hr := selT h18 hr
  refine Ok.exit ?_
  exact ⟨(x16.2.1, s10.2.1, s10.2.2.2), hr, (Conv.mk (tau [(1015, 1011)]) ⟨⟨_, rfl, .inl rfl⟩, ⟨_, rfl, .inl rfl⟩, ⟨_, rfl, .inl rfl⟩, ⟨_, rfl, .inl rfl⟩, ⟨_, rfl, .inl rfl⟩, ⟨_, rfl, .inl rfl⟩, ⟨_, rfl, .inl rfl⟩, trivial⟩ ⟨rfl, rfl, rfl, rfl, trivial⟩ rfl rfl rfl rfl)⟩
  have hr := selF h18 hr
  refine Ok.skip (Ok.seq (Ok.seq (Ok.region (OkOps.y (.c (.loc 2 1)) (OkOps.y (.c (.tl 1011 (List.map AType.cs s10.2.2.2))) (OkOps.q (triLen (enc := AType.cs) s10.2.2.2 rfl rfl trivial rfl) (OkOps.y (aB ((s10.2.2.2.length : Int) == 0)) (OkOps.nil ?_))))))))
  refine Ok.cond (b := (s10.2.2.2.length : Int) == 0) rfl (fun h19 => ?_) (fun h19 => ?_)
  have hr := selT h19 hr
  refine Ok.seq (Ok.region (OkOps.y (.agg [cI x16.1.Kind, .d (.sl (List.map AType.cs x16.1.Of))]) ?_))
  refine OkOps.m 0 (triBST (sz := 2) (enc := AType.cs) (j := 4) ([x16.1]) rfl rfl rfl rfl rfl (rows := [[dI x16.1.Kind, .sl (List.map AType.cs x16.1.Of)]]) (by simp only [List.map, AType.cs_eq]) rfl rfl (fun x => by rw [AType.cs_eq]; rfl) trivial rfl rfl) ?_
  refine OkOps.y (.c (.loc 2 1)) (OkOps.w (triStore (cs' := [cI v.Kind, .tl 4 (List.map AType.cs ([x16.1]))]) rfl rfl rfl rfl rfl rfl rfl rfl rfl) (OkOps.nil (Ok.exit ?_)))
  exact ⟨(x16.2.1, s10.2.1, [x16.1]), hr, (Conv.mk (tau [(1015, 4)]) ⟨⟨_, rfl, .inl rfl⟩, ⟨_, rfl, .inl rfl⟩, ⟨_, rfl, .inl rfl⟩, ⟨_, rfl, .inl rfl⟩, ⟨_, rfl, .inl rfl⟩, ⟨_, rfl, .inl rfl⟩, ⟨_, rfl, .inl rfl⟩, trivial⟩ ⟨rfl, rfl, rfl, rfl, trivial⟩ rfl rfl rfl rfl)⟩
  have hr := selF h19 hr
  refine Ok.skip (Ok.seq (Ok.regionD (by kernel_rfl) (OkD.x (.c (.loc 2 1)) rfl trivial rfl (OkD.x (.c (.tl 1011 (List.map AType.cs s10.2.2.2))) rfl trivial rfl ?_))))
  obtain ⟨x20, hx20, hr⟩ := bind_some hr
  refine OkD.q (triIdx (enc := AType.cs) (L := s10.2.2.2) (row := [dI x20.Kind, .sl (List.map AType.cs x20.Of)]) hx20 (AType.cs_eq _) rfl rfl rfl (fun x => by rw [AType.cs_eq]; rfl) trivial rfl) ?_
  refine OkD.x (.agg [cI x20.Kind, .d (.sl (List.map AType.cs x20.Of))]) rfl trivial rfl (OkD.x (.agg [cI x16.1.Kind, .d (.sl (List.map AType.cs x16.1.Of))]) rfl trivial rfl ?_)
  obtain ⟨x21, hx21, hr⟩ := bind_some hr
  refine OkD.q (triCl (tau []) (.tup [.agg [cI x21.1.Kind, .d (.sl (List.map AType.cs x21.1.Of))], aB x21.2]) [] (r11_join_c _ _ _ hx21) rfl ⟨.inl rfl, .inl rfl, trivial⟩ trivial entry119 trivial) (OkD.q (triMv (v := .tup [.agg [cI x21.1.Kind, .d (.sl (List.map AType.cs x21.1.Of))], aB x21.2]) rfl rfl) (OkD.x (.agg [cI x21.1.Kind, .d (.sl (List.map AType.cs x21.1.Of))]) rfl trivial rfl (OkD.x (aB x21.2) rfl trivial rfl (OkD.m 0 (triAlloc (j := 5) (cs := [cI 0, .d (.v (.slice none 0 0))]) rfl rfl rfl rfl) (OkD.w (triStore (cs' := [cI x21.1.Kind, .d (.sl (List.map AType.cs x21.1.Of))]) rfl rfl rfl rfl rfl rfl rfl rfl rfl) (OkD.x (aB x21.2) rfl trivial rfl (OkD.nil (by kernel_rfl) (Ok.seq (Ok.region (OkOps.y (aB x21.2) (OkOps.y (aB x21.2) (OkOps.nil (Ok.region (OkOps.y (.agg [cI x21.1.Kind, .d (.sl (List.map AType.cs x21.1.Of))]) ?_))))))))))))))
  refine OkOps.m 0 (triBST (sz := 2) (enc := AType.cs) (j := 6) ([x21.1]) rfl rfl rfl rfl rfl (rows := [[dI x21.1.Kind, .sl (List.map AType.cs x21.1.Of)]]) (by simp only [List.map, AType.cs_eq]) rfl rfl (fun x => by rw [AType.cs_eq]; rfl) trivial rfl rfl) ?_
  refine OkOps.y (.c (.loc 2 1)) (OkOps.w (triStore (cs' := [cI v.Kind, .tl 6 (List.map AType.cs ([x21.1]))]) rfl rfl rfl rfl rfl rfl rfl rfl rfl) (OkOps.nil ?_))
  exact ⟨(x16.2.1, x21.2, [x21.1]), hr, (Conv.mk (tau [(1015, 6)]) ⟨⟨_, rfl, .inl rfl⟩, ⟨_, rfl, .inl rfl⟩, ⟨_, rfl, .inl rfl⟩, ⟨_, rfl, .inl rfl⟩, ⟨_, rfl, .inl rfl⟩, ⟨_, rfl, .inl rfl⟩, ⟨_, rfl, .inl rfl⟩, trivial⟩ ⟨rfl, rfl, rfl, rfl, trivial⟩ rfl rfl rfl rfl)⟩
  have hr := selF h12 hr
  refine Ok.exit ?_
  exact ⟨(s10.1, s10.2.1, s10.2.2.2), hr, (Conv.mk (tau [(1007, 1011)]) ⟨⟨_, rfl, .inl rfl⟩, ⟨_, rfl, .inl rfl⟩, ⟨_, rfl, .inl rfl⟩, ⟨_, rfl, .inl rfl⟩, trivial⟩ ⟨rfl, rfl, rfl, trivial⟩ rfl rfl rfl rfl)⟩
theorem r11_check_all : ∀ n : Nat, (∀ (v : AValue) (depth : Int) (met : Int) {r : AType × Int × Int}, r11_check n v depth met = some r → Con Tryd.prog 111 [.agg [cI v.Kind, cI v.N, cS v.S, .d (.sl (List.map AValue.cs v.L))], aI depth, aI met] [] (.tup [.agg [cI r.1.Kind, .d (.sl (List.map AType.cs r.1.Of))], aI r.2.1, aI r.2.2]) []) ∧ True := by
  intro n
  induction n with
  | zero => exact ⟨(by intros; rename_i hr; cases hr), trivial⟩
  | succ n ih => exact ⟨(by intros; rename_i hr; exact r11_check_B_c _ ih.1 _ _ _ hr), trivial⟩
theorem r11_check_c (n : Nat) (v : AValue) (depth : Int) (met : Int) {r : AType × Int × Int} (hr : r11_check n v depth met = some r) : Con Tryd.prog 111 [.agg [cI v.Kind, cI v.N, cS v.S, .d (.sl (List.map AValue.cs v.L))], aI depth, aI met] [] (.tup [.agg [cI r.1.Kind, .d (.sl (List.map AType.cs r.1.Of))], aI r.2.1, aI r.2.2]) [] := (r11_check_all n).1 v depth met hr
theorem r11_TypeOf_c (v : AValue) {r : AType × Int} (hr : r11_TypeOf v = some r) : Con Tryd.prog 98 [.agg [cI v.Kind, cI v.N, cS v.S, .d (.sl (List.map AValue.cs v.L))]] [] (.tup [.agg [cI r.1.Kind, .d (.sl (List.map AType.cs r.1.Of))], aI r.2]) [] := by
  unfold r11_TypeOf at hr
  refine Con.of_ok 15 0 [.cell 2 183, .tmp 3] [(0, .s (.agg [cI v.Kind, cI v.N, cS v.S, .d (.sl (List.map AValue.cs v.L))]))] Tryd.func98 rfl rfl rfl rfl rfl rfl rfl rfl fun w g M ρ _ => (Ok.seq (Ok.region (OkOps.m 0 (triBox (j := 0) (cs := [cI v.Kind, cI v.N, cS v.S, .d (.sl (List.map AValue.cs v.L))]) rfl rfl rfl rfl rfl) (OkOps.m 0 (triAlloc (j := 1) (cs := [cI 0, .d (.v (.slice none 0 0))]) rfl rfl rfl rfl) (OkOps.y (aI 0) (OkOps.nil (Ok.seq (Ok.region (OkOps.y (.agg [cI v.Kind, cI v.N, cS v.S, .d (.sl (List.map AValue.cs v.L))]) ?_)))))))))
  obtain ⟨x1, hx1, hr⟩ := bind_some hr
  refine OkOps.q (triCl (tau []) (.tup [.agg [cI x1.1.Kind, .d (.sl (List.map AType.cs x1.1.Of))], aI x1.2.1, aI x1.2.2]) [] (r11_check_c _ _ _ _ hx1) rfl ⟨.inl rfl, .inl rfl, .inl rfl, trivial⟩ trivial entry111 trivial) (OkOps.q (triMv (v := .tup [.agg [cI x1.1.Kind, .d (.sl (List.map AType.cs x1.1.Of))], aI x1.2.1, aI x1.2.2]) rfl rfl) (OkOps.y (.agg [cI x1.1.Kind, .d (.sl (List.map AType.cs x1.1.Of))]) (OkOps.y (aI x1.2.1) (OkOps.y (aI x1.2.2) (OkOps.m 0 (triAlloc (j := 2) (cs := [cI 0, .d (.v (.slice none 0 0))]) rfl rfl rfl rfl) (OkOps.w (triStore (cs' := [cI x1.1.Kind, .d (.sl (List.map AType.cs x1.1.Of))]) rfl rfl rfl rfl rfl rfl rfl rfl rfl) (OkOps.y (aI x1.2.1) (OkOps.y (aI x1.2.2) (OkOps.nil (Ok.seq (Ok.region (OkOps.y (.agg [cI x1.1.Kind, .d (.sl (List.map AType.cs x1.1.Of))]) (OkOps.y (aI x1.2.2) (OkOps.w (triStore (cs' := [cI x1.1.Kind, .d (.sl (List.map AType.cs x1.1.Of))]) rfl rfl rfl rfl rfl rfl rfl rfl rfl) (OkOps.y (aI x1.2.2) ?_)))))))))))))))
  refine OkOps.nil (Ok.ret ?_)
  obtain rfl := Option.some.inj hr
  exact ⟨_, rfl, .inl rfl, trivial⟩
theorem r11_Check_c (v : AValue) {r : Int} (hr : r11_Check v = some r) : Con Tryd.prog 79 [.agg [cI v.Kind, cI v.N, cS v.S, .d (.sl (List.map AValue.cs v.L))]] [] (.s (aI r)) [] := by
  unfold r11_Check at hr
  refine Con.of_ok 11 0 [.tmp 2] [(0, .s (.agg [cI v.Kind, cI v.N, cS v.S, .d (.sl (List.map AValue.cs v.L))]))] Tryd.func79 rfl rfl rfl rfl rfl rfl rfl rfl fun w g M ρ _ => (Ok.seq (Ok.region (OkOps.m 0 (triBox (j := 0) (cs := [cI v.Kind, cI v.N, cS v.S, .d (.sl (List.map AValue.cs v.L))]) rfl rfl rfl rfl rfl) (OkOps.y (aI 0) (OkOps.nil (Ok.seq (Ok.region (OkOps.y (.agg [cI v.Kind, cI v.N, cS v.S, .d (.sl (List.map AValue.cs v.L))]) ?_))))))))
  obtain ⟨x1, hx1, hr⟩ := bind_some hr
  refine OkOps.q (triCl (tau []) (.tup [.agg [cI x1.1.Kind, .d (.sl (List.map AType.cs x1.1.Of))], aI x1.2]) [] (r11_TypeOf_c _ hx1) rfl ⟨.inl rfl, trivial⟩ trivial entry98 trivial) (OkOps.q (triMv (v := .tup [.agg [cI x1.1.Kind, .d (.sl (List.map AType.cs x1.1.Of))], aI x1.2]) rfl rfl) (OkOps.y (.agg [cI x1.1.Kind, .d (.sl (List.map AType.cs x1.1.Of))]) (OkOps.y (aI x1.2) (OkOps.m 0 (triAlloc (j := 1) (cs := [cI 0, .d (.v (.slice none 0 0))]) rfl rfl rfl rfl) (OkOps.w (triStore (cs' := [cI x1.1.Kind, .d (.sl (List.map AType.cs x1.1.Of))]) rfl rfl rfl rfl rfl rfl rfl rfl rfl) (OkOps.y (aI x1.2) (OkOps.nil (Ok.seq (Ok.region (OkOps.y (aI x1.2) (OkOps.y (aI x1.2) (OkOps.nil (Ok.ret ?_)))))))))))))
  obtain rfl := Option.some.inj hr
  exact ⟨_, rfl, .inl rfl, trivial⟩
end Go.Proofs.YtobiohcdpfpefaaDoor
end
section
set_option maxRecDepth 100000
namespace Go.Proofs.YtobiohcdpfpefaaDoor
open Go Go.E2
theorem r14_validate_B_c (self0 : View → Int → Int → Option (Int × Int)) (hself0 : ∀ (v : View) (depth : Int) (met : Int) {r : Int × Int}, self0 v depth met = some r → Con Tryd.prog 59 [.agg [cI v.Kind, cS v.Key, .d (.sl (List.map Attr.cs v.Attrs)), .d (.sl (List.map Action.cs v.Actions)), .d (.sl (List.map View.cs v.Kids))], aI depth, aI met] [] (.tup [aI r.1, aI r.2]) []) (v : View) (depth : Int) (met : Int) {r : Int × Int} (hr : r14_validate_B self0 v depth met = some r) : Con Tryd.prog 59 [.agg [cI v.Kind, cS v.Key, .d (.sl (List.map Attr.cs v.Attrs)), .d (.sl (List.map Action.cs v.Actions)), .d (.sl (List.map View.cs v.Kids))], aI depth, aI met] [] (.tup [aI r.1, aI r.2]) [] := by
  unfold r14_validate_B at hr
  refine Con.of_ok 230 0 [.tmp 6, .tmp 7] [(0, .s (.agg [cI v.Kind, cS v.Key, .d (.sl (List.map Attr.cs v.Attrs)), .d (.sl (List.map Action.cs v.Actions)), .d (.sl (List.map View.cs v.Kids))])), (1, .s (aI depth)), (2, .s (aI met))] Tryd.func59 rfl rfl rfl rfl rfl rfl rfl rfl fun w g M ρ _ => (Ok.seq (Ok.region (OkOps.m 0 (triBox (j := 0) (cs := [cI v.Kind, cS v.Key, .d (.sl (List.map Attr.cs v.Attrs)), .d (.sl (List.map Action.cs v.Actions)), .d (.sl (List.map View.cs v.Kids))]) rfl rfl rfl rfl rfl) (OkOps.y (aI 0) (OkOps.y (aI 0) (OkOps.nil (Ok.seq (Ok.region (OkOps.y (aI met) (OkOps.y (aI (IntKind.i64.wrap (met + 1))) (OkOps.y (aI (IntKind.i64.wrap (met + 1))) (OkOps.nil (Ok.seq (Ok.seq (Ok.region ?_)))))))))))))))
  refine OkOps.y (aI depth) (OkOps.y (aB (decide (depth > 16))) (OkOps.nil ?_))
  refine Ok.cond (b := decide (depth > 16)) rfl (fun h1 => ?_) (fun h1 => ?_)
  have hr := selT h1 hr
  refine Ok.seq (Ok.region (OkOps.y (aI (IntKind.i64.wrap (met + 1))) (OkOps.y (aI (IntKind.i64.wrap (met + 1))) (OkOps.y (aI 8) (OkOps.nil (Ok.ret ?_))))))
  obtain rfl := Option.some.inj hr
  exact ⟨_, rfl, .inl rfl, trivial⟩
  have hr := selF h1 hr
  refine Ok.skip (Ok.seq (Ok.seq (Ok.region (OkOps.y (aI (IntKind.i64.wrap (met + 1))) (OkOps.y (aB (decide ((IntKind.i64.wrap (met + 1)) > 400))) (OkOps.nil ?_))))))
  refine Ok.cond (b := decide ((IntKind.i64.wrap (met + 1)) > 400)) rfl (fun h2 => ?_) (fun h2 => ?_)
  have hr := selT h2 hr
  refine Ok.seq (Ok.region (OkOps.y (aI (IntKind.i64.wrap (met + 1))) (OkOps.y (aI (IntKind.i64.wrap (met + 1))) (OkOps.y (aI 2) (OkOps.nil (Ok.ret ?_))))))
  obtain rfl := Option.some.inj hr
  exact ⟨_, rfl, .inl rfl, trivial⟩
  have hr := selF h2 hr
  refine Ok.skip (Ok.seq (Ok.seq (Ok.region (OkOps.y (.c (.loc 0 0)) (OkOps.y (aI v.Kind) (OkOps.y (aB (decide (v.Kind < 1))) (OkOps.y (aB (decide (v.Kind < 1))) (OkOps.q (triQG (x := .c (.loc 0 0)) rfl rfl trivial rfl) (OkOps.q (triQG (x := aI v.Kind) rfl rfl ⟨fun h => h, trivial⟩ rfl) (OkOps.q (triQG (x := aB (decide (v.Kind > 13))) rfl rfl ⟨fun h => h, trivial⟩ rfl) ?_))))))))))
  refine OkOps.q (triOr rfl rfl (fun h => by rw [h]; rfl) rfl) ?_
  refine OkOps.nil ?_
  refine Ok.cond (b := (decide (v.Kind < 1)) || (decide (v.Kind > 13))) rfl (fun h3 => ?_) (fun h3 => ?_)
  have hr := selT h3 hr
  refine Ok.seq (Ok.region (OkOps.y (aI (IntKind.i64.wrap (met + 1))) (OkOps.y (aI (IntKind.i64.wrap (met + 1))) (OkOps.y (aI 9) (OkOps.nil (Ok.ret ?_))))))
  obtain rfl := Option.some.inj hr
  exact ⟨_, rfl, .inl rfl, trivial⟩
  have hr := selF h3 hr
  refine Ok.skip (Ok.seq (Ok.seq (Ok.region (OkOps.y (.c (.loc 0 1)) (OkOps.y (aS v.Key) ?_)))))
  obtain ⟨x4, hx4, hr⟩ := bind_some hr
  refine OkOps.q (triCl (tau []) (.s (aB x4)) [] (r14_Key_c _ hx4) rfl ⟨.inl rfl, trivial⟩ trivial entry77 trivial) (OkOps.y (aB (!x4)) (OkOps.nil ?_))
  refine Ok.cond (b := !x4) rfl (fun h5 => ?_) (fun h5 => ?_)
  have hr := selT h5 hr
  refine Ok.seq (Ok.region (OkOps.y (aI (IntKind.i64.wrap (met + 1))) (OkOps.y (aI (IntKind.i64.wrap (met + 1))) (OkOps.y (aI 4) (OkOps.nil (Ok.ret ?_))))))
  obtain rfl := Option.some.inj hr
  exact ⟨_, rfl, .inl rfl, trivial⟩
  have hr := selF h5 hr
  refine Ok.skip (Ok.seq (Ok.seq (Ok.region (OkOps.y (.c (.loc 0 2)) (OkOps.y (.c (.d (.sl (List.map Attr.cs v.Attrs)))) (OkOps.q (triLen (enc := Attr.cs) v.Attrs rfl rfl trivial rfl) (OkOps.y (aB (decide ((v.Attrs.length : Int) > 24))) (OkOps.y (aB (decide ((v.Attrs.length : Int) > 24))) (OkOps.q (triQG (x := .c (.loc 0 3)) rfl rfl trivial rfl) (OkOps.q (triQG (x := .c (.d (.sl (List.map Action.cs v.Actions)))) rfl rfl ⟨fun h => h, trivial⟩ rfl) (OkOps.q (triLenG (enc := Action.cs) v.Actions rfl rfl rfl ⟨fun h => h, trivial⟩ rfl) (OkOps.q (triQG (x := aB (decide ((v.Actions.length : Int) > 24))) rfl rfl ⟨fun h => h, trivial⟩ rfl) ?_))))))))))))
  refine OkOps.q (triOr rfl rfl (fun h => by rw [h]; rfl) rfl) ?_
  refine OkOps.y (aB ((decide ((v.Attrs.length : Int) > 24)) || (decide ((v.Actions.length : Int) > 24)))) (OkOps.q (triQG (x := .c (.loc 0 4)) rfl rfl trivial rfl) (OkOps.q (triQG (x := .c (.d (.sl (List.map View.cs v.Kids)))) rfl rfl ⟨fun h => h, trivial⟩ rfl) (OkOps.q (triLenG (enc := View.cs) v.Kids rfl rfl rfl ⟨fun h => h, trivial⟩ rfl) (OkOps.q (triQG (x := aB (decide ((v.Kids.length : Int) > 100))) rfl rfl ⟨fun h => h, trivial⟩ rfl) ?_))))
  refine OkOps.q (triOr rfl rfl (fun h => by rw [h]; rfl) rfl) ?_
  refine OkOps.nil ?_
  refine Ok.cond (b := ((decide ((v.Attrs.length : Int) > 24)) || (decide ((v.Actions.length : Int) > 24))) || (decide ((v.Kids.length : Int) > 100))) rfl (fun h6 => ?_) (fun h6 => ?_)
  have hr := selT h6 hr
  refine Ok.seq (Ok.region (OkOps.y (aI (IntKind.i64.wrap (met + 1))) (OkOps.y (aI (IntKind.i64.wrap (met + 1))) (OkOps.y (aI 2) (OkOps.nil (Ok.ret ?_))))))
  obtain rfl := Option.some.inj hr
  exact ⟨_, rfl, .inl rfl, trivial⟩
  have hr := selF h6 hr
  refine Ok.skip ?_
  obtain ⟨k8, hk8, hr⟩ := jn_some hr
  refine Ok.join (fun (s7 : Unit) => ⟨[(1, .s (aI depth)), (2, .s (aI (IntKind.i64.wrap (met + 1)))), (3, .s (.c (.loc 0 0)))], [(0, .blk [cI v.Kind, cS v.Key, .d (.sl (List.map Attr.cs v.Attrs)), .d (.sl (List.map Action.cs v.Actions)), .d (.sl (List.map View.cs v.Kids))] 54)], 0⟩) k8 r (fun s7 hr => ?_) ?_
  rw [hk8] at hr
  obtain ⟨k10, hk10, hr⟩ := jn_some hr
  refine Ok.join (fun (s9 : Unit) => ⟨[(1, .s (aI depth)), (2, .s (aI (IntKind.i64.wrap (met + 1)))), (3, .s (.c (.loc 0 0)))], [(0, .blk [cI v.Kind, cS v.Key, .d (.sl (List.map Attr.cs v.Attrs)), .d (.sl (List.map Action.cs v.Actions)), .d (.sl (List.map View.cs v.Kids))] 54)], 0⟩) k10 r (fun s9 hr => ?_) ?_
  rw [hk10] at hr
  obtain ⟨k12, hk12, hr⟩ := jn_some hr
  refine Ok.join (fun (s11 : Unit) => ⟨[(1, .s (aI depth)), (2, .s (aI (IntKind.i64.wrap (met + 1)))), (3, .s (.c (.loc 0 0)))], [(0, .blk [cI v.Kind, cS v.Key, .d (.sl (List.map Attr.cs v.Attrs)), .d (.sl (List.map Action.cs v.Actions)), .d (.sl (List.map View.cs v.Kids))] 54)], 0⟩) k12 r (fun s11 hr => ?_) ?_
  rw [hk12] at hr
  obtain ⟨k14, hk14, hr⟩ := jn_some hr
  refine Ok.join (fun (s13 : Int) => ⟨[(2, .s (aI s13))], [], 0⟩) k14 r (fun s13 hr => ?_) ?_
  rw [hk14] at hr
  refine Ok.seq (Ok.region (OkOps.y (aI s13) (OkOps.y (aI s13) (OkOps.y (aI 0) (OkOps.nil (Ok.ret ?_))))))
  obtain rfl := Option.some.inj hr
  exact ⟨_, rfl, .inl rfl, trivial⟩
  clear hk14
  refine Ok.seq (Ok.region (OkOps.y (aI 0) (OkOps.nil (Ok.block (Ok.loopK (fun (s15 : Int × Int) => ⟨[(1, .s (aI depth)), (2, .s (aI s15.1)), (3, .s (.c (.loc 0 0))), (16, .s (aI s15.2))], [(0, .blk [cI v.Kind, cS v.Key, .d (.sl (List.map Attr.cs v.Attrs)), .d (.sl (List.map Action.cs v.Actions)), .d (.sl (List.map View.cs v.Kids))] 54)], 0⟩) hr (Conv.mk (tau []) ⟨⟨_, rfl, .inl rfl⟩, ⟨_, rfl, .inl rfl⟩, ⟨_, rfl, .inl rfl⟩, ⟨_, rfl, .inl rfl⟩, trivial⟩ ⟨rfl, trivial⟩ rfl rfl rfl rfl) ?_)))))
  clear hr
  intro again16 s15 hr
  unfold r14_validate_L1 at hr
  refine Ok.seq (Ok.seq (Ok.region (OkOps.y (aI s15.2) (OkOps.y (.c (.loc 0 4)) (OkOps.y (.c (.d (.sl (List.map View.cs v.Kids)))) (OkOps.q (triLen (enc := View.cs) v.Kids rfl rfl trivial rfl) (OkOps.y (aB (decide (s15.2 < (v.Kids.length : Int)))) (OkOps.nil ?_))))))))
  refine Ok.cond (b := decide (s15.2 < (v.Kids.length : Int))) rfl (fun h17 => ?_) (fun h17 => ?_)
  have hr := selT h17 hr
  refine Ok.skip (Ok.seq (Ok.block (Ok.seq (Ok.region (OkOps.y (.c (.loc 0 4)) (OkOps.y (.c (.d (.sl (List.map View.cs v.Kids)))) (OkOps.y (aI s15.2) ?_)))))))
  obtain ⟨x18, hx18, hr⟩ := bind_some hr
  refine OkOps.q (triIdx (enc := View.cs) (L := v.Kids) (row := [dI x18.Kind, dS x18.Key, .sl (List.map Attr.cs x18.Attrs), .sl (List.map Action.cs x18.Actions), .sl (List.map View.cs x18.Kids)]) hx18 (View.cs_eq _) rfl rfl rfl (fun x => by rw [View.cs_eq]; rfl) trivial rfl) ?_
  refine OkOps.y (.agg [cI x18.Kind, cS x18.Key, .d (.sl (List.map Attr.cs x18.Attrs)), .d (.sl (List.map Action.cs x18.Actions)), .d (.sl (List.map View.cs x18.Kids))]) (OkOps.y (aI depth) (OkOps.y (aI (IntKind.i64.wrap (depth + 1))) (OkOps.y (aI s15.1) ?_)))
  obtain ⟨x19, hx19, hr⟩ := bind_some hr
  refine OkOps.q (triCl (tau []) (.tup [aI x19.1, aI x19.2]) [] (hself0 _ _ _ hx19) rfl ⟨.inl rfl, .inl rfl, .inl rfl, trivial⟩ trivial entry59 trivial) (OkOps.q (triMv (v := .tup [aI x19.1, aI x19.2]) rfl rfl) (OkOps.y (aI x19.1) (OkOps.y (aI x19.2) (OkOps.y (aI x19.1) (OkOps.y (aI x19.2) (OkOps.nil (Ok.seq (Ok.region (OkOps.y (aI x19.1) (OkOps.y (aI x19.1) (OkOps.nil (Ok.seq (Ok.region (OkOps.y (aI x19.2) (OkOps.y (aB (x19.2 != 0)) ?_)))))))))))))))
  refine OkOps.nil ?_
  refine Ok.cond (b := x19.2 != 0) rfl (fun h20 => ?_) (fun h20 => ?_)
  have hr := selT h20 hr
  refine Ok.seq (Ok.region (OkOps.y (aI x19.1) (OkOps.y (aI x19.2) (OkOps.y (aI x19.1) (OkOps.y (aI x19.2) (OkOps.nil (Ok.ret ?_)))))))
  obtain rfl := Option.some.inj hr
  exact ⟨_, rfl, .inl rfl, trivial⟩
  have hr := selF h20 hr
  refine Ok.skip (Ok.region (OkOps.y (aI s15.2) (OkOps.y (aI (IntKind.i64.wrap (s15.2 + 1))) (OkOps.y (aI (IntKind.i64.wrap (s15.2 + 1))) (OkOps.nil ?_)))))
  exact ⟨(x19.1, IntKind.i64.wrap (s15.2 + 1)), hr, (Conv.mk (tau []) ⟨⟨_, rfl, .inl rfl⟩, ⟨_, rfl, .inl rfl⟩, ⟨_, rfl, .inl rfl⟩, ⟨_, rfl, .inl rfl⟩, trivial⟩ ⟨rfl, trivial⟩ rfl rfl rfl rfl)⟩
  have hr := selF h17 hr
  refine Ok.exit ?_
  exact ⟨s15.1, hr, (Conv.mk (tau []) ⟨⟨_, rfl, .inl rfl⟩, trivial⟩ trivial rfl rfl rfl rfl)⟩
  clear hk12
  refine Ok.seq (Ok.region (OkOps.y (aI 0) (OkOps.nil (Ok.block (Ok.loopK (fun (s21 : Int) => ⟨[(1, .s (aI depth)), (2, .s (aI (IntKind.i64.wrap (met + 1)))), (3, .s (.c (.loc 0 0))), (14, .s (aI s21))], [(0, .blk [cI v.Kind, cS v.Key, .d (.sl (List.map Attr.cs v.Attrs)), .d (.sl (List.map Action.cs v.Actions)), .d (.sl (List.map View.cs v.Kids))] 54)], 0⟩) hr (Conv.mk (tau []) ⟨⟨_, rfl, .inl rfl⟩, ⟨_, rfl, .inl rfl⟩, ⟨_, rfl, .inl rfl⟩, ⟨_, rfl, .inl rfl⟩, trivial⟩ ⟨rfl, trivial⟩ rfl rfl rfl rfl) ?_)))))
  clear hr
  intro again22 s21 hr
  unfold r14_validate_L3 at hr
  refine Ok.seq (Ok.seq (Ok.region (OkOps.y (aI s21) (OkOps.y (.c (.loc 0 4)) (OkOps.y (.c (.d (.sl (List.map View.cs v.Kids)))) (OkOps.q (triLen (enc := View.cs) v.Kids rfl rfl trivial rfl) (OkOps.y (aB (decide (s21 < (v.Kids.length : Int)))) (OkOps.nil ?_))))))))
  refine Ok.cond (b := decide (s21 < (v.Kids.length : Int))) rfl (fun h23 => ?_) (fun h23 => ?_)
  have hr := selT h23 hr
  refine Ok.skip ?_
  obtain ⟨k25, hk25, hr⟩ := jn_some hr
  refine Ok.join (fun (s24 : Unit) => ⟨[(1, .s (aI depth)), (2, .s (aI (IntKind.i64.wrap (met + 1)))), (3, .s (.c (.loc 0 0))), (14, .s (aI s21))], [(0, .blk [cI v.Kind, cS v.Key, .d (.sl (List.map Attr.cs v.Attrs)), .d (.sl (List.map Action.cs v.Actions)), .d (.sl (List.map View.cs v.Kids))] 54)], 0⟩) k25 r (fun s24 hr => ?_) ?_
  rw [hk25] at hr
  refine Ok.region (OkOps.y (aI s21) (OkOps.y (aI (IntKind.i64.wrap (s21 + 1))) (OkOps.y (aI (IntKind.i64.wrap (s21 + 1))) (OkOps.nil ?_))))
  exact ⟨IntKind.i64.wrap (s21 + 1), hr, (Conv.mk (tau []) ⟨⟨_, rfl, .inl rfl⟩, ⟨_, rfl, .inl rfl⟩, ⟨_, rfl, .inl rfl⟩, ⟨_, rfl, .inl rfl⟩, trivial⟩ ⟨rfl, trivial⟩ rfl rfl rfl rfl)⟩
  clear hk25
  refine Ok.block (Ok.seq (Ok.region (OkOps.y (aI 0) (OkOps.nil ?_))))
  obtain ⟨k27, hk27, hr⟩ := jn_some hr
  refine Ok.joinEnd (fun (s26 : Unit) => ⟨[(1, .s (aI depth)), (2, .s (aI (IntKind.i64.wrap (met + 1)))), (3, .s (.c (.loc 0 0))), (14, .s (aI s21))], [(0, .blk [cI v.Kind, cS v.Key, .d (.sl (List.map Attr.cs v.Attrs)), .d (.sl (List.map Action.cs v.Actions)), .d (.sl (List.map View.cs v.Kids))] 54)], 0⟩) k27 r (fun s26 hr => ?_) ?_
  rw [hk27] at hr
  exact ⟨(), hr, (Conv.mk (tau []) ⟨⟨_, rfl, .inl rfl⟩, ⟨_, rfl, .inl rfl⟩, ⟨_, rfl, .inl rfl⟩, ⟨_, rfl, .inl rfl⟩, trivial⟩ ⟨rfl, trivial⟩ rfl rfl rfl rfl)⟩
  clear hk27
  refine Ok.block (Ok.loopK (fun (s28 : Int) => ⟨[(1, .s (aI depth)), (2, .s (aI (IntKind.i64.wrap (met + 1)))), (3, .s (.c (.loc 0 0))), (14, .s (aI s21)), (15, .s (aI s28))], [(0, .blk [cI v.Kind, cS v.Key, .d (.sl (List.map Attr.cs v.Attrs)), .d (.sl (List.map Action.cs v.Actions)), .d (.sl (List.map View.cs v.Kids))] 54)], 0⟩) hr (Conv.mk (tau []) ⟨⟨_, rfl, .inl rfl⟩, ⟨_, rfl, .inl rfl⟩, ⟨_, rfl, .inl rfl⟩, ⟨_, rfl, .inl rfl⟩, ⟨_, rfl, .inl rfl⟩, trivial⟩ ⟨rfl, trivial⟩ rfl rfl rfl rfl) ?_)
  clear hr
  intro again29 s28 hr
  unfold r14_validate_L2 at hr
  refine Ok.seq (Ok.seq (Ok.region (OkOps.y (aI s28) (OkOps.y (aI s21) (OkOps.y (aB (decide (s28 < s21))) (OkOps.nil ?_))))))
  refine Ok.cond (b := decide (s28 < s21)) rfl (fun h30 => ?_) (fun h30 => ?_)
  have hr := selT h30 hr
  refine Ok.skip (Ok.seq (Ok.block (Ok.seq (Ok.regionD (by kernel_rfl) (OkD.x (.c (.loc 0 4)) rfl trivial rfl (OkD.x (.c (.d (.sl (List.map View.cs v.Kids)))) rfl trivial rfl (OkD.x (aI s21) rfl trivial rfl ?_)))))))
  obtain ⟨x31, hx31, hr⟩ := bind_some hr
  refine OkD.q (triIdx (enc := View.cs) (L := v.Kids) (row := [dI x31.Kind, dS x31.Key, .sl (List.map Attr.cs x31.Attrs), .sl (List.map Action.cs x31.Actions), .sl (List.map View.cs x31.Kids)]) hx31 (View.cs_eq _) rfl rfl rfl (fun x => by rw [View.cs_eq]; rfl) trivial rfl) ?_
  refine OkD.x (.c (.pt [dS x31.Key, .sl (List.map Attr.cs x31.Attrs), .sl (List.map Action.cs x31.Actions), .sl (List.map View.cs x31.Kids)])) rfl trivial rfl (OkD.x (aS x31.Key) rfl trivial rfl (OkD.x (aB (!(x31.Key.toList == (ByteArray.mk #[]).toList))) rfl trivial rfl (OkD.x (aB (!(x31.Key.toList == (ByteArray.mk #[]).toList))) rfl trivial rfl (OkD.q (triQG (x := .c (.loc 0 4)) rfl rfl trivial rfl) (OkD.q (triQG (x := .c (.d (.sl (List.map View.cs v.Kids)))) rfl rfl ⟨fun h => h, trivial⟩ rfl) (OkD.q (triQG (x := aI s21) rfl rfl trivial rfl) ?_))))))
  obtain ⟨x32, hx32, hr⟩ := bind_some hr
  refine OkD.q (triIdxG (enc := View.cs) (L := v.Kids) (row := [dI x32.Kind, dS x32.Key, .sl (List.map Attr.cs x32.Attrs), .sl (List.map Action.cs x32.Actions), .sl (List.map View.cs x32.Kids)]) (gO_t hx32) (View.cs_eq _) rfl rfl rfl rfl (fun x => by rw [View.cs_eq]; rfl) ⟨fun h => h, ⟨fun h => h, trivial⟩⟩ rfl) ?_
  refine OkD.q (triQG (x := .c (.pt [dS x32.Key, .sl (List.map Attr.cs x32.Attrs), .sl (List.map Action.cs x32.Actions), .sl (List.map View.cs x32.Kids)])) rfl rfl ⟨fun h => h, trivial⟩ rfl) (OkD.q (triQG (x := aS x32.Key) rfl rfl ⟨fun h => h, trivial⟩ rfl) (OkD.q (triQG (x := .c (.loc 0 4)) rfl rfl trivial rfl) (OkD.q (triQG (x := .c (.d (.sl (List.map View.cs v.Kids)))) rfl rfl ⟨fun h => h, trivial⟩ rfl) (OkD.q (triQG (x := aI s28) rfl rfl trivial rfl) ?_))))
  obtain ⟨x33, hx33, hr⟩ := bind_some hr
  refine OkD.q (triIdxG (enc := View.cs) (L := v.Kids) (row := [dI x33.Kind, dS x33.Key, .sl (List.map Attr.cs x33.Attrs), .sl (List.map Action.cs x33.Actions), .sl (List.map View.cs x33.Kids)]) (gO_t hx33) (View.cs_eq _) rfl rfl rfl rfl (fun x => by rw [View.cs_eq]; rfl) ⟨fun h => h, ⟨fun h => h, trivial⟩⟩ rfl) ?_
  refine OkD.q (triQG (x := .c (.pt [dS x33.Key, .sl (List.map Attr.cs x33.Attrs), .sl (List.map Action.cs x33.Actions), .sl (List.map View.cs x33.Kids)])) rfl rfl ⟨fun h => h, trivial⟩ rfl) (OkD.q (triQG (x := aS x33.Key) rfl rfl ⟨fun h => h, trivial⟩ rfl) (OkD.q (triQG (x := aB (x32.Key.toList == x33.Key.toList)) rfl rfl ⟨fun h => h, ⟨fun h => h, trivial⟩⟩ rfl) (OkD.q (triAnd rfl rfl (fun h => h) rfl) (OkD.nil (by kernel_rfl) ?_))))
  refine Ok.cond (b := (!(x31.Key.toList == (ByteArray.mk #[]).toList)) && (x32.Key.toList == x33.Key.toList)) rfl (fun h34 => ?_) (fun h34 => ?_)
  have hr := selT h34 hr
  refine Ok.seq (Ok.region (OkOps.y (aI (IntKind.i64.wrap (met + 1))) (OkOps.y (aI (IntKind.i64.wrap (met + 1))) (OkOps.y (aI 6) (OkOps.nil (Ok.ret ?_))))))
  obtain rfl := Option.some.inj hr
  exact ⟨_, rfl, .inl rfl, trivial⟩
  have hr := selF h34 hr
  refine Ok.skip (Ok.region (OkOps.y (aI s28) (OkOps.y (aI (IntKind.i64.wrap (s28 + 1))) (OkOps.y (aI (IntKind.i64.wrap (s28 + 1))) (OkOps.nil ?_)))))
  exact ⟨IntKind.i64.wrap (s28 + 1), hr, (Conv.mk (tau []) ⟨⟨_, rfl, .inl rfl⟩, ⟨_, rfl, .inl rfl⟩, ⟨_, rfl, .inl rfl⟩, ⟨_, rfl, .inl rfl⟩, ⟨_, rfl, .inl rfl⟩, trivial⟩ ⟨rfl, trivial⟩ rfl rfl rfl rfl)⟩
  have hr := selF h30 hr
  refine Ok.exit ?_
  exact ⟨(), hr, (Conv.mk (tau []) ⟨⟨_, rfl, .inl rfl⟩, ⟨_, rfl, .inl rfl⟩, ⟨_, rfl, .inl rfl⟩, ⟨_, rfl, .inl rfl⟩, trivial⟩ ⟨rfl, trivial⟩ rfl rfl rfl rfl)⟩
  have hr := selF h23 hr
  refine Ok.exit ?_
  exact ⟨(), hr, (Conv.mk (tau []) ⟨⟨_, rfl, .inl rfl⟩, ⟨_, rfl, .inl rfl⟩, ⟨_, rfl, .inl rfl⟩, trivial⟩ ⟨rfl, trivial⟩ rfl rfl rfl rfl)⟩
  clear hk10
  refine Ok.seq (Ok.region (OkOps.y (aI 0) (OkOps.nil (Ok.block (Ok.loopK (fun (s35 : Int) => ⟨[(1, .s (aI depth)), (2, .s (aI (IntKind.i64.wrap (met + 1)))), (3, .s (.c (.loc 0 0))), (10, .s (aI s35))], [(0, .blk [cI v.Kind, cS v.Key, .d (.sl (List.map Attr.cs v.Attrs)), .d (.sl (List.map Action.cs v.Actions)), .d (.sl (List.map View.cs v.Kids))] 54)], 0⟩) hr (Conv.mk (tau []) ⟨⟨_, rfl, .inl rfl⟩, ⟨_, rfl, .inl rfl⟩, ⟨_, rfl, .inl rfl⟩, ⟨_, rfl, .inl rfl⟩, trivial⟩ ⟨rfl, trivial⟩ rfl rfl rfl rfl) ?_)))))
  clear hr
  intro again36 s35 hr
  unfold r14_validate_L5 at hr
  refine Ok.seq (Ok.seq (Ok.region (OkOps.y (aI s35) (OkOps.y (.c (.loc 0 3)) (OkOps.y (.c (.d (.sl (List.map Action.cs v.Actions)))) (OkOps.q (triLen (enc := Action.cs) v.Actions rfl rfl trivial rfl) (OkOps.y (aB (decide (s35 < (v.Actions.length : Int)))) (OkOps.nil ?_))))))))
  refine Ok.cond (b := decide (s35 < (v.Actions.length : Int))) rfl (fun h37 => ?_) (fun h37 => ?_)
  have hr := selT h37 hr
  refine Ok.skip ?_
  obtain ⟨k39, hk39, hr⟩ := jn_some hr
  refine Ok.join (fun (s38 : Unit) => ⟨[(1, .s (aI depth)), (2, .s (aI (IntKind.i64.wrap (met + 1)))), (3, .s (.c (.loc 0 0))), (10, .s (aI s35))], [(0, .blk [cI v.Kind, cS v.Key, .d (.sl (List.map Attr.cs v.Attrs)), .d (.sl (List.map Action.cs v.Actions)), .d (.sl (List.map View.cs v.Kids))] 54)], 0⟩) k39 r (fun s38 hr => ?_) ?_
  rw [hk39] at hr
  refine Ok.region (OkOps.y (aI s35) (OkOps.y (aI (IntKind.i64.wrap (s35 + 1))) (OkOps.y (aI (IntKind.i64.wrap (s35 + 1))) (OkOps.nil ?_))))
  exact ⟨IntKind.i64.wrap (s35 + 1), hr, (Conv.mk (tau []) ⟨⟨_, rfl, .inl rfl⟩, ⟨_, rfl, .inl rfl⟩, ⟨_, rfl, .inl rfl⟩, ⟨_, rfl, .inl rfl⟩, trivial⟩ ⟨rfl, trivial⟩ rfl rfl rfl rfl)⟩
  clear hk39
  refine Ok.block (Ok.seq (Ok.region (OkOps.y (.c (.loc 0 3)) (OkOps.y (.c (.d (.sl (List.map Action.cs v.Actions)))) (OkOps.y (aI s35) ?_)))))
  obtain ⟨x40, hx40, hr⟩ := bind_some hr
  refine OkOps.q (triIdx (enc := Action.cs) (L := v.Actions) (row := [dS x40.Event, dS x40.Instance, dS x40.Handler, .sl (List.map AValue.cs x40.Args)]) hx40 rfl rfl rfl rfl (fun _ => rfl) trivial rfl) (OkOps.y (.agg [cS x40.Event, cS x40.Instance, cS x40.Handler, .d (.sl (List.map AValue.cs x40.Args))]) (OkOps.m 0 (triAlloc (j := 1) (cs := [cS ByteArray.empty, cS ByteArray.empty, cS ByteArray.empty, .d (.v (.slice none 0 0))]) rfl rfl rfl rfl) (OkOps.w (triStore (cs' := [cS x40.Event, cS x40.Instance, cS x40.Handler, .d (.sl (List.map AValue.cs x40.Args))]) rfl rfl rfl rfl rfl rfl rfl rfl rfl) (OkOps.nil (Ok.seq (Ok.seq (Ok.region (OkOps.y (.c (.loc 1 0)) (OkOps.y (aS x40.Event) ?_)))))))))
  obtain ⟨x41, hx41, hr⟩ := bind_some hr
  refine OkOps.q (triCl (tau []) (.s (aB x41)) [] (r11_Name_c _ hx41) rfl ⟨.inl rfl, trivial⟩ trivial entry78 trivial) (OkOps.y (aB (!x41)) (OkOps.y (aB (!x41)) (OkOps.q (triQG (x := .c (.loc 1 2)) rfl rfl trivial rfl) (OkOps.q (triQG (x := aS x40.Handler) rfl rfl ⟨fun h => h, trivial⟩ rfl) ?_))))
  obtain ⟨x42, hx42, hr⟩ := bind_some hr
  refine OkOps.q (triCallG (x := aB x42) (fun hg => r11_Name_c _ (gO_t hx42 hg)) rfl rfl ⟨.inl rfl, trivial⟩ ⟨fun h => h, trivial⟩ entry78 rfl rfl rfl) (OkOps.q (triQG (x := aB (!x42)) rfl rfl ⟨fun h => h, trivial⟩ rfl) ?_)
  refine OkOps.q (triOr rfl rfl (fun h => by rw [h]; rfl) rfl) ?_
  refine OkOps.nil ?_
  refine Ok.cond (b := (!x41) || (!x42)) rfl (fun h43 => ?_) (fun h43 => ?_)
  have hr := selT h43 hr
  refine Ok.seq (Ok.region (OkOps.y (aI (IntKind.i64.wrap (met + 1))) (OkOps.y (aI (IntKind.i64.wrap (met + 1))) (OkOps.y (aI 4) (OkOps.nil (Ok.ret ?_))))))
  obtain rfl := Option.some.inj hr
  exact ⟨_, rfl, .inl rfl, trivial⟩
  have hr := selF h43 hr
  refine Ok.skip (Ok.seq (Ok.seq (Ok.regionD (by kernel_rfl) (OkD.x (aI s35) rfl trivial rfl (OkD.x (aB (decide (s35 > 0))) rfl trivial rfl (OkD.x (aB (decide (s35 > 0))) rfl trivial rfl (OkD.q (triQG (x := .c (.loc 1 0)) rfl rfl trivial rfl) (OkD.q (triQG (x := aS x40.Event) rfl rfl ⟨fun h => h, trivial⟩ rfl) (OkD.q (triQG (x := .c (.loc 0 3)) rfl rfl trivial rfl) (OkD.q (triQG (x := .c (.d (.sl (List.map Action.cs v.Actions)))) rfl rfl ⟨fun h => h, trivial⟩ rfl) (OkD.q (triQG (x := aI s35) rfl rfl trivial rfl) (OkD.q (triQG (x := aI (IntKind.i64.wrap (s35 - 1))) rfl rfl ⟨fun h => h, trivial⟩ rfl) ?_))))))))))))
  obtain ⟨x44, hx44, hr⟩ := bind_some hr
  refine OkD.q (triIdxG (enc := Action.cs) (L := v.Actions) (row := [dS x44.Event, dS x44.Instance, dS x44.Handler, .sl (List.map AValue.cs x44.Args)]) (gO_t hx44) rfl rfl rfl rfl rfl (fun _ => rfl) ⟨fun h => h, ⟨fun h => h, trivial⟩⟩ rfl) (OkD.q (triQG (x := .c (.pt [dS x44.Event, dS x44.Instance, dS x44.Handler, .sl (List.map AValue.cs x44.Args)])) rfl rfl ⟨fun h => h, trivial⟩ rfl) (OkD.q (triQG (x := aS x44.Event) rfl rfl ⟨fun h => h, trivial⟩ rfl) (OkD.q (triQG (x := aB (Op.bytesLess x40.Event.toList x44.Event.toList || x40.Event.toList == x44.Event.toList)) rfl rfl ⟨fun h => h, ⟨fun h => h, trivial⟩⟩ rfl) (OkD.q (triAnd rfl rfl (fun h => h) rfl) (OkD.nil (by kernel_rfl) ?_)))))
  refine Ok.cond (b := (decide (s35 > 0)) && (Op.bytesLess x40.Event.toList x44.Event.toList || x40.Event.toList == x44.Event.toList)) rfl (fun h45 => ?_) (fun h45 => ?_)
  have hr := selT h45 hr
  refine Ok.seq (Ok.region (OkOps.y (aI (IntKind.i64.wrap (met + 1))) (OkOps.y (aI (IntKind.i64.wrap (met + 1))) (OkOps.y (aI 10) (OkOps.nil (Ok.ret ?_))))))
  obtain rfl := Option.some.inj hr
  exact ⟨_, rfl, .inl rfl, trivial⟩
  have hr := selF h45 hr
  refine Ok.skip (Ok.seq (Ok.seq (Ok.region (OkOps.y (.c (.loc 1 1)) (OkOps.y (aS x40.Instance) (OkOps.y (aI (x40.Instance.size : Int)) (OkOps.y (aB (decide ((x40.Instance.size : Int) > 400))) (OkOps.y (aB (decide ((x40.Instance.size : Int) > 400))) (OkOps.q (triQG (x := .c (.loc 1 3)) rfl rfl trivial rfl) (OkOps.q (triQG (x := .c (.d (.sl (List.map AValue.cs x40.Args)))) rfl rfl ⟨fun h => h, trivial⟩ rfl) (OkOps.q (triLenG (enc := AValue.cs) x40.Args rfl rfl rfl ⟨fun h => h, trivial⟩ rfl) (OkOps.q (triQG (x := aB (decide ((x40.Args.length : Int) > 100))) rfl rfl ⟨fun h => h, trivial⟩ rfl) ?_))))))))))))
  refine OkOps.q (triOr rfl rfl (fun h => by rw [h]; rfl) rfl) ?_
  refine OkOps.nil ?_
  refine Ok.cond (b := (decide ((x40.Instance.size : Int) > 400)) || (decide ((x40.Args.length : Int) > 100))) rfl (fun h46 => ?_) (fun h46 => ?_)
  have hr := selT h46 hr
  refine Ok.seq (Ok.region (OkOps.y (aI (IntKind.i64.wrap (met + 1))) (OkOps.y (aI (IntKind.i64.wrap (met + 1))) (OkOps.y (aI 2) (OkOps.nil (Ok.ret ?_))))))
  obtain rfl := Option.some.inj hr
  exact ⟨_, rfl, .inl rfl, trivial⟩
  have hr := selF h46 hr
  refine Ok.skip (Ok.seq (Ok.region (OkOps.y (aI 0) (OkOps.nil ?_))))
  obtain ⟨k48, hk48, hr⟩ := jn_some hr
  refine Ok.joinEnd (fun (s47 : Unit) => ⟨[(1, .s (aI depth)), (2, .s (aI (IntKind.i64.wrap (met + 1)))), (3, .s (.c (.loc 0 0))), (10, .s (aI s35))], [(0, .blk [cI v.Kind, cS v.Key, .d (.sl (List.map Attr.cs v.Attrs)), .d (.sl (List.map Action.cs v.Actions)), .d (.sl (List.map View.cs v.Kids))] 54)], 0⟩) k48 r (fun s47 hr => ?_) ?_
  rw [hk48] at hr
  exact ⟨(), hr, (Conv.mk (tau []) ⟨⟨_, rfl, .inl rfl⟩, ⟨_, rfl, .inl rfl⟩, ⟨_, rfl, .inl rfl⟩, ⟨_, rfl, .inl rfl⟩, trivial⟩ ⟨rfl, trivial⟩ rfl rfl rfl rfl)⟩
  clear hk48
  refine Ok.block (Ok.loopK (fun (s49 : Int) => ⟨[(1, .s (aI depth)), (2, .s (aI (IntKind.i64.wrap (met + 1)))), (3, .s (.c (.loc 0 0))), (10, .s (aI s35)), (11, .s (.c (.loc 1 0))), (12, .s (aI s49))], [(0, .blk [cI v.Kind, cS v.Key, .d (.sl (List.map Attr.cs v.Attrs)), .d (.sl (List.map Action.cs v.Actions)), .d (.sl (List.map View.cs v.Kids))] 54), (1, .blk [cS x40.Event, cS x40.Instance, cS x40.Handler, .d (.sl (List.map AValue.cs x40.Args))] 151)], 0⟩) hr (Conv.mk (tau []) ⟨⟨_, rfl, .inl rfl⟩, ⟨_, rfl, .inl rfl⟩, ⟨_, rfl, .inl rfl⟩, ⟨_, rfl, .inl rfl⟩, ⟨_, rfl, .inl rfl⟩, ⟨_, rfl, .inl rfl⟩, trivial⟩ ⟨rfl, rfl, trivial⟩ rfl rfl rfl rfl) ?_)
  clear hr
  intro again50 s49 hr
  unfold r14_validate_L4 at hr
  refine Ok.seq (Ok.seq (Ok.region (OkOps.y (aI s49) (OkOps.y (.c (.loc 1 3)) (OkOps.y (.c (.d (.sl (List.map AValue.cs x40.Args)))) (OkOps.q (triLen (enc := AValue.cs) x40.Args rfl rfl trivial rfl) (OkOps.y (aB (decide (s49 < (x40.Args.length : Int)))) (OkOps.nil ?_))))))))
  refine Ok.cond (b := decide (s49 < (x40.Args.length : Int))) rfl (fun h51 => ?_) (fun h51 => ?_)
  have hr := selT h51 hr
  refine Ok.skip (Ok.seq (Ok.block (Ok.seq (Ok.region (OkOps.y (.c (.loc 1 3)) (OkOps.y (.c (.d (.sl (List.map AValue.cs x40.Args)))) (OkOps.y (aI s49) ?_)))))))
  obtain ⟨x52, hx52, hr⟩ := bind_some hr
  refine OkOps.q (triIdx (enc := AValue.cs) (L := x40.Args) (row := [dI x52.Kind, dI x52.N, dS x52.S, .sl (List.map AValue.cs x52.L)]) hx52 (AValue.cs_eq _) rfl rfl rfl (fun x => by rw [AValue.cs_eq]; rfl) trivial rfl) ?_
  refine OkOps.y (.agg [cI x52.Kind, cI x52.N, cS x52.S, .d (.sl (List.map AValue.cs x52.L))]) ?_
  obtain ⟨x53, hx53, hr⟩ := bind_some hr
  refine OkOps.q (triCl (tau []) (.s (aI x53)) [] (r11_Check_c _ hx53) rfl ⟨.inl rfl, trivial⟩ trivial entry79 trivial) (OkOps.y (aI x53) (OkOps.nil (Ok.seq (Ok.region (OkOps.y (aI x53) (OkOps.y (aB (x53 != 0)) (OkOps.nil ?_)))))))
  refine Ok.cond (b := x53 != 0) rfl (fun h54 => ?_) (fun h54 => ?_)
  have hr := selT h54 hr
  refine Ok.seq (Ok.region (OkOps.y (aI (IntKind.i64.wrap (met + 1))) (OkOps.y (aI x53) (OkOps.y (aI (IntKind.i64.wrap (met + 1))) (OkOps.y (aI x53) (OkOps.nil (Ok.ret ?_)))))))
  obtain rfl := Option.some.inj hr
  exact ⟨_, rfl, .inl rfl, trivial⟩
  have hr := selF h54 hr
  refine Ok.skip (Ok.region (OkOps.y (aI s49) (OkOps.y (aI (IntKind.i64.wrap (s49 + 1))) (OkOps.y (aI (IntKind.i64.wrap (s49 + 1))) (OkOps.nil ?_)))))
  exact ⟨IntKind.i64.wrap (s49 + 1), hr, (Conv.mk (tau []) ⟨⟨_, rfl, .inl rfl⟩, ⟨_, rfl, .inl rfl⟩, ⟨_, rfl, .inl rfl⟩, ⟨_, rfl, .inl rfl⟩, ⟨_, rfl, .inl rfl⟩, ⟨_, rfl, .inl rfl⟩, trivial⟩ ⟨rfl, rfl, trivial⟩ rfl rfl rfl rfl)⟩
  have hr := selF h51 hr
  refine Ok.exit ?_
  exact ⟨(), hr, (Conv.mk (tau []) ⟨⟨_, rfl, .inl rfl⟩, ⟨_, rfl, .inl rfl⟩, ⟨_, rfl, .inl rfl⟩, ⟨_, rfl, .inl rfl⟩, trivial⟩ ⟨rfl, trivial⟩ rfl rfl rfl rfl)⟩
  have hr := selF h37 hr
  refine Ok.exit ?_
  exact ⟨(), hr, (Conv.mk (tau []) ⟨⟨_, rfl, .inl rfl⟩, ⟨_, rfl, .inl rfl⟩, ⟨_, rfl, .inl rfl⟩, trivial⟩ ⟨rfl, trivial⟩ rfl rfl rfl rfl)⟩
  clear hk8
  refine Ok.seq (Ok.region (OkOps.y (aI 0) (OkOps.nil (Ok.block (Ok.loopK (fun (s55 : Int) => ⟨[(1, .s (aI depth)), (2, .s (aI (IntKind.i64.wrap (met + 1)))), (3, .s (.c (.loc 0 0))), (8, .s (aI s55))], [(0, .blk [cI v.Kind, cS v.Key, .d (.sl (List.map Attr.cs v.Attrs)), .d (.sl (List.map Action.cs v.Actions)), .d (.sl (List.map View.cs v.Kids))] 54)], 0⟩) hr (Conv.mk (tau []) ⟨⟨_, rfl, .inl rfl⟩, ⟨_, rfl, .inl rfl⟩, ⟨_, rfl, .inl rfl⟩, ⟨_, rfl, .inl rfl⟩, trivial⟩ ⟨rfl, trivial⟩ rfl rfl rfl rfl) ?_)))))
  clear hr
  intro again56 s55 hr
  unfold r14_validate_L6 at hr
  refine Ok.seq (Ok.seq (Ok.region (OkOps.y (aI s55) (OkOps.y (.c (.loc 0 2)) (OkOps.y (.c (.d (.sl (List.map Attr.cs v.Attrs)))) (OkOps.q (triLen (enc := Attr.cs) v.Attrs rfl rfl trivial rfl) (OkOps.y (aB (decide (s55 < (v.Attrs.length : Int)))) (OkOps.nil ?_))))))))
  refine Ok.cond (b := decide (s55 < (v.Attrs.length : Int))) rfl (fun h57 => ?_) (fun h57 => ?_)
  have hr := selT h57 hr
  refine Ok.skip (Ok.seq (Ok.block (Ok.seq (Ok.seq (Ok.region (OkOps.y (.c (.loc 0 2)) (OkOps.y (.c (.d (.sl (List.map Attr.cs v.Attrs)))) (OkOps.y (aI s55) ?_))))))))
  obtain ⟨x58, hx58, hr⟩ := bind_some hr
  refine OkOps.q (triIdx (enc := Attr.cs) (L := v.Attrs) (row := [dS x58.Name, dI x58.Value.Kind, dI x58.Value.N, dS x58.Value.S, .sl (List.map AValue.cs x58.Value.L)]) hx58 rfl rfl rfl rfl (fun _ => rfl) trivial rfl) (OkOps.y (.c (.pt [dS x58.Name, dI x58.Value.Kind, dI x58.Value.N, dS x58.Value.S, .sl (List.map AValue.cs x58.Value.L)])) (OkOps.y (aS x58.Name) ?_))
  obtain ⟨x59, hx59, hr⟩ := bind_some hr
  refine OkOps.q (triCl (tau []) (.s (aB x59)) [] (r11_Name_c _ hx59) rfl ⟨.inl rfl, trivial⟩ trivial entry78 trivial) (OkOps.y (aB (!x59)) (OkOps.nil ?_))
  refine Ok.cond (b := !x59) rfl (fun h60 => ?_) (fun h60 => ?_)
  have hr := selT h60 hr
  refine Ok.seq (Ok.region (OkOps.y (aI (IntKind.i64.wrap (met + 1))) (OkOps.y (aI (IntKind.i64.wrap (met + 1))) (OkOps.y (aI 4) (OkOps.nil (Ok.ret ?_))))))
  obtain rfl := Option.some.inj hr
  exact ⟨_, rfl, .inl rfl, trivial⟩
  have hr := selF h60 hr
  refine Ok.skip (Ok.seq (Ok.seq (Ok.regionD (by kernel_rfl) (OkD.x (aI s55) rfl trivial rfl (OkD.x (aB (decide (s55 > 0))) rfl trivial rfl (OkD.x (aB (decide (s55 > 0))) rfl trivial rfl (OkD.q (triQG (x := .c (.loc 0 2)) rfl rfl trivial rfl) (OkD.q (triQG (x := .c (.d (.sl (List.map Attr.cs v.Attrs)))) rfl rfl ⟨fun h => h, trivial⟩ rfl) (OkD.q (triQG (x := aI s55) rfl rfl trivial rfl) ?_)))))))))
  obtain ⟨x61, hx61, hr⟩ := bind_some hr
  refine OkD.q (triIdxG (enc := Attr.cs) (L := v.Attrs) (row := [dS x61.Name, dI x61.Value.Kind, dI x61.Value.N, dS x61.Value.S, .sl (List.map AValue.cs x61.Value.L)]) (gO_t hx61) rfl rfl rfl rfl rfl (fun _ => rfl) ⟨fun h => h, ⟨fun h => h, trivial⟩⟩ rfl) (OkD.q (triQG (x := .c (.pt [dS x61.Name, dI x61.Value.Kind, dI x61.Value.N, dS x61.Value.S, .sl (List.map AValue.cs x61.Value.L)])) rfl rfl ⟨fun h => h, trivial⟩ rfl) (OkD.q (triQG (x := aS x61.Name) rfl rfl ⟨fun h => h, trivial⟩ rfl) (OkD.q (triQG (x := .c (.loc 0 2)) rfl rfl trivial rfl) (OkD.q (triQG (x := .c (.d (.sl (List.map Attr.cs v.Attrs)))) rfl rfl ⟨fun h => h, trivial⟩ rfl) (OkD.q (triQG (x := aI s55) rfl rfl trivial rfl) (OkD.q (triQG (x := aI (IntKind.i64.wrap (s55 - 1))) rfl rfl ⟨fun h => h, trivial⟩ rfl) ?_))))))
  obtain ⟨x62, hx62, hr⟩ := bind_some hr
  refine OkD.q (triIdxG (enc := Attr.cs) (L := v.Attrs) (row := [dS x62.Name, dI x62.Value.Kind, dI x62.Value.N, dS x62.Value.S, .sl (List.map AValue.cs x62.Value.L)]) (gO_t hx62) rfl rfl rfl rfl rfl (fun _ => rfl) ⟨fun h => h, ⟨fun h => h, trivial⟩⟩ rfl) (OkD.q (triQG (x := .c (.pt [dS x62.Name, dI x62.Value.Kind, dI x62.Value.N, dS x62.Value.S, .sl (List.map AValue.cs x62.Value.L)])) rfl rfl ⟨fun h => h, trivial⟩ rfl) (OkD.q (triQG (x := aS x62.Name) rfl rfl ⟨fun h => h, trivial⟩ rfl) (OkD.q (triQG (x := aB (Op.bytesLess x61.Name.toList x62.Name.toList || x61.Name.toList == x62.Name.toList)) rfl rfl ⟨fun h => h, ⟨fun h => h, trivial⟩⟩ rfl) (OkD.q (triAnd rfl rfl (fun h => h) rfl) (OkD.nil (by kernel_rfl) ?_)))))
  refine Ok.cond (b := (decide (s55 > 0)) && (Op.bytesLess x61.Name.toList x62.Name.toList || x61.Name.toList == x62.Name.toList)) rfl (fun h63 => ?_) (fun h63 => ?_)
  have hr := selT h63 hr
  refine Ok.seq (Ok.region (OkOps.y (aI (IntKind.i64.wrap (met + 1))) (OkOps.y (aI (IntKind.i64.wrap (met + 1))) (OkOps.y (aI 10) (OkOps.nil (Ok.ret ?_))))))
  obtain rfl := Option.some.inj hr
  exact ⟨_, rfl, .inl rfl, trivial⟩
  have hr := selF h63 hr
  refine Ok.skip (Ok.seq (Ok.region (OkOps.y (.c (.loc 0 2)) (OkOps.y (.c (.d (.sl (List.map Attr.cs v.Attrs)))) (OkOps.y (aI s55) ?_)))))
  obtain ⟨x64, hx64, hr⟩ := bind_some hr
  refine OkOps.q (triIdx (enc := Attr.cs) (L := v.Attrs) (row := [dS x64.Name, dI x64.Value.Kind, dI x64.Value.N, dS x64.Value.S, .sl (List.map AValue.cs x64.Value.L)]) hx64 rfl rfl rfl rfl (fun _ => rfl) trivial rfl) (OkOps.y (.c (.pt [dI x64.Value.Kind, dI x64.Value.N, dS x64.Value.S, .sl (List.map AValue.cs x64.Value.L)])) (OkOps.y (.agg [cI x64.Value.Kind, cI x64.Value.N, cS x64.Value.S, .d (.sl (List.map AValue.cs x64.Value.L))]) ?_))
  obtain ⟨x65, hx65, hr⟩ := bind_some hr
  refine OkOps.q (triCl (tau []) (.s (aI x65)) [] (r11_Check_c _ hx65) rfl ⟨.inl rfl, trivial⟩ trivial entry79 trivial) (OkOps.y (aI x65) (OkOps.nil (Ok.seq (Ok.region (OkOps.y (aI x65) (OkOps.y (aB (x65 != 0)) (OkOps.nil ?_)))))))
  refine Ok.cond (b := x65 != 0) rfl (fun h66 => ?_) (fun h66 => ?_)
  have hr := selT h66 hr
  refine Ok.seq (Ok.region (OkOps.y (aI (IntKind.i64.wrap (met + 1))) (OkOps.y (aI x65) (OkOps.y (aI (IntKind.i64.wrap (met + 1))) (OkOps.y (aI x65) (OkOps.nil (Ok.ret ?_)))))))
  obtain rfl := Option.some.inj hr
  exact ⟨_, rfl, .inl rfl, trivial⟩
  have hr := selF h66 hr
  refine Ok.skip (Ok.region (OkOps.y (aI s55) (OkOps.y (aI (IntKind.i64.wrap (s55 + 1))) (OkOps.y (aI (IntKind.i64.wrap (s55 + 1))) (OkOps.nil ?_)))))
  exact ⟨IntKind.i64.wrap (s55 + 1), hr, (Conv.mk (tau []) ⟨⟨_, rfl, .inl rfl⟩, ⟨_, rfl, .inl rfl⟩, ⟨_, rfl, .inl rfl⟩, ⟨_, rfl, .inl rfl⟩, trivial⟩ ⟨rfl, trivial⟩ rfl rfl rfl rfl)⟩
  have hr := selF h57 hr
  refine Ok.exit ?_
  exact ⟨(), hr, (Conv.mk (tau []) ⟨⟨_, rfl, .inl rfl⟩, ⟨_, rfl, .inl rfl⟩, ⟨_, rfl, .inl rfl⟩, trivial⟩ ⟨rfl, trivial⟩ rfl rfl rfl rfl)⟩
theorem r14_validate_all : ∀ n : Nat, (∀ (v : View) (depth : Int) (met : Int) {r : Int × Int}, r14_validate n v depth met = some r → Con Tryd.prog 59 [.agg [cI v.Kind, cS v.Key, .d (.sl (List.map Attr.cs v.Attrs)), .d (.sl (List.map Action.cs v.Actions)), .d (.sl (List.map View.cs v.Kids))], aI depth, aI met] [] (.tup [aI r.1, aI r.2]) []) ∧ True := by
  intro n
  induction n with
  | zero => exact ⟨(by intros; rename_i hr; cases hr), trivial⟩
  | succ n ih => exact ⟨(by intros; rename_i hr; exact r14_validate_B_c _ ih.1 _ _ _ hr), trivial⟩
theorem r14_validate_c (n : Nat) (v : View) (depth : Int) (met : Int) {r : Int × Int} (hr : r14_validate n v depth met = some r) : Con Tryd.prog 59 [.agg [cI v.Kind, cS v.Key, .d (.sl (List.map Attr.cs v.Attrs)), .d (.sl (List.map Action.cs v.Actions)), .d (.sl (List.map View.cs v.Kids))], aI depth, aI met] [] (.tup [aI r.1, aI r.2]) [] := (r14_validate_all n).1 v depth met hr
theorem r14_Validate_c (v : View) {r : Int} (hr : r14_Validate v = some r) : Con Tryd.prog 36 [.agg [cI v.Kind, cS v.Key, .d (.sl (List.map Attr.cs v.Attrs)), .d (.sl (List.map Action.cs v.Actions)), .d (.sl (List.map View.cs v.Kids))]] [] (.s (aI r)) [] := by
  unfold r14_Validate at hr
  refine Con.of_ok 11 0 [.tmp 2] [(0, .s (.agg [cI v.Kind, cS v.Key, .d (.sl (List.map Attr.cs v.Attrs)), .d (.sl (List.map Action.cs v.Actions)), .d (.sl (List.map View.cs v.Kids))]))] Tryd.func36 rfl rfl rfl rfl rfl rfl rfl rfl fun w g M ρ _ => (Ok.seq (Ok.region (OkOps.m 0 (triBox (j := 0) (cs := [cI v.Kind, cS v.Key, .d (.sl (List.map Attr.cs v.Attrs)), .d (.sl (List.map Action.cs v.Actions)), .d (.sl (List.map View.cs v.Kids))]) rfl rfl rfl rfl rfl) (OkOps.y (aI 0) (OkOps.nil (Ok.seq (Ok.region (OkOps.y (.agg [cI v.Kind, cS v.Key, .d (.sl (List.map Attr.cs v.Attrs)), .d (.sl (List.map Action.cs v.Actions)), .d (.sl (List.map View.cs v.Kids))]) ?_))))))))
  obtain ⟨x1, hx1, hr⟩ := bind_some hr
  refine OkOps.q (triCl (tau []) (.tup [aI x1.1, aI x1.2]) [] (r14_validate_c _ _ _ _ hx1) rfl ⟨.inl rfl, .inl rfl, .inl rfl, trivial⟩ trivial entry59 trivial) (OkOps.q (triMv (v := .tup [aI x1.1, aI x1.2]) rfl rfl) (OkOps.y (aI x1.1) (OkOps.y (aI x1.2) (OkOps.y (aI x1.1) (OkOps.y (aI x1.2) (OkOps.nil (Ok.seq (Ok.region (OkOps.y (aI x1.2) (OkOps.y (aI x1.2) (OkOps.nil (Ok.ret ?_))))))))))))
  obtain rfl := Option.some.inj hr
  exact ⟨_, rfl, .inl rfl, trivial⟩
end Go.Proofs.YtobiohcdpfpefaaDoor
end
section
set_option maxRecDepth 100000
namespace Go.Proofs.YtobiohcdpfpefaaDoor
open Go Go.E2
end Go.Proofs.YtobiohcdpfpefaaDoor
end

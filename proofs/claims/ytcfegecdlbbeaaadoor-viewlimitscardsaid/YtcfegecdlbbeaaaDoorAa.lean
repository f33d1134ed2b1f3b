import Derived.Test.YtcfegecdlbbeaaaDoorXn
import Derived.KernelRfl
namespace Go.Proofs.YtcfegecdlbbeaaaDoor
open Go Go.E2
structure AValue where
  Kind : Int
  N : Int
  S : Str
  L : (List AValue)
instance : Inhabited AValue := ⟨⟨0, 0, ByteArray.empty, ([] : (List AValue))⟩⟩
mutual
def AValue.cs : AValue → List D
  | ⟨v0, v1, v2, v3⟩ => [dI v0, dI v1, dS v2, .sl (AValue.csL v3)]
def AValue.csL : List AValue → List (List D)
  | [] => []
  | x :: r => AValue.cs x :: AValue.csL r
end
theorem AValue.csL_eq : ∀ l, AValue.csL l = List.map AValue.cs l
  | [] => by unfold AValue.csL; rfl
  | x :: r => by unfold AValue.csL; rw [AValue.csL_eq r]; rfl
theorem AValue.cs_eq (x : AValue) : x.cs = [dI x.Kind, dI x.N, dS x.S, .sl (List.map AValue.cs x.L)] := by
  cases x
  conv => lhs; unfold AValue.cs
  simp only [AValue.csL_eq]
structure Attr where
  Name : Str
  Value : AValue
deriving Inhabited
def Attr.cs (x : Attr) : List D := [dS x.Name, dI x.Value.Kind, dI x.Value.N, dS x.Value.S, .sl (List.map AValue.cs x.Value.L)]
structure Action where
  Event : Str
  Instance : Str
  Handler : Str
  Args : (List AValue)
deriving Inhabited
def Action.cs (x : Action) : List D := [dS x.Event, dS x.Instance, dS x.Handler, .sl (List.map AValue.cs x.Args)]
structure View where
  Kind : Int
  Key : Str
  Attrs : (List Attr)
  Actions : (List Action)
  Kids : (List View)
instance : Inhabited View := ⟨⟨0, ByteArray.empty, ([] : (List Attr)), ([] : (List Action)), ([] : (List View))⟩⟩
mutual
def View.cs : View → List D
  | ⟨v0, v1, v2, v3, v4⟩ => [dI v0, dS v1, .sl (List.map Attr.cs v2), .sl (List.map Action.cs v3), .sl (View.csL v4)]
def View.csL : List View → List (List D)
  | [] => []
  | x :: r => View.cs x :: View.csL r
end
theorem View.csL_eq : ∀ l, View.csL l = List.map View.cs l
  | [] => by unfold View.csL; rfl
  | x :: r => by unfold View.csL; rw [View.csL_eq r]; rfl
theorem View.cs_eq (x : View) : x.cs = [dI x.Kind, dS x.Key, .sl (List.map Attr.cs x.Attrs), .sl (List.map Action.cs x.Actions), .sl (List.map View.cs x.Kids)] := by
  cases x
  conv => lhs; unfold View.cs
  simp only [View.csL_eq]
structure Node where
  ID : Int
  Parent : Int
  Kind : Int
  Key : Str
  Attrs : (List Attr)
  Actions : (List Action)
  Kids : (List Int)
deriving Inhabited
def Node.cs (x : Node) : List D := [dI x.ID, dI x.Parent, dI x.Kind, dS x.Key, .sl (List.map Attr.cs x.Attrs), .sl (List.map Action.cs x.Actions), .sl (List.map (eInt .i64) x.Kids)]
structure Tree where
  Root : Int
  Next : Int
  Nodes : (List Node)
deriving Inhabited
def Tree.cs (x : Tree) : List D := [dI x.Root, dI x.Next, .sl (List.map Node.cs x.Nodes)]
structure AType where
  Kind : Int
  Of : (List AType)
instance : Inhabited AType := ⟨⟨0, ([] : (List AType))⟩⟩
mutual
def AType.cs : AType → List D
  | ⟨v0, v1⟩ => [dI v0, .sl (AType.csL v1)]
def AType.csL : List AType → List (List D)
  | [] => []
  | x :: r => AType.cs x :: AType.csL r
end
theorem AType.csL_eq : ∀ l, AType.csL l = List.map AType.cs l
  | [] => by unfold AType.csL; rfl
  | x :: r => by unfold AType.csL; rw [AType.csL_eq r]; rfl
theorem AType.cs_eq (x : AType) : x.cs = [dI x.Kind, .sl (List.map AType.cs x.Of)] := by
  cases x
  conv => lhs; unfold AType.cs
  simp only [AType.csL_eq]
def r11_letter (c : Int) : Option Bool := some (((decide (c ≥ 97)) && (decide (c ≤ 122))) || ((decide (c ≥ 65)) && (decide (c ≤ 90))))
def r11_Name_L1 (p_s : Str) (k5 : Unit → Option Bool) (again7 : Int → Option Bool) (s6 : Int) : Option Bool := sel (decide (s6 < (p_s.size : Int))) ((sidxO p_s s6).bind fun x9 => (r11_letter x9).bind fun x10 => (gO (!x10) (sidxO p_s s6)).bind fun x11 => (gO ((!x10) && !(decide (x11 < 48))) (sidxO p_s s6)).bind fun x12 => (gO ((!x10) && ((decide (x11 < 48)) || (decide (x12 > 57)))) (sidxO p_s s6)).bind fun x13 => (gO (((!x10) && ((decide (x11 < 48)) || (decide (x12 > 57)))) && (x13 != 45)) (sidxO p_s s6)).bind fun x14 => sel ((((!x10) && ((decide (x11 < 48)) || (decide (x12 > 57)))) && (x13 != 45)) && (x14 != 95)) (some false) (again7 (IntKind.i64.wrap (s6 + 1)))) (k5 ())
def r11_Name (p_s : Str) : Option Bool := (gO (!((decide ((p_s.size : Int) < 1)) || (decide ((p_s.size : Int) > 24)))) (sidxO p_s 0)).bind fun x1 => (gO (!((decide ((p_s.size : Int) < 1)) || (decide ((p_s.size : Int) > 24)))) (r11_letter x1)).bind fun x2 => sel (((decide ((p_s.size : Int) < 1)) || (decide ((p_s.size : Int) > 24))) || (!x2)) (some false) (jn (fun (_s4 : Unit) => some true) fun k5 => loopK (r11_Name_L1 p_s k5) N0 1)
def ex_Name_L1 (p_s : Str) (k3 : Unit → Option Bool) (again5 : Int → Option Bool) (s4 : Int) : Option Bool := sel (decide (s4 < (p_s.size : Int))) ((sidxO p_s s4).bind fun x7 => sel ((!(((decide (x7 ≥ 97)) && (decide (x7 ≤ 122))) || ((decide (x7 ≥ 65)) && (decide (x7 ≤ 90))))) && ((s4 == 0) || ((((decide (x7 < 48)) || (decide (x7 > 57))) && (x7 != 45)) && (x7 != 95)))) (some false) (again5 (IntKind.i64.wrap (s4 + 1)))) (k3 ())
def ex_Name (p_s : Str) : Option Bool := sel (((p_s.size : Int) == 0) || (decide ((p_s.size : Int) > 24))) (some false) (jn (fun (_s2 : Unit) => some true) fun k3 => loopK (ex_Name_L1 p_s k3) N0 0)
def r13_Key_L1 (p_s : Str) (k2 : Unit → Option Bool) (again4 : Int → Option Bool) (s3 : Int) : Option Bool := sel (decide (s3 < (p_s.size : Int))) ((sidxO p_s s3).bind fun x6 => sel ((((((decide (x6 < 97)) || (decide (x6 > 122))) && ((decide (x6 < 65)) || (decide (x6 > 90)))) && ((decide (x6 < 48)) || (decide (x6 > 57)))) && (x6 != 45)) && (x6 != 95)) (some false) (again4 (IntKind.i64.wrap (s3 + 1)))) (k2 ())
def r13_Key (p_s : Str) : Option Bool := jn (fun (_s1 : Unit) => some (decide ((p_s.size : Int) ≤ 24))) fun k2 => loopK (r13_Key_L1 p_s k2) N0 0
def r14_Key (p_s : Str) : Option Bool := (r13_Key p_s).bind fun x1 => some x1
def vw_Key_L1 (p_s : Str) (k2 : Unit → Option Bool) (again4 : Int → Option Bool) (s3 : Int) : Option Bool := sel (decide (s3 < (p_s.size : Int))) ((sidxO p_s s3).bind fun x6 => sel ((((((decide (x6 < 97)) || (decide (x6 > 122))) && ((decide (x6 < 65)) || (decide (x6 > 90)))) && ((decide (x6 < 48)) || (decide (x6 > 57)))) && (x6 != 45)) && (x6 != 95)) (some false) (again4 (IntKind.i64.wrap (s3 + 1)))) (k2 ())
def vw_Key (p_s : Str) : Option Bool := jn (fun (_s1 : Unit) => some (decide ((p_s.size : Int) ≤ 24))) fun k2 => loopK (vw_Key_L1 p_s k2) N0 0
def r11_UTF8 (p_s : Str) : Option Bool := some ((ofRunes (runes p_s)).toList == p_s.toList)
def ex_fields (v : AValue) : Option Bool := jn (fun (s1 : Bool) => sel s1 (some ((v.S.toList == (ByteArray.mk #[]).toList) && ((v.L.length : Int) == 0))) (sel (v.Kind == 3) (some ((v.N == 0) && ((v.L.length : Int) == 0))) (sel (v.Kind == 4) (some ((v.N == 0) && (v.S.toList == (ByteArray.mk #[]).toList))) (some false)))) fun k2 => sel (v.Kind == 1) (k2 (v.Kind == 1)) (k2 (v.Kind == 2))
def ex_within (p_n : Int) : Option Bool := some ((decide (p_n ≥ (-1099511627776))) && (decide (p_n ≤ 1099511627776)))
def unicode_utf8_word_string (p_s : Str) : Option Int := sel false ((sidxO p_s 0).bind fun x2 => (sidxO p_s 1).bind fun x3 => (sidxO p_s 2).bind fun x4 => (sidxO p_s 3).bind fun x5 => some (bOr .u64 (bOr .u64 (bOr .u64 (IntKind.u64.wrap x2) (bShl .u64 (IntKind.u64.wrap x3) 8)) (bShl .u64 (IntKind.u64.wrap x4) 16)) (bShl .u64 (IntKind.u64.wrap x5) 24))) ((sidxO p_s 0).bind fun x6 => (sidxO p_s 1).bind fun x7 => (sidxO p_s 2).bind fun x8 => (sidxO p_s 3).bind fun x9 => (sidxO p_s 4).bind fun x10 => (sidxO p_s 5).bind fun x11 => (sidxO p_s 6).bind fun x12 => (sidxO p_s 7).bind fun x13 => some (bOr .u64 (bOr .u64 (bOr .u64 (bOr .u64 (bOr .u64 (bOr .u64 (bOr .u64 (IntKind.u64.wrap x6) (bShl .u64 (IntKind.u64.wrap x7) 8)) (bShl .u64 (IntKind.u64.wrap x8) 16)) (bShl .u64 (IntKind.u64.wrap x9) 24)) (bShl .u64 (IntKind.u64.wrap x10) 32)) (bShl .u64 (IntKind.u64.wrap x11) 40)) (bShl .u64 (IntKind.u64.wrap x12) 48)) (bShl .u64 (IntKind.u64.wrap x13) 56)))
def unicode_utf8_ValidString_L1 (k12 : Str → Option Bool) (again22 : Str → Option Bool) (s21 : Str) : Option Bool := (gO (decide ((s21.size : Int) > 32)) (unicode_utf8_word_string s21)).bind fun x23 => (gO (decide ((s21.size : Int) > 32)) (sslcO s21 8 (s21.size : Int))).bind fun x24 => (gO (decide ((s21.size : Int) > 32)) (unicode_utf8_word_string x24)).bind fun x25 => (gO (decide ((s21.size : Int) > 32)) (sslcO s21 16 (s21.size : Int))).bind fun x26 => (gO (decide ((s21.size : Int) > 32)) (unicode_utf8_word_string x26)).bind fun x27 => (gO (decide ((s21.size : Int) > 32)) (sslcO s21 24 (s21.size : Int))).bind fun x28 => (gO (decide ((s21.size : Int) > 32)) (unicode_utf8_word_string x28)).bind fun x29 => sel ((decide ((s21.size : Int) > 32)) && ((bAnd .u64 (bOr .u64 (bOr .u64 x23 x25) (bOr .u64 x27 x29)) 9259542123273814144) == 0)) ((sslcO s21 32 (s21.size : Int)).bind fun x31 => again22 x31) (k12 s21)
def unicode_utf8_ValidString_L2 (k2 : Unit → Option Bool) (again4 : Str → Option Bool) (s3 : Str) : Option Bool := sel (decide ((s3.size : Int) > 0)) (jn (fun (s6 : Str) => again4 s6) fun k7 => (sidxO s3 0).bind fun x8 => sel (decide (x8 < 128)) ((sslcO s3 1 (s3.size : Int)).bind fun x10 => jn (fun (s11 : Str) => k7 s11) fun k12 => (gO (decide ((x10.size : Int) > 8)) (unicode_utf8_word_string x10)).bind fun x13 => sel ((decide ((x10.size : Int) > 8)) && ((bAnd .u64 x13 9259542123273814144) == 0)) ((sslcO x10 8 (x10.size : Int)).bind fun x15 => (gO (decide ((x15.size : Int) > 16)) (unicode_utf8_word_string x15)).bind fun x16 => (gO (decide ((x15.size : Int) > 16)) (sslcO x15 8 (x15.size : Int))).bind fun x17 => (gO (decide ((x15.size : Int) > 16)) (unicode_utf8_word_string x17)).bind fun x18 => sel ((decide ((x15.size : Int) > 16)) && ((bAnd .u64 (bOr .u64 x16 x18) 9259542123273814144) == 0)) ((sslcO x15 16 (x15.size : Int)).bind fun x20 => loopK (unicode_utf8_ValidString_L1 k12) N0 x20) (k12 x15)) (k12 x10)) ((idxO utf8First x8).bind fun x32 => (idxO utf8Accept (bShr .u8 x32 4)).bind fun x33 => sel ((IntKind.i64.wrap (bAnd .u8 x32 7)) == 2) ((gO (!(decide ((s3.size : Int) < 2))) (sidxO s3 1)).bind fun x35 => (gO (!((decide ((s3.size : Int) < 2)) || (decide (x35 < x33.1)))) (sidxO s3 1)).bind fun x36 => sel (((decide ((s3.size : Int) < 2)) || (decide (x35 < x33.1))) || (decide (x33.2 < x36))) (some false) ((sslcO s3 2 (s3.size : Int)).bind fun x38 => k7 x38)) (sel ((IntKind.i64.wrap (bAnd .u8 x32 7)) == 3) ((gO (!(decide ((s3.size : Int) < 3))) (sidxO s3 1)).bind fun x40 => (gO (!((decide ((s3.size : Int) < 3)) || (decide (x40 < x33.1)))) (sidxO s3 1)).bind fun x41 => (gO (!(((decide ((s3.size : Int) < 3)) || (decide (x40 < x33.1))) || (decide (x33.2 < x41)))) (sidxO s3 2)).bind fun x42 => (gO (!((((decide ((s3.size : Int) < 3)) || (decide (x40 < x33.1))) || (decide (x33.2 < x41))) || (decide (x42 < 128)))) (sidxO s3 2)).bind fun x43 => sel (((((decide ((s3.size : Int) < 3)) || (decide (x40 < x33.1))) || (decide (x33.2 < x41))) || (decide (x42 < 128))) || (decide (191 < x43))) (some false) ((sslcO s3 3 (s3.size : Int)).bind fun x45 => k7 x45)) (sel ((IntKind.i64.wrap (bAnd .u8 x32 7)) == 4) ((gO (!(decide ((s3.size : Int) < 4))) (sidxO s3 1)).bind fun x47 => (gO (!((decide ((s3.size : Int) < 4)) || (decide (x47 < x33.1)))) (sidxO s3 1)).bind fun x48 => (gO (!(((decide ((s3.size : Int) < 4)) || (decide (x47 < x33.1))) || (decide (x33.2 < x48)))) (sidxO s3 2)).bind fun x49 => (gO (!((((decide ((s3.size : Int) < 4)) || (decide (x47 < x33.1))) || (decide (x33.2 < x48))) || (decide (x49 < 128)))) (sidxO s3 2)).bind fun x50 => (gO (!(((((decide ((s3.size : Int) < 4)) || (decide (x47 < x33.1))) || (decide (x33.2 < x48))) || (decide (x49 < 128))) || (decide (191 < x50)))) (sidxO s3 3)).bind fun x51 => (gO (!((((((decide ((s3.size : Int) < 4)) || (decide (x47 < x33.1))) || (decide (x33.2 < x48))) || (decide (x49 < 128))) || (decide (191 < x50))) || (decide (x51 < 128)))) (sidxO s3 3)).bind fun x52 => sel (((((((decide ((s3.size : Int) < 4)) || (decide (x47 < x33.1))) || (decide (x33.2 < x48))) || (decide (x49 < 128))) || (decide (191 < x50))) || (decide (x51 < 128))) || (decide (191 < x52))) (some false) ((sslcO s3 4 (s3.size : Int)).bind fun x54 => k7 x54)) (some false))))) (k2 ())
def unicode_utf8_ValidString (a0 : Str) : Option Bool := jn (fun (_s1 : Unit) => some true) fun k2 => loopK (unicode_utf8_ValidString_L2 k2) N0 a0
def ex_listOf (t : AType) : Option AType := some (AType.mk 4 ([t]))
def ex_join_B (self0 : AType → AType → Option (AType × Bool)) (a : AType) (b : AType) : Option (AType × Bool) := sel (a.Kind != b.Kind) (some ((AType.mk 0 ([] : (List AType))), false)) (sel ((a.Of.length : Int) == 0) (some (b, true)) (sel ((b.Of.length : Int) == 0) (some (a, true)) ((idxO a.Of 0).bind fun x4 => (idxO b.Of 0).bind fun x5 => (self0 x4 x5).bind fun x6 => sel (!x6.2) (some ((AType.mk 0 ([] : (List AType))), false)) ((ex_listOf x6.1).bind fun x8 => some (x8, true)))))
def ex_join : Nat → AType → AType → Option (AType × Bool)
  | 0, _, _ => none
  | n + 1, a, b => ex_join_B (ex_join n) a b
def ex_common_L1 (k4 : (Int × (List AType)) → Option (AType × Bool)) (x6 : (List AType)) (again8 : (Int × Int × (List AType)) → Option (AType × Bool)) (s7 : Int × Int × (List AType)) : Option (AType × Bool) := sel (decide (s7.1 < (x6.length : Int))) ((idxO x6 s7.1).bind fun x10 => (ex_join N0 (AType.mk s7.2.1 s7.2.2) x10).bind fun x11 => sel (!x11.2) (some ((AType.mk 0 ([] : (List AType))), false)) (again8 (IntKind.i64.wrap (s7.1 + 1), x11.1.Kind, x11.1.Of))) (k4 (s7.2.1, s7.2.2))
def ex_common (l : (List AType)) : Option (AType × Bool) := sel ((l.length : Int) == 0) (some ((AType.mk 4 ([] : (List AType))), true)) ((idxO l 0).bind fun x2 => jn (fun (s3 : Int × (List AType)) => (ex_listOf (AType.mk s3.1 s3.2)).bind fun x5 => some (x5, true)) fun k4 => (slcO l 1 (l.length : Int)).bind fun x6 => loopK (ex_common_L1 k4 x6) N0 (0, x2.Kind, x2.Of))
def ex_check_L1 (self0 : AValue → Int → Int → Option (AType × Int × Int)) (a0 : AValue) (a1 : Int) (k12 : ((List AType) × Int) → Option (AType × Int × Int)) (again16 : ((List AType) × Int × Int) → Option (AType × Int × Int)) (s15 : (List AType) × Int × Int) : Option (AType × Int × Int) := sel (decide (s15.2.1 < (a0.L.length : Int))) ((idxO a0.L s15.2.1).bind fun x18 => (self0 x18 (IntKind.i64.wrap (a1 + 1)) s15.2.2).bind fun x19 => sel (x19.2.1 != 0) (some ((AType.mk 0 ([] : (List AType))), x19.2.1, x19.2.2)) ((appO s15.1 ([x19.1])).bind fun x21 => again16 (x21, IntKind.i64.wrap (s15.2.1 + 1), x19.2.2))) (k12 (s15.1, s15.2.2))
def ex_check_B (self0 : AValue → Int → Int → Option (AType × Int × Int)) (a0 : AValue) (a1 : Int) (a2 : Int) : Option (AType × Int × Int) := sel ((a0.Kind == 4) && (decide (a1 ≥ 16))) (some ((AType.mk 0 ([] : (List AType))), 8, a2)) ((ex_fields a0).bind fun x2 => sel (!x2) (some ((AType.mk 0 ([] : (List AType))), 9, IntKind.i64.wrap (a2 + 1))) (jn (fun (s4 : Bool) => sel s4 (some ((AType.mk 0 ([] : (List AType))), 1, IntKind.i64.wrap (a2 + 1))) (sel (((decide ((a0.S.size : Int) > 2000)) || (decide ((a0.L.length : Int) > 100))) || (decide ((IntKind.i64.wrap (a2 + 1)) > 1000))) (some ((AType.mk 0 ([] : (List AType))), 2, IntKind.i64.wrap (a2 + 1))) ((unicode_utf8_ValidString a0.S).bind fun x8 => sel (!x8) (some ((AType.mk 0 ([] : (List AType))), 3, IntKind.i64.wrap (a2 + 1))) (sel (a0.Kind != 4) (some ((AType.mk a0.Kind ([] : (List AType))), 0, IntKind.i64.wrap (a2 + 1))) (jn (fun (s11 : (List AType) × Int) => (ex_common s11.1).bind fun x13 => sel (!x13.2) (some ((AType.mk 0 ([] : (List AType))), 5, s11.2)) (some (x13.1, 0, s11.2))) fun k12 => loopK (ex_check_L1 self0 a0 a1 k12) N0 (([] : (List AType)), 0, IntKind.i64.wrap (a2 + 1))))))) fun k5 => (gO (a0.Kind == 1) (ex_within a0.N)).bind fun x22 => sel ((a0.Kind == 1) && (!x22)) (k5 ((a0.Kind == 1) && (!x22))) (k5 (((a0.Kind == 2) && (a0.N != 0)) && (a0.N != 1)))))
def ex_check : Nat → AValue → Int → Int → Option (AType × Int × Int)
  | 0, _, _, _ => none
  | n + 1, a0, a1, a2 => ex_check_B (ex_check n) a0 a1 a2
def ex_copyType_B (self0 : AType → Option AType) (t : AType) : Option AType := sel ((t.Of.length : Int) == 0) (some (AType.mk t.Kind ([] : (List AType)))) ((idxO t.Of 0).bind fun x2 => (self0 x2).bind fun x3 => (ex_listOf x3).bind fun x4 => some x4)
def ex_copyType : Nat → AType → Option AType
  | 0, _ => none
  | n + 1, t => ex_copyType_B (ex_copyType n) t
def ex_TypeOf (v : AValue) : Option (AType × Int) := (ex_check N0 v 0 0).bind fun x1 => sel (x1.2.1 != 0) (some ((AType.mk 0 ([] : (List AType))), x1.2.1)) ((ex_copyType N0 x1.1).bind fun x3 => some (x3, 0))
def ex_Check (v : AValue) : Option Int := (ex_TypeOf v).bind fun x1 => some x1.2
end Go.Proofs.YtcfegecdlbbeaaaDoor

import Derived.Test.YtcfegecdlbbeaaaDoorAa
import Derived.KernelRfl
namespace Go.Proofs.YtcfegecdlbbeaaaDoor
open Go Go.E2
def r11_join_B (self0 : AType → AType → Option (AType × Bool)) (a : AType) (b : AType) : Option (AType × Bool) := sel (a.Kind != b.Kind) (some ((AType.mk 0 ([] : (List AType))), false)) (sel ((a.Of.length : Int) == 0) (some (b, true)) (sel ((b.Of.length : Int) == 0) (some (a, true)) ((idxO a.Of 0).bind fun x4 => (idxO b.Of 0).bind fun x5 => (self0 x4 x5).bind fun x6 => sel (!x6.2) (some ((AType.mk 0 ([] : (List AType))), false)) (some ((AType.mk a.Kind ([x6.1])), true)))))
def r11_join : Nat → AType → AType → Option (AType × Bool)
  | 0, _, _ => none
  | n + 1, a, b => r11_join_B (r11_join n) a b
def r11_check_L1 (self0 : AValue → Int → Int → Option (AType × Int × Int)) (a0 : AValue) (a1 : Int) (k8 : (Int × Bool × (List AType)) → Option (AType × Int × Int)) (again11 : (Int × Bool × Int × (List AType)) → Option (AType × Int × Int)) (s10 : Int × Bool × Int × (List AType)) : Option (AType × Int × Int) := sel (decide (s10.2.2.1 < (a0.L.length : Int))) (jn (fun (s13 : Int × Bool × (List AType)) => again11 (s13.1, s13.2.1, IntKind.i64.wrap (s10.2.2.1 + 1), s13.2.2)) fun k14 => (idxO a0.L s10.2.2.1).bind fun x15 => (self0 x15 (IntKind.i64.wrap (a1 + 1)) s10.1).bind fun x16 => sel (x16.2.2 != 0) (some ((AType.mk 0 ([] : (List AType))), x16.2.1, x16.2.2)) (sel (!s10.2.1) (k14 (x16.2.1, s10.2.1, s10.2.2.2)) (sel ((s10.2.2.2.length : Int) == 0) (k14 (x16.2.1, s10.2.1, [x16.1])) ((idxO s10.2.2.2 0).bind fun x20 => (r11_join N0 x20 x16.1).bind fun x21 => k14 (x16.2.1, x21.2, [x21.1]))))) (k8 (s10.1, s10.2.1, s10.2.2.2))
def r11_check_B (self0 : AValue → Int → Int → Option (AType × Int × Int)) (a0 : AValue) (a1 : Int) (a2 : Int) : Option (AType × Int × Int) := sel ((a0.Kind == 4) && (decide (a1 > 16))) (some ((AType.mk 0 ([] : (List AType))), IntKind.i64.wrap (a2 + 1), 8)) (sel (((((decide (a0.Kind < 1)) || (decide (a0.Kind > 4))) || (((a0.N != 0) && (a0.Kind != 1)) && (a0.Kind != 2))) || ((!(a0.S.toList == (ByteArray.mk #[]).toList)) && (a0.Kind != 3))) || ((decide ((a0.L.length : Int) > 0)) && (!(a0.Kind == 4)))) (some ((AType.mk 0 ([] : (List AType))), IntKind.i64.wrap (a2 + 1), 9)) (sel (((a0.Kind == 1) && ((decide (a0.N < (-1099511627776))) || (decide (a0.N > 1099511627776)))) || (((a0.Kind == 2) && (a0.N != 0)) && (a0.N != 1))) (some ((AType.mk 0 ([] : (List AType))), IntKind.i64.wrap (a2 + 1), 1)) (sel (((decide ((a0.S.size : Int) > 2000)) || (decide ((a0.L.length : Int) > 100))) || (decide ((IntKind.i64.wrap (a2 + 1)) > 1000))) (some ((AType.mk 0 ([] : (List AType))), IntKind.i64.wrap (a2 + 1), 2)) ((r11_UTF8 a0.S).bind fun x5 => sel (!x5) (some ((AType.mk 0 ([] : (List AType))), IntKind.i64.wrap (a2 + 1), 3)) (jn (fun (s7 : Int × Bool × (List AType)) => sel (!s7.2.1) (some ((AType.mk 0 ([] : (List AType))), s7.1, 5)) (some ((AType.mk a0.Kind s7.2.2), s7.1, 0))) fun k8 => loopK (r11_check_L1 self0 a0 a1 k8) N0 (IntKind.i64.wrap (a2 + 1), true, 0, ([] : (List AType))))))))
def r11_check : Nat → AValue → Int → Int → Option (AType × Int × Int)
  | 0, _, _, _ => none
  | n + 1, a0, a1, a2 => r11_check_B (r11_check n) a0 a1 a2
def r11_TypeOf (v : AValue) : Option (AType × Int) := (r11_check N0 v 1 0).bind fun x1 => some (x1.1, x1.2.2)
def r11_Check (v : AValue) : Option Int := (r11_TypeOf v).bind fun x1 => some x1.2
def r11_Same_L1 (self0 : AValue → AValue → Option Bool) (a : AValue) (b : AValue) (k3 : Unit → Option Bool) (again5 : Int → Option Bool) (s4 : Int) : Option Bool := sel (decide (s4 < (a.L.length : Int))) ((idxO a.L s4).bind fun x7 => (idxO b.L s4).bind fun x8 => (self0 x7 x8).bind fun x9 => sel (!x9) (some false) (again5 (IntKind.i64.wrap (s4 + 1)))) (k3 ())
def r11_Same_B (self0 : AValue → AValue → Option Bool) (_self1 : (List AValue) → (List AValue) → Option Bool) (a : AValue) (b : AValue) : Option Bool := sel ((((a.Kind != b.Kind) || (a.N != b.N)) || (!(a.S.toList == b.S.toList))) || ((a.L.length : Int) != (b.L.length : Int))) (some false) (jn (fun (_s2 : Unit) => some true) fun k3 => loopK (r11_Same_L1 self0 a b k3) N0 0)
def r11_SameValues_L1 (self0 : AValue → AValue → Option Bool) (a : (List AValue)) (b : (List AValue)) (k3 : Unit → Option Bool) (again5 : Int → Option Bool) (s4 : Int) : Option Bool := sel (decide (s4 < (a.length : Int))) ((idxO a s4).bind fun x7 => (idxO b s4).bind fun x8 => (self0 x7 x8).bind fun x9 => sel (!x9) (some false) (again5 (IntKind.i64.wrap (s4 + 1)))) (k3 ())
def r11_SameValues_B (self0 : AValue → AValue → Option Bool) (_self1 : (List AValue) → (List AValue) → Option Bool) (a : (List AValue)) (b : (List AValue)) : Option Bool := sel ((a.length : Int) != (b.length : Int)) (some false) (jn (fun (_s2 : Unit) => some true) fun k3 => loopK (r11_SameValues_L1 self0 a b k3) N0 0)
mutual
def r11_Same : Nat → AValue → AValue → Option Bool
  | 0, _, _ => none
  | n + 1, a, b => r11_Same_B (r11_Same n) (r11_SameValues n) a b
def r11_SameValues : Nat → (List AValue) → (List AValue) → Option Bool
  | 0, _, _ => none
  | n + 1, a, b => r11_SameValues_B (r11_Same n) (r11_SameValues n) a b
end
end Go.Proofs.YtcfegecdlbbeaaaDoor

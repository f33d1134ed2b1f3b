import Derived.Test.YtcfegecdlbbeaaaDoorAc
import Derived.KernelRfl
namespace Go.Proofs.YtcfegecdlbbeaaaDoor
open Go Go.E2
def vw_Attr_L1 (l : (List Attr)) (name : Str) (k2 : Unit → Option (AValue × Bool)) (again4 : Int → Option (AValue × Bool)) (s3 : Int) : Option (AValue × Bool) := sel (decide (s3 < (l.length : Int))) ((idxO l s3).bind fun x6 => sel (x6.Name.toList == name.toList) ((vw_value N0 x6.Value).bind fun x8 => some (x8, true)) (again4 (IntKind.i64.wrap (s3 + 1)))) (k2 ())
def vw_Attr (l : (List Attr)) (name : Str) : Option (AValue × Bool) := jn (fun (_s1 : Unit) => some ((AValue.mk 0 0 ByteArray.empty ([] : (List AValue))), false)) fun k2 => loopK (vw_Attr_L1 l name k2) N0 0
def vw_Text (l : (List Attr)) (name : Str) : Option Str := (vw_Attr l name).bind fun x1 => sel (x1.1.Kind == 3) (some x1.1.S) (some (ByteArray.mk #[]))
def vw_Number (l : (List Attr)) (name : Str) (other : Int) : Option Int := (vw_Attr l name).bind fun x1 => sel (x1.1.Kind == 1) (some x1.1.N) (some other)
def vw_Flag (l : (List Attr)) (name : Str) : Option Bool := (vw_Attr l name).bind fun x1 => some ((x1.1.Kind == 2) && (x1.1.N == 1))
def r14_Attr_L1 (l : (List Attr)) (name : Str) (k2 : Unit → Option (AValue × Bool)) (again4 : Int → Option (AValue × Bool)) (s3 : Int) : Option (AValue × Bool) := sel (decide (s3 < (l.length : Int))) ((idxO l s3).bind fun x6 => sel (x6.Name.toList == name.toList) ((idxO l s3).bind fun x8 => some (x8.Value, true)) (again4 (IntKind.i64.wrap (s3 + 1)))) (k2 ())
def r14_Attr (l : (List Attr)) (name : Str) : Option (AValue × Bool) := jn (fun (_s1 : Unit) => some ((AValue.mk 0 0 ByteArray.empty ([] : (List AValue))), false)) fun k2 => loopK (r14_Attr_L1 l name k2) N0 0
def r14_Text (l : (List Attr)) (name : Str) : Option Str := (r14_Attr l name).bind fun x1 => sel (x1.1.Kind != 3) (some (ByteArray.mk #[])) (some x1.1.S)
def r14_Number (l : (List Attr)) (name : Str) (other : Int) : Option Int := (r14_Attr l name).bind fun x1 => sel (x1.1.Kind != 1) (some other) (some x1.1.N)
def r14_Flag (l : (List Attr)) (name : Str) : Option Bool := (r14_Attr l name).bind fun x1 => some ((x1.1.Kind == 2) && (x1.1.N == 1))
end Go.Proofs.YtcfegecdlbbeaaaDoor

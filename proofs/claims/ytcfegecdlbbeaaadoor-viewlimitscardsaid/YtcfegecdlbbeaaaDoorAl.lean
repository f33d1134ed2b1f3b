import Derived.Test.YtcfegecdlbbeaaaDoorAd
import Derived.KernelRfl
namespace Go.Proofs.YtcfegecdlbbeaaaDoor
open Go Go.E2
def l14_load_L1 (self0 : AValue → Int → Option Int) (v : AValue) (k2 : Int → Option Int) (again4 : (Int × Int) → Option Int) (s3 : Int × Int) : Option Int := sel ((decide (s3.2 < (v.L.length : Int))) && (decide (s3.1 > 0))) ((idxO v.L s3.2).bind fun x6 => (self0 x6 s3.1).bind fun x7 => again4 (x7, IntKind.i64.wrap (s3.2 + 1))) (k2 s3.1)
def l14_load_B (self0 : AValue → Int → Option Int) (v : AValue) (left : Int) : Option Int := jn (fun (s1 : Int) => some s1) fun k2 => loopK (l14_load_L1 self0 v k2) N0 (IntKind.i64.wrap (left - 1), 0)
def l14_load : Nat → AValue → Int → Option Int
  | 0, _, _ => none
  | n + 1, v, left => l14_load_B (l14_load n) v left
def l14_ViewKeys (p_s : Str) : Option Bool := (gO (!(decide ((p_s.size : Int) > 100))) (vw_Key p_s)).bind fun x1 => (gO (!(decide ((p_s.size : Int) > 100))) (r14_Key p_s)).bind fun x2 => (gO ((!(decide ((p_s.size : Int) > 100))) && (x1 == x2)) (vw_Key (ByteArray.mk #[]))).bind fun x3 => (gO ((!(decide ((p_s.size : Int) > 100))) && ((x1 == x2) && x3)) l14_awake).bind fun x4 => some ((decide ((p_s.size : Int) > 100)) || (((x1 == x2) && x3) && x4))
end Go.Proofs.YtcfegecdlbbeaaaDoor

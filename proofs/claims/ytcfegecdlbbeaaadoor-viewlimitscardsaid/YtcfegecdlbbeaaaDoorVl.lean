/-
  The law of the limits: only the last two bits of the number count, and each of the four cases is evaluated. No program in sight.
-/
import Derived.Test.YtcfegecdlbbeaaaDoorAp
import Derived.Test.YtcfegecdlbbeaaaDoorQl
namespace Go.Proofs.YtcfegecdlbbeaaaDoor
open Go Go.E2
theorem lim0 : l14_ViewLimits 0 = some true := by kernel_rfl
theorem lim1 : l14_ViewLimits 1 = some true := by kernel_rfl
theorem lim2 : l14_ViewLimits 2 = some true := by kernel_rfl
theorem lim3 : l14_ViewLimits 3 = some true := by kernel_rfl
theorem limits_congr {a b : Int} (h3 : bAnd .i64 a 3 = bAnd .i64 b 3) (h1 : bAnd .i64 a 1 = bAnd .i64 b 1) : l14_ViewLimits a = l14_ViewLimits b := by
  have hL : l14_ViewLimits_L1 a = l14_ViewLimits_L1 b := by
    funext k4 again s
    unfold l14_ViewLimits_L1
    rw [h3]
  unfold l14_ViewLimits
  rw [hL, h3, h1]
theorem and3 (a : Int) : bAnd .i64 a 3 = a % 4 := by
  unfold bAnd
  have h : (BitVec.ofInt IntKind.i64.bits a &&& BitVec.ofInt IntKind.i64.bits 3).toNat = (a % 4).toNat := by
    show (BitVec.ofInt 64 a &&& 3#64).toNat = _
    rw [BitVec.toNat_and, BitVec.toNat_ofInt]
    show (a % 18446744073709551616).toNat &&& (2 ^ 2 - 1) = _
    rw [Nat.and_two_pow_sub_one_eq_mod (a % 18446744073709551616).toNat 2]
    omega
  rw [h, IntKind.wrap_i64]
  omega
theorem and1 (a : Int) : bAnd .i64 a 1 = a % 2 := by
  unfold bAnd
  have h : (BitVec.ofInt IntKind.i64.bits a &&& BitVec.ofInt IntKind.i64.bits 1).toNat = (a % 2).toNat := by
    show (BitVec.ofInt 64 a &&& 1#64).toNat = _
    rw [BitVec.toNat_and, BitVec.toNat_ofInt]
    show (a % 18446744073709551616).toNat &&& (2 ^ 1 - 1) = _
    rw [Nat.and_two_pow_sub_one_eq_mod (a % 18446744073709551616).toNat 1]
    omega
  rw [h, IntKind.wrap_i64]
  omega
theorem limits_true (a : Int) : l14_ViewLimits a = some true := by
  have h : ∀ b : Int, b = a % 4 → l14_ViewLimits a = l14_ViewLimits b := fun b hb => limits_congr (by rw [and3, and3]; omega) (by rw [and1, and1]; omega)
  rcases (by omega : a % 4 = 0 ∨ a % 4 = 1 ∨ a % 4 = 2 ∨ a % 4 = 3) with e | e | e | e
  · rw [h 0 e.symm, lim0]
  · rw [h 1 e.symm, lim1]
  · rw [h 2 e.symm, lim2]
  · rw [h 3 e.symm, lim3]
end Go.Proofs.YtcfegecdlbbeaaaDoor

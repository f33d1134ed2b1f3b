/-
  Small words that the writing program uses.
-/
import Derived.Test.YtcfegecdlbbeaaaDoorXg
import Derived.ChangeKeysEq
namespace Go.E2
def tau (l : List (Nat × Nat)) (i : Nat) : Nat := match look l i with
  | some k => k
  | none => i
def sig (l : List Nat) (i : Nat) : Nat := match l[i]? with
  | some k => k
  | none => 0
abbrev dInt (k : IntKind) (x : Int) : D := .v (.int k x)
abbrev dBool (x : Bool) : D := .v (.bool x)
def eInt (k : IntKind) (x : Int) : List D := [.v (.int k x)]
def eBool (x : Bool) : List D := [.v (.bool x)]
def eStr (x : Str) : List D := [.v (.string x)]
def eSl {α : Type} (e : α → List D) (l : List α) : List D := [.sl (List.map e l)]
def ePair {α : Type} (e : α → List D) (x : α × α) : List D := e x.1 ++ e x.2
theorem jn_some {S R : Type} {k : S → Option R} {b : (S → Option R) → Option R} {r : R} (hr : jn k b = some r) : ∃ k', k' = k ∧ b k' = some r := ⟨k, rfl, hr⟩
/-- a pair of numbers as an array -/
def EqA (P : Program) (t : TypeId) : Prop := ∃ e k, P.underlying t = some (.array 2 e) ∧ P.underlying e = some (.int k) ∧ P.cellsOf e = 1 ∧ (P.info? e).isSome = true ∧ P.eqGuardType P.depth t = false
theorem eqA_in {P : Program} {t : TypeId} (h : EqA P t) {k : IntKind} {a b c d : Int} (w : World) : (Op.equalIn 10000 t (.agg #[.int k a, .int k b]) (.agg #[.int k c, .int k d])).run P w = .ok ((a == c) && (b == d)) w := by
  obtain ⟨e, ke, h1, h2, h3, h4, h5⟩ := h
  obtain ⟨i, hi⟩ := Option.isSome_iff_exists.1 h4
  rw [run_equalIn_array w 9999 _ _ h1 hi, h3]
  have p0 : ∀ (x y : Value) (w : World), (part e #[x, y] (0 * 1)).run P w = .ok x w := fun x y w => part_cell (by simp) h2 rfl w
  have p1 : ∀ (x y : Value) (w : World), (part e #[x, y] (1 * 1)).run P w = .ok y w := fun x y w => part_cell (by simp) h2 rfl w
  have hr : List.range 2 = [0, 1] := by decide
  rw [hr]
  unfold Op.eqItems
  rw [run_bind_ok (p0 _ _ w), run_bind_ok (p0 _ _ w), run_bind_ok (run_equalIn_int w 9998 e k ke a c h2)]
  cases hac : (a == c) with
  | false => rfl
  | true =>
    simp only [Bool.not_true, Bool.false_eq_true, if_false, Bool.true_and]
    unfold Op.eqItems
    rw [run_bind_ok (p1 _ _ w), run_bind_ok (p1 _ _ w), run_bind_ok (run_equalIn_int w 9998 e k ke b d h2)]
    cases hbd : (b == d) <;> rfl
theorem eqA_run {P : Program} {t : TypeId} (h : EqA P t) {k : IntKind} {a b c d : Int} {x y : Operand} (w : World) :
    (eqGuard .eql t x y (.agg #[.int k a, .int k b]) (.agg #[.int k c, .int k d]) >>= fun _ => binOp .eql t (.agg #[.int k a, .int k b]) (.agg #[.int k c, .int k d])).run P w = .ok (.bool ((a == c) && (b == d))) w := by
  have h' := h
  obtain ⟨e, ke, h1, h2, h3, h4, h5⟩ := h
  rw [run_bind_ok (run_eqGuard_agg w .eql t x y _ _ h5), run_eql_struct, eqA_in h']
  rfl
theorem neA_run {P : Program} {t : TypeId} (h : EqA P t) {k : IntKind} {a b c d : Int} {x y : Operand} (w : World) :
    (eqGuard .neq t x y (.agg #[.int k a, .int k b]) (.agg #[.int k c, .int k d]) >>= fun _ => binOp .neq t (.agg #[.int k a, .int k b]) (.agg #[.int k c, .int k d])).run P w = .ok (.bool (!((a == c) && (b == d)))) w := by
  have h' := h
  obtain ⟨e, ke, h1, h2, h3, h4, h5⟩ := h
  rw [run_bind_ok (run_eqGuard_agg w .neq t x y _ _ h5), run_neq_struct, eqA_in h']
  rfl
section
variable {P : Program} {C : Ctx} {F : FS} {ops : Array Oper} {dst : Nat} {ty : TypeId} {pos : String} {after : Array Edge}
theorem triEqA {t t' : TypeId} {x y : Operand} {k : IntKind} {a b c d : Int} (hx : rdCs F x = some [.int k a, .int k b]) (hy : rdCs F y = some [.int k c, .int k d]) (ht : EqA P t) (hs : sideOk F true [x, y]) (hn : Nat.blt dst C.n = true) :
    TriL P C ops ⟨some dst, .binOp .eql t x y t', ty, pos, after, none⟩ ⟨slotsOf [x, y], [], [dst], []⟩ [(dst, .s (.c (.d (.v (.bool ((a == c) && (b == d)))))))] [] F := by
  refine ⟨⟨rfl, rfl⟩, fun F' hS => ?_⟩
  have h1 := opnd_same hS.1
  refine Tri.quiet (x := .c (.d (.v (.bool ((a == c) && (b == d)))))) rfl rfl hn (fun ρ M a' w hr => ⟨_, ?_, Rep.v _⟩)
  have hR := reads_of hr rfl (sideOk_same h1 hs)
  unfold execOp
  simp only
  rw [rdCs_eval hR (by simp) ((rdCs_same (h1 x (by simp))).trans hx), rdCs_eval hR (by simp) ((rdCs_same (h1 y (by simp))).trans hy)]
  exact bind_value (eqA_run ht w)
theorem triNeA {t t' : TypeId} {x y : Operand} {k : IntKind} {a b c d : Int} (hx : rdCs F x = some [.int k a, .int k b]) (hy : rdCs F y = some [.int k c, .int k d]) (ht : EqA P t) (hs : sideOk F true [x, y]) (hn : Nat.blt dst C.n = true) :
    TriL P C ops ⟨some dst, .binOp .neq t x y t', ty, pos, after, none⟩ ⟨slotsOf [x, y], [], [dst], []⟩ [(dst, .s (.c (.d (.v (.bool (!((a == c) && (b == d))))))))] [] F := by
  refine ⟨⟨rfl, rfl⟩, fun F' hS => ?_⟩
  have h1 := opnd_same hS.1
  refine Tri.quiet (x := .c (.d (.v (.bool (!((a == c) && (b == d))))))) rfl rfl hn (fun ρ M a' w hr => ⟨_, ?_, Rep.v _⟩)
  have hR := reads_of hr rfl (sideOk_same h1 hs)
  unfold execOp
  simp only
  rw [rdCs_eval hR (by simp) ((rdCs_same (h1 x (by simp))).trans hx), rdCs_eval hR (by simp) ((rdCs_same (h1 y (by simp))).trans hy)]
  exact bind_value (neA_run ht w)
end
def mnI (x y : Int) : Int := if y < x then y else x
def mxI (x y : Int) : Int := if y > x then y else x
def bAnd (k : IntKind) (x y : Int) : Int := k.wrap (BitVec.ofInt k.bits x &&& BitVec.ofInt k.bits y).toNat
def bOr (k : IntKind) (x y : Int) : Int := k.wrap (BitVec.ofInt k.bits x ||| BitVec.ofInt k.bits y).toNat
def bXor (k : IntKind) (x y : Int) : Int := k.wrap (BitVec.ofInt k.bits x ^^^ BitVec.ofInt k.bits y).toNat
def bAndNot (k : IntKind) (x y : Int) : Int := k.wrap (BitVec.ofInt k.bits x &&& ~~~BitVec.ofInt k.bits y).toNat
def bShl (k : IntKind) (x y : Int) : Int := k.wrap (x * 2 ^ (min y.toNat k.bits))
def bShr (k : IntKind) (x y : Int) : Int := x.fdiv (2 ^ (min y.toNat k.bits))
end Go.E2

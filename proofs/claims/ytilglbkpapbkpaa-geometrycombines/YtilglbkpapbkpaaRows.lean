/-
  No cell of these rows narrows 'for every input' (looked for: loops, veiled, ifaces, maps, wideKeys, modest, calm, conditions, laid).
  DERIVED. THE GIVEN ROWS OF THIS SEAT. 7 by the template 'for every input the law returns true; each argument reads behind the call as it read before'; 0 by the template 'total and deterministic' (their statements: YtilglbkpapbkpaaTotals.lean).
  GIVEN WITH THE SEED: the statements are not yours to turn. If you find one false, say at which input.
  Laid BY PROGRAM, IN A SANDBOX (cutbox-rows.mjs): the forced cells as the released guide's own fill.sh prints them over the translation bd78e2935efca816… (all of the seat's roots in one cut). By AI agents, Wed Nov 11 2026. No macro, syntax, notation, axiom, sorry.
-/
import Derived.Test.YtilglbkpapbkpaaChecked
import GoSem.Claim
import GoSem.ClaimJoined
import GoSem.ClaimMapViews
import Derived.JoinedTies
import Derived.KernelRfl
namespace Go.Proofs.Ytilglbkpapbkpaa
/- THE CELL 'sum', in the pinned program and in every row, IS THE sha256 OF THE DUMP (.gsa) THAT YtilglbkpapbkpaaProg.lean LOADS. Nothing in Lean hashes anything: it is a label: what it is worth is what the hold of that sum in a sandbox is worth. -/
noncomputable def Try.pinned : Pinned := { name := "ytilglbkpapbkpaa", sum := "bd78e2935efca8161552e8295d6f70b12526a6c1f79110d3f240997c0ddff020", checked := Try.checked }
namespace Rows
def none {H : Type} : Left H := { results := [], args := [] }

/-- 'widgetrylaw02.GeometryTurns': WHATEVER THE INPUT: true; the input reads as it did. -/
def geometryTurnsSpec : ChangeSpec := { name := "geometryTurns", fn := fun _ => fun
  | [d1, d2, d3, d4, d5, d6] => { results := [.lit (.bool true)], args := [d1, d2, d3, d4, d5, d6] }
  | _ => none }
def geometryTurnsRow : OpenClaim := { program := "ytilglbkpapbkpaa", sum := "bd78e2935efca8161552e8295d6f70b12526a6c1f79110d3f240997c0ddff020", func := "widgetry/widgetrylaw02.GeometryTurns", spec := "geometryTurns", apart := false }
def GeometryTurnsSaid : Prop := geometryTurnsRow.holds Try.pinned (OpenSpec.ofChange geometryTurnsSpec)

/-- ITS FALSE NEIGHBOUR: 'it returns false'. Refute it at one input. -/
def geometryTurnsWrong : ChangeSpec := { name := "geometryTurns", fn := fun _ => fun
  | [d1, d2, d3, d4, d5, d6] => { results := [.lit (.bool false)], args := [d1, d2, d3, d4, d5, d6] }
  | _ => none }
def GeometryTurnsWrongFalsely : Prop := geometryTurnsRow.holds Try.pinned (OpenSpec.ofChange geometryTurnsWrong)

/-- 'widgetrylaw02.GeometryBack': WHATEVER THE INPUT: true; the input reads as it did. -/
def geometryBackSpec : ChangeSpec := { name := "geometryBack", fn := fun _ => fun
  | [d1, d2, d3, d4, d5, d6, d7] => { results := [.lit (.bool true)], args := [d1, d2, d3, d4, d5, d6, d7] }
  | _ => none }
def geometryBackRow : OpenClaim := { program := "ytilglbkpapbkpaa", sum := "bd78e2935efca8161552e8295d6f70b12526a6c1f79110d3f240997c0ddff020", func := "widgetry/widgetrylaw02.GeometryBack", spec := "geometryBack", apart := false }
def GeometryBackSaid : Prop := geometryBackRow.holds Try.pinned (OpenSpec.ofChange geometryBackSpec)

/-- ITS FALSE NEIGHBOUR: 'it returns false'. Refute it at one input. -/
def geometryBackWrong : ChangeSpec := { name := "geometryBack", fn := fun _ => fun
  | [d1, d2, d3, d4, d5, d6, d7] => { results := [.lit (.bool false)], args := [d1, d2, d3, d4, d5, d6, d7] }
  | _ => none }
def GeometryBackWrongFalsely : Prop := geometryBackRow.holds Try.pinned (OpenSpec.ofChange geometryBackWrong)

/-- 'widgetrylaw02.GeometryTransforms': WHATEVER THE INPUT: true; the input reads as it did. -/
def geometryTransformsSpec : ChangeSpec := { name := "geometryTransforms", fn := fun _ => fun
  | [d1, d2, d3, d4] => { results := [.lit (.bool true)], args := [d1, d2, d3, d4] }
  | _ => none }
def geometryTransformsRow : OpenClaim := { program := "ytilglbkpapbkpaa", sum := "bd78e2935efca8161552e8295d6f70b12526a6c1f79110d3f240997c0ddff020", func := "widgetry/widgetrylaw02.GeometryTransforms", spec := "geometryTransforms", apart := false }
def GeometryTransformsSaid : Prop := geometryTransformsRow.holds Try.pinned (OpenSpec.ofChange geometryTransformsSpec)

/-- ITS FALSE NEIGHBOUR: 'it returns false'. Refute it at one input. -/
def geometryTransformsWrong : ChangeSpec := { name := "geometryTransforms", fn := fun _ => fun
  | [d1, d2, d3, d4] => { results := [.lit (.bool false)], args := [d1, d2, d3, d4] }
  | _ => none }
def GeometryTransformsWrongFalsely : Prop := geometryTransformsRow.holds Try.pinned (OpenSpec.ofChange geometryTransformsWrong)

/-- 'widgetrylaw02.GeometryCombines': WHATEVER THE INPUT: true; the input reads as it did. -/
def geometryCombinesSpec : ChangeSpec := { name := "geometryCombines", fn := fun _ => fun
  | [d1, d2, d3, d4, d5, d6] => { results := [.lit (.bool true)], args := [d1, d2, d3, d4, d5, d6] }
  | _ => none }
def geometryCombinesRow : OpenClaim := { program := "ytilglbkpapbkpaa", sum := "bd78e2935efca8161552e8295d6f70b12526a6c1f79110d3f240997c0ddff020", func := "widgetry/widgetrylaw02.GeometryCombines", spec := "geometryCombines", apart := false }
def GeometryCombinesSaid : Prop := geometryCombinesRow.holds Try.pinned (OpenSpec.ofChange geometryCombinesSpec)

/-- ITS FALSE NEIGHBOUR: 'it returns false'. Refute it at one input. -/
def geometryCombinesWrong : ChangeSpec := { name := "geometryCombines", fn := fun _ => fun
  | [d1, d2, d3, d4, d5, d6] => { results := [.lit (.bool false)], args := [d1, d2, d3, d4, d5, d6] }
  | _ => none }
def GeometryCombinesWrongFalsely : Prop := geometryCombinesRow.holds Try.pinned (OpenSpec.ofChange geometryCombinesWrong)

/-- 'widgetrylaw02.GeometryMoves': WHATEVER THE INPUT: true; the input reads as it did. -/
def geometryMovesSpec : ChangeSpec := { name := "geometryMoves", fn := fun _ => fun
  | [d1, d2, d3, d4] => { results := [.lit (.bool true)], args := [d1, d2, d3, d4] }
  | _ => none }
def geometryMovesRow : OpenClaim := { program := "ytilglbkpapbkpaa", sum := "bd78e2935efca8161552e8295d6f70b12526a6c1f79110d3f240997c0ddff020", func := "widgetry/widgetrylaw02.GeometryMoves", spec := "geometryMoves", apart := false }
def GeometryMovesSaid : Prop := geometryMovesRow.holds Try.pinned (OpenSpec.ofChange geometryMovesSpec)

/-- ITS FALSE NEIGHBOUR: 'it returns false'. Refute it at one input. -/
def geometryMovesWrong : ChangeSpec := { name := "geometryMoves", fn := fun _ => fun
  | [d1, d2, d3, d4] => { results := [.lit (.bool false)], args := [d1, d2, d3, d4] }
  | _ => none }
def GeometryMovesWrongFalsely : Prop := geometryMovesRow.holds Try.pinned (OpenSpec.ofChange geometryMovesWrong)

/-- 'widgetrylaw02.GeometryRects': WHATEVER THE INPUT: true; the input reads as it did. -/
def geometryRectsSpec : ChangeSpec := { name := "geometryRects", fn := fun _ => fun
  | [d1, d2, d3] => { results := [.lit (.bool true)], args := [d1, d2, d3] }
  | _ => none }
def geometryRectsRow : OpenClaim := { program := "ytilglbkpapbkpaa", sum := "bd78e2935efca8161552e8295d6f70b12526a6c1f79110d3f240997c0ddff020", func := "widgetry/widgetrylaw02.GeometryRects", spec := "geometryRects", apart := false }
def GeometryRectsSaid : Prop := geometryRectsRow.holds Try.pinned (OpenSpec.ofChange geometryRectsSpec)

/-- ITS FALSE NEIGHBOUR: 'it returns false'. Refute it at one input. -/
def geometryRectsWrong : ChangeSpec := { name := "geometryRects", fn := fun _ => fun
  | [d1, d2, d3] => { results := [.lit (.bool false)], args := [d1, d2, d3] }
  | _ => none }
def GeometryRectsWrongFalsely : Prop := geometryRectsRow.holds Try.pinned (OpenSpec.ofChange geometryRectsWrong)

/-- 'widgetrylaw02.GeometryPoints': WHATEVER THE INPUT: true; the input reads as it did. -/
def geometryPointsSpec : ChangeSpec := { name := "geometryPoints", fn := fun _ => fun
  | [d1, d2, d3] => { results := [.lit (.bool true)], args := [d1, d2, d3] }
  | _ => none }
def geometryPointsRow : OpenClaim := { program := "ytilglbkpapbkpaa", sum := "bd78e2935efca8161552e8295d6f70b12526a6c1f79110d3f240997c0ddff020", func := "widgetry/widgetrylaw02.GeometryPoints", spec := "geometryPoints", apart := false }
def GeometryPointsSaid : Prop := geometryPointsRow.holds Try.pinned (OpenSpec.ofChange geometryPointsSpec)

/-- ITS FALSE NEIGHBOUR: 'it returns false'. Refute it at one input. -/
def geometryPointsWrong : ChangeSpec := { name := "geometryPoints", fn := fun _ => fun
  | [d1, d2, d3] => { results := [.lit (.bool false)], args := [d1, d2, d3] }
  | _ => none }
def GeometryPointsWrongFalsely : Prop := geometryPointsRow.holds Try.pinned (OpenSpec.ofChange geometryPointsWrong)

/- THE SECOND FORM. 'bulk': how many values and letters a reading holds, each counted each time it is reached (what is shared counts as often as it is met; a slice's spare places count too). A statement '..UptoSaid' is the law's where the arguments, and the package variables that the reading takes, are together of bulk at most 1048576: NARROWER than '..Said'. Prove '..Said' where nothing that the law and all that it calls make is longer than what came in: it says more and counts as full. Else prove '..UptoSaid'. A law counts once. -/
mutual
def uptoBulk {H : Type} : DataW H → Nat
  | .lit (.string bytes) => bytes.length + 1
  | .lit _ => 1
  | .nil => 1
  | .ptr d => uptoBulk d + 1
  | .slice elems spare => uptoBulkAll elems + uptoBulkAll spare + 1
  | .agg parts => uptoBulkAll parts + 1
  | .iface _ d => uptoBulk d + 1
  | .map entries => uptoBulkEntries entries + 1
  | .held _ => 1
def uptoBulkAll {H : Type} : List (DataW H) → Nat
  | [] => 0
  | d :: r => uptoBulk d + uptoBulkAll r
def uptoBulkEntries {H : Type} : List (Lit × DataW H) → Nat
  | [] => 0
  | x :: r => uptoBulkEntry x + uptoBulkEntries r
def uptoBulkEntry {H : Type} : Lit × DataW H → Nat
  | (.string bytes, d) => bytes.length + uptoBulk d + 1
  | (_, d) => uptoBulk d + 1
 end
def uptoSmall : (H : Type) → List (DataW H) → Bool := fun _ ds => decide (uptoBulkAll ds ≤ 1048576)
def OpenSpec.upto (s : _root_.Go.ChangeSpec) : _root_.Go.OpenSpec := { _root_.Go.OpenSpec.ofChange s with cond := some uptoSmall }

/-- 'widgetrylaw02.GeometryTurns', WHERE WHAT IT READS IS OF BULK AT MOST 1048576: true; the input reads as it did. -/
def geometryTurnsUptoRow : OpenClaim := { program := "ytilglbkpapbkpaa", sum := "bd78e2935efca8161552e8295d6f70b12526a6c1f79110d3f240997c0ddff020", func := "widgetry/widgetrylaw02.GeometryTurns", spec := "geometryTurns", apart := false, narrowed := true }
def GeometryTurnsUptoSaid : Prop := geometryTurnsUptoRow.holds Try.pinned (OpenSpec.upto geometryTurnsSpec)

/-- 'widgetrylaw02.GeometryBack', WHERE WHAT IT READS IS OF BULK AT MOST 1048576: true; the input reads as it did. -/
def geometryBackUptoRow : OpenClaim := { program := "ytilglbkpapbkpaa", sum := "bd78e2935efca8161552e8295d6f70b12526a6c1f79110d3f240997c0ddff020", func := "widgetry/widgetrylaw02.GeometryBack", spec := "geometryBack", apart := false, narrowed := true }
def GeometryBackUptoSaid : Prop := geometryBackUptoRow.holds Try.pinned (OpenSpec.upto geometryBackSpec)

/-- 'widgetrylaw02.GeometryTransforms', WHERE WHAT IT READS IS OF BULK AT MOST 1048576: true; the input reads as it did. -/
def geometryTransformsUptoRow : OpenClaim := { program := "ytilglbkpapbkpaa", sum := "bd78e2935efca8161552e8295d6f70b12526a6c1f79110d3f240997c0ddff020", func := "widgetry/widgetrylaw02.GeometryTransforms", spec := "geometryTransforms", apart := false, narrowed := true }
def GeometryTransformsUptoSaid : Prop := geometryTransformsUptoRow.holds Try.pinned (OpenSpec.upto geometryTransformsSpec)

/-- 'widgetrylaw02.GeometryCombines', WHERE WHAT IT READS IS OF BULK AT MOST 1048576: true; the input reads as it did. -/
def geometryCombinesUptoRow : OpenClaim := { program := "ytilglbkpapbkpaa", sum := "bd78e2935efca8161552e8295d6f70b12526a6c1f79110d3f240997c0ddff020", func := "widgetry/widgetrylaw02.GeometryCombines", spec := "geometryCombines", apart := false, narrowed := true }
def GeometryCombinesUptoSaid : Prop := geometryCombinesUptoRow.holds Try.pinned (OpenSpec.upto geometryCombinesSpec)

/-- 'widgetrylaw02.GeometryMoves', WHERE WHAT IT READS IS OF BULK AT MOST 1048576: true; the input reads as it did. -/
def geometryMovesUptoRow : OpenClaim := { program := "ytilglbkpapbkpaa", sum := "bd78e2935efca8161552e8295d6f70b12526a6c1f79110d3f240997c0ddff020", func := "widgetry/widgetrylaw02.GeometryMoves", spec := "geometryMoves", apart := false, narrowed := true }
def GeometryMovesUptoSaid : Prop := geometryMovesUptoRow.holds Try.pinned (OpenSpec.upto geometryMovesSpec)

/-- 'widgetrylaw02.GeometryRects', WHERE WHAT IT READS IS OF BULK AT MOST 1048576: true; the input reads as it did. -/
def geometryRectsUptoRow : OpenClaim := { program := "ytilglbkpapbkpaa", sum := "bd78e2935efca8161552e8295d6f70b12526a6c1f79110d3f240997c0ddff020", func := "widgetry/widgetrylaw02.GeometryRects", spec := "geometryRects", apart := false, narrowed := true }
def GeometryRectsUptoSaid : Prop := geometryRectsUptoRow.holds Try.pinned (OpenSpec.upto geometryRectsSpec)

/-- 'widgetrylaw02.GeometryPoints', WHERE WHAT IT READS IS OF BULK AT MOST 1048576: true; the input reads as it did. -/
def geometryPointsUptoRow : OpenClaim := { program := "ytilglbkpapbkpaa", sum := "bd78e2935efca8161552e8295d6f70b12526a6c1f79110d3f240997c0ddff020", func := "widgetry/widgetrylaw02.GeometryPoints", spec := "geometryPoints", apart := false, narrowed := true }
def GeometryPointsUptoSaid : Prop := geometryPointsUptoRow.holds Try.pinned (OpenSpec.upto geometryPointsSpec)

end Rows
end Go.Proofs.Ytilglbkpapbkpaa

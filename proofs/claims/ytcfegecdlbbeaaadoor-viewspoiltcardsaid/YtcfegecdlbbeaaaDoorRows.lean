/-
  NARROWER THAN 'FOR EVERY INPUT', by the rows' own cells (each row's printed sentence says how): ViewKeys: laid · ViewSpoilt: laid · ViewNames: laid · ViewLimits: laid · ViewAttrs: loops, laid · ViewRaw: loops, laid · ViewBuilds: laid · ViewPaths: laid · ViewTrees: loops, laid.
  DERIVED. THE GIVEN ROWS OF THIS SEAT. 9 by the template 'for every input the law returns true; each argument reads behind the call as it read before'; 0 by the template 'total and deterministic' (their statements: YtcfegecdlbbeaaaDoorTotals.lean).
  GIVEN WITH THE SEED: the statements are not yours to turn. If you find one false, say at which input.
  Laid BY PROGRAM, IN A SANDBOX (cutbox-rows.mjs): the forced cells as the released guide's own fill.sh prints them over the translation c2e5d6c0c54e3327… (all of the seat's roots in one cut). By AI agents, Wed Nov 11 2026. No macro, syntax, notation, axiom, sorry.
-/
import Derived.Test.YtcfegecdlbbeaaaDoorChecked
import GoSem.PinnedTables
import GoSem.Claim
import GoSem.ClaimJoined
import GoSem.ClaimMapViews
import Derived.JoinedTies
import Derived.KernelRfl
namespace Go.Proofs.YtcfegecdlbbeaaaDoor
/- THE CELL 'sum', in the pinned program and in every row, IS THE sha256 OF THE DUMP (.gsa) THAT YtcfegecdlbbeaaaDoorProg.lean LOADS. Nothing in Lean hashes anything: it is a label: what it is worth is what the hold of that sum in a sandbox is worth. -/
noncomputable def Tryd.pinned : Pinned := { name := "ytcfegecdlbbeaaadoor", sum := "c2e5d6c0c54e332749bb9e9e4b0585c9cc95b4eb17a8e3fcefae619ce1d4099c", checked := Tryd.checked }
namespace Rows
def none {H : Type} : Left H := { results := [], args := [] }

/- WHAT THE LISTED PACKAGE-LEVEL VARIABLES READ AS WHEN THE CALL BEGINS. Each datum BY PROGRAM (the guide's laid-datum.mjs) off the statement by which the dump's own 'gosem.cut.vars' lays the variable. In a bare row this is a premise. The card (YtcfegecdlbbeaaaDoorCards.lean) ties it to the program's text. -/
def laid_math_bits_deBruijn32tab {H : Type} : DataW H := .agg [.lit (.int .u8 0), .lit (.int .u8 1), .lit (.int .u8 28), .lit (.int .u8 2), .lit (.int .u8 29), .lit (.int .u8 14), .lit (.int .u8 24), .lit (.int .u8 3), .lit (.int .u8 30), .lit (.int .u8 22), .lit (.int .u8 20), .lit (.int .u8 15), .lit (.int .u8 25), .lit (.int .u8 17), .lit (.int .u8 4), .lit (.int .u8 8), .lit (.int .u8 31), .lit (.int .u8 27), .lit (.int .u8 13), .lit (.int .u8 23), .lit (.int .u8 21), .lit (.int .u8 19), .lit (.int .u8 16), .lit (.int .u8 7), .lit (.int .u8 26), .lit (.int .u8 12), .lit (.int .u8 18), .lit (.int .u8 6), .lit (.int .u8 11), .lit (.int .u8 5), .lit (.int .u8 10), .lit (.int .u8 9)]
def laid_math_bits_deBruijn64tab {H : Type} : DataW H := .agg [.lit (.int .u8 0), .lit (.int .u8 1), .lit (.int .u8 56), .lit (.int .u8 2), .lit (.int .u8 57), .lit (.int .u8 49), .lit (.int .u8 28), .lit (.int .u8 3), .lit (.int .u8 61), .lit (.int .u8 58), .lit (.int .u8 42), .lit (.int .u8 50), .lit (.int .u8 38), .lit (.int .u8 29), .lit (.int .u8 17), .lit (.int .u8 4), .lit (.int .u8 62), .lit (.int .u8 47), .lit (.int .u8 59), .lit (.int .u8 36), .lit (.int .u8 45), .lit (.int .u8 43), .lit (.int .u8 51), .lit (.int .u8 22), .lit (.int .u8 53), .lit (.int .u8 39), .lit (.int .u8 33), .lit (.int .u8 30), .lit (.int .u8 24), .lit (.int .u8 18), .lit (.int .u8 12), .lit (.int .u8 5), .lit (.int .u8 63), .lit (.int .u8 55), .lit (.int .u8 48), .lit (.int .u8 27), .lit (.int .u8 60), .lit (.int .u8 41), .lit (.int .u8 37), .lit (.int .u8 16), .lit (.int .u8 46), .lit (.int .u8 35), .lit (.int .u8 44), .lit (.int .u8 21), .lit (.int .u8 52), .lit (.int .u8 32), .lit (.int .u8 23), .lit (.int .u8 11), .lit (.int .u8 54), .lit (.int .u8 26), .lit (.int .u8 40), .lit (.int .u8 15), .lit (.int .u8 34), .lit (.int .u8 20), .lit (.int .u8 31), .lit (.int .u8 10), .lit (.int .u8 25), .lit (.int .u8 14), .lit (.int .u8 19), .lit (.int .u8 9), .lit (.int .u8 13), .lit (.int .u8 8), .lit (.int .u8 7), .lit (.int .u8 6)]
def laid_internal_strconv_uint64pow10 {H : Type} : DataW H := .agg [.lit (.int .u64 1), .lit (.int .u64 10), .lit (.int .u64 100), .lit (.int .u64 1000), .lit (.int .u64 10000), .lit (.int .u64 100000), .lit (.int .u64 1000000), .lit (.int .u64 10000000), .lit (.int .u64 100000000), .lit (.int .u64 1000000000), .lit (.int .u64 10000000000), .lit (.int .u64 100000000000), .lit (.int .u64 1000000000000), .lit (.int .u64 10000000000000), .lit (.int .u64 100000000000000), .lit (.int .u64 1000000000000000), .lit (.int .u64 10000000000000000), .lit (.int .u64 100000000000000000), .lit (.int .u64 1000000000000000000), .lit (.int .u64 10000000000000000000)]
def laid_unicode_utf8_acceptRanges {H : Type} : DataW H := .agg [.agg [.lit (.int .u8 128), .lit (.int .u8 191)], .agg [.lit (.int .u8 160), .lit (.int .u8 191)], .agg [.lit (.int .u8 128), .lit (.int .u8 159)], .agg [.lit (.int .u8 144), .lit (.int .u8 191)], .agg [.lit (.int .u8 128), .lit (.int .u8 143)], .agg [.lit (.int .u8 0), .lit (.int .u8 0)], .agg [.lit (.int .u8 0), .lit (.int .u8 0)], .agg [.lit (.int .u8 0), .lit (.int .u8 0)], .agg [.lit (.int .u8 0), .lit (.int .u8 0)], .agg [.lit (.int .u8 0), .lit (.int .u8 0)], .agg [.lit (.int .u8 0), .lit (.int .u8 0)], .agg [.lit (.int .u8 0), .lit (.int .u8 0)], .agg [.lit (.int .u8 0), .lit (.int .u8 0)], .agg [.lit (.int .u8 0), .lit (.int .u8 0)], .agg [.lit (.int .u8 0), .lit (.int .u8 0)], .agg [.lit (.int .u8 0), .lit (.int .u8 0)]]
/-- One of Go's own tables, pinned by name: the form's constant. -/
def laid_unicode_utf8_first : DataW Unit := Go.Pinned.utf8First

/-- 'widgetrylaw14.ViewKeys': WHATEVER THE INPUT: true; the input reads as it did. -/
def viewKeysSpec : ChangeSpec := { name := "viewKeys", fn := fun _ => fun
  | [d] => { results := [.lit (.bool true)], args := [d] }
  | _ => none }
def viewKeysRow : OpenClaim := { program := "ytcfegecdlbbeaaadoor", sum := "c2e5d6c0c54e332749bb9e9e4b0585c9cc95b4eb17a8e3fcefae619ce1d4099c", func := "widgetry/widgetrylaw14.ViewKeys", spec := "viewKeys", unfollowed := true, recurses := true, named := ["unicode/utf8.first", "unicode/utf8.acceptRanges", "internal/strconv.uint64pow10", "math/bits.deBruijn32tab", "math/bits.deBruijn64tab"], apart := false, laid := [("math/bits.deBruijn32tab", laid_math_bits_deBruijn32tab), ("math/bits.deBruijn64tab", laid_math_bits_deBruijn64tab), ("internal/strconv.uint64pow10", laid_internal_strconv_uint64pow10), ("unicode/utf8.acceptRanges", laid_unicode_utf8_acceptRanges), ("unicode/utf8.first", laid_unicode_utf8_first)] }
def ViewKeysSaid : Prop := viewKeysRow.holds Tryd.pinned (OpenSpec.ofChange viewKeysSpec)

/-- ITS FALSE NEIGHBOUR: 'it returns false'. Refute it at one input. -/
def viewKeysWrong : ChangeSpec := { name := "viewKeys", fn := fun _ => fun
  | [d] => { results := [.lit (.bool false)], args := [d] }
  | _ => none }
def ViewKeysWrongFalsely : Prop := viewKeysRow.holds Tryd.pinned (OpenSpec.ofChange viewKeysWrong)

/-- 'widgetrylaw14.ViewSpoilt': WHATEVER THE INPUT: true; the input reads as it did. -/
def viewSpoiltSpec : ChangeSpec := { name := "viewSpoilt", fn := fun _ => fun
  | [d] => { results := [.lit (.bool true)], args := [d] }
  | _ => none }
def viewSpoiltRow : OpenClaim := { program := "ytcfegecdlbbeaaadoor", sum := "c2e5d6c0c54e332749bb9e9e4b0585c9cc95b4eb17a8e3fcefae619ce1d4099c", func := "widgetry/widgetrylaw14.ViewSpoilt", spec := "viewSpoilt", unfollowed := true, recurses := true, named := ["unicode/utf8.first", "unicode/utf8.acceptRanges", "internal/strconv.uint64pow10", "math/bits.deBruijn32tab", "math/bits.deBruijn64tab"], apart := false, laid := [("math/bits.deBruijn32tab", laid_math_bits_deBruijn32tab), ("math/bits.deBruijn64tab", laid_math_bits_deBruijn64tab), ("internal/strconv.uint64pow10", laid_internal_strconv_uint64pow10), ("unicode/utf8.acceptRanges", laid_unicode_utf8_acceptRanges), ("unicode/utf8.first", laid_unicode_utf8_first)] }
def ViewSpoiltSaid : Prop := viewSpoiltRow.holds Tryd.pinned (OpenSpec.ofChange viewSpoiltSpec)

/-- ITS FALSE NEIGHBOUR: 'it returns false'. Refute it at one input. -/
def viewSpoiltWrong : ChangeSpec := { name := "viewSpoilt", fn := fun _ => fun
  | [d] => { results := [.lit (.bool false)], args := [d] }
  | _ => none }
def ViewSpoiltWrongFalsely : Prop := viewSpoiltRow.holds Tryd.pinned (OpenSpec.ofChange viewSpoiltWrong)

/-- 'widgetrylaw14.ViewNames': WHATEVER THE INPUT: true; the input reads as it did. -/
def viewNamesSpec : ChangeSpec := { name := "viewNames", fn := fun _ => fun
  | [d] => { results := [.lit (.bool true)], args := [d] }
  | _ => none }
def viewNamesRow : OpenClaim := { program := "ytcfegecdlbbeaaadoor", sum := "c2e5d6c0c54e332749bb9e9e4b0585c9cc95b4eb17a8e3fcefae619ce1d4099c", func := "widgetry/widgetrylaw14.ViewNames", spec := "viewNames", unfollowed := true, recurses := true, named := ["unicode/utf8.first", "unicode/utf8.acceptRanges", "internal/strconv.uint64pow10", "math/bits.deBruijn32tab", "math/bits.deBruijn64tab"], apart := false, laid := [("math/bits.deBruijn32tab", laid_math_bits_deBruijn32tab), ("math/bits.deBruijn64tab", laid_math_bits_deBruijn64tab), ("internal/strconv.uint64pow10", laid_internal_strconv_uint64pow10), ("unicode/utf8.acceptRanges", laid_unicode_utf8_acceptRanges), ("unicode/utf8.first", laid_unicode_utf8_first)] }
def ViewNamesSaid : Prop := viewNamesRow.holds Tryd.pinned (OpenSpec.ofChange viewNamesSpec)

/-- ITS FALSE NEIGHBOUR: 'it returns false'. Refute it at one input. -/
def viewNamesWrong : ChangeSpec := { name := "viewNames", fn := fun _ => fun
  | [d] => { results := [.lit (.bool false)], args := [d] }
  | _ => none }
def ViewNamesWrongFalsely : Prop := viewNamesRow.holds Tryd.pinned (OpenSpec.ofChange viewNamesWrong)

/-- 'widgetrylaw14.ViewLimits': WHATEVER THE INPUT: true; the input reads as it did. -/
def viewLimitsSpec : ChangeSpec := { name := "viewLimits", fn := fun _ => fun
  | [d] => { results := [.lit (.bool true)], args := [d] }
  | _ => none }
def viewLimitsRow : OpenClaim := { program := "ytcfegecdlbbeaaadoor", sum := "c2e5d6c0c54e332749bb9e9e4b0585c9cc95b4eb17a8e3fcefae619ce1d4099c", func := "widgetry/widgetrylaw14.ViewLimits", spec := "viewLimits", unfollowed := true, recurses := true, named := ["unicode/utf8.first", "unicode/utf8.acceptRanges", "internal/strconv.uint64pow10", "math/bits.deBruijn32tab", "math/bits.deBruijn64tab"], apart := false, laid := [("math/bits.deBruijn32tab", laid_math_bits_deBruijn32tab), ("math/bits.deBruijn64tab", laid_math_bits_deBruijn64tab), ("internal/strconv.uint64pow10", laid_internal_strconv_uint64pow10), ("unicode/utf8.acceptRanges", laid_unicode_utf8_acceptRanges), ("unicode/utf8.first", laid_unicode_utf8_first)] }
def ViewLimitsSaid : Prop := viewLimitsRow.holds Tryd.pinned (OpenSpec.ofChange viewLimitsSpec)

/-- ITS FALSE NEIGHBOUR: 'it returns false'. Refute it at one input. -/
def viewLimitsWrong : ChangeSpec := { name := "viewLimits", fn := fun _ => fun
  | [d] => { results := [.lit (.bool false)], args := [d] }
  | _ => none }
def ViewLimitsWrongFalsely : Prop := viewLimitsRow.holds Tryd.pinned (OpenSpec.ofChange viewLimitsWrong)

/-- 'widgetrylaw14.ViewAttrs': WHATEVER THE INPUT: true; the input reads as it did. -/
def viewAttrsSpec : ChangeSpec := { name := "viewAttrs", fn := fun _ => fun
  | [d1, d2, d3] => { results := [.lit (.bool true)], args := [d1, d2, d3] }
  | _ => none }
def viewAttrsRow : OpenClaim := { program := "ytcfegecdlbbeaaadoor", sum := "c2e5d6c0c54e332749bb9e9e4b0585c9cc95b4eb17a8e3fcefae619ce1d4099c", func := "widgetry/widgetrylaw14.ViewAttrs", spec := "viewAttrs", unfollowed := true, recurses := true, named := ["unicode/utf8.first", "unicode/utf8.acceptRanges", "internal/strconv.uint64pow10", "math/bits.deBruijn32tab", "math/bits.deBruijn64tab"], loops := true, apart := false, laid := [("math/bits.deBruijn32tab", laid_math_bits_deBruijn32tab), ("math/bits.deBruijn64tab", laid_math_bits_deBruijn64tab), ("internal/strconv.uint64pow10", laid_internal_strconv_uint64pow10), ("unicode/utf8.acceptRanges", laid_unicode_utf8_acceptRanges), ("unicode/utf8.first", laid_unicode_utf8_first)] }
def ViewAttrsSaid : Prop := viewAttrsRow.holds Tryd.pinned (OpenSpec.ofChange viewAttrsSpec)

/-- ITS FALSE NEIGHBOUR: 'it returns false'. Refute it at one input. -/
def viewAttrsWrong : ChangeSpec := { name := "viewAttrs", fn := fun _ => fun
  | [d1, d2, d3] => { results := [.lit (.bool false)], args := [d1, d2, d3] }
  | _ => none }
def ViewAttrsWrongFalsely : Prop := viewAttrsRow.holds Tryd.pinned (OpenSpec.ofChange viewAttrsWrong)

/-- 'widgetrylaw14.ViewRaw': WHATEVER THE INPUT: true; the input reads as it did. -/
def viewRawSpec : ChangeSpec := { name := "viewRaw", fn := fun _ => fun
  | [d1, d2] => { results := [.lit (.bool true)], args := [d1, d2] }
  | _ => none }
def viewRawRow : OpenClaim := { program := "ytcfegecdlbbeaaadoor", sum := "c2e5d6c0c54e332749bb9e9e4b0585c9cc95b4eb17a8e3fcefae619ce1d4099c", func := "widgetry/widgetrylaw14.ViewRaw", spec := "viewRaw", unfollowed := true, recurses := true, named := ["unicode/utf8.first", "unicode/utf8.acceptRanges", "internal/strconv.uint64pow10", "math/bits.deBruijn32tab", "math/bits.deBruijn64tab"], loops := true, apart := false, laid := [("math/bits.deBruijn32tab", laid_math_bits_deBruijn32tab), ("math/bits.deBruijn64tab", laid_math_bits_deBruijn64tab), ("internal/strconv.uint64pow10", laid_internal_strconv_uint64pow10), ("unicode/utf8.acceptRanges", laid_unicode_utf8_acceptRanges), ("unicode/utf8.first", laid_unicode_utf8_first)] }
def ViewRawSaid : Prop := viewRawRow.holds Tryd.pinned (OpenSpec.ofChange viewRawSpec)

/-- ITS FALSE NEIGHBOUR: 'it returns false'. Refute it at one input. -/
def viewRawWrong : ChangeSpec := { name := "viewRaw", fn := fun _ => fun
  | [d1, d2] => { results := [.lit (.bool false)], args := [d1, d2] }
  | _ => none }
def ViewRawWrongFalsely : Prop := viewRawRow.holds Tryd.pinned (OpenSpec.ofChange viewRawWrong)

/-- 'widgetrylaw14.ViewBuilds': WHATEVER THE INPUT: true; the input reads as it did. -/
def viewBuildsSpec : ChangeSpec := { name := "viewBuilds", fn := fun _ => fun
  | [d1, d2] => { results := [.lit (.bool true)], args := [d1, d2] }
  | _ => none }
def viewBuildsRow : OpenClaim := { program := "ytcfegecdlbbeaaadoor", sum := "c2e5d6c0c54e332749bb9e9e4b0585c9cc95b4eb17a8e3fcefae619ce1d4099c", func := "widgetry/widgetrylaw14.ViewBuilds", spec := "viewBuilds", unfollowed := true, recurses := true, named := ["unicode/utf8.first", "unicode/utf8.acceptRanges", "internal/strconv.uint64pow10", "math/bits.deBruijn32tab", "math/bits.deBruijn64tab"], apart := false, laid := [("math/bits.deBruijn32tab", laid_math_bits_deBruijn32tab), ("math/bits.deBruijn64tab", laid_math_bits_deBruijn64tab), ("internal/strconv.uint64pow10", laid_internal_strconv_uint64pow10), ("unicode/utf8.acceptRanges", laid_unicode_utf8_acceptRanges), ("unicode/utf8.first", laid_unicode_utf8_first)] }
def ViewBuildsSaid : Prop := viewBuildsRow.holds Tryd.pinned (OpenSpec.ofChange viewBuildsSpec)

/-- ITS FALSE NEIGHBOUR: 'it returns false'. Refute it at one input. -/
def viewBuildsWrong : ChangeSpec := { name := "viewBuilds", fn := fun _ => fun
  | [d1, d2] => { results := [.lit (.bool false)], args := [d1, d2] }
  | _ => none }
def ViewBuildsWrongFalsely : Prop := viewBuildsRow.holds Tryd.pinned (OpenSpec.ofChange viewBuildsWrong)

/-- 'widgetrylaw14.ViewPaths': WHATEVER THE INPUT: true; the input reads as it did. -/
def viewPathsSpec : ChangeSpec := { name := "viewPaths", fn := fun _ => fun
  | [d] => { results := [.lit (.bool true)], args := [d] }
  | _ => none }
def viewPathsRow : OpenClaim := { program := "ytcfegecdlbbeaaadoor", sum := "c2e5d6c0c54e332749bb9e9e4b0585c9cc95b4eb17a8e3fcefae619ce1d4099c", func := "widgetry/widgetrylaw14.ViewPaths", spec := "viewPaths", unfollowed := true, recurses := true, named := ["unicode/utf8.first", "unicode/utf8.acceptRanges", "internal/strconv.uint64pow10", "math/bits.deBruijn32tab", "math/bits.deBruijn64tab"], apart := false, laid := [("math/bits.deBruijn32tab", laid_math_bits_deBruijn32tab), ("math/bits.deBruijn64tab", laid_math_bits_deBruijn64tab), ("internal/strconv.uint64pow10", laid_internal_strconv_uint64pow10), ("unicode/utf8.acceptRanges", laid_unicode_utf8_acceptRanges), ("unicode/utf8.first", laid_unicode_utf8_first)] }
def ViewPathsSaid : Prop := viewPathsRow.holds Tryd.pinned (OpenSpec.ofChange viewPathsSpec)

/-- ITS FALSE NEIGHBOUR: 'it returns false'. Refute it at one input. -/
def viewPathsWrong : ChangeSpec := { name := "viewPaths", fn := fun _ => fun
  | [d] => { results := [.lit (.bool false)], args := [d] }
  | _ => none }
def ViewPathsWrongFalsely : Prop := viewPathsRow.holds Tryd.pinned (OpenSpec.ofChange viewPathsWrong)

/-- 'widgetrylaw14.ViewTrees': WHATEVER THE INPUT: true; the input reads as it did. -/
def viewTreesSpec : ChangeSpec := { name := "viewTrees", fn := fun _ => fun
  | [d1, d2, d3] => { results := [.lit (.bool true)], args := [d1, d2, d3] }
  | _ => none }
def viewTreesRow : OpenClaim := { program := "ytcfegecdlbbeaaadoor", sum := "c2e5d6c0c54e332749bb9e9e4b0585c9cc95b4eb17a8e3fcefae619ce1d4099c", func := "widgetry/widgetrylaw14.ViewTrees", spec := "viewTrees", unfollowed := true, recurses := true, named := ["unicode/utf8.first", "unicode/utf8.acceptRanges", "internal/strconv.uint64pow10", "math/bits.deBruijn32tab", "math/bits.deBruijn64tab"], loops := true, apart := false, laid := [("math/bits.deBruijn32tab", laid_math_bits_deBruijn32tab), ("math/bits.deBruijn64tab", laid_math_bits_deBruijn64tab), ("internal/strconv.uint64pow10", laid_internal_strconv_uint64pow10), ("unicode/utf8.acceptRanges", laid_unicode_utf8_acceptRanges), ("unicode/utf8.first", laid_unicode_utf8_first)] }
def ViewTreesSaid : Prop := viewTreesRow.holds Tryd.pinned (OpenSpec.ofChange viewTreesSpec)

/-- ITS FALSE NEIGHBOUR: 'it returns false'. Refute it at one input. -/
def viewTreesWrong : ChangeSpec := { name := "viewTrees", fn := fun _ => fun
  | [d1, d2, d3] => { results := [.lit (.bool false)], args := [d1, d2, d3] }
  | _ => none }
def ViewTreesWrongFalsely : Prop := viewTreesRow.holds Tryd.pinned (OpenSpec.ofChange viewTreesWrong)

/- THE SECOND FORM. 'bulk': how many values and letters a reading holds, each counted each time it is reached (what is shared counts as often as it is met; a slice's spare places count too). A statement '..UptoSaid' is the law's where the arguments, and the package variables that the reading takes, are together of bulk at most 1048576: NARROWER than '..Said'. Prove '..Said' where nothing that the law and all that it calls make is longer than what came in: it says more and counts as full. Else prove '..UptoSaid'. A law counts once. -/
mutual
def uptoBulk {H : Type} : DataW H → Nat
  | .lit (.string bytes) => bytes.length + 1
  | .lit _ => 1
  | .nil => 1
  | .ptr d => uptoBulk d + 1
  | .slice elems spare => uptoBulkAll elems + uptoBulkAll spare + 1
  | .agg parts => uptoBulkAll parts + 1
  | .iface _ d => uptoBulk d + 1
  | .map entries => uptoBulkEntries entries + 1
  | .held _ => 1
def uptoBulkAll {H : Type} : List (DataW H) → Nat
  | [] => 0
  | d :: r => uptoBulk d + uptoBulkAll r
def uptoBulkEntries {H : Type} : List (Lit × DataW H) → Nat
  | [] => 0
  | x :: r => uptoBulkEntry x + uptoBulkEntries r
def uptoBulkEntry {H : Type} : Lit × DataW H → Nat
  | (.string bytes, d) => bytes.length + uptoBulk d + 1
  | (_, d) => uptoBulk d + 1
 end
def uptoSmall : (H : Type) → List (DataW H) → Bool := fun _ ds => decide (uptoBulkAll ds ≤ 1048576)
def OpenSpec.upto (s : _root_.Go.ChangeSpec) : _root_.Go.OpenSpec := { _root_.Go.OpenSpec.ofChange s with cond := some uptoSmall }

/-- 'widgetrylaw14.ViewKeys', WHERE WHAT IT READS IS OF BULK AT MOST 1048576: true; the input reads as it did. -/
def viewKeysUptoRow : OpenClaim := { program := "ytcfegecdlbbeaaadoor", sum := "c2e5d6c0c54e332749bb9e9e4b0585c9cc95b4eb17a8e3fcefae619ce1d4099c", func := "widgetry/widgetrylaw14.ViewKeys", spec := "viewKeys", unfollowed := true, recurses := true, named := ["unicode/utf8.first", "unicode/utf8.acceptRanges", "internal/strconv.uint64pow10", "math/bits.deBruijn32tab", "math/bits.deBruijn64tab"], apart := false, laid := [("math/bits.deBruijn32tab", laid_math_bits_deBruijn32tab), ("math/bits.deBruijn64tab", laid_math_bits_deBruijn64tab), ("internal/strconv.uint64pow10", laid_internal_strconv_uint64pow10), ("unicode/utf8.acceptRanges", laid_unicode_utf8_acceptRanges), ("unicode/utf8.first", laid_unicode_utf8_first)], narrowed := true }
def ViewKeysUptoSaid : Prop := viewKeysUptoRow.holds Tryd.pinned (OpenSpec.upto viewKeysSpec)

/-- 'widgetrylaw14.ViewSpoilt', WHERE WHAT IT READS IS OF BULK AT MOST 1048576: true; the input reads as it did. -/
def viewSpoiltUptoRow : OpenClaim := { program := "ytcfegecdlbbeaaadoor", sum := "c2e5d6c0c54e332749bb9e9e4b0585c9cc95b4eb17a8e3fcefae619ce1d4099c", func := "widgetry/widgetrylaw14.ViewSpoilt", spec := "viewSpoilt", unfollowed := true, recurses := true, named := ["unicode/utf8.first", "unicode/utf8.acceptRanges", "internal/strconv.uint64pow10", "math/bits.deBruijn32tab", "math/bits.deBruijn64tab"], apart := false, laid := [("math/bits.deBruijn32tab", laid_math_bits_deBruijn32tab), ("math/bits.deBruijn64tab", laid_math_bits_deBruijn64tab), ("internal/strconv.uint64pow10", laid_internal_strconv_uint64pow10), ("unicode/utf8.acceptRanges", laid_unicode_utf8_acceptRanges), ("unicode/utf8.first", laid_unicode_utf8_first)], narrowed := true }
def ViewSpoiltUptoSaid : Prop := viewSpoiltUptoRow.holds Tryd.pinned (OpenSpec.upto viewSpoiltSpec)

/-- 'widgetrylaw14.ViewNames', WHERE WHAT IT READS IS OF BULK AT MOST 1048576: true; the input reads as it did. -/
def viewNamesUptoRow : OpenClaim := { program := "ytcfegecdlbbeaaadoor", sum := "c2e5d6c0c54e332749bb9e9e4b0585c9cc95b4eb17a8e3fcefae619ce1d4099c", func := "widgetry/widgetrylaw14.ViewNames", spec := "viewNames", unfollowed := true, recurses := true, named := ["unicode/utf8.first", "unicode/utf8.acceptRanges", "internal/strconv.uint64pow10", "math/bits.deBruijn32tab", "math/bits.deBruijn64tab"], apart := false, laid := [("math/bits.deBruijn32tab", laid_math_bits_deBruijn32tab), ("math/bits.deBruijn64tab", laid_math_bits_deBruijn64tab), ("internal/strconv.uint64pow10", laid_internal_strconv_uint64pow10), ("unicode/utf8.acceptRanges", laid_unicode_utf8_acceptRanges), ("unicode/utf8.first", laid_unicode_utf8_first)], narrowed := true }
def ViewNamesUptoSaid : Prop := viewNamesUptoRow.holds Tryd.pinned (OpenSpec.upto viewNamesSpec)

/-- 'widgetrylaw14.ViewLimits', WHERE WHAT IT READS IS OF BULK AT MOST 1048576: true; the input reads as it did. -/
def viewLimitsUptoRow : OpenClaim := { program := "ytcfegecdlbbeaaadoor", sum := "c2e5d6c0c54e332749bb9e9e4b0585c9cc95b4eb17a8e3fcefae619ce1d4099c", func := "widgetry/widgetrylaw14.ViewLimits", spec := "viewLimits", unfollowed := true, recurses := true, named := ["unicode/utf8.first", "unicode/utf8.acceptRanges", "internal/strconv.uint64pow10", "math/bits.deBruijn32tab", "math/bits.deBruijn64tab"], apart := false, laid := [("math/bits.deBruijn32tab", laid_math_bits_deBruijn32tab), ("math/bits.deBruijn64tab", laid_math_bits_deBruijn64tab), ("internal/strconv.uint64pow10", laid_internal_strconv_uint64pow10), ("unicode/utf8.acceptRanges", laid_unicode_utf8_acceptRanges), ("unicode/utf8.first", laid_unicode_utf8_first)], narrowed := true }
def ViewLimitsUptoSaid : Prop := viewLimitsUptoRow.holds Tryd.pinned (OpenSpec.upto viewLimitsSpec)

/-- 'widgetrylaw14.ViewAttrs', WHERE WHAT IT READS IS OF BULK AT MOST 1048576: true; the input reads as it did. -/
def viewAttrsUptoRow : OpenClaim := { program := "ytcfegecdlbbeaaadoor", sum := "c2e5d6c0c54e332749bb9e9e4b0585c9cc95b4eb17a8e3fcefae619ce1d4099c", func := "widgetry/widgetrylaw14.ViewAttrs", spec := "viewAttrs", unfollowed := true, recurses := true, named := ["unicode/utf8.first", "unicode/utf8.acceptRanges", "internal/strconv.uint64pow10", "math/bits.deBruijn32tab", "math/bits.deBruijn64tab"], loops := true, apart := false, laid := [("math/bits.deBruijn32tab", laid_math_bits_deBruijn32tab), ("math/bits.deBruijn64tab", laid_math_bits_deBruijn64tab), ("internal/strconv.uint64pow10", laid_internal_strconv_uint64pow10), ("unicode/utf8.acceptRanges", laid_unicode_utf8_acceptRanges), ("unicode/utf8.first", laid_unicode_utf8_first)], narrowed := true }
def ViewAttrsUptoSaid : Prop := viewAttrsUptoRow.holds Tryd.pinned (OpenSpec.upto viewAttrsSpec)

/-- 'widgetrylaw14.ViewRaw', WHERE WHAT IT READS IS OF BULK AT MOST 1048576: true; the input reads as it did. -/
def viewRawUptoRow : OpenClaim := { program := "ytcfegecdlbbeaaadoor", sum := "c2e5d6c0c54e332749bb9e9e4b0585c9cc95b4eb17a8e3fcefae619ce1d4099c", func := "widgetry/widgetrylaw14.ViewRaw", spec := "viewRaw", unfollowed := true, recurses := true, named := ["unicode/utf8.first", "unicode/utf8.acceptRanges", "internal/strconv.uint64pow10", "math/bits.deBruijn32tab", "math/bits.deBruijn64tab"], loops := true, apart := false, laid := [("math/bits.deBruijn32tab", laid_math_bits_deBruijn32tab), ("math/bits.deBruijn64tab", laid_math_bits_deBruijn64tab), ("internal/strconv.uint64pow10", laid_internal_strconv_uint64pow10), ("unicode/utf8.acceptRanges", laid_unicode_utf8_acceptRanges), ("unicode/utf8.first", laid_unicode_utf8_first)], narrowed := true }
def ViewRawUptoSaid : Prop := viewRawUptoRow.holds Tryd.pinned (OpenSpec.upto viewRawSpec)

/-- 'widgetrylaw14.ViewBuilds', WHERE WHAT IT READS IS OF BULK AT MOST 1048576: true; the input reads as it did. -/
def viewBuildsUptoRow : OpenClaim := { program := "ytcfegecdlbbeaaadoor", sum := "c2e5d6c0c54e332749bb9e9e4b0585c9cc95b4eb17a8e3fcefae619ce1d4099c", func := "widgetry/widgetrylaw14.ViewBuilds", spec := "viewBuilds", unfollowed := true, recurses := true, named := ["unicode/utf8.first", "unicode/utf8.acceptRanges", "internal/strconv.uint64pow10", "math/bits.deBruijn32tab", "math/bits.deBruijn64tab"], apart := false, laid := [("math/bits.deBruijn32tab", laid_math_bits_deBruijn32tab), ("math/bits.deBruijn64tab", laid_math_bits_deBruijn64tab), ("internal/strconv.uint64pow10", laid_internal_strconv_uint64pow10), ("unicode/utf8.acceptRanges", laid_unicode_utf8_acceptRanges), ("unicode/utf8.first", laid_unicode_utf8_first)], narrowed := true }
def ViewBuildsUptoSaid : Prop := viewBuildsUptoRow.holds Tryd.pinned (OpenSpec.upto viewBuildsSpec)

/-- 'widgetrylaw14.ViewPaths', WHERE WHAT IT READS IS OF BULK AT MOST 1048576: true; the input reads as it did. -/
def viewPathsUptoRow : OpenClaim := { program := "ytcfegecdlbbeaaadoor", sum := "c2e5d6c0c54e332749bb9e9e4b0585c9cc95b4eb17a8e3fcefae619ce1d4099c", func := "widgetry/widgetrylaw14.ViewPaths", spec := "viewPaths", unfollowed := true, recurses := true, named := ["unicode/utf8.first", "unicode/utf8.acceptRanges", "internal/strconv.uint64pow10", "math/bits.deBruijn32tab", "math/bits.deBruijn64tab"], apart := false, laid := [("math/bits.deBruijn32tab", laid_math_bits_deBruijn32tab), ("math/bits.deBruijn64tab", laid_math_bits_deBruijn64tab), ("internal/strconv.uint64pow10", laid_internal_strconv_uint64pow10), ("unicode/utf8.acceptRanges", laid_unicode_utf8_acceptRanges), ("unicode/utf8.first", laid_unicode_utf8_first)], narrowed := true }
def ViewPathsUptoSaid : Prop := viewPathsUptoRow.holds Tryd.pinned (OpenSpec.upto viewPathsSpec)

/-- 'widgetrylaw14.ViewTrees', WHERE WHAT IT READS IS OF BULK AT MOST 1048576: true; the input reads as it did. -/
def viewTreesUptoRow : OpenClaim := { program := "ytcfegecdlbbeaaadoor", sum := "c2e5d6c0c54e332749bb9e9e4b0585c9cc95b4eb17a8e3fcefae619ce1d4099c", func := "widgetry/widgetrylaw14.ViewTrees", spec := "viewTrees", unfollowed := true, recurses := true, named := ["unicode/utf8.first", "unicode/utf8.acceptRanges", "internal/strconv.uint64pow10", "math/bits.deBruijn32tab", "math/bits.deBruijn64tab"], loops := true, apart := false, laid := [("math/bits.deBruijn32tab", laid_math_bits_deBruijn32tab), ("math/bits.deBruijn64tab", laid_math_bits_deBruijn64tab), ("internal/strconv.uint64pow10", laid_internal_strconv_uint64pow10), ("unicode/utf8.acceptRanges", laid_unicode_utf8_acceptRanges), ("unicode/utf8.first", laid_unicode_utf8_first)], narrowed := true }
def ViewTreesUptoSaid : Prop := viewTreesUptoRow.holds Tryd.pinned (OpenSpec.upto viewTreesSpec)

end Rows
end Go.Proofs.YtcfegecdlbbeaaaDoor

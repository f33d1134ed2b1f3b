/-
  NARROWER THAN 'FOR EVERY INPUT', by the rows' own cells (each row's printed sentence says how): AccessibleScrolls: laid · AccessibleSliders: laid · FocusRaw: loops, laid · NameClean: laid · NameLimits: laid · NameOrder: laid.
  DERIVED. THE GIVEN ROWS OF THIS SEAT. 6 by the template 'for every input the law returns true; each argument reads behind the call as it read before'; 0 by the template 'total and deterministic' (their statements: YtfoigppmcelgfaaGreatDoorTotals.lean).
  GIVEN WITH THE SEED: the statements are not yours to turn. If you find one false, say at which input.
  Laid BY PROGRAM, IN A SANDBOX (cutbox-rows.mjs): the forced cells as the released guide's own fill.sh prints them over the translation feab25160fc4ca06… (all of the seat's roots in one cut). By AI agents, Wed Nov 11 2026. No macro, syntax, notation, axiom, sorry.
-/
import Derived.Test.YtfoigppmcelgfaaGreatDoorChecked
import GoSem.PinnedTables
import GoSem.Claim
import GoSem.ClaimJoined
import GoSem.ClaimMapViews
import Derived.JoinedTies
import Derived.KernelRfl
namespace Go.Proofs.YtfoigppmcelgfaaGreatDoor
/- THE CELL 'sum', in the pinned program and in every row, IS THE sha256 OF THE DUMP (.gsa) THAT YtfoigppmcelgfaaGreatDoorProg.lean LOADS. Nothing in Lean hashes anything: it is a label: what it is worth is what the hold of that sum in a sandbox is worth. -/
noncomputable def Tryz.pinned : Pinned := { name := "ytfoigppmcelgfaagreatdoor", sum := "feab25160fc4ca06736e4d1e9939df0740bcd06479501224efe23f220712d57a", checked := Tryz.checked }
namespace Rows
def none {H : Type} : Left H := { results := [], args := [] }

/- WHAT THE LISTED PACKAGE-LEVEL VARIABLES READ AS WHEN THE CALL BEGINS. Each datum BY PROGRAM (the guide's laid-datum.mjs) off the statement by which the dump's own 'gosem.cut.vars' lays the variable. In a bare row this is a premise. The card (YtfoigppmcelgfaaGreatDoorCards.lean) ties it to the program's text. -/
def laid_unicode_utf8_acceptRanges {H : Type} : DataW H := .agg [.agg [.lit (.int .u8 128), .lit (.int .u8 191)], .agg [.lit (.int .u8 160), .lit (.int .u8 191)], .agg [.lit (.int .u8 128), .lit (.int .u8 159)], .agg [.lit (.int .u8 144), .lit (.int .u8 191)], .agg [.lit (.int .u8 128), .lit (.int .u8 143)], .agg [.lit (.int .u8 0), .lit (.int .u8 0)], .agg [.lit (.int .u8 0), .lit (.int .u8 0)], .agg [.lit (.int .u8 0), .lit (.int .u8 0)], .agg [.lit (.int .u8 0), .lit (.int .u8 0)], .agg [.lit (.int .u8 0), .lit (.int .u8 0)], .agg [.lit (.int .u8 0), .lit (.int .u8 0)], .agg [.lit (.int .u8 0), .lit (.int .u8 0)], .agg [.lit (.int .u8 0), .lit (.int .u8 0)], .agg [.lit (.int .u8 0), .lit (.int .u8 0)], .agg [.lit (.int .u8 0), .lit (.int .u8 0)], .agg [.lit (.int .u8 0), .lit (.int .u8 0)]]
def laid_widgetry_style_properties {H : Type} : DataW H := .agg [.agg [.lit (.bool true), .lit (.int .i64 0), .lit (.int .i64 16777215), .lit (.int .i64 0)], .agg [.lit (.bool false), .lit (.int .i64 (-1)), .lit (.int .i64 16777215), .lit (.int .i64 (-1))], .agg [.lit (.bool true), .lit (.int .i64 1), .lit (.int .i64 1000), .lit (.int .i64 16)], .agg [.lit (.bool true), .lit (.int .i64 0), .lit (.int .i64 7), .lit (.int .i64 0)], .agg [.lit (.bool true), .lit (.int .i64 0), .lit (.int .i64 1), .lit (.int .i64 0)], .agg [.lit (.bool false), .lit (.int .i64 0), .lit (.int .i64 4), .lit (.int .i64 1)], .agg [.lit (.bool false), .lit (.int .i64 0), .lit (.int .i64 4), .lit (.int .i64 3)], .agg [.lit (.bool false), .lit (.int .i64 0), .lit (.int .i64 3), .lit (.int .i64 0)], .agg [.lit (.bool true), .lit (.int .i64 0), .lit (.int .i64 2), .lit (.int .i64 0)], .agg [.lit (.bool false), .lit (.int .i64 0), .lit (.int .i64 1048576), .lit (.int .i64 0)], .agg [.lit (.bool false), .lit (.int .i64 0), .lit (.int .i64 1000), .lit (.int .i64 0)], .agg [.lit (.bool false), .lit (.int .i64 0), .lit (.int .i64 1000), .lit (.int .i64 1)], .agg [.lit (.bool false), .lit (.int .i64 (-1)), .lit (.int .i64 1048576), .lit (.int .i64 (-1))], .agg [.lit (.bool false), .lit (.int .i64 0), .lit (.int .i64 1048576), .lit (.int .i64 0)], .agg [.lit (.bool false), .lit (.int .i64 0), .lit (.int .i64 1048576), .lit (.int .i64 1048576)], .agg [.lit (.bool false), .lit (.int .i64 0), .lit (.int .i64 1048576), .lit (.int .i64 0)], .agg [.lit (.bool false), .lit (.int .i64 0), .lit (.int .i64 1048576), .lit (.int .i64 1048576)], .agg [.lit (.bool false), .lit (.int .i64 0), .lit (.int .i64 1048576), .lit (.int .i64 0)], .agg [.lit (.bool false), .lit (.int .i64 0), .lit (.int .i64 1048576), .lit (.int .i64 0)], .agg [.lit (.bool false), .lit (.int .i64 0), .lit (.int .i64 1048576), .lit (.int .i64 0)], .agg [.lit (.bool false), .lit (.int .i64 0), .lit (.int .i64 1048576), .lit (.int .i64 0)], .agg [.lit (.bool true), .lit (.int .i64 0), .lit (.int .i64 1), .lit (.int .i64 0)]]
/-- One of Go's own tables, pinned by name: the form's constant. -/
def laid_unicode_utf8_first : DataW Unit := Go.Pinned.utf8First
def laid_math_bits_deBruijn32tab {H : Type} : DataW H := .agg [.lit (.int .u8 0), .lit (.int .u8 1), .lit (.int .u8 28), .lit (.int .u8 2), .lit (.int .u8 29), .lit (.int .u8 14), .lit (.int .u8 24), .lit (.int .u8 3), .lit (.int .u8 30), .lit (.int .u8 22), .lit (.int .u8 20), .lit (.int .u8 15), .lit (.int .u8 25), .lit (.int .u8 17), .lit (.int .u8 4), .lit (.int .u8 8), .lit (.int .u8 31), .lit (.int .u8 27), .lit (.int .u8 13), .lit (.int .u8 23), .lit (.int .u8 21), .lit (.int .u8 19), .lit (.int .u8 16), .lit (.int .u8 7), .lit (.int .u8 26), .lit (.int .u8 12), .lit (.int .u8 18), .lit (.int .u8 6), .lit (.int .u8 11), .lit (.int .u8 5), .lit (.int .u8 10), .lit (.int .u8 9)]
def laid_math_bits_deBruijn64tab {H : Type} : DataW H := .agg [.lit (.int .u8 0), .lit (.int .u8 1), .lit (.int .u8 56), .lit (.int .u8 2), .lit (.int .u8 57), .lit (.int .u8 49), .lit (.int .u8 28), .lit (.int .u8 3), .lit (.int .u8 61), .lit (.int .u8 58), .lit (.int .u8 42), .lit (.int .u8 50), .lit (.int .u8 38), .lit (.int .u8 29), .lit (.int .u8 17), .lit (.int .u8 4), .lit (.int .u8 62), .lit (.int .u8 47), .lit (.int .u8 59), .lit (.int .u8 36), .lit (.int .u8 45), .lit (.int .u8 43), .lit (.int .u8 51), .lit (.int .u8 22), .lit (.int .u8 53), .lit (.int .u8 39), .lit (.int .u8 33), .lit (.int .u8 30), .lit (.int .u8 24), .lit (.int .u8 18), .lit (.int .u8 12), .lit (.int .u8 5), .lit (.int .u8 63), .lit (.int .u8 55), .lit (.int .u8 48), .lit (.int .u8 27), .lit (.int .u8 60), .lit (.int .u8 41), .lit (.int .u8 37), .lit (.int .u8 16), .lit (.int .u8 46), .lit (.int .u8 35), .lit (.int .u8 44), .lit (.int .u8 21), .lit (.int .u8 52), .lit (.int .u8 32), .lit (.int .u8 23), .lit (.int .u8 11), .lit (.int .u8 54), .lit (.int .u8 26), .lit (.int .u8 40), .lit (.int .u8 15), .lit (.int .u8 34), .lit (.int .u8 20), .lit (.int .u8 31), .lit (.int .u8 10), .lit (.int .u8 25), .lit (.int .u8 14), .lit (.int .u8 19), .lit (.int .u8 9), .lit (.int .u8 13), .lit (.int .u8 8), .lit (.int .u8 7), .lit (.int .u8 6)]
def laid_internal_strconv_uint64pow10 {H : Type} : DataW H := .agg [.lit (.int .u64 1), .lit (.int .u64 10), .lit (.int .u64 100), .lit (.int .u64 1000), .lit (.int .u64 10000), .lit (.int .u64 100000), .lit (.int .u64 1000000), .lit (.int .u64 10000000), .lit (.int .u64 100000000), .lit (.int .u64 1000000000), .lit (.int .u64 10000000000), .lit (.int .u64 100000000000), .lit (.int .u64 1000000000000), .lit (.int .u64 10000000000000), .lit (.int .u64 100000000000000), .lit (.int .u64 1000000000000000), .lit (.int .u64 10000000000000000), .lit (.int .u64 100000000000000000), .lit (.int .u64 1000000000000000000), .lit (.int .u64 10000000000000000000)]

/-- 'widgetrylaw37.AccessibleScrolls': WHATEVER THE INPUT: true; the input reads as it did. -/
def accessibleScrollsSpec : ChangeSpec := { name := "accessibleScrolls", fn := fun _ => fun
  | [d1, d2, d3] => { results := [.lit (.bool true)], args := [d1, d2, d3] }
  | _ => none }
def accessibleScrollsRow : OpenClaim := { program := "ytfoigppmcelgfaagreatdoor", sum := "feab25160fc4ca06736e4d1e9939df0740bcd06479501224efe23f220712d57a", func := "widgetry/widgetrylaw37.AccessibleScrolls", spec := "accessibleScrolls", unfollowed := true, recurses := true, named := ["unicode/utf8.first", "unicode/utf8.acceptRanges", "widgetry/style.properties"], plainKeys := false, apart := false, laid := [("unicode/utf8.acceptRanges", laid_unicode_utf8_acceptRanges), ("widgetry/style.properties", laid_widgetry_style_properties), ("unicode/utf8.first", laid_unicode_utf8_first)] }
def AccessibleScrollsSaid : Prop := accessibleScrollsRow.holds Tryz.pinned (OpenSpec.ofChange accessibleScrollsSpec)

/-- ITS FALSE NEIGHBOUR: 'it returns false'. Refute it at one input. -/
def accessibleScrollsWrong : ChangeSpec := { name := "accessibleScrolls", fn := fun _ => fun
  | [d1, d2, d3] => { results := [.lit (.bool false)], args := [d1, d2, d3] }
  | _ => none }
def AccessibleScrollsWrongFalsely : Prop := accessibleScrollsRow.holds Tryz.pinned (OpenSpec.ofChange accessibleScrollsWrong)

/-- 'widgetrylaw37.AccessibleSliders': WHATEVER THE INPUT: true; the input reads as it did. -/
def accessibleSlidersSpec : ChangeSpec := { name := "accessibleSliders", fn := fun _ => fun
  | [d1, d2, d3, d4] => { results := [.lit (.bool true)], args := [d1, d2, d3, d4] }
  | _ => none }
def accessibleSlidersRow : OpenClaim := { program := "ytfoigppmcelgfaagreatdoor", sum := "feab25160fc4ca06736e4d1e9939df0740bcd06479501224efe23f220712d57a", func := "widgetry/widgetrylaw37.AccessibleSliders", spec := "accessibleSliders", unfollowed := true, recurses := true, named := ["unicode/utf8.first", "unicode/utf8.acceptRanges", "widgetry/style.properties"], plainKeys := false, apart := false, laid := [("unicode/utf8.acceptRanges", laid_unicode_utf8_acceptRanges), ("widgetry/style.properties", laid_widgetry_style_properties), ("unicode/utf8.first", laid_unicode_utf8_first)] }
def AccessibleSlidersSaid : Prop := accessibleSlidersRow.holds Tryz.pinned (OpenSpec.ofChange accessibleSlidersSpec)

/-- ITS FALSE NEIGHBOUR: 'it returns false'. Refute it at one input. -/
def accessibleSlidersWrong : ChangeSpec := { name := "accessibleSliders", fn := fun _ => fun
  | [d1, d2, d3, d4] => { results := [.lit (.bool false)], args := [d1, d2, d3, d4] }
  | _ => none }
def AccessibleSlidersWrongFalsely : Prop := accessibleSlidersRow.holds Tryz.pinned (OpenSpec.ofChange accessibleSlidersWrong)

/-- 'widgetrylaw31.FocusRaw': WHATEVER THE INPUT: true; the input reads as it did. -/
def focusRawSpec : ChangeSpec := { name := "focusRaw", fn := fun _ => fun
  | [d1, d2, d3, d4, d5] => { results := [.lit (.bool true)], args := [d1, d2, d3, d4, d5] }
  | _ => none }
def focusRawRow : OpenClaim := { program := "ytfoigppmcelgfaagreatdoor", sum := "feab25160fc4ca06736e4d1e9939df0740bcd06479501224efe23f220712d57a", func := "widgetry/widgetrylaw31.FocusRaw", spec := "focusRaw", unfollowed := true, recurses := true, named := ["unicode/utf8.first", "unicode/utf8.acceptRanges", "widgetry/style.properties"], loops := true, plainKeys := false, apart := false, laid := [("unicode/utf8.acceptRanges", laid_unicode_utf8_acceptRanges), ("widgetry/style.properties", laid_widgetry_style_properties), ("unicode/utf8.first", laid_unicode_utf8_first)] }
def FocusRawSaid : Prop := focusRawRow.holds Tryz.pinned (OpenSpec.ofChange focusRawSpec)

/-- ITS FALSE NEIGHBOUR: 'it returns false'. Refute it at one input. -/
def focusRawWrong : ChangeSpec := { name := "focusRaw", fn := fun _ => fun
  | [d1, d2, d3, d4, d5] => { results := [.lit (.bool false)], args := [d1, d2, d3, d4, d5] }
  | _ => none }
def FocusRawWrongFalsely : Prop := focusRawRow.holds Tryz.pinned (OpenSpec.ofChange focusRawWrong)

/-- 'widgetrylaw38.NameClean': WHATEVER THE INPUT: true; the input reads as it did. -/
def nameCleanSpec : ChangeSpec := { name := "nameClean", fn := fun _ => fun
  | [d] => { results := [.lit (.bool true)], args := [d] }
  | _ => none }
def nameCleanRow : OpenClaim := { program := "ytfoigppmcelgfaagreatdoor", sum := "feab25160fc4ca06736e4d1e9939df0740bcd06479501224efe23f220712d57a", func := "widgetry/widgetrylaw38.NameClean", spec := "nameClean", inPlace := ["internal/abi.NoEscape", "internal/bytealg.MakeNoZero"], unfollowed := true, recurses := true, named := ["unicode/utf8.first", "unicode/utf8.acceptRanges", "widgetry/style.properties", "internal/strconv.uint64pow10", "math/bits.deBruijn32tab", "math/bits.deBruijn64tab"], plainKeys := false, apart := false, laid := [("math/bits.deBruijn32tab", laid_math_bits_deBruijn32tab), ("math/bits.deBruijn64tab", laid_math_bits_deBruijn64tab), ("internal/strconv.uint64pow10", laid_internal_strconv_uint64pow10), ("unicode/utf8.acceptRanges", laid_unicode_utf8_acceptRanges), ("widgetry/style.properties", laid_widgetry_style_properties), ("unicode/utf8.first", laid_unicode_utf8_first)] }
def NameCleanSaid : Prop := nameCleanRow.holds Tryz.pinned (OpenSpec.ofChange nameCleanSpec)

/-- ITS FALSE NEIGHBOUR: 'it returns false'. Refute it at one input. -/
def nameCleanWrong : ChangeSpec := { name := "nameClean", fn := fun _ => fun
  | [d] => { results := [.lit (.bool false)], args := [d] }
  | _ => none }
def NameCleanWrongFalsely : Prop := nameCleanRow.holds Tryz.pinned (OpenSpec.ofChange nameCleanWrong)

/-- 'widgetrylaw38.NameLimits': WHATEVER THE INPUT: true; the input reads as it did. -/
def nameLimitsSpec : ChangeSpec := { name := "nameLimits", fn := fun _ => fun
  | [d1, d2] => { results := [.lit (.bool true)], args := [d1, d2] }
  | _ => none }
def nameLimitsRow : OpenClaim := { program := "ytfoigppmcelgfaagreatdoor", sum := "feab25160fc4ca06736e4d1e9939df0740bcd06479501224efe23f220712d57a", func := "widgetry/widgetrylaw38.NameLimits", spec := "nameLimits", inPlace := ["internal/abi.NoEscape", "internal/bytealg.MakeNoZero"], unfollowed := true, recurses := true, named := ["unicode/utf8.first", "unicode/utf8.acceptRanges", "widgetry/style.properties", "internal/strconv.uint64pow10", "math/bits.deBruijn32tab", "math/bits.deBruijn64tab"], plainKeys := false, apart := false, laid := [("math/bits.deBruijn32tab", laid_math_bits_deBruijn32tab), ("math/bits.deBruijn64tab", laid_math_bits_deBruijn64tab), ("internal/strconv.uint64pow10", laid_internal_strconv_uint64pow10), ("unicode/utf8.acceptRanges", laid_unicode_utf8_acceptRanges), ("widgetry/style.properties", laid_widgetry_style_properties), ("unicode/utf8.first", laid_unicode_utf8_first)] }
def NameLimitsSaid : Prop := nameLimitsRow.holds Tryz.pinned (OpenSpec.ofChange nameLimitsSpec)

/-- ITS FALSE NEIGHBOUR: 'it returns false'. Refute it at one input. -/
def nameLimitsWrong : ChangeSpec := { name := "nameLimits", fn := fun _ => fun
  | [d1, d2] => { results := [.lit (.bool false)], args := [d1, d2] }
  | _ => none }
def NameLimitsWrongFalsely : Prop := nameLimitsRow.holds Tryz.pinned (OpenSpec.ofChange nameLimitsWrong)

/-- 'widgetrylaw38.NameOrder': WHATEVER THE INPUT: true; the input reads as it did. -/
def nameOrderSpec : ChangeSpec := { name := "nameOrder", fn := fun _ => fun
  | [d] => { results := [.lit (.bool true)], args := [d] }
  | _ => none }
def nameOrderRow : OpenClaim := { program := "ytfoigppmcelgfaagreatdoor", sum := "feab25160fc4ca06736e4d1e9939df0740bcd06479501224efe23f220712d57a", func := "widgetry/widgetrylaw38.NameOrder", spec := "nameOrder", inPlace := ["internal/abi.NoEscape", "internal/bytealg.MakeNoZero"], unfollowed := true, recurses := true, named := ["unicode/utf8.first", "unicode/utf8.acceptRanges", "widgetry/style.properties", "internal/strconv.uint64pow10", "math/bits.deBruijn32tab", "math/bits.deBruijn64tab"], plainKeys := false, apart := false, laid := [("math/bits.deBruijn32tab", laid_math_bits_deBruijn32tab), ("math/bits.deBruijn64tab", laid_math_bits_deBruijn64tab), ("internal/strconv.uint64pow10", laid_internal_strconv_uint64pow10), ("unicode/utf8.acceptRanges", laid_unicode_utf8_acceptRanges), ("widgetry/style.properties", laid_widgetry_style_properties), ("unicode/utf8.first", laid_unicode_utf8_first)] }
def NameOrderSaid : Prop := nameOrderRow.holds Tryz.pinned (OpenSpec.ofChange nameOrderSpec)

/-- ITS FALSE NEIGHBOUR: 'it returns false'. Refute it at one input. -/
def nameOrderWrong : ChangeSpec := { name := "nameOrder", fn := fun _ => fun
  | [d] => { results := [.lit (.bool false)], args := [d] }
  | _ => none }
def NameOrderWrongFalsely : Prop := nameOrderRow.holds Tryz.pinned (OpenSpec.ofChange nameOrderWrong)

/- THE SECOND FORM. 'bulk': how many values and letters a reading holds, each counted each time it is reached (what is shared counts as often as it is met; a slice's spare places count too). A statement '..UptoSaid' is the law's where the arguments, and the package variables that the reading takes, are together of bulk at most 1048576: NARROWER than '..Said'. Prove '..Said' where nothing that the law and all that it calls make is longer than what came in: it says more and counts as full. Else prove '..UptoSaid'. A law counts once. -/
mutual
def uptoBulk {H : Type} : DataW H → Nat
  | .lit (.string bytes) => bytes.length + 1
  | .lit _ => 1
  | .nil => 1
  | .ptr d => uptoBulk d + 1
  | .slice elems spare => uptoBulkAll elems + uptoBulkAll spare + 1
  | .agg parts => uptoBulkAll parts + 1
  | .iface _ d => uptoBulk d + 1
  | .map entries => uptoBulkEntries entries + 1
  | .held _ => 1
def uptoBulkAll {H : Type} : List (DataW H) → Nat
  | [] => 0
  | d :: r => uptoBulk d + uptoBulkAll r
def uptoBulkEntries {H : Type} : List (Lit × DataW H) → Nat
  | [] => 0
  | x :: r => uptoBulkEntry x + uptoBulkEntries r
def uptoBulkEntry {H : Type} : Lit × DataW H → Nat
  | (.string bytes, d) => bytes.length + uptoBulk d + 1
  | (_, d) => uptoBulk d + 1
 end
def uptoSmall : (H : Type) → List (DataW H) → Bool := fun _ ds => decide (uptoBulkAll ds ≤ 1048576)
def OpenSpec.upto (s : _root_.Go.ChangeSpec) : _root_.Go.OpenSpec := { _root_.Go.OpenSpec.ofChange s with cond := some uptoSmall }

/-- 'widgetrylaw37.AccessibleScrolls', WHERE WHAT IT READS IS OF BULK AT MOST 1048576: true; the input reads as it did. -/
def accessibleScrollsUptoRow : OpenClaim := { program := "ytfoigppmcelgfaagreatdoor", sum := "feab25160fc4ca06736e4d1e9939df0740bcd06479501224efe23f220712d57a", func := "widgetry/widgetrylaw37.AccessibleScrolls", spec := "accessibleScrolls", unfollowed := true, recurses := true, named := ["unicode/utf8.first", "unicode/utf8.acceptRanges", "widgetry/style.properties"], plainKeys := false, apart := false, laid := [("unicode/utf8.acceptRanges", laid_unicode_utf8_acceptRanges), ("widgetry/style.properties", laid_widgetry_style_properties), ("unicode/utf8.first", laid_unicode_utf8_first)], narrowed := true }
def AccessibleScrollsUptoSaid : Prop := accessibleScrollsUptoRow.holds Tryz.pinned (OpenSpec.upto accessibleScrollsSpec)

/-- 'widgetrylaw37.AccessibleSliders', WHERE WHAT IT READS IS OF BULK AT MOST 1048576: true; the input reads as it did. -/
def accessibleSlidersUptoRow : OpenClaim := { program := "ytfoigppmcelgfaagreatdoor", sum := "feab25160fc4ca06736e4d1e9939df0740bcd06479501224efe23f220712d57a", func := "widgetry/widgetrylaw37.AccessibleSliders", spec := "accessibleSliders", unfollowed := true, recurses := true, named := ["unicode/utf8.first", "unicode/utf8.acceptRanges", "widgetry/style.properties"], plainKeys := false, apart := false, laid := [("unicode/utf8.acceptRanges", laid_unicode_utf8_acceptRanges), ("widgetry/style.properties", laid_widgetry_style_properties), ("unicode/utf8.first", laid_unicode_utf8_first)], narrowed := true }
def AccessibleSlidersUptoSaid : Prop := accessibleSlidersUptoRow.holds Tryz.pinned (OpenSpec.upto accessibleSlidersSpec)

/-- 'widgetrylaw31.FocusRaw', WHERE WHAT IT READS IS OF BULK AT MOST 1048576: true; the input reads as it did. -/
def focusRawUptoRow : OpenClaim := { program := "ytfoigppmcelgfaagreatdoor", sum := "feab25160fc4ca06736e4d1e9939df0740bcd06479501224efe23f220712d57a", func := "widgetry/widgetrylaw31.FocusRaw", spec := "focusRaw", unfollowed := true, recurses := true, named := ["unicode/utf8.first", "unicode/utf8.acceptRanges", "widgetry/style.properties"], loops := true, plainKeys := false, apart := false, laid := [("unicode/utf8.acceptRanges", laid_unicode_utf8_acceptRanges), ("widgetry/style.properties", laid_widgetry_style_properties), ("unicode/utf8.first", laid_unicode_utf8_first)], narrowed := true }
def FocusRawUptoSaid : Prop := focusRawUptoRow.holds Tryz.pinned (OpenSpec.upto focusRawSpec)

/-- 'widgetrylaw38.NameClean', WHERE WHAT IT READS IS OF BULK AT MOST 1048576: true; the input reads as it did. -/
def nameCleanUptoRow : OpenClaim := { program := "ytfoigppmcelgfaagreatdoor", sum := "feab25160fc4ca06736e4d1e9939df0740bcd06479501224efe23f220712d57a", func := "widgetry/widgetrylaw38.NameClean", spec := "nameClean", inPlace := ["internal/abi.NoEscape", "internal/bytealg.MakeNoZero"], unfollowed := true, recurses := true, named := ["unicode/utf8.first", "unicode/utf8.acceptRanges", "widgetry/style.properties", "internal/strconv.uint64pow10", "math/bits.deBruijn32tab", "math/bits.deBruijn64tab"], plainKeys := false, apart := false, laid := [("math/bits.deBruijn32tab", laid_math_bits_deBruijn32tab), ("math/bits.deBruijn64tab", laid_math_bits_deBruijn64tab), ("internal/strconv.uint64pow10", laid_internal_strconv_uint64pow10), ("unicode/utf8.acceptRanges", laid_unicode_utf8_acceptRanges), ("widgetry/style.properties", laid_widgetry_style_properties), ("unicode/utf8.first", laid_unicode_utf8_first)], narrowed := true }
def NameCleanUptoSaid : Prop := nameCleanUptoRow.holds Tryz.pinned (OpenSpec.upto nameCleanSpec)

/-- 'widgetrylaw38.NameLimits', WHERE WHAT IT READS IS OF BULK AT MOST 1048576: true; the input reads as it did. -/
def nameLimitsUptoRow : OpenClaim := { program := "ytfoigppmcelgfaagreatdoor", sum := "feab25160fc4ca06736e4d1e9939df0740bcd06479501224efe23f220712d57a", func := "widgetry/widgetrylaw38.NameLimits", spec := "nameLimits", inPlace := ["internal/abi.NoEscape", "internal/bytealg.MakeNoZero"], unfollowed := true, recurses := true, named := ["unicode/utf8.first", "unicode/utf8.acceptRanges", "widgetry/style.properties", "internal/strconv.uint64pow10", "math/bits.deBruijn32tab", "math/bits.deBruijn64tab"], plainKeys := false, apart := false, laid := [("math/bits.deBruijn32tab", laid_math_bits_deBruijn32tab), ("math/bits.deBruijn64tab", laid_math_bits_deBruijn64tab), ("internal/strconv.uint64pow10", laid_internal_strconv_uint64pow10), ("unicode/utf8.acceptRanges", laid_unicode_utf8_acceptRanges), ("widgetry/style.properties", laid_widgetry_style_properties), ("unicode/utf8.first", laid_unicode_utf8_first)], narrowed := true }
def NameLimitsUptoSaid : Prop := nameLimitsUptoRow.holds Tryz.pinned (OpenSpec.upto nameLimitsSpec)

/-- 'widgetrylaw38.NameOrder', WHERE WHAT IT READS IS OF BULK AT MOST 1048576: true; the input reads as it did. -/
def nameOrderUptoRow : OpenClaim := { program := "ytfoigppmcelgfaagreatdoor", sum := "feab25160fc4ca06736e4d1e9939df0740bcd06479501224efe23f220712d57a", func := "widgetry/widgetrylaw38.NameOrder", spec := "nameOrder", inPlace := ["internal/abi.NoEscape", "internal/bytealg.MakeNoZero"], unfollowed := true, recurses := true, named := ["unicode/utf8.first", "unicode/utf8.acceptRanges", "widgetry/style.properties", "internal/strconv.uint64pow10", "math/bits.deBruijn32tab", "math/bits.deBruijn64tab"], plainKeys := false, apart := false, laid := [("math/bits.deBruijn32tab", laid_math_bits_deBruijn32tab), ("math/bits.deBruijn64tab", laid_math_bits_deBruijn64tab), ("internal/strconv.uint64pow10", laid_internal_strconv_uint64pow10), ("unicode/utf8.acceptRanges", laid_unicode_utf8_acceptRanges), ("widgetry/style.properties", laid_widgetry_style_properties), ("unicode/utf8.first", laid_unicode_utf8_first)], narrowed := true }
def NameOrderUptoSaid : Prop := nameOrderUptoRow.holds Tryz.pinned (OpenSpec.upto nameOrderSpec)

end Rows
end Go.Proofs.YtfoigppmcelgfaaGreatDoor

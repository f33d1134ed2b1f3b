/-
  NARROWER THAN 'FOR EVERY INPUT', by the rows' own cells (each row's printed sentence says how): HitOrder: laid · FocusTabs: laid · FocusPast: laid · FocusDialog: laid.
  DERIVED. THE GIVEN ROWS OF THIS SEAT. 4 by the template 'for every input the law returns true; each argument reads behind the call as it read before'; 0 by the template 'total and deterministic' (their statements: YtfoigppmcelgfaaDoorTotals.lean).
  GIVEN WITH THE SEED: the statements are not yours to turn. If you find one false, say at which input.
  Laid BY PROGRAM, IN A SANDBOX (cutbox-rows.mjs): the forced cells as the released guide's own fill.sh prints them over the translation 6ef73dbd370556d4… (all of the seat's roots in one cut). By AI agents, Wed Nov 11 2026. No macro, syntax, notation, axiom, sorry.
-/
import Derived.Test.YtfoigppmcelgfaaDoorChecked
import GoSem.PinnedTables
import GoSem.Claim
import GoSem.ClaimJoined
import GoSem.ClaimMapViews
import Derived.JoinedTies
import Derived.KernelRfl
namespace Go.Proofs.YtfoigppmcelgfaaDoor
/- THE CELL 'sum', in the pinned program and in every row, IS THE sha256 OF THE DUMP (.gsa) THAT YtfoigppmcelgfaaDoorProg.lean LOADS. Nothing in Lean hashes anything: it is a label: what it is worth is what the hold of that sum in a sandbox is worth. -/
noncomputable def Tryd.pinned : Pinned := { name := "ytfoigppmcelgfaadoor", sum := "6ef73dbd370556d4094d0c2b6ec4c1a680acdd74328848c6e10e591ea8d17a04", checked := Tryd.checked }
namespace Rows
def none {H : Type} : Left H := { results := [], args := [] }

/- WHAT THE LISTED PACKAGE-LEVEL VARIABLES READ AS WHEN THE CALL BEGINS. Each datum BY PROGRAM (the guide's laid-datum.mjs) off the statement by which the dump's own 'gosem.cut.vars' lays the variable. In a bare row this is a premise. The card (YtfoigppmcelgfaaDoorCards.lean) ties it to the program's text. -/
def laid_unicode_utf8_acceptRanges {H : Type} : DataW H := .agg [.agg [.lit (.int .u8 128), .lit (.int .u8 191)], .agg [.lit (.int .u8 160), .lit (.int .u8 191)], .agg [.lit (.int .u8 128), .lit (.int .u8 159)], .agg [.lit (.int .u8 144), .lit (.int .u8 191)], .agg [.lit (.int .u8 128), .lit (.int .u8 143)], .agg [.lit (.int .u8 0), .lit (.int .u8 0)], .agg [.lit (.int .u8 0), .lit (.int .u8 0)], .agg [.lit (.int .u8 0), .lit (.int .u8 0)], .agg [.lit (.int .u8 0), .lit (.int .u8 0)], .agg [.lit (.int .u8 0), .lit (.int .u8 0)], .agg [.lit (.int .u8 0), .lit (.int .u8 0)], .agg [.lit (.int .u8 0), .lit (.int .u8 0)], .agg [.lit (.int .u8 0), .lit (.int .u8 0)], .agg [.lit (.int .u8 0), .lit (.int .u8 0)], .agg [.lit (.int .u8 0), .lit (.int .u8 0)], .agg [.lit (.int .u8 0), .lit (.int .u8 0)]]
def laid_widgetry_style_properties {H : Type} : DataW H := .agg [.agg [.lit (.bool true), .lit (.int .i64 0), .lit (.int .i64 16777215), .lit (.int .i64 0)], .agg [.lit (.bool false), .lit (.int .i64 (-1)), .lit (.int .i64 16777215), .lit (.int .i64 (-1))], .agg [.lit (.bool true), .lit (.int .i64 1), .lit (.int .i64 1000), .lit (.int .i64 16)], .agg [.lit (.bool true), .lit (.int .i64 0), .lit (.int .i64 7), .lit (.int .i64 0)], .agg [.lit (.bool true), .lit (.int .i64 0), .lit (.int .i64 1), .lit (.int .i64 0)], .agg [.lit (.bool false), .lit (.int .i64 0), .lit (.int .i64 4), .lit (.int .i64 1)], .agg [.lit (.bool false), .lit (.int .i64 0), .lit (.int .i64 4), .lit (.int .i64 3)], .agg [.lit (.bool false), .lit (.int .i64 0), .lit (.int .i64 3), .lit (.int .i64 0)], .agg [.lit (.bool true), .lit (.int .i64 0), .lit (.int .i64 2), .lit (.int .i64 0)], .agg [.lit (.bool false), .lit (.int .i64 0), .lit (.int .i64 1048576), .lit (.int .i64 0)], .agg [.lit (.bool false), .lit (.int .i64 0), .lit (.int .i64 1000), .lit (.int .i64 0)], .agg [.lit (.bool false), .lit (.int .i64 0), .lit (.int .i64 1000), .lit (.int .i64 1)], .agg [.lit (.bool false), .lit (.int .i64 (-1)), .lit (.int .i64 1048576), .lit (.int .i64 (-1))], .agg [.lit (.bool false), .lit (.int .i64 0), .lit (.int .i64 1048576), .lit (.int .i64 0)], .agg [.lit (.bool false), .lit (.int .i64 0), .lit (.int .i64 1048576), .lit (.int .i64 1048576)], .agg [.lit (.bool false), .lit (.int .i64 0), .lit (.int .i64 1048576), .lit (.int .i64 0)], .agg [.lit (.bool false), .lit (.int .i64 0), .lit (.int .i64 1048576), .lit (.int .i64 1048576)], .agg [.lit (.bool false), .lit (.int .i64 0), .lit (.int .i64 1048576), .lit (.int .i64 0)], .agg [.lit (.bool false), .lit (.int .i64 0), .lit (.int .i64 1048576), .lit (.int .i64 0)], .agg [.lit (.bool false), .lit (.int .i64 0), .lit (.int .i64 1048576), .lit (.int .i64 0)], .agg [.lit (.bool false), .lit (.int .i64 0), .lit (.int .i64 1048576), .lit (.int .i64 0)], .agg [.lit (.bool true), .lit (.int .i64 0), .lit (.int .i64 1), .lit (.int .i64 0)]]
/-- One of Go's own tables, pinned by name: the form's constant. -/
def laid_unicode_utf8_first : DataW Unit := Go.Pinned.utf8First

/-- 'widgetrylaw29.HitOrder': WHATEVER THE INPUT: true; the input reads as it did. -/
def hitOrderSpec : ChangeSpec := { name := "hitOrder", fn := fun _ => fun
  | [d] => { results := [.lit (.bool true)], args := [d] }
  | _ => none }
def hitOrderRow : OpenClaim := { program := "ytfoigppmcelgfaadoor", sum := "6ef73dbd370556d4094d0c2b6ec4c1a680acdd74328848c6e10e591ea8d17a04", func := "widgetry/widgetrylaw29.HitOrder", spec := "hitOrder", unfollowed := true, recurses := true, named := ["unicode/utf8.first", "unicode/utf8.acceptRanges", "widgetry/style.properties"], plainKeys := false, apart := false, laid := [("unicode/utf8.acceptRanges", laid_unicode_utf8_acceptRanges), ("widgetry/style.properties", laid_widgetry_style_properties), ("unicode/utf8.first", laid_unicode_utf8_first)] }
def HitOrderSaid : Prop := hitOrderRow.holds Tryd.pinned (OpenSpec.ofChange hitOrderSpec)

/-- ITS FALSE NEIGHBOUR: 'it returns false'. Refute it at one input. -/
def hitOrderWrong : ChangeSpec := { name := "hitOrder", fn := fun _ => fun
  | [d] => { results := [.lit (.bool false)], args := [d] }
  | _ => none }
def HitOrderWrongFalsely : Prop := hitOrderRow.holds Tryd.pinned (OpenSpec.ofChange hitOrderWrong)

/-- 'widgetrylaw31.FocusTabs': WHATEVER THE INPUT: true; the input reads as it did. -/
def focusTabsSpec : ChangeSpec := { name := "focusTabs", fn := fun _ => fun
  | [d] => { results := [.lit (.bool true)], args := [d] }
  | _ => none }
def focusTabsRow : OpenClaim := { program := "ytfoigppmcelgfaadoor", sum := "6ef73dbd370556d4094d0c2b6ec4c1a680acdd74328848c6e10e591ea8d17a04", func := "widgetry/widgetrylaw31.FocusTabs", spec := "focusTabs", unfollowed := true, recurses := true, named := ["unicode/utf8.first", "unicode/utf8.acceptRanges", "widgetry/style.properties"], plainKeys := false, apart := false, laid := [("unicode/utf8.acceptRanges", laid_unicode_utf8_acceptRanges), ("widgetry/style.properties", laid_widgetry_style_properties), ("unicode/utf8.first", laid_unicode_utf8_first)] }
def FocusTabsSaid : Prop := focusTabsRow.holds Tryd.pinned (OpenSpec.ofChange focusTabsSpec)

/-- ITS FALSE NEIGHBOUR: 'it returns false'. Refute it at one input. -/
def focusTabsWrong : ChangeSpec := { name := "focusTabs", fn := fun _ => fun
  | [d] => { results := [.lit (.bool false)], args := [d] }
  | _ => none }
def FocusTabsWrongFalsely : Prop := focusTabsRow.holds Tryd.pinned (OpenSpec.ofChange focusTabsWrong)

/-- 'widgetrylaw31.FocusPast': WHATEVER THE INPUT: true; the input reads as it did. -/
def focusPastSpec : ChangeSpec := { name := "focusPast", fn := fun _ => fun
  | [d] => { results := [.lit (.bool true)], args := [d] }
  | _ => none }
def focusPastRow : OpenClaim := { program := "ytfoigppmcelgfaadoor", sum := "6ef73dbd370556d4094d0c2b6ec4c1a680acdd74328848c6e10e591ea8d17a04", func := "widgetry/widgetrylaw31.FocusPast", spec := "focusPast", unfollowed := true, recurses := true, named := ["unicode/utf8.first", "unicode/utf8.acceptRanges", "widgetry/style.properties"], plainKeys := false, apart := false, laid := [("unicode/utf8.acceptRanges", laid_unicode_utf8_acceptRanges), ("widgetry/style.properties", laid_widgetry_style_properties), ("unicode/utf8.first", laid_unicode_utf8_first)] }
def FocusPastSaid : Prop := focusPastRow.holds Tryd.pinned (OpenSpec.ofChange focusPastSpec)

/-- ITS FALSE NEIGHBOUR: 'it returns false'. Refute it at one input. -/
def focusPastWrong : ChangeSpec := { name := "focusPast", fn := fun _ => fun
  | [d] => { results := [.lit (.bool false)], args := [d] }
  | _ => none }
def FocusPastWrongFalsely : Prop := focusPastRow.holds Tryd.pinned (OpenSpec.ofChange focusPastWrong)

/-- 'widgetrylaw31.FocusDialog': WHATEVER THE INPUT: true; the input reads as it did. -/
def focusDialogSpec : ChangeSpec := { name := "focusDialog", fn := fun _ => fun
  | [d1, d2, d3, d4] => { results := [.lit (.bool true)], args := [d1, d2, d3, d4] }
  | _ => none }
def focusDialogRow : OpenClaim := { program := "ytfoigppmcelgfaadoor", sum := "6ef73dbd370556d4094d0c2b6ec4c1a680acdd74328848c6e10e591ea8d17a04", func := "widgetry/widgetrylaw31.FocusDialog", spec := "focusDialog", unfollowed := true, recurses := true, named := ["unicode/utf8.first", "unicode/utf8.acceptRanges", "widgetry/style.properties"], plainKeys := false, apart := false, laid := [("unicode/utf8.acceptRanges", laid_unicode_utf8_acceptRanges), ("widgetry/style.properties", laid_widgetry_style_properties), ("unicode/utf8.first", laid_unicode_utf8_first)] }
def FocusDialogSaid : Prop := focusDialogRow.holds Tryd.pinned (OpenSpec.ofChange focusDialogSpec)

/-- ITS FALSE NEIGHBOUR: 'it returns false'. Refute it at one input. -/
def focusDialogWrong : ChangeSpec := { name := "focusDialog", fn := fun _ => fun
  | [d1, d2, d3, d4] => { results := [.lit (.bool false)], args := [d1, d2, d3, d4] }
  | _ => none }
def FocusDialogWrongFalsely : Prop := focusDialogRow.holds Tryd.pinned (OpenSpec.ofChange focusDialogWrong)

/- THE SECOND FORM. 'bulk': how many values and letters a reading holds, each counted each time it is reached (what is shared counts as often as it is met; a slice's spare places count too). A statement '..UptoSaid' is the law's where the arguments, and the package variables that the reading takes, are together of bulk at most 1048576: NARROWER than '..Said'. Prove '..Said' where nothing that the law and all that it calls make is longer than what came in: it says more and counts as full. Else prove '..UptoSaid'. A law counts once. -/
mutual
def uptoBulk {H : Type} : DataW H → Nat
  | .lit (.string bytes) => bytes.length + 1
  | .lit _ => 1
  | .nil => 1
  | .ptr d => uptoBulk d + 1
  | .slice elems spare => uptoBulkAll elems + uptoBulkAll spare + 1
  | .agg parts => uptoBulkAll parts + 1
  | .iface _ d => uptoBulk d + 1
  | .map entries => uptoBulkEntries entries + 1
  | .held _ => 1
def uptoBulkAll {H : Type} : List (DataW H) → Nat
  | [] => 0
  | d :: r => uptoBulk d + uptoBulkAll r
def uptoBulkEntries {H : Type} : List (Lit × DataW H) → Nat
  | [] => 0
  | x :: r => uptoBulkEntry x + uptoBulkEntries r
def uptoBulkEntry {H : Type} : Lit × DataW H → Nat
  | (.string bytes, d) => bytes.length + uptoBulk d + 1
  | (_, d) => uptoBulk d + 1
 end
def uptoSmall : (H : Type) → List (DataW H) → Bool := fun _ ds => decide (uptoBulkAll ds ≤ 1048576)
def OpenSpec.upto (s : _root_.Go.ChangeSpec) : _root_.Go.OpenSpec := { _root_.Go.OpenSpec.ofChange s with cond := some uptoSmall }

/-- 'widgetrylaw29.HitOrder', WHERE WHAT IT READS IS OF BULK AT MOST 1048576: true; the input reads as it did. -/
def hitOrderUptoRow : OpenClaim := { program := "ytfoigppmcelgfaadoor", sum := "6ef73dbd370556d4094d0c2b6ec4c1a680acdd74328848c6e10e591ea8d17a04", func := "widgetry/widgetrylaw29.HitOrder", spec := "hitOrder", unfollowed := true, recurses := true, named := ["unicode/utf8.first", "unicode/utf8.acceptRanges", "widgetry/style.properties"], plainKeys := false, apart := false, laid := [("unicode/utf8.acceptRanges", laid_unicode_utf8_acceptRanges), ("widgetry/style.properties", laid_widgetry_style_properties), ("unicode/utf8.first", laid_unicode_utf8_first)], narrowed := true }
def HitOrderUptoSaid : Prop := hitOrderUptoRow.holds Tryd.pinned (OpenSpec.upto hitOrderSpec)

/-- 'widgetrylaw31.FocusTabs', WHERE WHAT IT READS IS OF BULK AT MOST 1048576: true; the input reads as it did. -/
def focusTabsUptoRow : OpenClaim := { program := "ytfoigppmcelgfaadoor", sum := "6ef73dbd370556d4094d0c2b6ec4c1a680acdd74328848c6e10e591ea8d17a04", func := "widgetry/widgetrylaw31.FocusTabs", spec := "focusTabs", unfollowed := true, recurses := true, named := ["unicode/utf8.first", "unicode/utf8.acceptRanges", "widgetry/style.properties"], plainKeys := false, apart := false, laid := [("unicode/utf8.acceptRanges", laid_unicode_utf8_acceptRanges), ("widgetry/style.properties", laid_widgetry_style_properties), ("unicode/utf8.first", laid_unicode_utf8_first)], narrowed := true }
def FocusTabsUptoSaid : Prop := focusTabsUptoRow.holds Tryd.pinned (OpenSpec.upto focusTabsSpec)

/-- 'widgetrylaw31.FocusPast', WHERE WHAT IT READS IS OF BULK AT MOST 1048576: true; the input reads as it did. -/
def focusPastUptoRow : OpenClaim := { program := "ytfoigppmcelgfaadoor", sum := "6ef73dbd370556d4094d0c2b6ec4c1a680acdd74328848c6e10e591ea8d17a04", func := "widgetry/widgetrylaw31.FocusPast", spec := "focusPast", unfollowed := true, recurses := true, named := ["unicode/utf8.first", "unicode/utf8.acceptRanges", "widgetry/style.properties"], plainKeys := false, apart := false, laid := [("unicode/utf8.acceptRanges", laid_unicode_utf8_acceptRanges), ("widgetry/style.properties", laid_widgetry_style_properties), ("unicode/utf8.first", laid_unicode_utf8_first)], narrowed := true }
def FocusPastUptoSaid : Prop := focusPastUptoRow.holds Tryd.pinned (OpenSpec.upto focusPastSpec)

/-- 'widgetrylaw31.FocusDialog', WHERE WHAT IT READS IS OF BULK AT MOST 1048576: true; the input reads as it did. -/
def focusDialogUptoRow : OpenClaim := { program := "ytfoigppmcelgfaadoor", sum := "6ef73dbd370556d4094d0c2b6ec4c1a680acdd74328848c6e10e591ea8d17a04", func := "widgetry/widgetrylaw31.FocusDialog", spec := "focusDialog", unfollowed := true, recurses := true, named := ["unicode/utf8.first", "unicode/utf8.acceptRanges", "widgetry/style.properties"], plainKeys := false, apart := false, laid := [("unicode/utf8.acceptRanges", laid_unicode_utf8_acceptRanges), ("widgetry/style.properties", laid_widgetry_style_properties), ("unicode/utf8.first", laid_unicode_utf8_first)], narrowed := true }
def FocusDialogUptoSaid : Prop := focusDialogUptoRow.holds Tryd.pinned (OpenSpec.upto focusDialogSpec)

end Rows
end Go.Proofs.YtfoigppmcelgfaaDoor

/-
  Plain functions that may fail: what a Go function computes is written with these, with no program in sight.
-/
import GoSem.Core.Utf8
namespace Go.E2
abbrev Str := ByteArray
def N0 : Nat := 1152921504606846976
theorem N0_val : N0 = 1152921504606846976 := rfl
def sel {α : Type} (c : Bool) (a b : α) : α := match c with
  | true => a
  | false => b
theorem sel_t {α : Type} {c : Bool} (h : c = true) (a b : α) : sel c a b = a := by subst h; rfl
theorem sel_f {α : Type} {c : Bool} (h : c = false) (a b : α) : sel c a b = b := by subst h; rfl
theorem selT {α : Type} {c : Bool} {a b r : α} (h : c = true) (hr : sel c a b = r) : a = r := (sel_t h a b).symm.trans hr
theorem selF {α : Type} {c : Bool} {a b r : α} (h : c = false) (hr : sel c a b = r) : b = r := (sel_f h a b).symm.trans hr
theorem bind_some {α β : Type} {o : Option α} {k : α → Option β} {r : β} (h : o.bind k = some r) : ∃ x, o = some x ∧ k x = some r := by
  cases o with
  | none => cases h
  | some x => exact ⟨x, rfl, h⟩
/-- under a guard: where it does not hold, any value -/
def gO {α : Type} [Inhabited α] (g : Bool) (o : Option α) : Option α := sel g o (some default)
theorem gO_t {α : Type} [Inhabited α] {g : Bool} {o : Option α} {x : α} (h : gO g o = some x) (hg : g = true) : o = some x := selT hg h
/-- at most n rounds -/
def loopK {S R : Type} (B : (S → Option R) → S → Option R) : Nat → S → Option R
  | 0, _ => none
  | n + 1, s => B (loopK B n) s
/-- what follows is named once -/
def jn {S R : Type} (k : S → Option R) (b : (S → Option R) → Option R) : Option R := b k
def idxO {α : Type} (L : List α) : Int → Option α
  | .ofNat k => L[k]?
  | .negSucc _ => none
theorem idxO_spec {α : Type} {L : List α} {i : Int} {x : α} (h : idxO L i = some x) : 0 ≤ i ∧ i < L.length ∧ L[i.toNat]? = some x := by
  cases i with
  | ofNat k =>
    have h' : L[k]? = some x := h
    have := (List.getElem?_eq_some_iff.1 h').1
    exact ⟨Int.natCast_nonneg k, Int.ofNat_lt.mpr this, h'⟩
  | negSucc k => cases h
def slcO {α : Type} (L : List α) (lo hi : Int) : Option (List α) := if 0 ≤ lo ∧ lo ≤ hi ∧ hi ≤ L.length then some ((L.take hi.toNat).drop lo.toNat) else none
theorem slcO_spec {α : Type} {L R : List α} {lo hi : Int} (h : slcO L lo hi = some R) : 0 ≤ lo ∧ lo ≤ hi ∧ hi ≤ L.length ∧ R = (L.take hi.toNat).drop lo.toNat := by
  unfold slcO at h
  split at h
  · rename_i hc; cases h; exact ⟨hc.1, hc.2.1, hc.2.2, rfl⟩
  · cases h
def appO {α : Type} (L X : List α) : Option (List α) := if L.length + X.length ≤ 1073741824 then some (L ++ X) else none
theorem appO_spec {α : Type} {L X R : List α} (h : appO L X = some R) : L.length + X.length ≤ 1073741824 ∧ R = L ++ X := by
  unfold appO at h
  split at h
  · rename_i hc; cases h; exact ⟨hc, rfl⟩
  · cases h
/-- store into a list -/
def setO {α : Type} (L : List α) (i : Int) (x : α) : Option (List α) := if 0 ≤ i ∧ i < L.length then some (L.set i.toNat x) else none
/-- a new list -/
def mkO {α : Type} (n : Int) (z : α) : Option (List α) := if 0 ≤ n ∧ n ≤ 1073741824 then some (List.replicate n.toNat z) else none
theorem mkO_spec {α : Type} {n : Int} {z : α} {L : List α} (h : mkO n z = some L) : 0 ≤ n ∧ n ≤ 1073741824 ∧ L = List.replicate n.toNat z := by
  unfold mkO at h
  split at h
  · rename_i hc; cases h; exact ⟨hc.1, hc.2, rfl⟩
  · cases h
/-- an index -/
def ixO (n : Nat) : Int → Option Nat
  | .ofNat k => if k < n then some k else none
  | .negSucc _ => none
theorem ixO_spec {n : Nat} {i : Int} {k : Nat} (h : ixO n i = some k) : i = (k : Int) ∧ k < n := by
  unfold ixO at h
  split at h
  · split at h
    · rename_i hk; cases h; exact ⟨rfl, hk⟩
    · cases h
  · cases h
/-- two texts, one behind the other -/
def catO (s t : Str) : Option Str := if s.size + t.size ≤ 1152921504606846976 then some (s ++ t) else none
/-- a byte of a text -/
def sidxO (s : Str) (i : Int) : Option Int := if 0 ≤ i then (s[i.toNat]?).map (fun b => (b.toNat : Int)) else none
/-- a part of a text -/
def sslcO (s : Str) (lo hi : Int) : Option Str := if 0 ≤ lo ∧ lo ≤ hi ∧ hi ≤ s.size then some (s.extract lo.toNat hi.toNat) else none
/-- a remainder, a quotient -/
def nzO {α : Type} (b : Int) (x : α) : Option α := if b = 0 then none else some x
theorem nzO_spec {α : Type} {b : Int} {x y : α} (h : nzO b x = some y) : b ≠ 0 ∧ y = x := by
  unfold nzO at h
  split at h
  · cases h
  · rename_i hb; cases h; exact ⟨hb, rfl⟩
/-- a check -/
def okO {α : Type} (c : Bool) (x : α) : Option α := sel c (some x) none
theorem okO_spec {α : Type} {c : Bool} {x y : α} (h : okO c x = some y) : c = true ∧ y = x := by
  cases c with
  | true => cases h; exact ⟨rfl, rfl⟩
  | false => cases h
def runesF (s : Str) : Nat → Nat → List Int
  | 0, _ => []
  | n + 1, i => if i < s.size then (Int.ofNat (Utf8.decode s i).1) :: runesF s n (i + (Utf8.decode s i).2) else []
/-- a text's runes -/
def runes (s : Str) : List Int := runesF s s.size 0
def ofBytes (l : List Int) : Str := ⟨(l.map fun n => UInt8.ofNat n.toNat).toArray⟩
def ofRunes (l : List Int) : Str := l.foldl (fun s n => s ++ Utf8.encode n) ByteArray.empty
/-- the two tables of the UTF-8 package -/
def utf8First : List Int := [240, 240, 240, 240, 240, 240, 240, 240, 240, 240, 240, 240, 240, 240, 240, 240, 240, 240, 240, 240, 240, 240, 240, 240, 240, 240, 240, 240, 240, 240, 240, 240, 240, 240, 240, 240, 240, 240, 240, 240, 240, 240, 240, 240, 240, 240, 240, 240, 240, 240, 240, 240, 240, 240, 240, 240, 240, 240, 240, 240, 240, 240, 240, 240, 240, 240, 240, 240, 240, 240, 240, 240, 240, 240, 240, 240, 240, 240, 240, 240, 240, 240, 240, 240, 240, 240, 240, 240, 240, 240, 240, 240, 240, 240, 240, 240, 240, 240, 240, 240, 240, 240, 240, 240, 240, 240, 240, 240, 240, 240, 240, 240, 240, 240, 240, 240, 240, 240, 240, 240, 240, 240, 240, 240, 240, 240, 240, 240, 241, 241, 241, 241, 241, 241, 241, 241, 241, 241, 241, 241, 241, 241, 241, 241, 241, 241, 241, 241, 241, 241, 241, 241, 241, 241, 241, 241, 241, 241, 241, 241, 241, 241, 241, 241, 241, 241, 241, 241, 241, 241, 241, 241, 241, 241, 241, 241, 241, 241, 241, 241, 241, 241, 241, 241, 241, 241, 241, 241, 241, 241, 241, 241, 241, 241, 2, 2, 2, 2, 2, 2, 2, 2, 2, 2, 2, 2, 2, 2, 2, 2, 2, 2, 2, 2, 2, 2, 2, 2, 2, 2, 2, 2, 2, 2, 19, 3, 3, 3, 3, 3, 3, 3, 3, 3, 3, 3, 3, 35, 3, 3, 52, 4, 4, 4, 68, 241, 241, 241, 241, 241, 241, 241, 241, 241, 241, 241]
def utf8Accept : List (Int × Int) := [(128, 191), (160, 191), (128, 159), (144, 191), (128, 143), (0, 0), (0, 0), (0, 0), (0, 0), (0, 0), (0, 0), (0, 0), (0, 0), (0, 0), (0, 0), (0, 0)]
end Go.E2

/- A policy in plain Lean: which may be. -/
import Derived.Test.YtlfimcpceiemnaaDoorStrs
set_option linter.unusedVariables false
namespace Go.Proofs.YtlfimcpceiemnaaDoor
open Go Go.RowKit


def rawNames1 : List Str := [[115, 99, 114, 105, 112, 116], [115, 116, 121, 108, 101], [120, 109, 112], [105, 102, 114, 97, 109, 101], [110, 111, 101, 109, 98, 101, 100], [110, 111, 102, 114, 97, 109, 101, 115], [112, 108, 97, 105, 110, 116, 101, 120, 116]]
def rawNames2 : List Str := [[116, 101, 120, 116, 97, 114, 101, 97], [116, 105, 116, 108, 101]]
def neverNames : List Str := [[98, 97, 115, 101], [101, 109, 98, 101, 100], [102, 111, 114, 109], [105, 110, 112, 117, 116], [108, 105, 110, 107], [109, 97, 116, 104], [109, 101, 116, 97], [111, 98, 106, 101, 99, 116], [112, 97, 114, 97, 109], [115, 101, 108, 101, 99, 116], [115, 118, 103], [116, 101, 109, 112, 108, 97, 116, 101], [110, 111, 115, 99, 114, 105, 112, 116], [102, 114, 97, 109, 101], [102, 114, 97, 109, 101, 115, 101, 116]]
def rawF (s : Str) : Bool := rawNames1.contains s || rawNames2.contains s
def rawG (s : Str) : Bool := !rawNames1.contains s && rawNames2.contains s
def neverF (s : Str) : Bool := neverNames.contains s || rawF s
def lowB (c : UInt8) : Bool := decide (97 ≤ c.toNat) && decide (c.toNat ≤ 122)
def digB (c : UInt8) : Bool := decide (48 ≤ c.toNat) && decide (c.toNat ≤ 57)
def chB (i : Nat) (c : UInt8) : Bool := lowB c || (decide (0 < i) && (digB c || decide (c.toNat = 45)))
def chars : Nat → Str → Bool
  | _, [] => true
  | i, c :: cs => chB i c && chars (i + 1) cs
theorem chars_append : ∀ (a b : Str) (i : Nat), chars i (a ++ b) = (chars i a && chars (i + a.length) b)
  | [], b, i => by simp [chars]
  | c :: a, b, i => by rw [List.cons_append, chars, chars_append a b (i + 1), chars, Bool.and_assoc, List.length_cons, show i + 1 + a.length = i + (a.length + 1) by omega]
theorem chars_take {s : Str} {k : Nat} {c : UInt8} (h : s[k]? = some c) : chars 0 (s.take (k + 1)) = (chars 0 (s.take k) && chB k c) := by
  have hk := (List.getElem?_eq_some_iff.1 h).1
  rw [List.take_add_one, h, chars_append]
  simp [chars, Nat.min_eq_left (Nat.le_of_lt hk)]
theorem chars_false {s : Str} {k : Nat} (h : chars 0 (s.take k) = false) : chars 0 s = false := by
  have := chars_append (s.take k) (s.drop k) 0
  rw [List.take_append_drop] at this
  rw [this, h]; rfl
def wordF (s : Str) : Bool := chars 0 s && (!s.isEmpty && decide (s.length ≤ 32))
/-- The first k of a list rise. -/
def risK (xs : List Str) : Nat → Bool
  | 0 => true
  | n + 1 => risK xs n && (n == 0 || Op.bytesLess (xs[n - 1]?.getD []) (xs[n]?.getD []))
def risesF (xs : List Str) : Bool := risK xs xs.length && decide (xs.length ≤ 64)
theorem risK_mono (xs : List Str) (k : Nat) : ∀ j, risK xs (k + j) = true → risK xs k = true
  | 0, h => h
  | j + 1, h => risK_mono xs k j (by rw [← Nat.add_assoc, risK, Bool.and_eq_true] at h; exact h.1)
theorem rises_false {xs : List Str} {k : Nat} (hk : k ≤ xs.length) (h : risK xs k = false) : risesF xs = false := by
  rw [risesF, Bool.and_eq_false_iff]
  left
  cases e : risK xs xs.length with
  | false => rfl
  | true =>
    have := risK_mono xs k (xs.length - k) (by rw [Nat.add_sub_cancel' hk]; exact e)
    rw [this] at h; cases h
theorem all_take {α : Type} {f : α → Bool} {xs : List α} {k : Nat} {x : α} (h : xs[k]? = some x) : (xs.take (k + 1)).all f = ((xs.take k).all f && f x) := by
  rw [List.take_add_one, h, List.all_append]; simp
theorem all_false {α : Type} {f : α → Bool} {xs : List α} {k : Nat} {x : α} (h : xs[k]? = some x) (hf : f x = false) : xs.all f = false := by
  rw [List.all_eq_false]
  exact ⟨x, List.mem_of_getElem? h, by simp [hf]⟩
def cStar : Str := [42]
def onB (a : Str) : Bool := [111, 110].isPrefixOf a
def cSrcdoc : Str := [115, 114, 99, 100, 111, 99]
def cFormaction : Str := [102, 111, 114, 109, 97, 99, 116, 105, 111, 110]
def cStyle : Str := [115, 116, 121, 108, 101]
def attrW (a : Str) : Bool := wordF a && !onB a && a != cSrcdoc && a != cFormaction && a != cStyle
def attrF (elems : List Str) (s : Str) : Bool := match s.findIdx? (· == 46) with | some i => ((s.take i == cStar) || hasStr elems (s.take i)) && attrW (s.drop (i + 1)) | none => false
theorem dot_some {s : Str} {k : Nat} (hk : s[k]? = some 46) (hall : ∀ j c, j < k → s[j]? = some c → c ≠ 46) : s.findIdx? (· == 46) = some k := by
  have hlt := (List.getElem?_eq_some_iff.1 hk).1
  rw [List.findIdx?_eq_some_iff_getElem]
  refine ⟨hlt, by rw [(List.getElem?_eq_some_iff.1 hk).2]; rfl, fun j hj => ?_⟩
  have := hall j s[j] hj (List.getElem?_eq_getElem (by omega))
  simpa using this
theorem dot_none {s : Str} (hall : ∀ j c, j < s.length → s[j]? = some c → c ≠ 46) : s.findIdx? (· == 46) = none := by
  rw [List.findIdx?_eq_none_iff]
  intro x hx
  obtain ⟨j, hj, rfl⟩ := List.mem_iff_getElem.1 hx
  have := hall j s[j] hj (List.getElem?_eq_getElem hj)
  simpa using this
theorem onB_eq (a : Str) : onB a = (decide ((a.length : Int) > 1) && a.take 2 == [111, 110]) := by
  match a with
  | [] => rfl
  | [x] => rw [onB, show decide ((([x] : Str).length : Int) > 1) = false from rfl, Bool.false_and]; simp [List.isPrefixOf]
  | x :: y :: l =>
    have h : decide ((((x :: y :: l : Str)).length : Int) > 1) = true := by rw [decide_eq_true_eq]; simp only [List.length_cons]; omega
    rw [h, Bool.true_and, Bool.eq_iff_iff, onB, List.isPrefixOf_iff_prefix, beq_iff_eq]
    constructor
    · rintro ⟨t, ht⟩
      rw [← ht]; rfl
    · intro h2
      exact ⟨l, by rw [← h2]; rfl⟩
structure Pol where
  epoch : Int
  elems : List Str
  attrs : List Str
  schemes : List Str
  classes : List Str
  props : List Str
  depth : Int
  nodes : Int
  bytes : Int
def numsF (p : Pol) : Bool := decide (1 ≤ p.epoch) && decide (p.epoch ≤ 1000000) && decide (1 ≤ p.depth) && decide (p.depth ≤ 64) && decide (1 ≤ p.nodes) && decide (p.nodes ≤ 2000) && decide (1 ≤ p.bytes) && decide (p.bytes ≤ 16384)
theorem numsF_iff (p : Pol) : numsF p = true ↔ (1 ≤ p.epoch ∧ p.epoch ≤ 1000000 ∧ 1 ≤ p.depth ∧ p.depth ≤ 64 ∧ 1 ≤ p.nodes ∧ p.nodes ≤ 2000 ∧ 1 ≤ p.bytes ∧ p.bytes ≤ 16384) := by
  simp only [numsF, Bool.and_eq_true, decide_eq_true_eq]; omega
def wordsF (xs : List Str) : Bool := xs.all wordF && risesF xs
def listsF (p : Pol) : Bool := wordsF p.elems && risesF p.attrs && wordsF p.schemes && wordsF p.classes && wordsF p.props
def cLi : Str := [108, 105]
def cUl : Str := [117, 108]
def cOl : Str := [111, 108]
def cJs : Str := [106, 97, 118, 97, 115, 99, 114, 105, 112, 116]
def cData : Str := [100, 97, 116, 97]
def cVb : Str := [118, 98, 115, 99, 114, 105, 112, 116]
def liF (p : Pol) : Bool := !hasStr p.elems cLi || (hasStr p.elems cUl && hasStr p.elems cOl)
def schF (p : Pol) : Bool := !hasStr p.schemes cJs && !hasStr p.schemes cData && !hasStr p.schemes cVb
def rightF (p : Pol) : Bool := numsF p && listsF p && (p.elems.all fun s => !neverF s) && (p.attrs.all fun s => attrF p.elems s) && liF p && schF p


end Go.Proofs.YtlfimcpceiemnaaDoor

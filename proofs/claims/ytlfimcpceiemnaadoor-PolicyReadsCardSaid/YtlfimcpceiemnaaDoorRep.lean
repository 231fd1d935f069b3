/- The program's data as plain Lean data, and how they read in a memory that lasts. -/
import Derived.Test.YtlfimcpceiemnaaDoorMem
set_option linter.unusedVariables false
namespace Go.Proofs.YtlfimcpceiemnaaDoor
open Go Go.RowKit

/-- A string's value. -/
abbrev Str := List UInt8
structure Attr where
  name : Str
  value : Str
deriving DecidableEq
structure Token where
  kind : Int
  name : Str
  attrs : List Attr
  closed : Bool
  text : Str
inductive Node where
  | mk (name : Str) (attrs : List Attr) (text : Str) (kids : List Node)
namespace Node
def name : Node → Str | .mk n _ _ _ => n
def attrs : Node → List Attr | .mk _ a _ _ => a
def text : Node → Str | .mk _ _ t _ => t
def kids : Node → List Node | .mk _ _ _ k => k
end Node
/-- Strings in a row. -/
def strCells (xs : List Str) : List Value := xs.map fun s => .string ⟨s.toArray⟩
def attrCells (xs : List Attr) : List Value := xs.flatMap fun a => [.string ⟨a.name.toArray⟩, .string ⟨a.value.toArray⟩]
theorem strCells_length (xs : List Str) : (strCells xs).length = xs.length := by simp [strCells]
theorem attrCells_length (xs : List Attr) : (attrCells xs).length = xs.length * 2 := by
  induction xs with
  | nil => rfl
  | cons a xs ih => simp [attrCells] at ih ⊢; omega
def RdStrs (m : Mem) (v : Value) (xs : List Str) : Prop := SlV m 1 v xs.length (strCells xs)
def RdAttrs (m : Mem) (v : Value) (xs : List Attr) : Prop := SlV m 2 v xs.length (attrCells xs)
theorem RdStrs.le {m m' : Mem} {v : Value} {xs : List Str} (h : RdStrs m v xs) (hm : m.le m') : RdStrs m' v xs := SlV.le h hm
theorem RdAttrs.le {m m' : Mem} {v : Value} {xs : List Attr} (h : RdAttrs m v xs) (hm : m.le m') : RdAttrs m' v xs := SlV.le h hm

/-- What a row's cells say of nodes. -/
inductive NodeCells (m : Mem) : List Node → List Value → Prop
  | nil : NodeCells m [] []
  | cons {n : Str} {attrs : List Attr} {t : Str} {kids xs : List Node} {va vk : Value} {kc cs : List Value} (ha : RdAttrs m va attrs) (hk : SlV m 4 vk kids.length kc) (h1 : NodeCells m kids kc) (h2 : NodeCells m xs cs) :
    NodeCells m (.mk n attrs t kids :: xs) (.string ⟨n.toArray⟩ :: va :: .string ⟨t.toArray⟩ :: vk :: cs)
theorem NodeCells.le {m m' : Mem} (hm : m.le m') {xs : List Node} {cs : List Value} (h : NodeCells m xs cs) : NodeCells m' xs cs := by
  induction h with
  | nil => exact .nil
  | cons ha hk h1 h2 ih1 ih2 => exact .cons (ha.le hm) (hk.le hm) ih1 ih2
theorem NodeCells.length {m : Mem} {xs : List Node} {cs : List Value} (h : NodeCells m xs cs) : cs.length = xs.length * 4 := by
  induction h with
  | nil => rfl
  | cons ha hk h1 h2 ih1 ih2 => simp; omega
theorem NodeCells.append {m : Mem} {xs ys : List Node} {cs ds : List Value} (h : NodeCells m xs cs) (k : NodeCells m ys ds) : NodeCells m (xs ++ ys) (cs ++ ds) := by
  induction h with
  | nil => exact k
  | cons ha hk h1 h2 ih1 ih2 => exact .cons ha hk h1 ih2
/-- One node's four cells. -/
def NodeAt (m : Mem) (x : Node) (va vk : Value) : Prop := RdAttrs m va x.attrs ∧ ∃ kc, SlV m 4 vk x.kids.length kc ∧ NodeCells m x.kids kc
theorem NodeAt.le {m m' : Mem} (hm : m.le m') {x : Node} {va vk : Value} (h : NodeAt m x va vk) : NodeAt m' x va vk := by
  obtain ⟨h1, kc, h2, h3⟩ := h
  exact ⟨h1.le hm, kc, h2.le hm, h3.le hm⟩
theorem NodeAt.one {m : Mem} {x : Node} {va vk : Value} (h : NodeAt m x va vk) : NodeCells m [x] [.string ⟨x.name.toArray⟩, va, .string ⟨x.text.toArray⟩, vk] := by
  obtain ⟨h1, kc, h2, h3⟩ := h
  cases x
  exact .cons h1 h2 h3 .nil
theorem NodeCells.get {m : Mem} {xs : List Node} {cs : List Value} (h : NodeCells m xs cs) : ∀ (i : Nat) (x : Node), xs[i]? = some x →
    ∃ va vk, cs[4 * i]? = some (.string ⟨x.name.toArray⟩) ∧ cs[4 * i + 1]? = some va ∧ cs[4 * i + 2]? = some (.string ⟨x.text.toArray⟩) ∧ cs[4 * i + 3]? = some vk ∧ NodeAt m x va vk := by
  induction h with
  | nil => intro i x hx; simp at hx
  | @cons n attrs t kids xs va vk kc cs ha hk h1 h2 ih1 ih2 =>
    intro i x hx
    cases i with
    | zero =>
      simp at hx; subst hx
      exact ⟨va, vk, rfl, rfl, rfl, rfl, ha, kc, hk, h1⟩
    | succ i =>
      simp at hx
      obtain ⟨va', vk', e1, e2, e3, e4, r⟩ := ih2 i x hx
      refine ⟨va', vk', ?_, ?_, ?_, ?_, r⟩
      · rw [show 4 * (i + 1) = 4 * i + 4 from by omega]; simpa using e1
      · rw [show 4 * (i + 1) + 1 = 4 * i + 1 + 4 from by omega]; simpa using e2
      · rw [show 4 * (i + 1) + 2 = 4 * i + 2 + 4 from by omega]; simpa using e3
      · rw [show 4 * (i + 1) + 3 = 4 * i + 3 + 4 from by omega]; simpa using e4
def RdNodes (m : Mem) (v : Value) (xs : List Node) : Prop := ∃ cs, SlV m 4 v xs.length cs ∧ NodeCells m xs cs
theorem RdNodes.le {m m' : Mem} {v : Value} {xs : List Node} (h : RdNodes m v xs) (hm : m.le m') : RdNodes m' v xs := by
  obtain ⟨cs, h1, h2⟩ := h
  exact ⟨cs, h1.le hm, h2.le hm⟩
/-- What a row's cells say of tokens. -/
inductive TokCells (m : Mem) : List Token → List Value → Prop
  | nil : TokCells m [] []
  | cons {t : Token} {xs : List Token} {va : Value} {cs : List Value} (ha : RdAttrs m va t.attrs) (h2 : TokCells m xs cs) :
    TokCells m (t :: xs) (.int .i64 t.kind :: .string ⟨t.name.toArray⟩ :: va :: .bool t.closed :: .string ⟨t.text.toArray⟩ :: cs)
theorem TokCells.le {m m' : Mem} (hm : m.le m') {xs : List Token} {cs : List Value} (h : TokCells m xs cs) : TokCells m' xs cs := by
  induction h with
  | nil => exact .nil
  | cons ha h2 ih => exact .cons (ha.le hm) ih
theorem TokCells.append {m : Mem} {xs ys : List Token} {cs ds : List Value} (h : TokCells m xs cs) (k : TokCells m ys ds) : TokCells m (xs ++ ys) (cs ++ ds) := by
  induction h with
  | nil => exact k
  | cons ha h2 ih => exact .cons ha ih
theorem TokCells.get {m : Mem} {xs : List Token} {cs : List Value} (h : TokCells m xs cs) : ∀ (i : Nat) (t : Token), xs[i]? = some t →
    ∃ va, cs[5 * i]? = some (.int .i64 t.kind) ∧ cs[5 * i + 1]? = some (.string ⟨t.name.toArray⟩) ∧ cs[5 * i + 2]? = some va ∧ cs[5 * i + 3]? = some (.bool t.closed) ∧ cs[5 * i + 4]? = some (.string ⟨t.text.toArray⟩) ∧ RdAttrs m va t.attrs := by
  induction h with
  | nil => intro i x hx; simp at hx
  | @cons t xs va cs ha h2 ih =>
    intro i x hx
    cases i with
    | zero =>
      simp at hx; subst hx
      exact ⟨va, rfl, rfl, rfl, rfl, rfl, ha⟩
    | succ i =>
      simp at hx
      obtain ⟨va', e1, e2, e3, e4, e5, r⟩ := ih i x hx
      refine ⟨va', ?_, ?_, ?_, ?_, ?_, r⟩
      · rw [show 5 * (i + 1) = 5 * i + 5 from by omega]; simpa using e1
      · rw [show 5 * (i + 1) + 1 = 5 * i + 1 + 5 from by omega]; simpa using e2
      · rw [show 5 * (i + 1) + 2 = 5 * i + 2 + 5 from by omega]; simpa using e3
      · rw [show 5 * (i + 1) + 3 = 5 * i + 3 + 5 from by omega]; simpa using e4
      · rw [show 5 * (i + 1) + 4 = 5 * i + 4 + 5 from by omega]; simpa using e5
def RdToks (m : Mem) (v : Value) (xs : List Token) : Prop := ∃ cs, SlV m 5 v xs.length cs ∧ TokCells m xs cs
theorem RdToks.le {m m' : Mem} {v : Value} {xs : List Token} (h : RdToks m v xs) (hm : m.le m') : RdToks m' v xs := by
  obtain ⟨cs, h1, h2⟩ := h
  exact ⟨cs, h1.le hm, h2.le hm⟩

end Go.Proofs.YtlfimcpceiemnaaDoor

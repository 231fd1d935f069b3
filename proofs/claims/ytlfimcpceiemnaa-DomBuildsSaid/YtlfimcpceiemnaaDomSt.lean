/- The builder of dom in memory: its object, its row of open elements, each element's own row of kids. -/
import Derived.Test.YtlfimcpceiemnaaRep
set_option linter.unusedVariables false
namespace Go.Proofs.Ytlfimcpceiemnaa
open Go Go.RowKit

/-- An element's row of kids: its value, how many, its cells. -/
structure KRow where
  v : Value
  n : Nat
  cs : List Value
/-- The cells of the open elements, the whole tree first. -/
inductive ElCells (m : Mem) : List Node → List KRow → List Value → Prop
  | nil : ElCells m [] [] []
  | cons {n : Str} {attrs : List Attr} {kids xs : List Node} {va : Value} {k : KRow} {ks : List KRow} {cs : List Value} (ha : RdAttrs m va attrs) (hn : k.n = kids.length) (hk : NodeCells m kids k.cs)
    (h2 : ElCells m xs ks cs) : ElCells m (.mk n attrs [] kids :: xs) (k :: ks) (.string ⟨n.toArray⟩ :: va :: .string ⟨#[]⟩ :: k.v :: .string ⟨n.toArray⟩ :: cs)
theorem ElCells.le {m m' : Mem} (hm : m.le m') {xs : List Node} {ks : List KRow} {cs : List Value} (h : ElCells m xs ks cs) : ElCells m' xs ks cs := by
  induction h with
  | nil => exact .nil
  | cons ha hn hk h2 ih => exact .cons (ha.le hm) hn (hk.le hm) ih
theorem ElCells.length {m : Mem} {xs : List Node} {ks : List KRow} {cs : List Value} (h : ElCells m xs ks cs) : cs.length = xs.length * 5 ∧ ks.length = xs.length := by
  induction h with
  | nil => exact ⟨rfl, rfl⟩
  | cons ha hn hk h2 ih => simp; omega
theorem ElCells.append {m : Mem} {xs ys : List Node} {ks ls : List KRow} {cs ds : List Value} (h : ElCells m xs ks cs) (k : ElCells m ys ls ds) : ElCells m (xs ++ ys) (ks ++ ls) (cs ++ ds) := by
  induction h with
  | nil => exact k
  | cons ha hn hk h2 ih => exact .cons ha hn hk ih
/-- One element's. -/
theorem ElCells.one {m : Mem} {n : Str} {attrs : List Attr} {kids : List Node} {va : Value} {k : KRow} (ha : RdAttrs m va attrs) (hn : k.n = kids.length) (hk : NodeCells m kids k.cs) :
    ElCells m [.mk n attrs [] kids] [k] [.string ⟨n.toArray⟩, va, .string ⟨#[]⟩, k.v, .string ⟨n.toArray⟩] := .cons ha hn hk .nil
/-- The last element, apart. -/
theorem ElCells.snoc {m : Mem} : ∀ {xs : List Node} {x : Node} {ks : List KRow} {cs : List Value}, ElCells m (xs ++ [x]) ks cs →
    ∃ ks' cs' k va, ks = ks' ++ [k] ∧ cs = cs' ++ [.string ⟨x.name.toArray⟩, va, .string ⟨#[]⟩, k.v, .string ⟨x.name.toArray⟩] ∧ ElCells m xs ks' cs' ∧ RdAttrs m va x.attrs ∧ k.n = x.kids.length ∧ NodeCells m x.kids k.cs ∧ x.text = []
  | [], x, ks, cs, h => by
    cases h with
    | cons ha hn hk h2 => cases h2; exact ⟨[], [], _, _, rfl, rfl, .nil, ha, hn, hk, rfl⟩
  | y :: xs, x, ks, cs, h => by
    cases h with
    | cons ha hn hk h2 =>
      obtain ⟨ks', cs', k, va, rfl, rfl, h3, r⟩ := h2.snoc
      exact ⟨_ :: ks', _ :: _ :: _ :: _ :: _ :: cs', k, va, rfl, rfl, .cons ha hn hk h3, r⟩
/-- The names of the elements, by place. -/
theorem ElCells.name {m : Mem} {xs : List Node} {ks : List KRow} {cs : List Value} (h : ElCells m xs ks cs) : ∀ (i : Nat) (x : Node), xs[i]? = some x → cs[5 * i + 4]? = some (.string ⟨x.name.toArray⟩) := by
  induction h with
  | nil => intro i x hx; simp at hx
  | @cons n attrs kids xs va k ks cs ha hn hk h2 ih =>
    intro i x hx
    cases i with
    | zero => simp at hx; subst hx; rfl
    | succ i => simp at hx; rw [show 5 * (i + 1) + 4 = 5 * i + 4 + 5 from by omega]; simpa using ih i x hx

/-- The blocks of the builder's own. -/
def fpB (g : Nat) (vo : Value) (ks : List KRow) : List Nat := g :: (vo.ownBlock.toList ++ ks.filterMap (·.v.ownBlock))
structure IsB (m : Mem) (w : World) (base g : Nat) (st : List Node) (many : Int) (over : Bool) (vo : Value) (oc : List Value) (ks : List KRow) : Prop where
  hm : m.ok w
  obj : w.heap[g]? = some (.cells #[vo, .int .i64 many, .bool over] 41 (0, 0))
  row : w.ownsRow base 38 5 vo st.length oc
  els : ElCells m st ks oc
  rows : ∀ k ∈ ks, w.ownsRow base 34 4 k.v k.n k.cs
  nd : (fpB g vo ks).Nodup
  fr : ∀ k ∈ fpB g vo ks, m.free k
  bs : base ≤ g

/-- The world has turned elsewhere. -/
theorem IsB.ch {m : Mem} {w w' : World} {base g : Nat} {st : List Node} {many : Int} {over : Bool} {vo : Value} {oc : List Value} {ks : List KRow} (h : IsB m w base g st many over vo oc ks)
    {S : Nat → Prop} (hc : Ch S w w') (hS : ∀ k, S k → m.free k ∧ k ∉ fpB g vo ks) : IsB m w' base g st many over vo oc ks where
  hm := h.hm.ch hc (fun k hk => (hS k hk).1)
  obj := hc.heap h.obj (fun hs => (hS _ hs).2 (by simp [fpB]))
  row := hc.own h.row (fun k hk hs => (hS _ hs).2 (by simp [fpB, hk]))
  els := h.els
  rows := fun k hk => hc.own (h.rows k hk) (fun b hb hs => (hS _ hs).2 (by simp only [fpB, List.mem_cons, List.mem_append, List.mem_filterMap]; exact .inr (.inr ⟨k, hk, hb⟩)))
  nd := h.nd
  fr := h.fr
  bs := h.bs
theorem IsB.below {m : Mem} {w w' : World} {base g : Nat} {st : List Node} {many : Int} {over : Bool} {vo : Value} {oc : List Value} {ks : List KRow} (h : IsB m w base g st many over vo oc ks)
    (hb : Below w.heap.size w w') : IsB m w' base g st many over vo oc ks := h.ch (Ch.of_below hb (fun _ => False)) (fun _ hk => hk.elim)
theorem IsB.lt {m : Mem} {w : World} {base g : Nat} {st : List Node} {many : Int} {over : Bool} {vo : Value} {oc : List Value} {ks : List KRow} (h : IsB m w base g st many over vo oc ks) :
    ∀ k ∈ fpB g vo ks, base ≤ k ∧ k < w.heap.size := by
  intro k hk
  simp only [fpB, List.mem_cons, List.mem_append, List.mem_filterMap, Option.mem_toList] at hk
  rcases hk with rfl | hk | ⟨r, hr, hk⟩
  · exact ⟨h.bs, (Array.getElem?_eq_some_iff.1 h.obj).1⟩
  · exact h.row.lt k hk
  · exact (h.rows r hr).lt k hk

end Go.Proofs.Ytlfimcpceiemnaa

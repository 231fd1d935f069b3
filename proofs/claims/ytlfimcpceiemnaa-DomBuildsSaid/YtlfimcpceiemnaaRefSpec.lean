/- versoref04's builder in plain Lean, and in memory. -/
import Derived.Test.YtlfimcpceiemnaaDomW13
set_option linter.unusedVariables false
namespace Go.Proofs.Ytlfimcpceiemnaa
open Go Go.RowKit

structure Flat where
  name : Str
  attrs : List Attr
  text : Str
  up : Int
structure RS where
  l : List Flat
  op : List Int
  bad : Bool
def dFlat : Flat := ⟨[], [], [], 0⟩
def RS.here (s : RS) : Int := s.op.getLastD (-1)
def RS.put (s : RS) (name : Str) (attrs : List Attr) (text : Str) : RS := ⟨s.l ++ [⟨name, attrs, text, s.here⟩], s.op, s.bad || decide (2000 < (s.l.length : Int) + 1)⟩
/-- The last place below n with that up; -1: none. -/
def lastUp (l : List Flat) (h : Int) : Nat → Int
  | 0 => -1
  | n + 1 => if (l.getD n dFlat).up = h then (n : Int) else lastUp l h n
def RS.last (s : RS) : Int := lastUp s.l s.here s.l.length
def nameAt (s : RS) (i : Int) : Str := (s.l.getD i.toNat dFlat).name
def innerN (names : List Str) (s : RS) : Nat → Nat
  | 0 => 0
  | n + 1 => if hasStr names (nameAt s (s.op.getD n 0)) then n + 1 else innerN names s n
def RS.inner (s : RS) (names : List Str) : Nat := innerN names s s.op.length
def RS.close (s : RS) (name : Str) : RS := if s.inner [name] = 0 then s else ⟨s.l, s.op.take (s.inner [name] - 1), s.bad⟩
def RS.s1 (s : RS) (name : Str) : RS := if isBlock name then s.close cP else s
def RS.s2 (s : RS) (name : Str) : RS :=
  if name == cLi && (decide (0 < s.inner [cLi, cUl, cOl]) && nameAt s (s.op.getD (s.inner [cLi, cUl, cOl] - 1) 0) == cLi) then ⟨s.l, s.op.take (s.inner [cLi, cUl, cOl] - 1), s.bad⟩ else s
def RS.s3 (s : RS) (name : Str) : RS := if isVoid name then s else ⟨s.l, s.op ++ [(s.l.length : Int) - 1], s.bad || decide (64 < (s.op.length : Int) + 1)⟩
def RS.start (s : RS) (name : Str) (attrs : List Attr) : RS := (((s.s1 name).s2 name).put name attrs []).s3 name
def addText (t : Str) (f : Flat) : Flat := ⟨f.name, f.attrs, f.text ++ t, f.up⟩
def RS.take (s : RS) (t : Token) : RS :=
  if t.kind = 1 then
    (if t.text == [] then s
     else if decide (0 ≤ s.last) && nameAt s s.last == [] then ⟨s.l.modify s.last.toNat (addText t.text), s.op, s.bad⟩
     else s.put [] [] t.text)
  else if t.kind = 2 then s.start t.name t.attrs
  else if t.kind = 3 then
    (if s.inner [t.name] = 0 then
      (let s1 := if t.name == cP then (s.start cP []).close cP else s
       if t.name == cBr then s1.start cBr [] else s1)
     else s.close t.name)
  else s
def RS.run : RS → List Token → RS
  | s, [] => s
  | s, t :: ts => if s.bad then s else (s.take t).run ts
/-- The nodes within one. -/
def kidsAt (l : List Flat) (up : Int) : List Nat := (List.range l.length).filter fun i => decide (up < (i : Int)) && (l.getD i dFlat).up == up
def kidsN : Nat → List Flat → Int → List Node
  | 0, _, _ => []
  | n + 1, l, up => (kidsAt l up).map fun i => .mk (l.getD i dFlat).name (l.getD i dFlat).attrs (l.getD i dFlat).text (if (l.getD i dFlat).name == [] then [] else kidsN n l i)
def kidsF (l : List Flat) (up : Int) : List Node := kidsN (l.length + 1) l up
def refBuild (l : List Token) : List Node × Int := if ((RS.mk [] [] false).run l).bad then ([], 5) else (kidsF ((RS.mk [] [] false).run l).l (-1), 0)

inductive FlatCells (m : Mem) : List Flat → List Value → Prop
  | nil : FlatCells m [] []
  | cons {f : Flat} {xs : List Flat} {va : Value} {cs : List Value} (ha : RdAttrs m va f.attrs) (h2 : FlatCells m xs cs) :
    FlatCells m (f :: xs) (.string ⟨f.name.toArray⟩ :: va :: .string ⟨f.text.toArray⟩ :: .slice none 0 0 :: .int .i64 f.up :: cs)
theorem FlatCells.append {m : Mem} {xs ys : List Flat} {cs ds : List Value} (h : FlatCells m xs cs) (k : FlatCells m ys ds) : FlatCells m (xs ++ ys) (cs ++ ds) := by
  induction h with
  | nil => exact k
  | cons ha h2 ih => exact .cons ha ih
theorem FlatCells.length {m : Mem} {xs : List Flat} {cs : List Value} (h : FlatCells m xs cs) : cs.length = xs.length * 5 := by
  induction h with
  | nil => rfl
  | cons ha h2 ih => simp; omega
theorem FlatCells.get {m : Mem} {xs : List Flat} {cs : List Value} (h : FlatCells m xs cs) : ∀ (i : Nat), i < xs.length →
    ∃ va, cs[i * 5]? = some (.string ⟨(xs.getD i dFlat).name.toArray⟩) ∧ cs[i * 5 + 1]? = some va ∧ cs[i * 5 + 2]? = some (.string ⟨(xs.getD i dFlat).text.toArray⟩) ∧ cs[i * 5 + 3]? = some (.slice none 0 0) ∧ cs[i * 5 + 4]? = some (.int .i64 (xs.getD i dFlat).up) ∧ RdAttrs m va (xs.getD i dFlat).attrs := by
  induction h with
  | nil => intro i hx; simp at hx
  | @cons f xs va cs ha h2 ih =>
    intro i hx
    cases i with
    | zero => exact ⟨va, rfl, rfl, rfl, rfl, rfl, ha⟩
    | succ i =>
      obtain ⟨va', e1, e2, e3, e4, e5, r⟩ := ih i (by simpa using hx)
      refine ⟨va', ?_, ?_, ?_, ?_, ?_, r⟩
      · rw [show (i + 1) * 5 = i * 5 + 5 from by omega]; simpa using e1
      · rw [show (i + 1) * 5 + 1 = i * 5 + 1 + 5 from by omega]; simpa using e2
      · rw [show (i + 1) * 5 + 2 = i * 5 + 2 + 5 from by omega]; simpa using e3
      · rw [show (i + 1) * 5 + 3 = i * 5 + 3 + 5 from by omega]; simpa using e4
      · rw [show (i + 1) * 5 + 4 = i * 5 + 4 + 5 from by omega]; simpa using e5
def intCells (xs : List Int) : List Value := xs.map fun i => .int .i64 i
/-- The blocks of the builder's own. -/
def fpF (g : Nat) (lv ov : Value) (k : Nat) : Prop := k = g ∨ lv.ownBlock = some k ∨ ov.ownBlock = some k
structure IsF (m : Mem) (w : World) (base g : Nat) (s : RS) (lv : Value) (lc : List Value) (ov : Value) : Prop where
  hm : m.ok w
  obj : w.heap[g]? = some (.cells #[lv, ov, .bool s.bad] 48 (0, 0))
  rl : w.ownsRow base 62 5 lv s.l.length lc
  ro : w.ownsRow base 3 1 ov s.op.length (intCells s.op)
  cl : FlatCells m s.l lc
  fr : ∀ k, fpF g lv ov k → m.free k
  bs : base ≤ g
  ix : ∀ i ∈ s.op, 0 ≤ i ∧ i < (s.l.length : Int)
theorem own_type {w : World} {base : Nat} {e : TypeId} {size n : Nat} {v : Value} {xs : List Value} (h : w.ownsRow base e size v n xs) {k : Nat} (hk : v.ownBlock = some k) : ∃ cur, w.heap[k]? = some (.cells cur e (0, 0)) := by
  rcases h.2 with ⟨rfl, _⟩ | ⟨g, cap, cur, rfl, _, hh, _⟩
  · simp [Value.ownBlock] at hk
  · simp [Value.ownBlock] at hk; subst hk; exact ⟨cur, hh⟩
/-- The three blocks are three. -/
theorem IsF.apart {m : Mem} {w : World} {base g : Nat} {s : RS} {lv : Value} {lc : List Value} {ov : Value} (h : IsF m w base g s lv lc ov) : lv.ownBlock ≠ some g ∧ ov.ownBlock ≠ some g ∧ ∀ k, lv.ownBlock = some k → ov.ownBlock ≠ some k := by
  refine ⟨fun e => ?_, fun e => ?_, fun k e1 e2 => ?_⟩
  · obtain ⟨c, hc⟩ := own_type h.rl e; have := h.obj.symm.trans hc; simp at this
  · obtain ⟨c, hc⟩ := own_type h.ro e; have := h.obj.symm.trans hc; simp at this
  · obtain ⟨c, hc⟩ := own_type h.rl e1; obtain ⟨c', hc'⟩ := own_type h.ro e2; have := hc.symm.trans hc'; simp at this
theorem IsF.ch {m : Mem} {w w' : World} {base g : Nat} {s : RS} {lv : Value} {lc : List Value} {ov : Value} (h : IsF m w base g s lv lc ov) {S : Nat → Prop} (hc : Ch S w w') (hS : ∀ k, S k → m.free k ∧ ¬ fpF g lv ov k) : IsF m w' base g s lv lc ov where
  hm := h.hm.ch hc (fun k hk => (hS k hk).1)
  obj := hc.heap h.obj (fun hs => (hS _ hs).2 (.inl rfl))
  rl := hc.own h.rl (fun k hk hs => (hS _ hs).2 (.inr (.inl hk)))
  ro := hc.own h.ro (fun k hk hs => (hS _ hs).2 (.inr (.inr hk)))
  cl := h.cl
  fr := h.fr
  bs := h.bs
  ix := h.ix
theorem IsF.lt {m : Mem} {w : World} {base g : Nat} {s : RS} {lv : Value} {lc : List Value} {ov : Value} (h : IsF m w base g s lv lc ov) : ∀ k, fpF g lv ov k → base ≤ k ∧ k < w.heap.size := by
  rintro k (rfl | hk | hk)
  · exact ⟨h.bs, (Array.getElem?_eq_some_iff.1 h.obj).1⟩
  · exact h.rl.lt k hk
  · exact h.ro.lt k hk
def FPost (m : Mem) (base g : Nat) (w : World) (lv ov : Value) (s' : RS) (w' : World) : Prop :=
  ∃ lv' lc' ov', IsF m w' base g s' lv' lc' ov' ∧ Ch (fpF g lv ov) w w' ∧ ∀ k, fpF g lv' ov' k → fpF g lv ov k ∨ w.heap.size ≤ k
theorem FPost.refl {m : Mem} {w : World} {base g : Nat} {s : RS} {lv : Value} {lc : List Value} {ov : Value} (h : IsF m w base g s lv lc ov) : FPost m base g w lv ov s w := ⟨lv, lc, ov, h, Ch.refl _ w, fun _ h => .inl h⟩
theorem FPost.step {m : Mem} {w w1 w2 : World} {base g : Nat} {s2 : RS} {lv ov lv1 ov1 : Value} (c1 : Ch (fpF g lv ov) w w1) (n1 : ∀ k, fpF g lv1 ov1 k → fpF g lv ov k ∨ w.heap.size ≤ k) (h : FPost m base g w1 lv1 ov1 s2 w2) : FPost m base g w lv ov s2 w2 := by
  obtain ⟨lv2, lc2, ov2, i2, c2, n2⟩ := h
  exact ⟨lv2, lc2, ov2, i2, c1.trans c2 n1, fun k hk => (n2 k hk).elim (n1 k) (fun h => .inr (Nat.le_trans c1.size h))⟩
theorem FPost.ahead {m : Mem} {w w1 w2 : World} {base g : Nat} {s2 : RS} {lv ov : Value} (hc : Ch (fun _ => False) w w1) (h : FPost m base g w1 lv ov s2 w2) : FPost m base g w lv ov s2 w2 :=
  FPost.step (hc.mono (fun _ h => h.elim)) (fun _ h => .inl h) h

end Go.Proofs.Ytlfimcpceiemnaa

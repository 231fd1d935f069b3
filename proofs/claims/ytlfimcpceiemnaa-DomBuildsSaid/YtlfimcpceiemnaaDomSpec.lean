/- dom.Build as plain Lean: what each method of the builder does to the stack (the innermost element first). -/
import Derived.Test.YtlfimcpceiemnaaDomW3
set_option linter.unusedVariables false
namespace Go.Proofs.Ytlfimcpceiemnaa

def addKid (n x : Node) : Node := .mk n.name n.attrs n.text (n.kids ++ [x])
def putS (x : Node) : List Node → List Node
  | top :: rest => addKid top x :: rest
  | [] => []
def shutS : List Node → List Node
  | top :: p :: rest => addKid p top :: rest
  | l => l
def shutN : Nat → List Node → List Node
  | 0, t => t
  | n + 1, t => shutN n (shutS t)
/-- The place of the innermost element of some names; the whole tree is at 0. -/
def innerS (names : List Str) : List Node → Nat
  | [] => 0
  | [_] => 0
  | top :: p :: rest => if hasStr names top.name then rest.length + 1 else innerS names (p :: rest)
def closeS (name : Str) (t : List Node) : List Node := if 0 < innerS [name] t then shutN (t.length - innerS [name] t) t else t
structure BS where
  st : List Node
  many : Int
  over : Bool
def BS.count (s : BS) : BS := ⟨s.st, s.many + 1, s.over || decide (64 < (s.st.length : Int) - 1) || decide (2000 < s.many + 1)⟩
def BS.close (s : BS) (name : Str) : BS := ⟨closeS name s.st, s.many, s.over⟩
def cLi : Str := [108, 105]
def cUl : Str := [117, 108]
def cOl : Str := [111, 108]
def cP : Str := [112]
def cBr : Str := [98, 114]
/-- The element at a place counted from the whole tree. -/
def atS (t : List Node) (i : Nat) : Node := t.reverse.getD i (.mk [] [] [] [])
def liS (t : List Node) (name : Str) : Bool := name == cLi && (decide (0 < innerS [cLi, cUl, cOl] t) && (atS t (innerS [cLi, cUl, cOl] t)).name == cLi)
def BS.s1 (s : BS) (name : Str) : BS := if isBlock name then s.close cP else s
def BS.s2 (s : BS) (name : Str) : BS := if liS s.st name then s.close cLi else s
def BS.s3 (s : BS) (name : Str) (attrs : List Attr) : BS := if isVoid name then ⟨putS (.mk name attrs [] []) s.st, s.many, s.over⟩ else ⟨.mk name attrs [] [] :: s.st, s.many, s.over⟩
def BS.start (s : BS) (name : Str) (attrs : List Attr) : BS := (((s.s1 name).s2 name).s3 name attrs).count
theorem BS.s1_rest (s : BS) (name : Str) : (s.s1 name).many = s.many ∧ (s.s1 name).over = s.over := by unfold BS.s1 BS.close; split <;> exact ⟨rfl, rfl⟩
theorem BS.s2_rest (s : BS) (name : Str) : (s.s2 name).many = s.many ∧ (s.s2 name).over = s.over := by unfold BS.s2 BS.close; split <;> exact ⟨rfl, rfl⟩
theorem BS.s3_rest (s : BS) (name : Str) (attrs : List Attr) : (s.s3 name attrs).many = s.many ∧ (s.s3 name attrs).over = s.over := by unfold BS.s3; split <;> exact ⟨rfl, rfl⟩
/-- Text behind the last kid, if that is a text. -/
def joinText (t : Str) : List Node → List Node
  | [] => []
  | [x] => [.mk x.name x.attrs (x.text ++ t) x.kids]
  | x :: y :: xs => x :: joinText t (y :: xs)
def lastIsText (l : List Node) : Bool := match l.getLast? with | some x => x.name == [] | none => false
def BS.text (s : BS) (t : Str) : BS :=
  if t == [] then s else
  match s.st with
  | top :: rest => if lastIsText top.kids then ⟨.mk top.name top.attrs top.text (joinText t top.kids) :: rest, s.many, s.over⟩ else (⟨putS (.mk [] [] t []) s.st, s.many, s.over⟩ : BS).count
  | [] => s
def BS.stop (s : BS) (name : Str) : BS :=
  if 0 < innerS [name] s.st then s.close name
  else if name == cP then (s.start name []).close name
  else if name == cBr then s.start name []
  else s
def BS.take (s : BS) (t : Token) : BS :=
  if t.kind = 1 then s.text t.text else if t.kind = 2 then s.start t.name t.attrs else if t.kind = 3 then s.stop t.name else s
/-- All tokens; none: too many, or too deep. -/
def BS.run : BS → List Token → Option BS
  | s, [] => some s
  | s, t :: ts => if (s.take t).over then none else (s.take t).run ts
def rootNode : Node := .mk [] [] [] []
def treeOf (s : BS) : List Node := match shutN (s.st.length - 1) s.st with | [r] => r.kids | _ => []
/-- dom.Build. -/
def buildF (l : List Token) : List Node × Int := match (BS.mk [rootNode] 0 false).run l with | some s => (treeOf s, 0) | none => ([], 5)

/-- How much the stack bears. -/
def loadS : List Node → Nat
  | [] => 0
  | x :: xs => x.kids.length + 1 + loadS xs
theorem length_le_load (t : List Node) : t.length ≤ loadS t := by
  induction t with
  | nil => simp [loadS]
  | cons x xs ih => simp [loadS]; omega
theorem load_shut (t : List Node) : loadS (shutS t) ≤ loadS t := by
  match t with
  | [] => simp [shutS]
  | [_] => simp [shutS]
  | top :: p :: rest => simp [shutS, loadS, addKid, Node.kids]; omega
theorem load_shutN (n : Nat) : ∀ t, loadS (shutN n t) ≤ loadS t := by
  induction n with
  | zero => intro t; exact Nat.le_refl _
  | succ n ih => intro t; exact Nat.le_trans (ih _) (load_shut t)
theorem load_close (name : Str) (t : List Node) : loadS (closeS name t) ≤ loadS t := by
  unfold closeS; split
  · exact load_shutN _ _
  · exact Nat.le_refl _
theorem length_shutS (t : List Node) (h : 2 ≤ t.length) : (shutS t).length = t.length - 1 := by
  match t, h with
  | top :: p :: rest, _ => simp [shutS]
theorem innerS_lt (names : List Str) : ∀ t : List Node, t ≠ [] → innerS names t < t.length
  | [], h => absurd rfl h
  | [_], _ => by simp [innerS]
  | top :: p :: rest, _ => by
    simp only [innerS]
    split
    · simp
    · have := innerS_lt names (p :: rest) (by simp)
      simp at this ⊢; omega
theorem length_shutN (n : Nat) : ∀ t : List Node, n < t.length → (shutN n t).length = t.length - n := by
  induction n with
  | zero => intro t _; simp [shutN]
  | succ n ih =>
    intro t h
    have h2 := length_shutS t (by omega)
    rw [shutN, ih _ (by omega), h2]; omega
theorem closeS_ne (name : Str) (t : List Node) (h : t ≠ []) : closeS name t ≠ [] := by
  unfold closeS
  split
  · rename_i h0
    have h1 := innerS_lt [name] t h
    have := length_shutN (t.length - innerS [name] t) t (by have : 0 < t.length := List.length_pos_iff.2 h; omega)
    intro e
    rw [e] at this
    simp at this
    omega
  · exact h

theorem BS.s1_st (s : BS) (name : Str) (h : s.st ≠ []) : (s.s1 name).st ≠ [] ∧ loadS (s.s1 name).st ≤ loadS s.st := by
  unfold BS.s1; split
  · exact ⟨closeS_ne _ _ h, load_close _ _⟩
  · exact ⟨h, Nat.le_refl _⟩
theorem BS.s2_st (s : BS) (name : Str) (h : s.st ≠ []) : (s.s2 name).st ≠ [] ∧ loadS (s.s2 name).st ≤ loadS s.st := by
  unfold BS.s2; split
  · exact ⟨closeS_ne _ _ h, load_close _ _⟩
  · exact ⟨h, Nat.le_refl _⟩
theorem load_put (x : Node) (t : List Node) : loadS (putS x t) ≤ loadS t + 1 := by
  cases t with
  | nil => simp [putS, loadS]
  | cons a r => simp [putS, loadS, addKid, Node.kids]; omega
theorem BS.s3_st (s : BS) (name : Str) (attrs : List Attr) (h : s.st ≠ []) : (s.s3 name attrs).st ≠ [] ∧ loadS (s.s3 name attrs).st ≤ loadS s.st + 1 := by
  unfold BS.s3; split
  · refine ⟨?_, load_put _ _⟩
    obtain ⟨st, _, _⟩ := s
    cases st with
    | nil => exact absurd rfl h
    | cons a r => simp [putS]
  · refine ⟨by simp, ?_⟩
    simp [loadS, Node.kids]; omega

end Go.Proofs.Ytlfimcpceiemnaa

/- Both builders in plain Lean: the flat list seen as the stack of open elements. -/
import Derived.Test.YtlfimcpceiemnaaDomLaw1
set_option linter.unusedVariables false
namespace Go.Proofs.Ytlfimcpceiemnaa

abbrev fAt (l : List Flat) (i : Nat) : Flat := l.getD i dFlat
def upOf : List Nat → Int
  | [] => -1
  | o :: _ => o
def Ups (l : List Flat) : Prop := ∀ i, i < l.length → -1 ≤ (fAt l i).up ∧ (fAt l i).up < i
def Chain (l : List Flat) : List Nat → Prop
  | [] => True
  | o :: os => o < l.length ∧ (fAt l o).up = upOf os ∧ (∀ i, o < i → i < l.length → (fAt l i).up ≠ upOf os) ∧ (fAt l o).name ≠ [] ∧ (fAt l o).text = [] ∧ Chain l os
def nodeOf (l : List Flat) (i : Nat) : Node := .mk (fAt l i).name (fAt l i).attrs (fAt l i).text (if (fAt l i).name == [] then [] else kidsF l i)

theorem mem_kidsAt {l : List Flat} {up : Int} {i : Nat} : i ∈ kidsAt l up ↔ i < l.length ∧ up < (i : Int) ∧ (fAt l i).up = up := by
  simp [kidsAt, fAt, List.mem_filter]
theorem kidsN_step (l : List Flat) : ∀ (n : Nat) (up : Int), (l.length : Int) ≤ up + n + 1 → kidsN (n + 1) l up = kidsN n l up
  | 0, up, h => by
    have : kidsAt l up = [] := by
      apply List.eq_nil_iff_forall_not_mem.2
      intro i hi
      have := mem_kidsAt.1 hi
      omega
    simp [kidsN, this]
  | n + 1, up, h => by
    rw [kidsN, kidsN]
    apply List.map_congr_left
    intro i hi
    have := mem_kidsAt.1 hi
    rw [kidsN_step l n i (by omega)]
theorem kidsF_eq (l : List Flat) (up : Int) (h : -1 ≤ up) : kidsF l up = (kidsAt l up).map (nodeOf l) := by
  rw [kidsF, kidsN]
  apply List.map_congr_left
  intro i hi
  have := mem_kidsAt.1 hi
  rw [nodeOf, kidsF, kidsN_step l l.length i (by omega)]
/-- What is alike in two lists. -/
theorem kidsN_same {l l' : List Flat} (Q : Nat → Prop) (H : ∀ i, Q i → fAt l' i = fAt l i ∧ kidsAt l' i = kidsAt l i ∧ ∀ k ∈ kidsAt l i, Q k) :
    ∀ (n i : Nat), Q i → kidsN n l' i = kidsN n l i
  | 0, _, _ => rfl
  | n + 1, i, q => by
    obtain ⟨h1, h2, h3⟩ := H i q
    rw [kidsN, kidsN, h2]
    apply List.map_congr_left
    intro k hk
    have hf := (H k (h3 k hk)).1
    simp only [fAt] at hf
    rw [hf, kidsN_same Q H n k (h3 k hk)]
theorem nodeOf_same {l l' : List Flat} (hl : l'.length = l.length ∨ l'.length = l.length + 1) (Q : Nat → Prop) (H : ∀ i, Q i → fAt l' i = fAt l i ∧ kidsAt l' i = kidsAt l i ∧ ∀ k ∈ kidsAt l i, Q k) (i : Nat) (q : Q i) : nodeOf l' i = nodeOf l i := by
  obtain ⟨h1, h2, h3⟩ := H i q
  have hk : kidsF l' i = kidsF l i := by
    rw [kidsF, kidsF, kidsN_same Q H _ i q]
    rcases hl with hl | hl
    · rw [hl]
    · rw [hl, kidsN_step l (l.length + 1) i (by omega)]
  rw [nodeOf, nodeOf, h1, hk]

theorem upOf_ge (os : List Nat) : -1 ≤ upOf os := by cases os <;> simp [upOf] <;> omega
theorem Chain.le {l : List Flat} (hu : Ups l) : ∀ {t : List Nat}, Chain l t → ∀ y ∈ t, (y : Int) ≤ upOf t
  | [], _, y, hy => by simp at hy
  | z :: t, h, y, hy => by
    obtain ⟨h1, h2, h3, h4, h5, h6⟩ := h
    rcases List.mem_cons.1 hy with rfl | hy
    · exact Int.le_refl _
    · have := h6.le hu y hy
      have := (hu z h1).2
      simp only [upOf]; omega
theorem Chain.lt {l : List Flat} : ∀ {t : List Nat}, Chain l t → ∀ y ∈ t, y < l.length
  | [], _, y, hy => by simp at hy
  | z :: t, h, y, hy => by
    rcases List.mem_cons.1 hy with rfl | hy
    · exact h.1
    · exact h.2.2.2.2.2.lt y hy
theorem Chain.name {l : List Flat} : ∀ {t : List Nat}, Chain l t → ∀ y ∈ t, (fAt l y).name ≠ []
  | [], _, y, hy => by simp at hy
  | z :: t, h, y, hy => by
    rcases List.mem_cons.1 hy with rfl | hy
    · exact h.2.2.2.1
    · exact h.2.2.2.2.2.name y hy
theorem Chain.up {l : List Flat} : ∀ {t : List Nat}, Chain l t → ∀ y ∈ t, (fAt l y).up = -1 ∨ ∃ z ∈ t, (fAt l y).up = (z : Int)
  | [], _, y, hy => by simp at hy
  | z :: t, h, y, hy => by
    rcases List.mem_cons.1 hy with rfl | hy
    · rw [h.2.1]
      cases t with
      | nil => exact .inl rfl
      | cons a b => exact .inr ⟨a, by simp, rfl⟩
    · rcases h.2.2.2.2.2.up y hy with h | ⟨a, ha, h⟩
      · exact .inl h
      · exact .inr ⟨a, by simp [ha], h⟩
theorem Chain.up_lt {l : List Flat} (hu : Ups l) {t : List Nat} (h : Chain l t) {y : Nat} (hy : y ∈ t) : (fAt l y).up < upOf t := by
  have h1 := h.le hu y hy
  have h2 := (hu y (h.lt y hy)).2
  omega
theorem Chain.upOf_mem {l : List Flat} {t : List Nat} {i : Nat} (h : upOf t = (i : Int)) : i ∈ t := by
  cases t with
  | nil => simp only [upOf] at h; omega
  | cons a b =>
    simp only [upOf] at h
    have : a = i := by omega
    subst this; simp
theorem Chain.suffix {l : List Flat} : ∀ {t s : List Nat}, Chain l t → s <:+ t → Chain l s
  | [], s, h, hs => by rw [List.suffix_nil.1 hs]; exact trivial
  | z :: t, s, h, hs => by
    rcases List.suffix_cons_iff.1 hs with rfl | hs
    · exact h
    · exact h.2.2.2.2.2.suffix hs
theorem Chain.apart {l : List Flat} (hu : Ups l) {o : Nat} {os : List Nat} : ∀ {t : List Nat}, Chain l t → (o :: os) <:+ t → ∀ i ∈ t, (fAt l i).up = upOf os → i = o
  | [], h, hs, i, hi, _ => by simp at hi
  | z :: t, h, hs, i, hi, he => by
    obtain ⟨h1, h2, h3, h4, h5, h6⟩ := h
    rcases List.suffix_cons_iff.1 hs with e | hs2
    · injection e with e1 e2
      subst e1; subst e2
      rcases List.mem_cons.1 hi with rfl | hi
      · rfl
      · exact absurd he (Int.ne_of_lt (h6.up_lt hu hi))
    · rcases List.mem_cons.1 hi with rfl | hi
      · have ho : o ∈ t := hs2.subset (List.mem_cons_self)
        have a1 := h6.le hu o ho
        have a2 := h6.suffix hs2
        have a3 := (hu o a2.1).2
        rw [a2.2.1] at a3
        rw [h2] at he
        omega
      · exact h6.apart hu hs2 i hi he

def kidsBut (l : List Flat) (up : Int) (c : Option Nat) : List Node := ((kidsAt l up).filter fun i => decide (some i ≠ c)).map (nodeOf l)
def mkS (l : List Flat) : Option Nat → List Nat → List Node
  | c, [] => [.mk [] [] [] (kidsBut l (-1) c)]
  | c, o :: os => .mk (fAt l o).name (fAt l o).attrs [] (kidsBut l o c) :: mkS l (some o) os
theorem kidsBut_none (l : List Flat) (up : Int) : kidsBut l up none = (kidsAt l up).map (nodeOf l) := by
  rw [kidsBut, List.filter_eq_self.2 (by simp)]
theorem mkS_length (l : List Flat) : ∀ (t : List Nat) (c : Option Nat), (mkS l c t).length = t.length + 1
  | [], _ => rfl
  | o :: os, c => by rw [mkS, List.length_cons, mkS_length l os]; rfl
theorem upOf_ne {l : List Flat} (hu : Ups l) {t : List Nat} (h : Chain l t) {o : Nat} {os : List Nat} (hs : (o :: os) <:+ t) : upOf os < upOf t := by
  have h2 := h.suffix hs
  have a := h.le hu o (hs.subset (by simp))
  have b := (hu o h2.1).2
  rw [h2.2.1] at b
  omega
theorem kidsBut_same {l l' : List Flat} {t : List Nat} (hu : Ups l) (h : Chain l t)
    (hn : ∀ i, i < l.length → i ∉ t → (fAt l i).up ≠ upOf t → nodeOf l' i = nodeOf l i) (hk : ∀ up : Int, up ≠ upOf t → -1 ≤ up → up < l.length → kidsAt l' up = kidsAt l up)
    {o : Nat} {os : List Nat} (hs : (o :: os) <:+ t) : kidsBut l' (upOf os) (some o) = kidsBut l (upOf os) (some o) := by
  have hne := upOf_ne hu h hs
  have h2 := h.suffix hs
  have b := (hu o h2.1).2
  rw [h2.2.1] at b
  rw [kidsBut, kidsBut, hk _ (by omega) (upOf_ge _) (by have := h2.1; omega)]
  apply List.map_congr_left
  intro i hi
  obtain ⟨hi1, hi2⟩ := List.mem_filter.1 hi
  obtain ⟨a1, a2, a3⟩ := mem_kidsAt.1 hi1
  refine hn i a1 (fun hm => ?_) (by omega)
  have := h.apart hu hs i hm a3
  subst this
  simp at hi2
theorem mkS_same {l l' : List Flat} {t : List Nat} (hu : Ups l) (h : Chain l t)
    (hn : ∀ i, i < l.length → i ∉ t → (fAt l i).up ≠ upOf t → nodeOf l' i = nodeOf l i) (hk : ∀ up : Int, up ≠ upOf t → -1 ≤ up → up < l.length → kidsAt l' up = kidsAt l up)
    (hf : ∀ o ∈ t, fAt l' o = fAt l o) : ∀ {os : List Nat} {o : Nat}, (o :: os) <:+ t → mkS l' (some o) os = mkS l (some o) os
  | [], o, hs => by
    have := kidsBut_same hu h hn hk hs
    simp only [upOf] at this
    rw [mkS, mkS, this]
  | a :: os, o, hs => by
    have := kidsBut_same hu h hn hk hs
    simp only [upOf] at this
    rw [mkS, mkS, this, hf a (hs.subset (by simp)), mkS_same hu h hn hk hf (os := os) (o := a) ((List.suffix_cons o (a :: os)).trans hs)]

theorem filter_last (p : Nat → Bool) (o : Nat) (hp : p o = true) : ∀ n, o < n → (∀ i, o < i → i < n → p i = false) →
    (List.range n).filter p = (((List.range n).filter p).filter fun i => decide (some i ≠ some o)) ++ [o]
  | 0, h, _ => absurd h (Nat.not_lt_zero _)
  | n + 1, h, hi => by
    rw [List.range_succ, List.filter_append]
    by_cases e : o = n
    · subst e
      have h1 : [o].filter p = [o] := by simp [hp]
      rw [h1, List.filter_append]
      have h2 : ((List.range o).filter p).filter (fun i => decide (some i ≠ some o)) = (List.range o).filter p := by
        apply List.filter_eq_self.2
        intro a ha
        have := List.mem_range.1 (List.mem_filter.1 ha).1
        simp; omega
      rw [h2]
      simp
    · have h1 : [n].filter p = [] := by simp [hi n (by omega) (by omega)]
      rw [h1, List.append_nil]
      exact filter_last p o hp n (by omega) (fun i a b => hi i a (by omega))
/-- Closing. -/
theorem kids_last {l : List Flat} (hu : Ups l) {o : Nat} {os : List Nat} (h : Chain l (o :: os)) : kidsBut l (upOf os) none = kidsBut l (upOf os) (some o) ++ [nodeOf l o] := by
  obtain ⟨h1, h2, h3, h4, h5, h6⟩ := h
  rw [kidsBut_none, kidsBut]
  have hb := (hu o h1).2
  rw [h2] at hb
  have key : kidsAt l (upOf os) = ((kidsAt l (upOf os)).filter fun i => decide (some i ≠ some o)) ++ [o] := by
    refine filter_last _ o ?_ l.length h1 ?_
    · rw [Bool.and_eq_true]
      exact ⟨decide_eq_true hb, beq_iff_eq.2 h2⟩
    · intro i a b
      rw [Bool.and_eq_false_iff]
      exact .inr (beq_eq_false_iff_ne.2 (h3 i a b))
  conv => lhs; rw [key]
  simp
theorem nodeOf_open {l : List Flat} {o : Nat} {os : List Nat} (h : Chain l (o :: os)) : nodeOf l o = .mk (fAt l o).name (fAt l o).attrs [] (kidsBut l o none) := by
  obtain ⟨h1, h2, h3, h4, h5, h6⟩ := h
  rw [nodeOf, h5, if_neg (by simpa using h4), kidsBut_none, kidsF_eq _ _ (by omega)]
theorem shut_mkS {l : List Flat} (hu : Ups l) {o : Nat} {os : List Nat} (h : Chain l (o :: os)) : shutS (mkS l none (o :: os)) = mkS l none os := by
  have hk := kids_last hu h
  rw [nodeOf_open h] at hk
  cases os with
  | nil => simp only [mkS, shutS, addKid, Node.name, Node.attrs, Node.text, Node.kids]; simp only [upOf] at hk; rw [hk]
  | cons a os => simp only [mkS, shutS, addKid, Node.name, Node.attrs, Node.text, Node.kids]; simp only [upOf] at hk; rw [hk]
theorem shutN_mkS {l : List Flat} (hu : Ups l) : ∀ (n : Nat) (t : List Nat), Chain l t → n ≤ t.length → shutN n (mkS l none t) = mkS l none (t.drop n)
  | 0, t, _, _ => rfl
  | n + 1, [], _, h => absurd h (by simp)
  | n + 1, o :: os, h, hn => by rw [shutN, shut_mkS hu h, shutN_mkS hu n os h.2.2.2.2.2 (by simpa using hn)]; rfl

/-- The innermost of some names. -/
def innerL (names : List Str) (l : List Flat) : List Nat → Nat
  | [] => 0
  | o :: os => if hasStr names (fAt l o).name then os.length + 1 else innerL names l os
theorem innerS_mkS (names : List Str) (l : List Flat) : ∀ (t : List Nat) (c : Option Nat), innerS names (mkS l c t) = innerL names l t
  | [], _ => rfl
  | o :: os, c => by
    have ih := innerS_mkS names l os (some o)
    have hl := mkS_length l os (some o)
    rw [mkS, innerL]
    generalize mkS l (some o) os = r at ih hl
    cases r with
    | nil => simp at hl
    | cons p rest =>
      simp only [innerS, Node.name]
      rw [ih, show rest.length = os.length from by simpa using hl]
      by_cases e : hasStr names (fAt l o).name = true <;> simp [e]
def opOf (t : List Nat) : List Int := (t.reverse.map fun (i : Nat) => (i : Int))
theorem opOf_length (t : List Nat) : (opOf t).length = t.length := by simp [opOf]
theorem opOf_cons (o : Nat) (os : List Nat) : opOf (o :: os) = opOf os ++ [(o : Int)] := by simp [opOf]
theorem opOf_last (t : List Nat) : (opOf t).getLastD (-1) = upOf t := by
  cases t with
  | nil => rfl
  | cons o os => simp [opOf, upOf]
theorem opOf_drop (t : List Nat) (n : Nat) (h : n ≤ t.length) : (opOf t).take n = opOf (t.drop (t.length - n)) := by
  rw [opOf, opOf, ← List.map_take, List.take_reverse]
theorem innerN_pre (names : List Str) (l : List Flat) (a b : List Int) (x y : Bool) : ∀ n, n ≤ a.length → innerN names ⟨l, a ++ b, x⟩ n = innerN names ⟨l, a, y⟩ n
  | 0, _ => rfl
  | n + 1, h => by
    simp only [innerN, nameAt]
    rw [innerN_pre names l a b x y n (by omega), show (a ++ b).getD n 0 = a.getD n 0 from by rw [List.getD_eq_getElem?_getD, List.getD_eq_getElem?_getD, List.getElem?_append_left (by omega)]]
    by_cases e : hasStr names (l.getD (a.getD n 0).toNat dFlat).name = true <;> simp only [e, if_true, if_false]
theorem innerN_opOf (names : List Str) (l : List Flat) (x : Bool) : ∀ t : List Nat, innerN names ⟨l, opOf t, x⟩ t.length = innerL names l t
  | [] => rfl
  | o :: os => by
    have h1 : (opOf os ++ [(o : Int)]).getD os.length 0 = o := by
      rw [List.getD_eq_getElem?_getD, List.getElem?_append_right (by rw [opOf_length]; omega), opOf_length]; simp
    rw [opOf_cons, innerL, List.length_cons, innerN, innerN_pre names l _ _ x x _ (by rw [opOf_length]; omega), innerN_opOf names l x os]
    simp only [nameAt, h1, Int.toNat_natCast, fAt]
theorem innerL_split (names : List Str) (l : List Flat) : ∀ t : List Nat, 0 < innerL names l t → ∃ pre o os, t = pre ++ o :: os ∧ innerL names l t = os.length + 1 ∧ hasStr names (fAt l o).name = true ∧ ∀ a ∈ pre, hasStr names (fAt l a).name = false
  | [], h => absurd h (by simp [innerL])
  | o :: os, h => by
    rw [innerL] at h ⊢
    by_cases e : hasStr names (fAt l o).name = true
    · exact ⟨[], o, os, rfl, by rw [if_pos e], e, by simp⟩
    · rw [if_neg e] at h ⊢
      obtain ⟨pre, o', os', h1, h2, h3, h4⟩ := innerL_split names l os h
      refine ⟨o :: pre, o', os', by rw [h1]; rfl, h2, h3, ?_⟩
      intro a ha
      rcases List.mem_cons.1 ha with rfl | ha
      · simpa using e
      · exact h4 a ha
theorem innerL_pre (names : List Str) (l : List Flat) : ∀ (pre : List Nat) (o : Nat) (os : List Nat), (∀ a ∈ pre, hasStr names (fAt l a).name = false) → hasStr names (fAt l o).name = true → innerL names l (pre ++ o :: os) = os.length + 1
  | [], o, os, _, h => by rw [List.nil_append, innerL, if_pos h]
  | a :: pre, o, os, hp, h => by
    rw [List.cons_append, innerL, if_neg (by rw [hp a (by simp)]; exact Bool.false_ne_true), innerL_pre names l pre o os (fun b hb => hp b (by simp [hb])) h]
theorem innerL_le (names : List Str) (l : List Flat) (t : List Nat) : innerL names l t ≤ t.length := by
  induction t with
  | nil => exact Nat.le_refl _
  | cons o os ih => rw [innerL, List.length_cons]; split <;> omega
theorem mkS_split (l : List Flat) (o : Nat) (os : List Nat) : ∀ (pre : List Nat) (c : Option Nat), ∃ A c', mkS l c (pre ++ o :: os) = A ++ .mk (fAt l o).name (fAt l o).attrs [] (kidsBut l o c') :: mkS l (some o) os
  | [], c => ⟨[], c, rfl⟩
  | a :: pre, c => by
    obtain ⟨A, c', h⟩ := mkS_split l o os pre (some a)
    exact ⟨_ :: A, c', by rw [List.cons_append, mkS, h]; rfl⟩
end Go.Proofs.Ytlfimcpceiemnaa

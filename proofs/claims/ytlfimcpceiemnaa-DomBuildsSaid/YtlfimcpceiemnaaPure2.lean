/- Both builders in plain Lean, each step. -/
import Derived.Test.YtlfimcpceiemnaaPure1
set_option linter.unusedVariables false
namespace Go.Proofs.Ytlfimcpceiemnaa

theorem fAt_old {l : List Flat} (f : Flat) {i : Nat} (h : i < l.length) : fAt (l ++ [f]) i = fAt l i := by
  rw [fAt, fAt, List.getD_eq_getElem?_getD, List.getD_eq_getElem?_getD, List.getElem?_append_left h]
theorem fAt_new (l : List Flat) (f : Flat) : fAt (l ++ [f]) l.length = f := by
  rw [fAt, List.getD_eq_getElem?_getD, List.getElem?_append_right (Nat.le_refl _)]; simp
theorem kidsAt_put (l : List Flat) (f : Flat) (up : Int) (h : up < l.length) : kidsAt (l ++ [f]) up = kidsAt l up ++ (if f.up = up then [l.length] else []) := by
  rw [kidsAt, List.length_append, List.length_singleton, List.range_succ, List.filter_append]
  congr 1
  · apply List.filter_congr
    intro i hi
    have := List.mem_range.1 hi
    rw [show (l ++ [f]).getD i dFlat = l.getD i dFlat from fAt_old f this]
  · have := fAt_new l f
    rw [List.filter_cons, show (l ++ [f]).getD l.length dFlat = f from this]
    by_cases e : f.up = up
    · simp [e, h]
    · simp [e]
theorem upOf_lt {l : List Flat} {t : List Nat} (h : Chain l t) : upOf t < l.length := by
  cases t with
  | nil => simp only [upOf]; omega
  | cons o os => have := h.1; simp only [upOf]; omega
theorem Ups.put {l : List Flat} (hu : Ups l) {t : List Nat} (h : Chain l t) (f : Flat) (hf : f.up = upOf t) : Ups (l ++ [f]) := by
  intro i hi
  by_cases e : i < l.length
  · rw [fAt_old f e]; exact hu i e
  · have : i = l.length := by simp at hi; omega
    subst this
    rw [fAt_new, hf]
    exact ⟨upOf_ge t, upOf_lt h⟩
theorem not_mem_of_up {l : List Flat} (hu : Ups l) {t : List Nat} (h : Chain l t) {i : Nat} (e : (fAt l i).up = upOf t) : i ∉ t := fun hm => absurd e (Int.ne_of_lt (h.up_lt hu hm))
theorem kid_not_mem {l : List Flat} {t : List Nat} (h : Chain l t) {i k : Nat} (hi : i ∉ t) (e : (fAt l k).up = (i : Int)) : k ∉ t := by
  intro hk
  rcases h.up k hk with h1 | ⟨z, hz, h1⟩
  · omega
  · have : z = i := by omega
    exact hi (this ▸ hz)
theorem upOf_ne_of {t : List Nat} {i : Nat} (hi : i ∉ t) : (i : Int) ≠ upOf t := fun e => hi (Chain.upOf_mem (l := []) e.symm)
theorem node_put {l : List Flat} (hu : Ups l) {t : List Nat} (h : Chain l t) (f : Flat) (hf : f.up = upOf t) {i : Nat} (h1 : i < l.length) (h2 : i ∉ t) : nodeOf (l ++ [f]) i = nodeOf l i := by
  refine nodeOf_same (.inr (by simp)) (fun i => i < l.length ∧ i ∉ t) ?_ i ⟨h1, h2⟩
  rintro i ⟨a, b⟩
  refine ⟨fAt_old f a, ?_, ?_⟩
  · rw [kidsAt_put l f i (by omega), if_neg (by rw [hf]; exact (upOf_ne_of b).symm), List.append_nil]
  · intro k hk
    obtain ⟨c1, c2, c3⟩ := mem_kidsAt.1 hk
    exact ⟨c1, kid_not_mem h b c3⟩
theorem Chain.put {l : List Flat} (hu : Ups l) {t : List Nat} (h : Chain l t) (f : Flat) (hf : f.up = upOf t) : ∀ {s : List Nat}, s <:+ t → Chain (l ++ [f]) s
  | [], _ => trivial
  | o :: os, hs => by
    have h2 := h.suffix hs
    have hne := upOf_ne hu h hs
    refine ⟨by have := h2.1; simp; omega, by rw [fAt_old f h2.1]; exact h2.2.1, ?_, by rw [fAt_old f h2.1]; exact h2.2.2.2.1, by rw [fAt_old f h2.1]; exact h2.2.2.2.2.1, Chain.put hu h f hf ((List.suffix_cons o os).trans hs)⟩
    intro i a b
    by_cases e : i < l.length
    · rw [fAt_old f e]; exact h2.2.2.1 i a e
    · have : i = l.length := by simp at b; omega
      subst this
      rw [fAt_new, hf]; omega
theorem kidsF_new (l : List Flat) (f : Flat) (hf : f.up < l.length) : kidsF (l ++ [f]) (l.length : Int) = [] := by
  rw [kidsF_eq _ _ (by omega), List.map_eq_nil_iff]
  apply List.eq_nil_iff_forall_not_mem.2
  intro i hi
  obtain ⟨a, b, c⟩ := mem_kidsAt.1 hi
  simp at a
  omega
theorem nodeOf_new (l : List Flat) (f : Flat) (hf : f.up < l.length) : nodeOf (l ++ [f]) l.length = .mk f.name f.attrs f.text [] := by
  rw [nodeOf, fAt_new, kidsF_new l f hf]; split <;> rfl
/-- The innermost row of kids, with the new one and without. -/
theorem kids_put {l : List Flat} (hu : Ups l) {t : List Nat} (h : Chain l t) (f : Flat) (hf : f.up = upOf t) :
    kidsBut (l ++ [f]) (upOf t) none = kidsBut l (upOf t) none ++ [.mk f.name f.attrs f.text []] ∧ kidsBut (l ++ [f]) (upOf t) (some l.length) = kidsBut l (upOf t) none := by
  have hlt := upOf_lt h
  have e1 : kidsAt (l ++ [f]) (upOf t) = kidsAt l (upOf t) ++ [l.length] := by rw [kidsAt_put l f _ hlt, if_pos hf]
  have e2 : (kidsAt l (upOf t)).map (nodeOf (l ++ [f])) = (kidsAt l (upOf t)).map (nodeOf l) := by
    apply List.map_congr_left
    intro i hi
    obtain ⟨a, b, c⟩ := mem_kidsAt.1 hi
    exact node_put hu h f hf a (not_mem_of_up hu h c)
  constructor
  · rw [kidsBut_none, kidsBut_none, e1, List.map_append, e2, List.map_singleton, nodeOf_new l f (by omega)]
  · rw [kidsBut_none, kidsBut, e1, List.filter_append]
    have h1 : (kidsAt l (upOf t)).filter (fun i => decide (some i ≠ some l.length)) = kidsAt l (upOf t) := by
      apply List.filter_eq_self.2
      intro i hi
      have := (mem_kidsAt.1 hi).1
      simp; omega
    rw [h1]
    simpa using e2
theorem mkS_put {l : List Flat} (hu : Ups l) {t : List Nat} (h : Chain l t) (f : Flat) (hf : f.up = upOf t) :
    mkS (l ++ [f]) none t = putS (.mk f.name f.attrs f.text []) (mkS l none t) ∧ mkS (l ++ [f]) (some l.length) t = mkS l none t := by
  obtain ⟨k1, k2⟩ := kids_put hu h f hf
  cases t with
  | nil => simp only [upOf] at k1 k2; simp only [mkS, putS, addKid, Node.name, Node.attrs, Node.text, Node.kids, k1, k2]; trivial
  | cons o os =>
    simp only [upOf] at k1 k2
    have hs := mkS_same (l' := l ++ [f]) hu h (fun i a b _ => node_put hu h f hf a b) (fun up hne _ hlt => by rw [kidsAt_put l f up hlt, if_neg (by omega), List.append_nil])
      (fun o ho => fAt_old f (h.lt o ho)) (os := os) (o := o) (List.suffix_refl _)
    simp only [mkS, putS, addKid, Node.name, Node.attrs, Node.text, Node.kids, k1, k2, hs, fAt_old f h.1]; trivial

/-- Text behind the last kid. -/
theorem fAt_mod (l : List Flat) (j : Nat) (x : Str) (i : Nat) (hj : j < l.length) : fAt (l.modify j (addText x)) i = if i = j then addText x (fAt l j) else fAt l i := by
  rw [fAt, List.getD_eq_getElem?_getD, List.getElem?_modify]
  by_cases e : j = i
  · subst e
    rw [if_pos rfl, fAt, List.getD_eq_getElem?_getD, List.getElem?_eq_getElem hj]; simp
  · rw [if_neg (Ne.symm e), fAt, List.getD_eq_getElem?_getD]; simp [e]
theorem kidsAt_mod (l : List Flat) (j : Nat) (x : Str) (hj : j < l.length) (up : Int) : kidsAt (l.modify j (addText x)) up = kidsAt l up := by
  rw [kidsAt, List.length_modify, kidsAt]
  apply List.filter_congr
  intro i hi
  rw [show (l.modify j (addText x)).getD i dFlat = _ from fAt_mod l j x i hj]
  split
  · rename_i e; subst e; rfl
  · rfl
theorem Ups.mod {l : List Flat} (hu : Ups l) {j : Nat} (hj : j < l.length) (x : Str) : Ups (l.modify j (addText x)) := by
  intro i hi
  rw [List.length_modify] at hi
  rw [fAt_mod l j x i hj]
  split
  · rename_i e; subst e; exact hu i hi
  · exact hu i hi
theorem node_mod {l : List Flat} {t : List Nat} (h : Chain l t) {j : Nat} (hj : j < l.length) (x : Str) (hup : (fAt l j).up = upOf t) {i : Nat} (h2 : i ∉ t) (h3 : i ≠ j) : nodeOf (l.modify j (addText x)) i = nodeOf l i := by
  refine nodeOf_same (.inl (by simp)) (fun i => i ∉ t ∧ i ≠ j) ?_ i ⟨h2, h3⟩
  rintro i ⟨a, b⟩
  refine ⟨by rw [fAt_mod l j x i hj, if_neg b], kidsAt_mod l j x hj i, ?_⟩
  intro k hk
  obtain ⟨c1, c2, c3⟩ := mem_kidsAt.1 hk
  refine ⟨kid_not_mem h a c3, ?_⟩
  rintro rfl
  exact upOf_ne_of a (c3.symm.trans hup)
theorem Chain.mod {l : List Flat} {j : Nat} (hj : j < l.length) (x : Str) : ∀ {t : List Nat}, Chain l t → j ∉ t → Chain (l.modify j (addText x)) t
  | [], _, _ => trivial
  | o :: os, h, hn => by
    obtain ⟨h1, h2, h3, h4, h5, h6⟩ := h
    have e : fAt (l.modify j (addText x)) o = fAt l o := by rw [fAt_mod l j x o hj, if_neg (fun e => hn (by simp [e]))]
    refine ⟨by rw [List.length_modify]; exact h1, by rw [e]; exact h2, ?_, by rw [e]; exact h4, by rw [e]; exact h5, h6.mod hj x (fun hm => hn (by simp [hm]))⟩
    intro i a b
    rw [List.length_modify] at b
    rw [fAt_mod l j x i hj]
    split
    · rename_i e; subst e; exact h3 i a b
    · exact h3 i a b
/-- The last kid. -/
theorem lastUp_spec (l : List Flat) (hu : Ups l) (p : Int) (hp : -1 ≤ p) : ∀ n, n ≤ l.length →
    (lastUp l p n = -1 ∧ (List.range n).filter (fun (i : Nat) => decide (p < (i : Int)) && (l.getD i dFlat).up == p) = []) ∨
    (∃ j : Nat, lastUp l p n = j ∧ j < n ∧ (fAt l j).up = p ∧ ∃ r, (List.range n).filter (fun (i : Nat) => decide (p < (i : Int)) && (l.getD i dFlat).up == p) = r ++ [j] ∧ j ∉ r)
  | 0, _ => .inl ⟨rfl, rfl⟩
  | n + 1, h => by
    rw [List.range_succ, List.filter_append, lastUp]
    by_cases e : (l.getD n dFlat).up = p
    · have hb := (hu n (by omega)).2
      rw [fAt, e] at hb
      refine .inr ⟨n, by rw [if_pos e], by omega, e, (List.range n).filter (fun (i : Nat) => decide (p < (i : Int)) && (l.getD i dFlat).up == p), ?_, ?_⟩
      · rw [List.filter_cons, e, if_pos (by rw [Bool.and_eq_true]; exact ⟨decide_eq_true hb, beq_iff_eq.2 rfl⟩)]; rfl
      · intro hm
        have := List.mem_range.1 (List.mem_filter.1 hm).1
        omega
    · have h0 : [n].filter (fun (i : Nat) => decide (p < (i : Int)) && (l.getD i dFlat).up == p) = [] := by
        rw [List.filter_cons, if_neg (by rw [Bool.and_eq_true]; exact fun q => e (beq_iff_eq.1 q.2))]; rfl
      rw [if_neg e, h0, List.append_nil]
      rcases lastUp_spec l hu p hp n (by omega) with h1 | ⟨j, h1, h2, h3, h4⟩
      · exact .inl h1
      · exact .inr ⟨j, h1, by omega, h3, h4⟩
theorem lastIsText_snoc (n : Node) (r : List Node) : lastIsText (r ++ [n]) = (n.name == []) := by simp [lastIsText]
/-- Joined text, in both. -/
theorem mkS_mod {l : List Flat} (hu : Ups l) {t : List Nat} (h : Chain l t) {j : Nat} (x : Str) (hj : j < l.length) (hup : (fAt l j).up = upOf t) (hn : (fAt l j).name = []) {r : List Nat} (hr : kidsAt l (upOf t) = r ++ [j]) (hjr : j ∉ r) :
    ∃ top rest, mkS l none t = top :: rest ∧ lastIsText top.kids = true ∧ mkS (l.modify j (addText x)) none t = .mk top.name top.attrs top.text (joinText x top.kids) :: rest := by
  have hk : kidsBut l (upOf t) none = r.map (nodeOf l) ++ [nodeOf l j] := by rw [kidsBut_none, hr]; simp
  have hk' : kidsBut (l.modify j (addText x)) (upOf t) none = joinText x (kidsBut l (upOf t) none) := by
    rw [hk, joinText_snoc, kidsBut_none, kidsAt_mod l j x hj, hr, List.map_append]
    congr 1
    · apply List.map_congr_left
      intro i hi
      have hm : i ∈ kidsAt l (upOf t) := by rw [hr]; simp [hi]
      exact node_mod h hj x hup (not_mem_of_up hu h (mem_kidsAt.1 hm).2.2) (fun e => hjr (e ▸ hi))
    · simp only [List.map_singleton, nodeOf, fAt_mod l j x j hj, if_true, addText, hn, Node.name, Node.attrs, Node.text, Node.kids]
      rfl
  have hlt : lastIsText (kidsBut l (upOf t) none) = true := by rw [hk, lastIsText_snoc]; simp only [nodeOf, Node.name, hn]; rfl
  have hjt : j ∉ t := fun hm => h.name j hm hn
  cases t with
  | nil =>
    simp only [upOf] at hk' hlt
    exact ⟨_, _, rfl, hlt, by simp only [mkS, hk', Node.name, Node.attrs, Node.text, Node.kids]⟩
  | cons o os =>
    simp only [upOf] at hk' hlt
    refine ⟨_, _, rfl, hlt, ?_⟩
    have hs := mkS_same (l' := l.modify j (addText x)) hu h (fun i a b c => node_mod h hj x hup b (fun e => c (e ▸ hup))) (fun up _ _ _ => kidsAt_mod l j x hj up)
      (fun o ho => by rw [fAt_mod l j x o hj, if_neg (fun (e : o = j) => hjt (e ▸ ho))]) (os := os) (o := o) (List.suffix_refl _)
    have e : fAt (l.modify j (addText x)) o = fAt l o := by rw [fAt_mod l j x o hj, if_neg (fun e => hjt (by simp [e]))]
    simp only [mkS, hs, e, hk', Node.name, Node.attrs, Node.text, Node.kids]
end Go.Proofs.Ytlfimcpceiemnaa

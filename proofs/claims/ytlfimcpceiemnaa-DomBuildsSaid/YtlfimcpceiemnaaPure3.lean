/- Both builders build the same. -/
import Derived.Test.YtlfimcpceiemnaaPure2
set_option linter.unusedVariables false
namespace Go.Proofs.Ytlfimcpceiemnaa

structure RelT (t : List Nat) (b : BS) (r : RS) : Prop where
  ch : Chain r.l t
  up : Ups r.l
  op : r.op = opOf t
  st : b.st = mkS r.l none t
  ov : b.over = r.bad
  mn : b.many = (r.l.length : Int)
  lo : r.bad = false → t.length ≤ 64
def Rel (b : BS) (r : RS) : Prop := ∃ t, RelT t b r
theorem RelT.cut {t : List Nat} {b : BS} {r : RS} (h : RelT t b r) (n : Nat) (hn : n ≤ t.length) : RelT (t.drop (t.length - n)) ⟨shutN (t.length - n) b.st, b.many, b.over⟩ ⟨r.l, r.op.take n, r.bad⟩ where
  ch := h.ch.suffix (List.drop_suffix _ _)
  up := h.up
  op := by rw [h.op, opOf_drop t n hn]
  st := by rw [h.st, shutN_mkS h.up _ _ h.ch (by omega)]
  ov := h.ov
  mn := h.mn
  lo := fun e => by have := h.lo e; rw [List.length_drop]; omega
theorem RelT.inner {t : List Nat} {b : BS} {r : RS} (h : RelT t b r) (names : List Str) : innerS names b.st = innerL names r.l t ∧ r.inner names = innerL names r.l t := by
  refine ⟨by rw [h.st, innerS_mkS], ?_⟩
  obtain ⟨l, op, bad⟩ := r
  have := h.op
  simp only at this
  rw [RS.inner]
  simp only [this, opOf_length]
  exact innerN_opOf names l bad t
theorem RelT.len {t : List Nat} {b : BS} {r : RS} (h : RelT t b r) : b.st.length = t.length + 1 := by rw [h.st, mkS_length]
theorem Rel.close {b : BS} {r : RS} (h : Rel b r) (name : Str) : Rel (b.close name) (r.close name) := by
  obtain ⟨t, h⟩ := h
  obtain ⟨i1, i2⟩ := h.inner [name]
  have hle := innerL_le [name] r.l t
  by_cases e : innerL [name] r.l t = 0
  · rw [BS.close, closeS, RS.close, i1, i2, e, if_neg (Nat.lt_irrefl 0), if_pos rfl]
    exact ⟨t, h⟩
  · rw [BS.close, closeS, RS.close, i1, i2, if_pos (by omega), if_neg e, h.len]
    have := h.cut (innerL [name] r.l t - 1) (by omega)
    rw [show t.length - (innerL [name] r.l t - 1) = t.length + 1 - innerL [name] r.l t from by omega] at this
    exact ⟨_, this⟩
theorem Rel.s1 {b : BS} {r : RS} (h : Rel b r) (name : Str) : Rel (b.s1 name) (r.s1 name) := by
  rw [BS.s1, RS.s1]
  split
  · exact h.close cP
  · exact h
theorem hasStr_li : hasStr [cLi, cUl, cOl] cLi = true := by decide
theorem hasStr_one (a b : Str) : hasStr [a] b = true ↔ b = a := by
  simp [hasStr, eq_comm]
theorem opOf_at (pre : List Nat) (o : Nat) (os : List Nat) : (opOf (pre ++ o :: os)).getD os.length 0 = (o : Int) := by
  rw [opOf, List.getD_eq_getElem?_getD, List.getElem?_map, List.reverse_append, List.reverse_cons, List.append_assoc, List.getElem?_append_right (by simp)]
  simp
theorem atS_mkS (l : List Flat) (pre : List Nat) (o : Nat) (os : List Nat) (c : Option Nat) : (atS (mkS l c (pre ++ o :: os)) (os.length + 1)).name = (fAt l o).name := by
  obtain ⟨A, c', h⟩ := mkS_split l o os pre c
  have hl := mkS_length l os (some o)
  rw [h, atS, List.getD_eq_getElem?_getD, List.reverse_append, List.reverse_cons, List.append_assoc, List.getElem?_append_right (by rw [List.length_reverse, hl]; exact Nat.le_refl _), List.length_reverse, hl]
  simp [Node.name]
theorem Rel.s2 {b : BS} {r : RS} (h : Rel b r) (name : Str) : Rel (b.s2 name) (r.s2 name) := by
  obtain ⟨t, h⟩ := h
  obtain ⟨i1, i2⟩ := h.inner [cLi, cUl, cOl]
  rw [BS.s2, RS.s2, liS, i1, i2]
  by_cases e1 : (name == cLi) = true
  · by_cases e2 : 0 < innerL [cLi, cUl, cOl] r.l t
    · obtain ⟨pre, o, os, rfl, k1, k2, k3⟩ := innerL_split _ r.l t e2
      have a1 : (atS b.st (innerL [cLi, cUl, cOl] r.l (pre ++ o :: os))).name = (fAt r.l o).name := by rw [h.st, k1]; exact atS_mkS r.l pre o os none
      have a2 : nameAt r (r.op.getD (innerL [cLi, cUl, cOl] r.l (pre ++ o :: os) - 1) 0) = (fAt r.l o).name := by
        rw [h.op, k1, Nat.add_sub_cancel, opOf_at, nameAt, Int.toNat_natCast]
      rw [a1, a2, e1, decide_eq_true e2, Bool.true_and, Bool.true_and]
      by_cases e3 : ((fAt r.l o).name == cLi) = true
      · rw [if_pos e3, if_pos e3]
        have hc := Rel.close ⟨_, h⟩ cLi
        have h1 : innerL [cLi] r.l (pre ++ o :: os) = os.length + 1 := by
          refine innerL_pre _ _ _ _ _ ?_ ((hasStr_one _ _).2 (beq_iff_eq.1 e3))
          intro a ha
          have := k3 a ha
          rw [← Bool.not_eq_true, hasStr_one]
          intro e
          rw [e, hasStr_li] at this
          exact absurd this (by decide)
        rw [RS.close, (h.inner [cLi]).2, h1, if_neg (by omega)] at hc
        rw [k1]
        exact hc
      · rw [if_neg e3, if_neg e3]; exact ⟨_, h⟩
    · rw [decide_eq_false e2]; simp only [Bool.false_and, Bool.and_false]; exact ⟨_, h⟩
  · rw [Bool.not_eq_true] at e1
    rw [e1]; exact ⟨_, h⟩
theorem Rel.put {b : BS} {r : RS} (h : Rel b r) (name : Str) (attrs : List Attr) (text : Str) : Rel (⟨putS (.mk name attrs text []) b.st, b.many, b.over⟩ : BS).count (r.put name attrs text) := by
  obtain ⟨t, h⟩ := h
  have hh : r.here = upOf t := by rw [RS.here, h.op, opOf_last]
  have hm := mkS_put h.up h.ch ⟨name, attrs, text, r.here⟩ hh
  have hst : putS (.mk name attrs text []) b.st = mkS (r.l ++ [⟨name, attrs, text, r.here⟩]) none t := by rw [h.st, hm.1]
  refine ⟨t, ?_⟩
  rw [BS.count, RS.put]
  simp only [hst]
  refine ⟨h.ch.put h.up _ hh (List.suffix_refl _), h.up.put h.ch _ hh, h.op, rfl, ?_, by simp [h.mn], ?_⟩
  · simp only [h.ov, h.mn, mkS_length]
    cases hb : r.bad with
    | true => rfl
    | false =>
      have := h.lo hb
      rw [decide_eq_false (show ¬ (64 < ((t.length + 1 : Nat) : Int) - 1) from by omega)]; rfl
  · intro e
    exact h.lo (by simp only [Bool.or_eq_false_iff] at e; exact e.1)
theorem Rel.s3 {b : BS} {r : RS} (h : Rel b r) (name : Str) (hn : name ≠ []) (attrs : List Attr) : Rel (b.s3 name attrs).count ((r.put name attrs []).s3 name) := by
  rw [BS.s3, RS.s3]
  split
  · exact h.put name attrs []
  · obtain ⟨t, h⟩ := h
    have hh : r.here = upOf t := by rw [RS.here, h.op, opOf_last]
    have hm := mkS_put h.up h.ch ⟨name, attrs, [], r.here⟩ hh
    have hk : kidsBut (r.l ++ [⟨name, attrs, [], r.here⟩]) (r.l.length : Int) none = [] := by
      have h1 := kidsF_new r.l ⟨name, attrs, [], r.here⟩ (by simp only [hh]; exact upOf_lt h.ch)
      rw [kidsF_eq _ _ (by omega)] at h1
      rw [kidsBut_none]; exact h1
    have hst : (.mk name attrs [] [] : Node) :: b.st = mkS (r.l ++ [⟨name, attrs, [], r.here⟩]) none (r.l.length :: t) := by
      rw [mkS, hm.2, fAt_new, hk, h.st]
    have hlen : (((r.l ++ [(⟨name, attrs, [], r.here⟩ : Flat)]).length : Nat) : Int) - 1 = (r.l.length : Int) := by simp
    refine ⟨r.l.length :: t, ?_⟩
    rw [BS.count, RS.put]
    simp only [hst]
    refine ⟨?_, h.up.put h.ch _ hh, ?_, rfl, ?_, by simp [h.mn], ?_⟩
    · refine ⟨by simp, by rw [fAt_new]; exact hh, ?_, by rw [fAt_new]; exact hn, by rw [fAt_new], h.ch.put h.up _ hh (List.suffix_refl _)⟩
      intro i a c
      simp at c; omega
    · simp only [hlen, h.op, opOf_cons]
    · simp only [h.ov, h.mn, mkS_length, h.op, opOf_length, List.length_cons]
      rw [Bool.or_assoc, Bool.or_assoc, Bool.or_comm (decide (64 < _))]
      congr 3
      apply propext
      omega
    · intro e
      simp only [Bool.or_eq_false_iff, decide_eq_false_iff_not, h.op, opOf_length] at e
      have := e.2
      simp only [List.length_cons]; omega
theorem Rel.start {b : BS} {r : RS} (h : Rel b r) (name : Str) (hn : name ≠ []) (attrs : List Attr) : Rel (b.start name attrs) (r.start name attrs) := ((h.s1 name).s2 name).s3 name hn attrs
theorem kidsAt_mem_top {l : List Flat} {t : List Nat} : True := trivial
theorem Rel.text {b : BS} {r : RS} (h : Rel b r) (x : Str) :
    Rel (b.text x) (if x == [] then r else if decide (0 ≤ r.last) && nameAt r r.last == [] then ⟨r.l.modify r.last.toNat (addText x), r.op, r.bad⟩ else r.put [] [] x) := by
  rw [BS.text]
  split
  · exact h
  · obtain ⟨t, h⟩ := h
    have hh : r.here = upOf t := by rw [RS.here, h.op, opOf_last]
    have hrel : Rel b r := ⟨t, h⟩
    have top : ∃ a rest, mkS r.l none t = a :: rest ∧ a.kids = kidsBut r.l (upOf t) none := by
      cases t with
      | nil => exact ⟨_, _, rfl, rfl⟩
      | cons o os => exact ⟨_, _, rfl, rfl⟩
    obtain ⟨a, rest, he, hk⟩ := top
    have hst : b.st = a :: rest := h.st.trans he
    rw [hst]
    simp only
    have hsp := lastUp_spec r.l h.up (upOf t) (upOf_ge t) r.l.length (Nat.le_refl _)
    have hl : r.last = lastUp r.l (upOf t) r.l.length := by rw [RS.last, hh]
    rw [← hl] at hsp
    rw [← hst]
    rcases hsp with ⟨e1, e2⟩ | ⟨j, e1, hj, hup, row, e2, hjr⟩
    · have h0 : a.kids = [] := by rw [hk, kidsBut_none]; rw [show kidsAt r.l (upOf t) = [] from e2]; rfl
      rw [h0, e1]
      exact hrel.put [] [] x
    · have h0 : lastIsText a.kids = ((fAt r.l j).name == []) := by
        rw [hk, kidsBut_none, show kidsAt r.l (upOf t) = row ++ [j] from e2, List.map_append, List.map_singleton, lastIsText_snoc]; rfl
      have h1 : (decide (0 ≤ r.last) && nameAt r r.last == []) = ((fAt r.l j).name == []) := by
        rw [e1, decide_eq_true (Int.natCast_nonneg j), nameAt, Int.toNat_natCast]; rfl
      rw [h0, h1]
      by_cases e : ((fAt r.l j).name == []) = true
      · rw [if_pos e, if_pos e, e1, Int.toNat_natCast]
        have hn := beq_iff_eq.1 e
        obtain ⟨a', rest', g1, g2, g3⟩ := mkS_mod h.up h.ch x hj hup hn e2 hjr
        have := he.symm.trans g1
        injection this with q1 q2
        subst q1; subst q2
        exact ⟨t, h.ch.mod hj x (fun hm => h.ch.name j hm hn), h.up.mod hj x, h.op, g3.symm, h.ov, by simp [h.mn], h.lo⟩
      · rw [if_neg e, if_neg e]
        exact hrel.put [] [] x
theorem Rel.stop {b : BS} {r : RS} (h : Rel b r) (name : Str) :
    Rel (b.stop name) (if r.inner [name] = 0 then
      (let s1 := if name == cP then (r.start cP []).close cP else r
       if name == cBr then s1.start cBr [] else s1) else r.close name) := by
  have hi : innerS [name] b.st = r.inner [name] := by
    obtain ⟨t, h⟩ := h
    rw [(h.inner [name]).1, (h.inner [name]).2]
  rw [BS.stop, hi]
  by_cases e : r.inner [name] = 0
  · rw [e, if_neg (Nat.lt_irrefl 0), if_pos rfl]
    by_cases e1 : (name == cP) = true
    · have hb : (name == cBr) = false := by rw [beq_iff_eq.1 e1]; decide
      rw [if_pos e1, if_pos e1, hb]
      have e2 := beq_iff_eq.1 e1
      subst e2
      exact (h.start cP (by decide) []).close cP
    · rw [if_neg e1, if_neg e1]
      by_cases e3 : (name == cBr) = true
      · rw [if_pos e3]
        simp only [e3, if_true]
        have e2 := beq_iff_eq.1 e3
        subst e2
        exact h.start cBr (by decide) []
      · rw [if_neg e3]
        simp only [e3]
        exact h
  · rw [if_pos (by omega), if_neg e]
    exact h.close name
theorem Rel.take {b : BS} {r : RS} (h : Rel b r) (t : Token) (ht : badTok t = false) : Rel (b.take t) (r.take t) := by
  rw [BS.take, RS.take]
  by_cases k1 : t.kind = 1
  · rw [if_pos k1, if_pos k1]; exact h.text t.text
  · rw [if_neg k1, if_neg k1]
    by_cases k2 : t.kind = 2
    · rw [if_pos k2, if_pos k2]
      refine h.start t.name ?_ t.attrs
      intro e
      simp [badTok, k2, e] at ht
    · rw [if_neg k2, if_neg k2]
      by_cases k3 : t.kind = 3
      · rw [if_pos k3, if_pos k3]; exact h.stop t.name
      · rw [if_neg k3, if_neg k3]; exact h
theorem Rel.over {b : BS} {r : RS} (h : Rel b r) : b.over = r.bad := by obtain ⟨t, h⟩ := h; exact h.ov
theorem RS.run_bad : ∀ (l : List Token) (s : RS), s.bad = true → (s.run l).bad = true
  | [], s, h => h
  | t :: ts, s, h => by rw [RS.run, if_pos h]; exact h
theorem Rel.run : ∀ (l : List Token) {b : BS} {r : RS}, Rel b r → r.bad = false → l.any badTok = false →
    (match b.run l with | some s => (r.run l).bad = false ∧ Rel s (r.run l) | none => (r.run l).bad = true)
  | [], b, r, h, hb, _ => ⟨hb, h⟩
  | t :: ts, b, r, h, hb, ht => by
    rw [List.any_cons, Bool.or_eq_false_iff] at ht
    have h1 := h.take t ht.1
    have hnb : ¬ r.bad = true := by rw [hb]; exact Bool.false_ne_true
    rw [BS.run, h1.over, RS.run, if_neg hnb]
    cases e : (r.take t).bad with
    | true => exact RS.run_bad ts _ e
    | false => exact h1.run ts e ht.2
theorem Rel.first : Rel ⟨[rootNode], 0, false⟩ ⟨[], [], false⟩ := ⟨[], trivial, fun i hi => absurd hi (Nat.not_lt_zero i), rfl, rfl, rfl, rfl, fun _ => Nat.zero_le _⟩
theorem Rel.tree {b : BS} {r : RS} (h : Rel b r) : treeOf b = kidsF r.l (-1) := by
  obtain ⟨t, h⟩ := h
  rw [treeOf, h.len, Nat.add_sub_cancel, h.st, shutN_mkS h.up t.length t h.ch (Nat.le_refl _), List.drop_length, mkS]
  simp only [Node.kids]
  rw [kidsBut_none, kidsF_eq _ _ (by omega)]
theorem builds_same (l : List Token) (h : l.any badTok = false) : buildF l = refBuild l := by
  have := Rel.run l Rel.first rfl h
  rw [buildF, refBuild]
  cases e : (BS.mk [rootNode] 0 false).run l with
  | none =>
    rw [e] at this
    simp only at this
    rw [if_pos this]
  | some s =>
    rw [e] at this
    simp only at this
    rw [if_neg (by rw [this.1]; exact Bool.false_ne_true), ← this.2.tree]
end Go.Proofs.Ytlfimcpceiemnaa

/- dom.Build in plain Lean: what holds of the stack all the time. -/
import Derived.Test.YtlfimcpceiemnaaDomW11
set_option linter.unusedVariables false
namespace Go.Proofs.Ytlfimcpceiemnaa

/-- What holds of the builder's stack all the time. -/
structure Good (s : BS) (T : Nat) : Prop where
  ne : s.st ≠ []
  tx : ∀ x ∈ s.st, x.text = []
  ld : (loadS s.st : Int) ≤ s.many + 1
  m0 : 0 ≤ s.many
  tl : tlenS s.st ≤ T
theorem tx_shut {t : List Node} (h : ∀ x ∈ t, x.text = []) : ∀ x ∈ shutS t, x.text = [] := by
  match t, h with
  | [], h => simp [shutS]
  | [a], h => simpa [shutS] using h
  | top :: p :: rest, h =>
    intro x hx
    simp only [shutS, List.mem_cons] at hx
    rcases hx with rfl | hx
    · exact h p (by simp)
    · exact h x (by simp [hx])
theorem tl_shut {t : List Node} (h : ∀ x ∈ t, x.text = []) : tlenS (shutS t) ≤ tlenS t := by
  match t, h with
  | [], h => simp [shutS]
  | [a], h => simp [shutS]
  | top :: p :: rest, h =>
    have : top.text = [] := h top (by simp)
    simp [shutS, tlenS, tlenK, addKid, Node.kids, this]
theorem tx_shutN (n : Nat) : ∀ {t : List Node}, (∀ x ∈ t, x.text = []) → (∀ x ∈ shutN n t, x.text = []) ∧ tlenS (shutN n t) ≤ tlenS t := by
  induction n with
  | zero => intro t h; exact ⟨h, Nat.le_refl _⟩
  | succ n ih => intro t h; exact ⟨(ih (tx_shut h)).1, Nat.le_trans (ih (tx_shut h)).2 (tl_shut h)⟩
theorem Good.close {s : BS} {T : Nat} (h : Good s T) (name : Str) : Good (s.close name) T := by
  refine ⟨closeS_ne _ _ h.ne, ?_, ?_, h.m0, ?_⟩
  · simp only [BS.close, closeS]; split
    · exact (tx_shutN _ h.tx).1
    · exact h.tx
  · have := load_close name s.st; have := h.ld; simp only [BS.close]; omega
  · simp only [BS.close, closeS]; split
    · exact Nat.le_trans (tx_shutN _ h.tx).2 h.tl
    · exact h.tl
theorem Good.s1 {s : BS} {T : Nat} (h : Good s T) (name : Str) : Good (s.s1 name) T := by unfold BS.s1; split; exact h.close _; exact h
theorem Good.s2 {s : BS} {T : Nat} (h : Good s T) (name : Str) : Good (s.s2 name) T := by unfold BS.s2; split; exact h.close _; exact h
theorem Good.count {st : List Node} {many : Int} {over : Bool} {T : Nat} (ne : st ≠ []) (tx : ∀ x ∈ st, x.text = []) (ld : (loadS st : Int) ≤ many + 2) (m0 : 0 ≤ many) (tl : tlenS st ≤ T) : Good (BS.mk st many over).count T :=
  ⟨ne, tx, by simp only [BS.count]; omega, by simp only [BS.count]; omega, tl⟩
theorem put_facts {st : List Node} (ne : st ≠ []) (tx : ∀ x ∈ st, x.text = []) (x : Node) : putS x st ≠ [] ∧ (∀ y ∈ putS x st, y.text = []) ∧ tlenS (putS x st) = tlenS st + x.text.length := by
  cases st with
  | nil => exact absurd rfl ne
  | cons a r =>
    refine ⟨by simp [putS], ?_, ?_⟩
    · intro y hy
      simp only [putS, List.mem_cons] at hy
      rcases hy with rfl | hy
      · exact tx a (by simp)
      · exact tx y (by simp [hy])
    · simp [putS, tlenS, tlenK, addKid, Node.kids]; omega
theorem Good.start {s : BS} {T : Nat} (h : Good s T) (name : Str) (attrs : List Attr) : Good (s.start name attrs) T := by
  have h2 := (h.s1 name).s2 name
  unfold BS.start
  generalize (s.s1 name).s2 name = s2 at *
  obtain ⟨st, many, over⟩ := s2
  obtain ⟨p1, p2, p3⟩ := put_facts h2.ne h2.tx (.mk name attrs [] [])
  have hld := h2.ld
  unfold BS.s3
  split
  · have := load_put (.mk name attrs [] []) st
    exact Good.count p1 p2 (by simp only at *; omega) h2.m0 (by rw [p3]; simpa [Node.text] using h2.tl)
  · refine Good.count (by simp) ?_ ?_ h2.m0 ?_
    · intro y hy
      simp only [List.mem_cons] at hy
      rcases hy with rfl | hy
      · rfl
      · exact h2.tx y hy
    · simp [loadS, Node.kids] at *; omega
    · simpa [tlenS, tlenK, Node.kids] using h2.tl
theorem many_close (s : BS) (name : Str) : (s.close name).many = s.many := rfl
theorem Good.stop {s : BS} {T : Nat} (h : Good s T) (name : Str) : Good (s.stop name) T ∧ (s.stop name).many ≤ s.many + 1 := by
  unfold BS.stop
  split
  · exact ⟨h.close _, by rw [many_close]; omega⟩
  · split
    · exact ⟨(h.start _ _).close _, by rw [many_close, (s.start_st _ _ h.ne).2.2]; omega⟩
    · split
      · exact ⟨h.start _ _, by rw [(s.start_st _ _ h.ne).2.2]; omega⟩
      · exact ⟨h, by omega⟩
theorem Good.text {s : BS} {T : Nat} (h : Good s T) (t : Str) : Good (s.text t) (T + t.length) ∧ (s.text t).many ≤ s.many + 1 := by
  have up : Good s (T + t.length) := ⟨h.ne, h.tx, h.ld, h.m0, Nat.le_trans h.tl (Nat.le_add_right _ _)⟩
  obtain ⟨st, many, over⟩ := s
  unfold BS.text
  split
  · exact ⟨up, by omega⟩
  · cases st with
    | nil => exact absurd rfl h.ne
    | cons top rest =>
      simp only
      split
      · rename_i hlt
        obtain ⟨init, x, hk⟩ : ∃ init x, top.kids = init ++ [x] := by
          rcases List.eq_nil_or_concat top.kids with hkd | ⟨init, x, hkd⟩
          · rw [hkd] at hlt; cases hlt
          · exact ⟨init, x, by simpa using hkd⟩
        rw [hk, joinText_snoc]
        refine ⟨⟨by simp, ?_, ?_, h.m0, ?_⟩, by simp only; omega⟩
        · intro y hy
          simp only [List.mem_cons] at hy
          rcases hy with rfl | hy
          · exact h.tx top (by simp)
          · exact h.tx y (by simp [hy])
        · have := h.ld
          simp [loadS, Node.kids] at this ⊢
          rw [← Node.kids.eq_def, hk] at this
          simp at this
          omega
        · have := h.tl
          simp [tlenS, tlenK, Node.kids, Node.text] at this ⊢
          rw [← Node.kids.eq_def, hk] at this
          simp [Node.text] at this
          omega
      · obtain ⟨p1, p2, p3⟩ := put_facts h.ne h.tx (.mk [] [] t [])
        have := load_put (.mk [] [] t []) (top :: rest)
        have := h.ld
        have := h.tl
        exact ⟨Good.count p1 p2 (by simp only at *; omega) h.m0 (by rw [p3]; simp only [Node.text] at *; omega), by simp [BS.count]⟩
theorem Good.take {s : BS} {T : Nat} (h : Good s T) (t : Token) : Good (s.take t) (T + t.text.length) ∧ (s.take t).many ≤ s.many + 1 := by
  have up : ∀ {s' : BS}, Good s' T → Good s' (T + t.text.length) := fun h => ⟨h.ne, h.tx, h.ld, h.m0, Nat.le_trans h.tl (Nat.le_add_right _ _)⟩
  unfold BS.take
  split
  · exact h.text _
  · split
    · exact ⟨up (h.start _ _), by rw [(s.start_st _ _ h.ne).2.2]; omega⟩
    · split
      · exact ⟨up (h.stop _).1, (h.stop _).2⟩
      · exact ⟨up h, by omega⟩
theorem good_root : Good ⟨[rootNode], 0, false⟩ 0 := ⟨by simp, by simp [rootNode, Node.text], by simp [loadS, rootNode, Node.kids], by simp, by simp [tlenS, tlenK, rootNode, Node.kids]⟩

end Go.Proofs.Ytlfimcpceiemnaa

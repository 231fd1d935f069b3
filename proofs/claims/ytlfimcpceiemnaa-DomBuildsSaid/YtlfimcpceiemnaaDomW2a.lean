/- dom's builder: what put leaves. -/
import Derived.Test.YtlfimcpceiemnaaDomW1
set_option linter.unusedVariables false
namespace Go.Proofs.Ytlfimcpceiemnaa
open Go Go.RowKit

theorem cellA {w : World} {a : Addr} {v : Value} {o : Obj} (h : w.cell? a = some v) : (w.alloc o).drew.cell? a = some v := by
  have hb := World.block_lt_of_cell? w a h
  exact (World.cell?_of_block (w := w) (w' := w.alloc o) (Below.heap_alloc w o a.block hb)).trans h
theorem frA {w w1 : World} {a : Addr} {v : Value} {o : Obj} {row : Option Nat} (h : w.cell? a = some v) (hf : w.frozen? a = false) (hg : (w.alloc o).drew.grownBy w1 row) (hr : some a.block ≠ row) : w1.frozen? a = false := by
  have hb := World.block_lt_of_cell? w a h
  have h1 := Below.heap_alloc w o a.block hb
  have h2 := hg.block a.block (by simp; omega) hr
  rw [World.frozen?_of_block (w := (w.alloc o).drew) h2]
  exact (World.frozen?_of_block (w := w) (w' := w.alloc o) h1).trans hf
/-- Behind an append of one node's zero cells: where it lies. -/
theorem own_last4 {w : World} {base : Nat} {e : TypeId} {n cap g : Nat} {xs : List Value} {a0 a1 a2 a3 : Value} (hx : xs.length = n * 4) (h : w.ownsRow base e 4 (.slice (some ⟨g, 0, none⟩) (n + 1) cap) (n + 1) (xs ++ [a0, a1, a2, a3])) :
    w.cell? ⟨g, n * 4, none⟩ = some a0 ∧ w.cell? ⟨g, n * 4 + 1, none⟩ = some a1 ∧ w.cell? ⟨g, n * 4 + 2, none⟩ = some a2 ∧ w.cell? ⟨g, n * 4 + 3, none⟩ = some a3 ∧
    w.frozen? ⟨g, n * 4, none⟩ = false ∧ w.frozen? ⟨g, n * 4 + 1, none⟩ = false ∧ w.frozen? ⟨g, n * 4 + 2, none⟩ = false ∧ w.frozen? ⟨g, n * 4 + 3, none⟩ = false := by
  obtain ⟨g', cap', hv, _, _, _, hc, hf⟩ := own_cells h (by omega)
  obtain rfl : g = g' := by injection hv with h1; injection h1 with h1; injection h1
  refine ⟨hc _ _ ?_, hc _ _ ?_, hc _ _ ?_, hc _ _ ?_, hf _, hf _, hf _, hf _⟩ <;> rw [List.getElem?_append_right (by omega), hx]
  · rw [show n * 4 - n * 4 = 0 from by omega]; rfl
  · rw [show n * 4 + 1 - n * 4 = 1 from by omega]; rfl
  · rw [show n * 4 + 2 - n * 4 = 2 from by omega]; rfl
  · rw [show n * 4 + 3 - n * 4 = 3 from by omega]; rfl

/-- What a call on the builder leaves: another state, the blocks of its own alone turned. -/
def BPost (m : Mem) (base g : Nat) (w : World) (vo : Value) (ks : List KRow) (st' : List Node) (many' : Int) (over' : Bool) (w' : World) : Prop :=
  ∃ m' vo' oc' ks', m.le m' ∧ (∀ k, m.free k → k ∉ fpB g vo ks → k < w.heap.size → m'.free k) ∧ IsB m' w' base g st' many' over' vo' oc' ks' ∧ Ch (fun k => k ∈ fpB g vo ks) w w' ∧ ∀ k ∈ fpB g vo' ks', k ∈ fpB g vo ks ∨ w.heap.size ≤ k
theorem BPost.refl {m : Mem} {w : World} {base g : Nat} {st : List Node} {many : Int} {over : Bool} {vo : Value} {oc : List Value} {ks : List KRow} (h : IsB m w base g st many over vo oc ks) : BPost m base g w vo ks st many over w :=
  ⟨m, vo, oc, ks, Mem.le_refl m, fun _ h _ _ => h, h, Ch.refl _ w, fun _ h => .inl h⟩
theorem BPost.trans {m : Mem} {w w1 w2 : World} {base g : Nat} {st1 st2 : List Node} {many1 many2 : Int} {over1 over2 : Bool} {vo : Value} {ks : List KRow} (h : BPost m base g w vo ks st1 many1 over1 w1)
    (k : ∀ m' vo' oc' ks', m.le m' → IsB m' w1 base g st1 many1 over1 vo' oc' ks' → BPost m' base g w1 vo' ks' st2 many2 over2 w2) : BPost m base g w vo ks st2 many2 over2 w2 := by
  obtain ⟨m1, vo1, oc1, ks1, l1, f1, i1, c1, n1⟩ := h
  obtain ⟨m2, vo2, oc2, ks2, l2, f2, i2, c2, n2⟩ := k m1 vo1 oc1 ks1 l1 i1
  refine ⟨m2, vo2, oc2, ks2, Mem.le_trans l1 l2, fun k hk hn hl => f2 k (f1 k hk hn hl) (fun hm => ?_) (Nat.lt_of_lt_of_le hl c1.size), i2, c1.trans c2 n1, fun k hk => ?_⟩
  · rcases n1 k hm with h | h
    · exact hn h
    · omega
  · rcases n2 k hk with h | h
    · exact n1 k h
    · exact .inr (Nat.le_trans c1.size h)
theorem BPost.step {m m1 : Mem} {w w1 w2 : World} {base g : Nat} {st2 : List Node} {many2 : Int} {over2 : Bool} {vo vo1 : Value} {ks ks1 : List KRow} (l1 : m.le m1) (f1 : ∀ k, m.free k → k ∉ fpB g vo ks → k < w.heap.size → m1.free k)
    (c1 : Ch (fun k => k ∈ fpB g vo ks) w w1) (n1 : ∀ k ∈ fpB g vo1 ks1, k ∈ fpB g vo ks ∨ w.heap.size ≤ k) (h : BPost m1 base g w1 vo1 ks1 st2 many2 over2 w2) : BPost m base g w vo ks st2 many2 over2 w2 := by
  obtain ⟨m2, vo2, oc2, ks2, l2, f2, i2, c2, n2⟩ := h
  refine ⟨m2, vo2, oc2, ks2, Mem.le_trans l1 l2, fun k hk hn hl => f2 k (f1 k hk hn hl) (fun hm => ?_) (Nat.lt_of_lt_of_le hl c1.size), i2, c1.trans c2 n1, fun k hk => ?_⟩
  · rcases n1 k hm with h | h
    · exact hn h
    · omega
  · rcases n2 k hk with h | h
    · exact n1 k h
    · exact .inr (Nat.le_trans c1.size h)
/-- Ahead of the call the world has grown. -/
theorem BPost.ahead {m : Mem} {w w1 w2 : World} {base g : Nat} {st2 : List Node} {many2 : Int} {over2 : Bool} {vo : Value} {ks : List KRow} (hc : Ch (fun _ => False) w w1) (h : BPost m base g w1 vo ks st2 many2 over2 w2) :
    BPost m base g w vo ks st2 many2 over2 w2 := by
  obtain ⟨m2, vo2, oc2, ks2, l2, f2, i2, c2, n2⟩ := h
  exact ⟨m2, vo2, oc2, ks2, l2, fun k hk hn hl => f2 k hk hn (Nat.lt_of_lt_of_le hl hc.size), i2, (hc.mono (fun _ h => h.elim)).trans c2 (fun _ h => .inl h), fun k hk => (n2 k hk).imp id (fun h => Nat.le_trans hc.size h)⟩

theorem own_set4 {w : World} {base : Nat} {e : TypeId} {n cap g : Nat} {xs : List Value} {a0 a1 a2 a3 b0 b1 b2 b3 : Value} (hx : xs.length = n * 4) (h : w.ownsRow base e 4 (.slice (some ⟨g, 0, none⟩) (n + 1) cap) (n + 1) (xs ++ [a0, a1, a2, a3])) :
    ((((w.setCell ⟨g, n * 4, none⟩ b0).setCell ⟨g, n * 4 + 1, none⟩ b1).setCell ⟨g, n * 4 + 2, none⟩ b2).setCell ⟨g, n * 4 + 3, none⟩ b3).ownsRow base e 4 (.slice (some ⟨g, 0, none⟩) (n + 1) cap) (n + 1) (xs ++ [b0, b1, b2, b3]) ∧
    w.grownBy ((((w.setCell ⟨g, n * 4, none⟩ b0).setCell ⟨g, n * 4 + 1, none⟩ b1).setCell ⟨g, n * 4 + 2, none⟩ b2).setCell ⟨g, n * 4 + 3, none⟩ b3) (some g) := by
  obtain ⟨h0, g0⟩ := h.stored (n * 4) b0
  obtain ⟨h1, g1⟩ := h0.stored (n * 4 + 1) b1
  obtain ⟨h2, g2⟩ := h1.stored (n * 4 + 2) b2
  obtain ⟨h3, g3⟩ := h2.stored (n * 4 + 3) b3
  refine ⟨?_, ((g0.trans g1).trans g2).trans g3⟩
  have e : ((((xs ++ [a0, a1, a2, a3]).set (n * 4) b0).set (n * 4 + 1) b1).set (n * 4 + 2) b2).set (n * 4 + 3) b3 = xs ++ [b0, b1, b2, b3] := by
    rw [← hx, List.set_append_right _ _ (Nat.le_refl _), List.set_append_right _ _ (by omega), List.set_append_right _ _ (by omega), List.set_append_right _ _ (by omega)]
    simp
  rw [e] at h3
  exact h3

theorem put_end {m : Mem} {w W w1 : World} {base g : Nat} {st : List Node} {top : Node} {many : Int} {over : Bool} {vo : Value} {cs' : List Value} {ks' : List KRow} {k : KRow} {va' : Value} {x : Node} {va vk : Value} {b g' cap' : Nat} {o : Obj} {a0 a1 a2 a3 : Value}
    (hW : IsB m W base g (st ++ [top]) many over vo (cs' ++ [.string ⟨top.name.toArray⟩, va', .string ⟨#[]⟩, k.v, .string ⟨top.name.toArray⟩]) (ks' ++ [k])) (hE : ElCells m st ks' cs') (hA : RdAttrs m va' top.attrs) (hkn : k.n = top.kids.length) (hkc : NodeCells m top.kids k.cs) (htx : top.text = [])
    (hch : Ch (fun _ => False) w W) (hwW : w.heap.size ≤ W.heap.size) (hob : vo.ownBlock = some b) (hx : NodeAt m x va vk)
    (hown : w1.ownsRow base 34 4 (.slice (some ⟨g', 0, none⟩) (k.n + 1) cap') (k.n + 1) (k.cs ++ [a0, a1, a2, a3])) (hgrow : (W.alloc o).drew.grownBy w1 k.v.ownBlock) (hat : k.v.ownBlock = some g' ∨ g' = W.heap.size + 1) :
    BPost m base g w vo (ks' ++ [k]) (st ++ [.mk top.name top.attrs top.text (top.kids ++ [x])]) many over
      (((((w1.setCell ⟨g', k.n * 4, none⟩ (.string ⟨x.name.toArray⟩)).setCell ⟨g', k.n * 4 + 1, none⟩ va).setCell ⟨g', k.n * 4 + 2, none⟩ (.string ⟨x.text.toArray⟩)).setCell ⟨g', k.n * 4 + 3, none⟩ vk).setCell ⟨b, st.length * 5 + 3, none⟩ (.slice (some ⟨g', 0, none⟩) (k.n + 1) cap')) := by
  have hk4 : k.cs.length = k.n * 4 := (hW.rows k (by simp)).1
  have hlen := hE.length
  obtain ⟨h1, g1⟩ := own_set4 (b0 := .string ⟨x.name.toArray⟩) (b1 := va) (b2 := .string ⟨x.text.toArray⟩) (b3 := vk) hk4 hown
  generalize (((w1.setCell ⟨g', k.n * 4, none⟩ (.string ⟨x.name.toArray⟩)).setCell ⟨g', k.n * 4 + 1, none⟩ va).setCell ⟨g', k.n * 4 + 2, none⟩ (.string ⟨x.text.toArray⟩)).setCell ⟨g', k.n * 4 + 3, none⟩ vk = w2 at *
  have hfp : fpB g vo (ks' ++ [k]) = g :: b :: (ks'.filterMap (·.v.ownBlock) ++ k.v.ownBlock.toList) := by
    simp only [fpB, hob, Option.toList_some, List.filterMap_append]
    cases hk : k.v.ownBlock <;> simp [List.filterMap_cons, hk]
  have hfp' : ∀ n xs, fpB g vo (ks' ++ [⟨.slice (some ⟨g', 0, none⟩) (k.n + 1) cap', n, xs⟩]) = g :: b :: (ks'.filterMap (·.v.ownBlock) ++ [g']) := by
    intro n xs
    simp only [fpB, hob, Option.toList_some, List.filterMap_append]
    simp [List.filterMap_cons, Value.ownBlock]
  have hnd := hW.nd
  rw [hfp] at hnd
  have hlt := hW.lt
  rw [hfp] at hlt
  have hgW : g < W.heap.size := (hlt g (by simp)).2
  have hbW : b < W.heap.size := (hlt b (by simp)).2
  have hkW : ∀ x ∈ ks'.filterMap (·.v.ownBlock), x < W.heap.size := fun x hx => (hlt x (by simp at hx ⊢; exact .inr (.inr (.inl hx)))).2
  have hg'n : g' ≠ g ∧ g' ≠ b ∧ g' ∉ ks'.filterMap (·.v.ownBlock) := by
    rcases hat with h | h
    · rw [h] at hnd
      simp only [Option.toList_some, List.nodup_cons, List.mem_cons, List.mem_append, List.nodup_append] at hnd
      refine ⟨fun e => hnd.1 (.inr (.inr (.inl (e ▸ by simp)))), fun e => hnd.2.1 (.inr (.inl (e ▸ by simp))), fun e => ?_⟩
      exact hnd.2.2.2.2 g' e g' (by simp) rfl
    · refine ⟨by omega, by omega, fun e => ?_⟩
      have := hkW g' e
      omega
  -- from W to w2: block g' alone
  have hch2 : Ch (fun j => k.v.ownBlock = some j ∨ j = g') W w2 := by
    have c0 : Ch (fun j => k.v.ownBlock = some j ∨ j = g') W (W.alloc o).drew := ((Ch.refl _ W).alloc o).drew
    exact (c0.grown hgrow (fun j hj => .inl (.inl hj))).grown g1 (fun j hj => .inl (.inr (by injection hj with hj; exact hj.symm)))
  have hSn : ∀ j, (k.v.ownBlock = some j ∨ j = g') → j ≠ g ∧ j ≠ b ∧ j ∉ ks'.filterMap (·.v.ownBlock) := by
    rintro j (h | rfl)
    · rw [h] at hnd
      simp only [Option.toList_some, List.nodup_cons, List.mem_cons, List.mem_append, List.nodup_append] at hnd
      exact ⟨fun e => hnd.1 (.inr (.inr (.inl (e ▸ by simp)))), fun e => hnd.2.1 (.inr (.inl (e ▸ by simp))), fun e => hnd.2.2.2.2 j e j (by simp) rfl⟩
    · exact hg'n
  have hfree : ∀ j, (k.v.ownBlock = some j ∨ j = g') → m.free j := by
    rintro j (h | rfl)
    · exact hW.fr j (by rw [hfp]; simp [h])
    · rcases hat with h | h
      · exact hW.fr j (by rw [hfp]; simp [h])
      · exact hW.hm.new (by omega)
  have hok2 : m.ok w2 := hW.hm.ch hch2 hfree
  have hrow2 := hch2.own hW.row (fun j hj hs => by rw [hob] at hj; injection hj with hj; exact (hSn j hs).2.1 hj.symm)
  obtain ⟨b', capo, hvo, _, hob', _, _, _⟩ := own_cells hrow2 (by simp)
  obtain rfl : b = b' := by rw [hob] at hob'; injection hob'
  have hrow3 : (w2.setCell ⟨b, st.length * 5 + 3, none⟩ (.slice (some ⟨g', 0, none⟩) (k.n + 1) cap')).ownsRow base 38 5 vo (st ++ [top]).length (cs' ++ [.string ⟨top.name.toArray⟩, va', .string ⟨#[]⟩, .slice (some ⟨g', 0, none⟩) (k.n + 1) cap', .string ⟨top.name.toArray⟩]) := by
    rw [hvo] at hrow2 ⊢
    have h := (hrow2.stored (st.length * 5 + 3) (.slice (some ⟨g', 0, none⟩) (k.n + 1) cap')).1
    rw [← hlen.1, List.set_append_right _ _ (by omega), Nat.add_sub_cancel_left] at h
    simp only [List.set_cons_succ, List.set_cons_zero] at h
    rw [hlen.1] at h
    exact h
  have hch3 : Ch (fun j => j = b) w2 (w2.setCell ⟨b, st.length * 5 + 3, none⟩ (.slice (some ⟨g', 0, none⟩) (k.n + 1) cap')) := (Ch.refl (fun j => j = b) w2).setCell (p := ⟨b, st.length * 5 + 3, none⟩) (.inl rfl) _
  generalize w2.setCell ⟨b, st.length * 5 + 3, none⟩ (.slice (some ⟨g', 0, none⟩) (k.n + 1) cap') = w3 at *
  have hbm : ∀ j, j = b → m.free j := by rintro j rfl; exact hW.fr j (by rw [hfp]; simp)
  have hx4 := hx.one
  refine ⟨m, vo, cs' ++ [.string ⟨top.name.toArray⟩, va', .string ⟨#[]⟩, .slice (some ⟨g', 0, none⟩) (k.n + 1) cap', .string ⟨top.name.toArray⟩], ks' ++ [⟨.slice (some ⟨g', 0, none⟩) (k.n + 1) cap', k.n + 1, k.cs ++ [.string ⟨x.name.toArray⟩, va, .string ⟨x.text.toArray⟩, vk]⟩], Mem.le_refl m, fun _ h _ _ => h, ⟨hok2.ch hch3 hbm, ?_, ?_, ?_, ?_, ?_, ?_, hW.bs⟩, ?_, ?_⟩
  · exact hch3.heap (hch2.heap hW.obj (fun hs => (hSn g hs).1 rfl)) (fun e => (List.nodup_cons.1 hnd).1 (by simp [e]))
  · simpa using hrow3
  · rw [htx]; refine hE.append (ElCells.one (k := ⟨.slice (some ⟨g', 0, none⟩) (k.n + 1) cap', k.n + 1, k.cs ++ [.string ⟨x.name.toArray⟩, va, .string ⟨x.text.toArray⟩, vk]⟩) hA (by simp [hkn]) (hkc.append hx4))
  · intro r hr
    rcases List.mem_append.1 hr with hr | hr
    · have hne : ∀ j, r.v.ownBlock = some j → j ∈ ks'.filterMap (·.v.ownBlock) := fun j hj => List.mem_filterMap.2 ⟨r, hr, hj⟩
      exact hch3.own (hch2.own (hW.rows r (by simp [hr])) (fun j hj hs => (hSn j hs).2.2 (hne j hj))) (fun j hj e => by
        subst e
        simp only [List.nodup_cons, List.mem_append] at hnd
        exact hnd.2.1 (.inl (hne j hj)))
    · simp at hr; subst hr
      exact hch3.own h1 (fun j hj e => by simp [Value.ownBlock] at hj; subst hj; exact hg'n.2.1 e)
  · rw [hfp']
    simp only [List.nodup_cons, List.nodup_append, List.mem_cons, List.mem_append, List.mem_singleton, List.not_mem_nil, or_false] at hnd ⊢
    obtain ⟨n1, n2, n3, n4, n5⟩ := hnd
    obtain ⟨q1, q2, q3⟩ := hg'n
    refine ⟨?_, ?_, n3, by simp, ?_⟩
    · rintro (e | e | e)
      · exact n1 (.inl e)
      · exact n1 (.inr (.inl e))
      · exact q1 e.symm
    · rintro (e | e)
      · exact n2 (.inl e)
      · exact q2 e.symm
    · rintro a ha b' rfl e
      exact q3 (e ▸ ha)
  · intro j hj
    rw [hfp'] at hj
    simp only [List.mem_cons, List.mem_append, List.not_mem_nil, or_false] at hj
    rcases hj with rfl | rfl | hj | rfl
    · exact hW.fr _ (by rw [hfp]; simp)
    · exact hW.fr _ (by rw [hfp]; simp)
    · exact hW.fr _ (by rw [hfp]; simp only [List.mem_cons, List.mem_append]; exact .inr (.inr (.inl hj)))
    · exact hfree _ (.inr rfl)
  · have hall : Ch (fun j => j ∈ fpB g vo (ks' ++ [k])) w w3 := by
      refine (((hch.mono (fun _ h => h.elim)).trans (hch2.mono' (T := fun j => j ∈ fpB g vo (ks' ++ [k]) ∨ W.heap.size ≤ j) ?_) ?_)).trans (T := fun j => j = b) hch3 ?_
      · rintro j (h | rfl)
        · exact .inl (.inl (by rw [hfp]; simp [h]))
        · rcases hat with h | h
          · exact .inl (.inl (by rw [hfp]; simp [h]))
          · exact .inl (.inr (by omega))
      · rintro j (h | h)
        · exact .inl h
        · exact .inr (by omega)
      · rintro j rfl
        exact .inl (by rw [hfp]; simp)
    exact hall
  · intro j hj
    rw [hfp'] at hj
    simp only [List.mem_cons, List.mem_append, List.not_mem_nil, or_false] at hj
    rw [hfp]
    rcases hj with rfl | rfl | hj | rfl
    · exact .inl (by simp)
    · exact .inl (by simp)
    · exact .inl (by simp only [List.mem_cons, List.mem_append]; exact .inr (.inr (.inl hj)))
    · rcases hat with h | h
      · exact .inl (by simp [h])
      · exact .inr (by omega)

end Go.Proofs.Ytlfimcpceiemnaa

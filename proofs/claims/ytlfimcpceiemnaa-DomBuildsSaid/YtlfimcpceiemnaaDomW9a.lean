/- dom's builder: what an element more leaves. -/
import Derived.Test.YtlfimcpceiemnaaDomW8
set_option linter.unusedVariables false
namespace Go.Proofs.Ytlfimcpceiemnaa
open Go Go.RowKit

theorem IsB.mem {m m' : Mem} {w : World} {base g : Nat} {st : List Node} {many : Int} {over : Bool} {vo : Value} {oc : List Value} {ks : List KRow} (h : IsB m w base g st many over vo oc ks)
    (hle : m.le m') (hok : m'.ok w) (hfr : ∀ k ∈ fpB g vo ks, m'.free k) : IsB m' w base g st many over vo oc ks := ⟨hok, h.obj, h.row, h.els.le hle, h.rows, h.nd, hfr, h.bs⟩
theorem push_end {m : Mem} {w W w1 : World} {base g b' cap' : Nat} {st : List Node} {many : Int} {over : Bool} {vo : Value} {oc : List Value} {ks : List KRow} {name : Str} {attrs : List Attr} {va : Value} {o : Obj}
    (h : IsB m W base g st many over vo oc ks) (hch : Ch (fun _ => False) w W) (hA : RdAttrs m va attrs)
    (hown : w1.ownsRow base 38 5 (.slice (some ⟨b', 0, none⟩) (st.length + 1) cap') (st.length + 1) (oc ++ [.string ⟨name.toArray⟩, va, .string ⟨#[]⟩, .slice none 0 0, .string ⟨name.toArray⟩]))
    (hgrow : (W.alloc o).drew.grownBy w1 vo.ownBlock) (hat : vo.ownBlock = some b' ∨ b' = W.heap.size + 1) :
    BPost m base g w vo ks (st ++ [.mk name attrs [] []]) many over (w1.setCell ⟨g, 0, none⟩ (.slice (some ⟨b', 0, none⟩) (st.length + 1) cap')) := by
  have hfp : ∀ v, fpB g v ks = g :: (v.ownBlock.toList ++ ks.filterMap (·.v.ownBlock)) := fun _ => rfl
  have hfp' : ∀ n xs, fpB g (.slice (some ⟨b', 0, none⟩) (st.length + 1) cap') (ks ++ [⟨.slice none 0 0, n, xs⟩]) = g :: b' :: ks.filterMap (·.v.ownBlock) := by
    intro n xs
    simp [fpB, Value.ownBlock]
  have hnd := h.nd
  rw [hfp] at hnd
  have hlt := h.lt
  rw [hfp] at hlt
  have hgW : g < W.heap.size := (hlt g (by simp)).2
  have hkW : ∀ x ∈ ks.filterMap (·.v.ownBlock), x < W.heap.size := fun x hx => (hlt x (List.mem_cons_of_mem _ (List.mem_append.2 (.inr hx)))).2
  have hSn : ∀ j, (vo.ownBlock = some j ∨ j = b') → j ≠ g ∧ j ∉ ks.filterMap (·.v.ownBlock) := by
    have key : ∀ j, vo.ownBlock = some j → j ≠ g ∧ j ∉ ks.filterMap (·.v.ownBlock) := by
      intro j hj
      rw [hj] at hnd
      simp only [Option.toList_some, List.singleton_append, List.nodup_cons, List.mem_cons] at hnd
      exact ⟨fun e => hnd.1 (.inl e.symm), hnd.2.1⟩
    rintro j (hj | rfl)
    · exact key j hj
    · rcases hat with h1 | h1
      · exact key _ h1
      · exact ⟨by omega, fun hm => by have := hkW _ hm; omega⟩
  have hch2 : Ch (fun j => vo.ownBlock = some j) W w1 := (((Ch.refl (fun j => vo.ownBlock = some j) W).alloc o).drew).grown hgrow (fun j hj => .inl hj)
  have hfree : ∀ j, (vo.ownBlock = some j ∨ j = b') → m.free j := by
    have key : ∀ j, vo.ownBlock = some j → m.free j := fun j hj => h.fr j (by rw [hfp]; simp [hj])
    rintro j (hj | rfl)
    · exact key j hj
    · rcases hat with h1 | h1
      · exact key _ h1
      · exact h.hm.new (by omega)
  have hc3 : Ch (fun k => k = g) w1 (w1.setCell ⟨g, 0, none⟩ (.slice (some ⟨b', 0, none⟩) (st.length + 1) cap')) := (Ch.refl (fun k => k = g) w1).setCell (p := ⟨g, 0, none⟩) (.inl rfl) _
  have ho := heap_setCell_at (i := 0) (hch2.heap h.obj (fun e => (hSn g (.inl e)).1 rfl)) (.slice (some ⟨b', 0, none⟩) (st.length + 1) cap')
  generalize w1.setCell ⟨g, 0, none⟩ (.slice (some ⟨b', 0, none⟩) (st.length + 1) cap') = w2 at *
  have hok : m.ok w2 := (h.hm.ch hch2 (fun k hk => hfree k (.inl hk))).ch hc3 (fun k hk => by subst hk; exact h.fr _ (by simp [fpB]))
  have hb'n := hSn b' (.inr rfl)
  refine ⟨m, .slice (some ⟨b', 0, none⟩) (st.length + 1) cap', oc ++ [.string ⟨name.toArray⟩, va, .string ⟨#[]⟩, .slice none 0 0, .string ⟨name.toArray⟩], ks ++ [⟨.slice none 0 0, 0, []⟩], Mem.le_refl m, fun _ h _ _ => h, ⟨hok, ho, ?_, ?_, ?_, ?_, ?_, h.bs⟩, ?_, ?_⟩
  · rw [List.length_append]
    exact hc3.own hown (fun k hk e => by simp [Value.ownBlock] at hk; subst hk; exact hb'n.1 e)
  · exact h.els.append (ElCells.one (k := ⟨.slice none 0 0, 0, []⟩) hA rfl .nil)
  · intro r hr
    rcases List.mem_append.1 hr with hr | hr
    · have hne : ∀ j, r.v.ownBlock = some j → j ∈ ks.filterMap (·.v.ownBlock) := fun j hj => List.mem_filterMap.2 ⟨r, hr, hj⟩
      exact hc3.own (hch2.own (h.rows r hr) (fun j hj hs => (hSn j (.inl hs)).2 (hne j hj))) (fun j hj e => by
        subst e
        simp only [List.nodup_cons, List.mem_append] at hnd
        exact hnd.1 (.inr (hne j hj)))
    · simp at hr; subst hr
      exact World.ownsRow_nil _ _ _ _
  · rw [hfp']
    simp only [List.nodup_cons, List.mem_cons, List.mem_append] at hnd ⊢
    refine ⟨?_, hb'n.2, ?_⟩
    · rintro (e | e)
      · exact hb'n.1 e.symm
      · exact hnd.1 (.inr e)
    · exact (List.nodup_append.1 hnd.2).2.1
  · intro j hj
    rw [hfp'] at hj
    simp only [List.mem_cons] at hj
    rcases hj with rfl | rfl | hj
    · exact h.fr _ (by simp [fpB])
    · exact hfree _ (.inr rfl)
    · exact h.fr _ (by rw [hfp]; exact List.mem_cons_of_mem _ (List.mem_append.2 (.inr hj)))
  · refine ((hch.mono (fun _ h => h.elim)).trans (hch2.mono (T := fun j => j ∈ fpB g vo ks) ?_) (fun j hj => .inl hj)).trans (hc3.mono (T := fun j => j ∈ fpB g vo ks) ?_) (fun j hj => .inl hj)
    · intro j hj; rw [hfp]; simp [hj]
    · intro j hj; subst hj; simp [fpB]
  · intro j hj
    rw [hfp'] at hj
    simp only [List.mem_cons] at hj
    rcases hj with rfl | rfl | hj
    · exact .inl (by simp [fpB])
    · rcases hat with h1 | h1
      · exact .inl (by rw [hfp]; simp [h1])
      · exact .inr (by have := hch.size; omega)
    · exact .inl (by rw [hfp]; exact List.mem_cons_of_mem _ (List.mem_append.2 (.inr hj)))

end Go.Proofs.Ytlfimcpceiemnaa

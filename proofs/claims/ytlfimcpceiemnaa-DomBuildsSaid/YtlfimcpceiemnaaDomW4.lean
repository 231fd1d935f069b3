/- dom's builder, walked: count. -/
import Derived.Test.YtlfimcpceiemnaaDomSpec
import Derived.Test.YtlfimcpceiemnaaDomW2
set_option linter.unusedVariables false
namespace Go.Proofs.Ytlfimcpceiemnaa
open Go Go.RowKit

theorem heap_setCell_at {w : World} {g i : Nat} {cs : Array Value} {t : TypeId} {f : Nat × Nat} (h : w.heap[g]? = some (.cells cs t f)) (u : Value) :
    (w.setCell ⟨g, i, none⟩ u).heap[g]? = some (.cells (cs.setIfInBounds i u) t f) := by
  unfold World.setCell
  simp only [Array.getElem?_modify, if_true, h]
  rfl
/-- The builder's object alone has turned, its row aside. -/
theorem IsB.obj' {m : Mem} {w w' : World} {base g : Nat} {st : List Node} {many many' : Int} {over over' : Bool} {vo : Value} {oc : List Value} {ks : List KRow} (h : IsB m w base g st many over vo oc ks)
    (hc : Ch (fun k => k = g) w w') (ho : w'.heap[g]? = some (.cells #[vo, .int .i64 many', .bool over'] 41 (0, 0))) : BPost m base g w vo ks st many' over' w' := by
  have hnd := h.nd
  simp only [fpB, List.nodup_cons] at hnd
  refine ⟨m, vo, oc, ks, Mem.le_refl m, fun _ h _ _ => h, ⟨h.hm.ch hc (fun k hk => ?_), ho, hc.own h.row (fun k hk e => ?_), h.els, fun r hr => hc.own (h.rows r hr) (fun k hk e => ?_), h.nd, h.fr, h.bs⟩, hc.mono (fun k hk => ?_), fun _ h => .inl h⟩
  · subst hk; exact h.fr _ (by simp [fpB])
  · subst e; exact hnd.1 (by simp [hk])
  · subst e; exact hnd.1 (List.mem_append.2 (.inr (List.mem_filterMap.2 ⟨r, hr, hk⟩)))
  · subst hk; simp [fpB]
theorem BPost.over' {m : Mem} {base g : Nat} {w w' : World} {vo : Value} {ks : List KRow} {st : List Node} {many : Int} {o1 o2 : Bool} (h : BPost m base g w vo ks st many o1 w') (e : o1 = o2) : BPost m base g w vo ks st many o2 w' := e ▸ h
theorem count_end {m : Mem} {w : World} {base g : Nat} {st : List Node} {many many' : Int} {over over' : Bool} {vo : Value} {oc : List Value} {ks : List KRow} (h : IsB m w base g st many over vo oc ks) {o : Obj} :
    BPost m base g w vo ks st many' over' (((w.setCell ⟨g, 1, none⟩ (.int .i64 many')).setCell ⟨g, 2, none⟩ (.bool over')).alloc o).drew := by
  have hg : g < w.heap.size := (Array.getElem?_eq_some_iff.1 h.obj).1
  have h1 := heap_setCell_at (i := 1) h.obj (.int .i64 many')
  have h2 := heap_setCell_at (i := 2) h1 (.bool over')
  have c1 : Ch (fun k => k = g) w (w.setCell ⟨g, 1, none⟩ (.int .i64 many')) := (Ch.refl (fun k => k = g) w).setCell (p := ⟨g, 1, none⟩) (.inl rfl) _
  have c2 : Ch (fun k => k = g) w ((w.setCell ⟨g, 1, none⟩ (.int .i64 many')).setCell ⟨g, 2, none⟩ (.bool over')) := c1.setCell (p := ⟨g, 2, none⟩) (.inl rfl) _
  have hb := Below.heap_alloc ((w.setCell ⟨g, 1, none⟩ (.int .i64 many')).setCell ⟨g, 2, none⟩ (.bool over')) o g (by have := c2.size; omega)
  exact h.obj' (c2.alloc o).drew (hb.trans h2)

set_option maxHeartbeats 400000 in
theorem count_calls {m : Mem} {w : World} {base g : Nat} {s : BS} {vo : Value} {oc : List Value} {ks : List KRow} (h : IsB m w base g s.st.reverse s.many s.over vo oc ks)
    (hm0 : 0 ≤ s.many) (hm1 : s.many ≤ 1000000) (hl0 : 0 < s.st.length) (hl : s.st.length ≤ 1000000) :
    Calls Try.prog 20 #[.pointer (some ⟨g, 0, none⟩)] w (Done (BPost m base g w vo ks s.count.st.reverse s.count.many s.count.over)) := by
  obtain ⟨st, many, over⟩ := s
  simp only [BS.count] at *
  obtain ⟨A, c, hv⟩ : ∃ A c, vo = .slice A st.length c := by
    obtain ⟨b, cap, hv, _⟩ := own_cells h.row (by simpa using hl0)
    rw [List.length_reverse] at hv
    exact ⟨_, _, hv⟩
  subst hv
  have x0 : w.cell? ⟨g, 0, none⟩ = some (.slice A st.length c) := by rw [cell_of_row w g 0 _ _ _ h.obj]; rfl
  have x1 : w.cell? ⟨g, 1, none⟩ = some (.int .i64 many) := by rw [cell_of_row w g 1 _ _ _ h.obj]; rfl
  have x2 : w.cell? ⟨g, 2, none⟩ = some (.bool over) := by rw [cell_of_row w g 2 _ _ _ h.obj]; rfl
  have f1 : w.frozen? ⟨g, 1, none⟩ = false := by simp [World.frozen?, h.obj]
  have f2 : w.frozen? ⟨g, 2, none⟩ = false := by simp [World.frozen?, h.obj]
  have hg : g < w.heap.size := (Array.getElem?_eq_some_iff.1 h.obj).1
  have HF := fun m' o' o => count_end (many' := m') (over' := o') (o := o) h
  clear h
  generalize st.length = n at *
  go_enter Try.func20, Try.ntmps20
  go_wp2
  go_region
  all_goals (cases over)
  all_goals (by_cases hA : (64 : Int) < (n : Int) - 1)
  all_goals (by_cases hB : (2000 : Int) < many + 1)
  all_goals go_wp2
  all_goals go_end0
  all_goals exact Done.mk ((HF _ _ _).over' (by simp [hA, hB]))

end Go.Proofs.Ytlfimcpceiemnaa

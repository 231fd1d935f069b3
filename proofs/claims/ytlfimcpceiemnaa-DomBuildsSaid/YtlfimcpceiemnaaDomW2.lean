/- dom's builder, walked: put. -/
import Derived.Test.YtlfimcpceiemnaaDomW2a
set_option linter.unusedVariables false
namespace Go.Proofs.Ytlfimcpceiemnaa
open Go Go.RowKit

/-- A call that hands nothing back. -/
def Done (R : World → Prop) (e : Ending) (w' : World) : Prop := e = .returned (.tuple #[]) ∧ R w'

theorem Done.mk {R : World → Prop} {w' : World} (h : R w') : Done R (.returned (.tuple #[])) w' := ⟨rfl, h⟩

set_option maxHeartbeats 800000 in
theorem put_calls {m : Mem} {w : World} {base g : Nat} {st : List Node} {top : Node} {many : Int} {over : Bool} {vo : Value} {oc : List Value} {ks : List KRow} (h : IsB m w base g (st ++ [top]) many over vo oc ks)
    {x : Node} {va vk : Value} (hx : NodeAt m x va vk) (hsz : top.kids.length ≤ 1000000) :
    Calls Try.prog 19 #[.pointer (some ⟨g, 0, none⟩), .agg #[.string ⟨x.name.toArray⟩, va, .string ⟨x.text.toArray⟩, vk]] w
      (Done (BPost m base g w vo ks (st ++ [.mk top.name top.attrs top.text (top.kids ++ [x])]) many over)) := by
  obtain ⟨⟨_, Aa, ca, rfl, _⟩, _, ⟨_, Ak, ck, rfl, _⟩, _⟩ := id hx
  obtain ⟨ks', cs', k, va', rfl, rfl, hE, hA, hkn, hkc, htx⟩ := h.els.snoc
  have hlen := hE.length
  obtain ⟨b, cap, hv, hcap, hob, hbb, hcells, hfro⟩ := own_cells h.row (by simp)
  go_enter Try.func19, Try.ntmps19
  go_wp2_with fail
  have hch := (Ch.refl (fun _ => False) w).alloc (.cells #[.string ⟨x.name.toArray⟩, .slice Aa x.attrs.length ca, .string ⟨x.text.toArray⟩, .slice Ak x.kids.length ck] 34)
  refine (last_calls (h.ch hch (fun _ hk => hk.elim)) (by simp)).mono ?_
  rintro e w' ⟨hh, q, hob2, rfl, rfl⟩
  rw [hob] at hob2
  obtain rfl : b = hh := by simpa using hob2
  have hch2 := hch.drewN q
  have c1 : ((w.alloc (.cells #[.string ⟨x.name.toArray⟩, .slice Aa x.attrs.length ca, .string ⟨x.text.toArray⟩, .slice Ak x.kids.length ck] 34)).drewN q).heap[w.heap.size]? = some (.cells #[.string ⟨x.name.toArray⟩, .slice Aa x.attrs.length ca, .string ⟨x.text.toArray⟩, .slice Ak x.kids.length ck] 34 (0, 0)) := heap_alloc_new w _
  have c2 : w.heap.size < ((w.alloc (.cells #[.string ⟨x.name.toArray⟩, .slice Aa x.attrs.length ca, .string ⟨x.text.toArray⟩, .slice Ak x.kids.length ck] 34)).drewN q).heap.size := by simp
  generalize (w.alloc (.cells #[.string ⟨x.name.toArray⟩, .slice Aa x.attrs.length ca, .string ⟨x.text.toArray⟩, .slice Ak x.kids.length ck] 34)).drewN q = W at *
  have hW := h.ch hch2 (fun _ hk => hk.elim)
  have x0 : W.cell? ⟨w.heap.size, 0, none⟩ = some (.string ⟨x.name.toArray⟩) := by rw [cell_of_row W _ 0 _ _ _ c1]; rfl
  have x1 : W.cell? ⟨w.heap.size, 1, none⟩ = some (.slice Aa x.attrs.length ca) := by rw [cell_of_row W _ 1 _ _ _ c1]; rfl
  have x2 : W.cell? ⟨w.heap.size, 2, none⟩ = some (.string ⟨x.text.toArray⟩) := by rw [cell_of_row W _ 2 _ _ _ c1]; rfl
  have x3 : W.cell? ⟨w.heap.size, 3, none⟩ = some (.slice Ak x.kids.length ck) := by rw [cell_of_row W _ 3 _ _ _ c1]; rfl
  have hc3 : W.cell? ⟨b, st.length * 5 + 3, none⟩ = some k.v := hch2.cell (hcells (st.length * 5 + 3) k.v (by rw [List.getElem?_append_right (by omega)]; rw [show st.length * 5 + 3 - cs'.length = 3 from by omega]; rfl)) (fun h => h)
  have hf3 : W.frozen? ⟨b, st.length * 5 + 3, none⟩ = false := by
    obtain ⟨b', _, _, _, hob', _, _, hfro'⟩ := own_cells hW.row (by simp)
    rw [hob] at hob'
    obtain rfl : b = b' := by injection hob'
    exact hfro' _
  have hkr := hW.rows k (by simp)
  have hkr' := hkr
  have hbase : base ≤ W.heap.size := by have := (hW.lt g (by simp [fpB])); omega
  have hneK : k.v.ownBlock ≠ some b := by
    intro e
    have hnd := hW.nd
    simp only [fpB, hob, Option.toList_some, List.filterMap_append, List.singleton_append, List.nodup_cons, List.mem_append, List.mem_filterMap] at hnd
    exact hnd.2.1 (.inr ⟨k, by simp, e⟩)
  obtain ⟨A, c, hkv⟩ : ∃ A c, k.v = .slice A k.n c := by
    rcases hkr.2 with ⟨h0, h1⟩ | ⟨g, cap, cur, h0, _⟩
    · exact ⟨_, _, by rw [h0, h1]⟩
    · exact ⟨_, _, h0⟩
  have hbW : b < W.heap.size := World.block_lt_of_cell? W _ hc3
  rw [hkv] at hc3 hkr hneK
  have hneOf : ∀ g', ((Value.slice A k.n c).ownBlock = some g' ∨ g' = W.heap.size + 1) → ¬ g' = b := by
    rintro g' (e | e) rfl
    · exact hneK e
    · omega
  obtain ⟨i0, hi, hz0, hz1, hz2⟩ := info_parts Try.infoNode
  have hkn2 : k.n ≤ 1000000 := by omega
  have hkn3 : (k.n : Int) < (k.n : Int) + 1 := by omega
  have hkn4 : (0 : Int) ≤ (k.n : Int) := by omega
  have hk4 : k.cs.length = k.n * 4 := hkr.1
  have HFin := fun w1 g' cap' o a0 a1 a2 a3 hown hgrow hat => put_end (w1 := w1) (g' := g') (cap' := cap') (o := o) (a0 := a0) (a1 := a1) (a2 := a2) (a3 := a3) hW hE hA hkn hkc htx hch2 (Nat.le_of_lt c2) hob hx hown hgrow hat
  rw [hkv] at HFin
  have HF := Lib.hid HFin
  have HK4 := Lib.hid hk4
  clear hch hch2 hW h hcells hfro hE hA hkc hv hob hob2 hkv hlen hkn hkr' HFin htx hk4 c1
  simp only [List.length_append, List.length_singleton, Nat.add_sub_cancel]
  go_wp2_with fail
  go_region_law (refine step_append_lies _ rfl (.tmp 11) (.tmp 14) 25 rfl base 34 i0 _ 4 80 Try.underlying25 hi hz0 hz1 hz2 rfl (by decide) (.slice A k.n c) k.n k.cs rfl (hkr.drew.alloc _) ⟨W.heap.size, 0, none⟩ 1 1 [.string ⟨#[]⟩, .slice none 0 0, .string ⟨#[]⟩, .slice none 0 0] rfl rfl (World.news_of_block (heap_alloc_new _ _)) (by simp [Value.oneCell']) (by decide) (by unfold maxLen; omega) (by omega) (by simp; omega) _ rfl ?_; intro g' cap' w1 hown1 hgrow1 hat1 hlt1; obtain ⟨z0, z1, z2, z3, f0, f1, f2, f3⟩ := own_last4 HK4.out hown1; have hne := hneOf g' (by simpa using hat1); have hh3 := hgrow1.cell (a := ⟨b, st.length * 5 + 3, none⟩) (cellA hc3) (fun e => hneK e.symm); have ff3 := frA hc3 hf3 hgrow1 (fun e => hneK e.symm))
  all_goals
    have hat2 : (Value.slice A k.n c).ownBlock = some g' ∨ g' = W.heap.size + 1 := by simpa using hat1
    go_end0
    have fin := HF.out _ _ _ _ _ _ _ _ hown1 hgrow1 hat2
    first
      | with_reducible exact Done.mk fin
      | (rw [setCell4_comm _ hne]; with_reducible exact Done.mk fin)

end Go.Proofs.Ytlfimcpceiemnaa

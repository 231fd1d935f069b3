/- slices.Clone of attributes. -/
import Derived.Test.YtlfimcpceiemnaaDomW7
import Derived.WalkSpells
set_option linter.unusedVariables false
namespace Go.Proofs.Ytlfimcpceiemnaa
open Go Go.RowKit

theorem Try.infoAttr : (Try.prog.info? 59).map (fun i => (i.zero, i.size, i.bytes)) = some (some (.agg #[.string ⟨#[]⟩, .string ⟨#[]⟩]), 2, 32) := by kernel_rfl
/-- A new list of attributes. -/
def NewAttrs (m : Mem) (w : World) (xs : List Attr) (e : Ending) (w' : World) : Prop :=
  ∃ v m', e = .returned v ∧ m.le m' ∧ m'.ok w' ∧ RdAttrs m' v xs ∧ Ch (fun _ => False) w w' ∧ ∀ k, k < w.heap.size → m.free k → m'.free k
set_option maxHeartbeats 400000 in
theorem clone_calls {m : Mem} {w : World} (hw : m.ok w) {v : Value} {xs : List Attr} (h : RdAttrs m v xs) (hl : xs.length ≤ 1000000) :
    Calls Try.prog 24 #[v] w (NewAttrs m w xs) := by
  obtain ⟨hlen, A, c, rfl, hc, hr⟩ := h
  have h0 := Lib.run_eql_slice_nil (P := Try.prog)
  obtain ⟨i0, hi, hz0, hz1, hz2⟩ := info_parts Try.infoAttr
  rcases A with _ | ad
  · have hx : xs = [] := by
      rcases Nat.eq_zero_or_pos xs.length with h1 | h1
      · exact List.eq_nil_of_length_eq_zero h1
      · obtain ⟨b, o, he, _⟩ := hr h1; cases he
    subst hx
    clear hr hlen
    go_enter Try.func24, Try.ntmps24
    go_wp2
    all_goals
      go_ret
      exact ⟨_, m, rfl, Mem.le_refl m, hw, SlV.nil m 2, Ch.refl _ w, fun _ _ h => h⟩
  · have hown := World.ownsRow_made (base := w.heap.size) (e := 59) (size := 2) w #[] 0 (Nat.le_refl _) (by decide) rfl
    have hcells : ∀ j u, (attrCells xs)[j]? = some u → (w.alloc (.cells #[] 59)).cell? (ad.add j) = some u := by
      intro j u hu
      rcases Nat.eq_zero_or_pos xs.length with h1 | h1
      · rw [List.eq_nil_of_length_eq_zero h1] at hu; simp [attrCells] at hu
      · obtain ⟨b, o, he, hrow⟩ := hr h1
        injection he with he; subst he
        have h2 := hw _ _ _ (hrow j u hu)
        have h3 : (⟨b, o, none⟩ : Addr).add j = ⟨b, o + j, none⟩ := by unfold Addr.add; split <;> simp_all
        rw [h3]
        exact (World.cell?_of_block (Below.heap_alloc w _ b (World.block_lt_of_cell? w _ h2))).trans h2
    have hone : ∀ u ∈ attrCells xs, u.oneCell' = true := by
      intro u hu
      simp only [attrCells, List.mem_flatMap] at hu
      obtain ⟨a, _, hu⟩ := hu
      simp at hu
      rcases hu with rfl | rfl <;> rfl
    have Hc := Lib.hid hcells
    have Hl := Lib.hid hlen
    clear hcells hlen hr
    go_enter Try.func24, Try.ntmps24
    go_wp2_with (at_builtin; refine wpList_append_own _ rfl (.tmp 5) (.tmp 6) 30 rfl w.heap.size 59 i0 _ 2 32 Try.underlying30 hi hz0 hz1 hz2 rfl (by decide) (.slice (some ⟨w.heap.size, 0, none⟩) 0 0) 0 [] rfl hown ad xs.length c (attrCells xs) rfl Hl.out Hc.out hone (by unfold maxLen; omega) (by omega) (by simp) ?_)
    intro v' w1 hown1 hgrow1 _
    try simp only [Nat.zero_add, List.nil_append] at hown1
    have c1 : Ch (fun _ => False) w w1 := ((Ch.refl (fun _ => False) w).alloc _).grown hgrow1 (fun k hk => .inr (by injection hk with hk; exact Nat.le_of_eq hk))
    obtain ⟨m', l1, ok1, sl1, fr1⟩ := freeze (hw.ch c1 (fun _ h => h.elim)) hown1 (fun k hk => hw.new (hown1.lt k hk).1)
    have fin : ∀ k, k < w.heap.size → m.free k → m'.free k := fun k hk hf => fr1 k hf (fun e => by have := (hown1.lt k e).1; omega)
    obtain ⟨A', c', hv'⟩ : ∃ A' c', v' = .slice A' xs.length c' := by obtain ⟨_, A', c', h, _⟩ := sl1; exact ⟨A', c', h⟩
    subst hv'
    go_wp2
    go_ret
    exact ⟨_, m', rfl, l1, ok1, sl1, c1, fin⟩

end Go.Proofs.Ytlfimcpceiemnaa

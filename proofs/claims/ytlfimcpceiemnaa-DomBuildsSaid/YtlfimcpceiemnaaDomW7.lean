/- dom's builder, walked: close. -/
import Derived.Test.YtlfimcpceiemnaaDomW6
set_option linter.unusedVariables false
namespace Go.Proofs.Ytlfimcpceiemnaa
open Go Go.RowKit

theorem shutN_succ (n : Nat) : ∀ t, shutN (n + 1) t = shutS (shutN n t) := by
  induction n with
  | zero => intro t; rfl
  | succ n ih => intro t; rw [shutN, ih]; rfl
/-- A literal of strings, laid in a new block. -/
theorem lit_strs {m : Mem} {w : World} (hw : m.ok w) (xs : List Str) (e : TypeId) (hl : 0 < xs.length ∧ xs.length ≤ 1000000) :
    ∃ m' : Mem, m'.ok (w.alloc (.cells (strCells xs).toArray e)) ∧ RdStrs m' (.slice (some ⟨w.heap.size, 0, none⟩) xs.length xs.length) xs := by
  refine ⟨m.with w.heap.size (strCells xs), fun b o v h => ?_, by simp [strCells], _, _, rfl, ⟨Nat.le_refl _, by omega⟩, fun _ => ⟨_, _, rfl, fun i v hv => by rw [Mem.with_at]; simpa using hv⟩⟩
  by_cases hb : b = w.heap.size
  · subst hb
    rw [Mem.with_at] at h
    rw [cell_of_row _ _ o _ _ _ (heap_alloc_new w _)]
    simpa using h
  · rw [Mem.with_ne _ _ hb] at h
    have := hw _ _ _ h
    have hlt := World.block_lt_of_cell? w _ this
    exact (World.cell?_of_block (Below.heap_alloc w _ b hlt)).trans this
/-- How many elements are open. -/
def lenOf (w : World) (g : Nat) : Nat := match w.cell? ⟨g, 0, none⟩ with | some (.slice _ n _) => n | _ => 0
theorem IsB.len {m : Mem} {w : World} {base g : Nat} {st : List Node} {many : Int} {over : Bool} {vo : Value} {oc : List Value} {ks : List KRow} (h : IsB m w base g st many over vo oc ks) (ht : 0 < st.length) :
    ∃ b cap, vo = .slice (some ⟨b, 0, none⟩) st.length cap ∧ w.cell? ⟨g, 0, none⟩ = some (.slice (some ⟨b, 0, none⟩) st.length cap) ∧ lenOf w g = st.length := by
  obtain ⟨b, cap, hvo, _⟩ := own_cells h.row ht
  have x0 : w.cell? ⟨g, 0, none⟩ = some vo := by rw [cell_of_row w g 0 _ _ _ h.obj]; rfl
  refine ⟨b, cap, hvo, hvo ▸ x0, ?_⟩
  unfold lenOf
  rw [x0, hvo]
def CloseRel (m : Mem) (base g : Nat) (w : World) (vo : Value) (ks : List KRow) (t : List Node) (many : Int) (over : Bool) (i : Nat) (wr : World) : Prop :=
  ∃ j, j ≤ t.length - i ∧ (i = 0 → j = 0) ∧ lenOf wr g = t.length - j ∧ BPost m base g w vo ks (shutN j t).reverse many over wr

set_option maxHeartbeats 800000 in
theorem close_calls {m : Mem} {w : World} {base g : Nat} {s : BS} {vo : Value} {oc : List Value} {ks : List KRow} (h : IsB m w base g s.st.reverse s.many s.over vo oc ks) (hl0 : s.st ≠ [])
    (hl : loadS s.st ≤ 1000000) (name : Str) :
    Calls Try.prog 22 #[.pointer (some ⟨g, 0, none⟩), .string ⟨name.toArray⟩] w fun e w' => e = .returned (.bool (decide (0 < innerS [name] s.st))) ∧ BPost m base g w vo ks (s.close name).st.reverse s.many s.over w' := by
  obtain ⟨t, many, over⟩ := s
  simp only [BS.close] at *
  have htl : 0 < t.length := List.length_pos_iff.2 hl0
  have htm : t.length ≤ 1000000 := by have := length_le_load t; omega
  go_enter Try.func22, Try.ntmps22
  go_wp2_with fail
  have hch := (Ch.refl (fun _ => False) w).alloc (.cells (strCells [name]).toArray 9)
  obtain ⟨m', hm', hv'⟩ := lit_strs h.hm [name] 9 (by simp)
  have h1 := h.ch hch (fun _ hk => hk.elim)
  refine (inner_calls h1 htl htm hm' hv' (by simp)).mono ?_
  rintro e w' ⟨rfl, rfl⟩
  clear hm' hv' m'
  obtain ⟨W, hW⟩ : ∃ W, W = w.alloc (.cells (strCells [name]).toArray 9) := ⟨_, rfl⟩
  have HW := Lib.hid hW
  rw [← hW] at h1 hch ⊢
  clear hW
  have hi := innerS_lt [name] t hl0
  have Hc : Hid (closeS name t = if 0 < innerS [name] t then shutN (t.length - innerS [name] t) t else t) := Lib.hid rfl
  generalize hii : innerS [name] t = i at *
  have Hii := Lib.hid hii
  clear hii
  have hi0 : (0 : Int) ≤ (i : Int) := by omega
  go_wp2
  go_loopw [10] (fun _ wr => CloseRel m base g W vo ks t many over i wr) (fun _ wr => lenOf wr g)
  case atStart => exact ⟨0, Nat.zero_le _, fun _ => rfl, by have := (h1.len (by simpa using htl)).choose_spec; obtain ⟨_, _, _, h3⟩ := this; simpa using h3, BPost.refl h1⟩
  case round =>
    rename_i wr
    obtain ⟨j, hj, hj0, hlen, hB⟩ := hrel
    have hB' := hB
    obtain ⟨m2, vo2, oc2, ks2, l2, f2, i2, c2, n2⟩ := hB'
    have hsl : (shutN j t).length = t.length - j := length_shutN j t (by omega)
    obtain ⟨b, cap, hvo, hx0, hln⟩ := i2.len (by simp; omega)
    rw [List.length_reverse, hsl] at hx0 hln
    by_cases h0 : 0 < i
    · have hi1 : (0 : Int) < (i : Int) := by omega
      by_cases h2 : j < t.length - i
      · have hi2 : (i : Int) < ((t.length - j : Nat) : Int) := by omega
        have hlj : loadS (shutN j t) ≤ 1000000 := Nat.le_trans (load_shutN j t) hl
        obtain ⟨top, p, rest, hst⟩ : ∃ top p rest, shutN j t = top :: p :: rest := by
          match hs : shutN j t with
          | [] => rw [hs] at hsl; simp at hsl; omega
          | [x] => rw [hs] at hsl; simp at hsl; omega
          | x :: y :: r => exact ⟨x, y, r, rfl⟩
        have hsc := shut_calls (s := ⟨shutN j t, many, over⟩) hst i2 hlj
        have Hsl := Lib.hid hsl
        have Hln := Lib.hid hln
        have Hst := Lib.hid hst
        have Hlen := Lib.hid hlen
        have Hvo := Lib.hid hvo
        clear hsl hln hst hlen hvo
        go_wp2_with fail
        refine hsc.mono ?_
        rintro e w2 ⟨rfl, hb⟩
        have hfin : BPost m base g W vo ks (shutN (j + 1) t).reverse many over w2 := by
          rw [shutN_succ]
          exact BPost.step l2 f2 c2 n2 hb
        have hlen2 : lenOf w2 g = t.length - (j + 1) := by
          obtain ⟨m3, vo3, oc3, ks3, l3, f3, i3, c3, n3⟩ := hfin
          have hs3 := length_shutN (j + 1) t (by omega)
          obtain ⟨_, _, _, _, h3⟩ := i3.len (by simp; omega)
          simpa [hs3] using h3
        have hlt : lenOf w2 g < lenOf wr g := by rw [hlen2, Hlen.out]; omega
        have R : CloseRel m base g W vo ks t many over i w2 := ⟨j + 1, by omega, fun e => by omega, hlen2, hfin⟩
        clear hb hfin hlen2 hB i2 c2 n2 f2 l2
        go_wp2
        go_roundw
        case rel => exact R
        case measure => exact hlt
      · have hi2 : ¬ (i : Int) < ((t.length - j : Nat) : Int) := by omega
        have hfin : BPost m base g w vo ks (closeS name t).reverse many over wr := by
          have e : j = t.length - i := by omega
          subst e
          rw [Hc.out, if_pos h0]
          exact hB.ahead hch
        have Hvo := Lib.hid hvo
        clear hsl hln hlen hvo hB
        go_wp2
        go_ret
        exact ⟨Ret1 (by simp [Hii.out, h0]), hfin⟩
    · obtain rfl : i = 0 := by omega
      obtain rfl := hj0 rfl
      have hfin : BPost m base g w vo ks (closeS name t).reverse many over wr := by
        rw [Hc.out, if_neg h0]
        exact hB.ahead hch
      have Hvo := Lib.hid hvo
      clear hsl hln hlen hvo hB
      go_wp2
      go_ret
      exact ⟨Ret1 (by simp [Hii.out]), hfin⟩

end Go.Proofs.Ytlfimcpceiemnaa

/- dom's builder, walked: start. -/
import Derived.Test.YtlfimcpceiemnaaDomW9a
import Derived.Deep.DeepCutAuto
set_option linter.unusedVariables false
namespace Go.Proofs.Ytlfimcpceiemnaa
open Go Go.RowKit

theorem IsB.blt {m : Mem} {w : World} {base g : Nat} {st : List Node} {many : Int} {over : Bool} {vo : Value} {oc : List Value} {ks : List KRow} (h : IsB m w base g st many over vo oc ks) {b : Nat} (hb : vo.ownBlock = some b) : b < w.heap.size ∧ ¬ g = b := by
  refine ⟨(h.lt b (by simp [fpB, hb])).2, fun e => ?_⟩
  have := h.nd
  simp only [fpB, List.nodup_cons, hb] at this
  exact this.1 (by simp [e])

set_option maxHeartbeats 1600000 in
theorem start_calls {m : Mem} {w : World} {base g : Nat} {s : BS} {vo : Value} {oc : List Value} {ks : List KRow} (h : IsB m w base g s.st.reverse s.many s.over vo oc ks) (hl0 : s.st ≠ [])
    (hl : loadS s.st ≤ 500000) (hm0 : 0 ≤ s.many) (hm1 : s.many ≤ 500000) (name : Str) {va : Value} {attrs : List Attr} (ha : RdAttrs m va attrs) (hal : attrs.length ≤ 1000000) :
    Calls Try.prog 12 #[.pointer (some ⟨g, 0, none⟩), .string ⟨name.toArray⟩, va] w (Done (BPost m base g w vo ks (s.start name attrs).st.reverse (s.start name attrs).many (s.start name attrs).over)) := by
  obtain ⟨_, Aa, ca, rfl, _⟩ := id ha
  go_enter Try.func12, Try.ntmps12
  go_upto_if 9 with (go_at_call 21; refine (block_calls _ _).mono ?_; rintro e w' ⟨rfl, rfl⟩)
  go_cut [] (fun wx => BPost m base g w vo ks (s.s1 name).st.reverse s.many s.over wx)
  case first =>
    by_cases hb : isBlock name = true
    · have e : s.s1 name = s.close cP := by unfold BS.s1; rw [if_pos hb]
      have E := Lib.hid e
      clear e
      rw [hb]
      go_wp2_with fail
      refine (close_calls h hl0 (by omega) cP).mono ?_
      rintro e w1 ⟨rfl, hb1⟩
      go_wp2
      go_meet
      rw [E.out]; exact hb1
    · have hb' : isBlock name = false := by simpa using hb
      have E := Lib.hid (show s.s1 name = s by unfold BS.s1; rw [if_neg hb])
      rw [hb']
      go_wp2
      go_meet
      rw [E.out]; exact BPost.refl h
  case rest =>
    obtain ⟨hs1, hs1l⟩ := s.s1_st name hl0
    have Hs := Lib.hid (show s.start name attrs = (((s.s1 name).s2 name).s3 name attrs).count from rfl)
    have hm1' := (s.s1_rest name).1
    have ho1' := (s.s1_rest name).2
    rw [← hm1', ← ho1'] at hcut
    have Hm1 := Lib.hid hm1'
    clear hm1' ho1'
    have hm0s : 0 ≤ (s.s1 name).many := by rw [Hm1.out]; exact hm0
    have hm1s : (s.s1 name).many ≤ 500000 := by rw [Hm1.out]; exact hm1
    generalize s.s1 name = s1 at *
    obtain ⟨m1, vo1, oc1, ks1, l1, f1, i1, c1, n1⟩ := hcut
    have htl : 0 < s1.st.length := List.length_pos_iff.2 hs1
    have htm : s1.st.length ≤ 500000 := by have := length_le_load s1.st; omega
    go_wp2_with fail
    have hch := (Ch.refl (fun _ => False) wc).alloc (.cells (strCells [cLi, cUl, cOl]).toArray 9)
    obtain ⟨m', hm', hv'⟩ := lit_strs i1.hm [cLi, cUl, cOl] 9 (by simp)
    have h1 := i1.ch hch (fun _ hk => hk.elim)
    refine (inner_calls h1 htl (by omega) hm' hv' (by simp)).mono ?_
    rintro e w' ⟨rfl, rfl⟩
    clear hm' hv' m'
    obtain ⟨W, hW⟩ : ∃ W, W = wc.alloc (.cells (strCells [cLi, cUl, cOl]).toArray 9) := ⟨_, rfl⟩
    rw [← hW] at h1 hch ⊢
    clear hW
    have B1 : ∀ {s2 : BS} {w2 : World}, BPost m1 base g W vo1 ks1 s2.st.reverse s2.many s2.over w2 → BPost m base g w vo ks s2.st.reverse s2.many s2.over w2 := fun hb => BPost.step l1 f1 c1 n1 (hb.ahead hch)
    have hat := innerS_lt [cLi, cUl, cOl] s1.st hs1
    have hnm := h1.els.name (innerS [cLi, cUl, cOl] s1.st) _ (atS_get hat)
    have Hli : Hid (liS s1.st name = (name == cLi && (decide (0 < innerS [cLi, cUl, cOl] s1.st) && (atS s1.st (innerS [cLi, cUl, cOl] s1.st)).name == cLi))) := Lib.hid rfl
    obtain ⟨b, cap, hvo, hx0, _⟩ := h1.len (by simpa using htl)
    rw [List.length_reverse] at hvo hx0
    subst hvo
    obtain ⟨_, _, _, _, hob, _, hcells, _⟩ := own_cells h1.row (by simpa using htl)
    obtain rfl : b = _ := by injection hob
    have hnmc := hcells _ _ hnm
    rw [Nat.mul_comm] at hnmc
    clear hcells hob hnm
    generalize hat2 : innerS [cLi, cUl, cOl] s1.st = at2 at *
    generalize (atS s1.st at2).name = nm2 at *
    have hati : (at2 : Int) < (s1.st.length : Int) := by omega
    have hati0 : (0 : Int) ≤ (at2 : Int) := by omega
    clear hat2
    go_upto_region 3 with fail
    go_cut [31] (fun r wx => r = .bool (name == cLi && (decide (0 < at2) && nm2 == cLi)) ∧ wx = W)
    case first =>
      by_cases e1 : name = cLi
      · have e1' : (name == cLi) = true := by simp [e1]
        by_cases e2 : 0 < at2
        · have e2' : (0 : Int) < (at2 : Int) := by omega
          by_cases e3 : nm2 = cLi
          · have e3' : (nm2 == cLi) = true := by simp [e3]
            clear e1 e3
            simp only [cLi] at e1' e3'
            go_wp2
            go_meet
            exact ⟨by simp [cLi, e1', e2, e3'], rfl⟩
          · have e3' : (nm2 == cLi) = false := by simp [e3]
            clear e1 e3
            simp only [cLi] at e1' e3'
            go_wp2
            go_meet
            exact ⟨by simp [cLi, e1', e2, e3'], rfl⟩
        · have e2' : ¬ (0 : Int) < (at2 : Int) := by omega
          clear e1
          simp only [cLi] at e1'
          go_wp2
          go_meet
          exact ⟨by simp [e2], rfl⟩
      · have e1' : (name == cLi) = false := by simp [e1]
        have e4 : (name == cLi && (decide (0 < at2) && nm2 == cLi)) = false := by simp [e1]
        clear e1
        simp only [cLi] at e1'
        go_wp2
        go_meet
        exact ⟨by rw [e4]; try rfl, rfl⟩
    case rest =>
      obtain ⟨rfl, rfl⟩ := hcut
      rw [← Hli.out]
      go_upto_if 31 with fail
      go_cut [] (fun wx => BPost m base g w vo ks (s1.s2 name).st.reverse (s1.s2 name).many (s1.s2 name).over wx)
      case first =>
        by_cases hb : liS s1.st name = true
        · have E := Lib.hid (show s1.s2 name = s1.close cLi by unfold BS.s2; rw [if_pos hb])
          rw [hb]
          go_wp2_with fail
          refine (close_calls h1 hs1 (by omega) cLi).mono ?_
          rintro e w1 ⟨rfl, hb1⟩
          go_wp2
          go_meet
          rw [E.out]; exact B1 hb1
        · have hb' : liS s1.st name = false := by simpa using hb
          have E := Lib.hid (show s1.s2 name = s1 by unfold BS.s2; rw [if_neg hb])
          rw [hb']
          go_wp2
          go_meet
          rw [E.out]; exact B1 (BPost.refl h1)
      case rest =>
        clear B1 h1 i1 c1 n1 f1 l1 hch hnmc hx0 Hli
        obtain ⟨hs2, hs2l⟩ := s1.s2_st name hs1
        have hm2' := (s1.s2_rest name).1
        have hm0t : 0 ≤ (s1.s2 name).many := by rw [hm2']; exact hm0s
        have hm1t : (s1.s2 name).many ≤ 500000 := by rw [hm2']; exact hm1s
        clear hm2'
        generalize s1.s2 name = s2 at *
        obtain ⟨m2, vo2, oc2, ks2, l2, f2, i2, c2, n2⟩ := hcut
        have htl2 : 0 < s2.st.length := List.length_pos_iff.2 hs2
        have htm2 : s2.st.length ≤ 500000 := by have := length_le_load s2.st; omega
        go_wp2_with fail
        rename_i wd
        refine (clone_calls i2.hm (ha.le l2) hal).mono ?_
        rintro e W ⟨v', m3, rfl, l3, ok3, ra3, c3, f3⟩
        have i3 := (i2.ch c3 (fun _ h => h.elim)).mem l3 ok3 (fun k hk => f3 k (i2.lt k hk).2 (i2.fr k hk))
        obtain ⟨_, A3, ca3, rfl, _⟩ := id ra3
        have B2 : ∀ {s4 : BS} {w2 : World}, BPost m3 base g W vo2 ks2 s4.st.reverse s4.many s4.over w2 → BPost m base g w vo ks s4.st.reverse s4.many s4.over w2 := fun hb =>
          BPost.step l2 f2 c2 n2 (BPost.step l3 (fun k hk _ hl => f3 k hl hk) (c3.mono (fun _ h => h.elim)) (fun k hk => .inl hk) hb)
        clear i2 c2 n2 f2 l2 c3 f3 l3 ok3
        go_upto_if 39 with (go_at_call 25; refine (void_calls _ _).mono ?_; rintro e w' ⟨rfl, rfl⟩)
        have hbx := heap_alloc_new W (.cells #[.string ⟨name.toArray⟩, .slice A3 attrs.length ca3, .string ⟨#[]⟩, .slice none 0 0] 34)
        have hch4 := (Ch.refl (fun _ => False) W).alloc (.cells #[.string ⟨name.toArray⟩, .slice A3 attrs.length ca3, .string ⟨#[]⟩, .slice none 0 0] 34)
        have hltW : W.heap.size < (W.alloc (.cells #[.string ⟨name.toArray⟩, .slice A3 attrs.length ca3, .string ⟨#[]⟩, .slice none 0 0] 34)).heap.size := by simp
        have i4 := i3.ch hch4 (fun _ hk => hk.elim)
        have B3 : ∀ {s4 : BS} {w2 : World}, BPost m3 base g (W.alloc (.cells #[.string ⟨name.toArray⟩, .slice A3 attrs.length ca3, .string ⟨#[]⟩, .slice none 0 0] 34)) vo2 ks2 s4.st.reverse s4.many s4.over w2 → BPost m base g w vo ks s4.st.reverse s4.many s4.over w2 := fun hb => B2 (hb.ahead hch4)
        clear B2 i3
        generalize hsz : W.heap.size = wn at *
        clear hsz
        generalize W.alloc (.cells #[.string ⟨name.toArray⟩, .slice A3 attrs.length ca3, .string ⟨#[]⟩, .slice none 0 0] 34) = X at *
        have y0 : X.cell? ⟨wn, 0, none⟩ = some (.string ⟨name.toArray⟩) := by rw [cell_of_row X _ 0 _ _ _ hbx]; rfl
        have y1 : X.cell? ⟨wn, 1, none⟩ = some (.slice A3 attrs.length ca3) := by rw [cell_of_row X _ 1 _ _ _ hbx]; rfl
        have y2 : X.cell? ⟨wn, 2, none⟩ = some (.string ⟨#[]⟩) := by rw [cell_of_row X _ 2 _ _ _ hbx]; rfl
        have y3 : X.cell? ⟨wn, 3, none⟩ = some (.slice none 0 0) := by rw [cell_of_row X _ 3 _ _ _ hbx]; rfl
        clear hbx
        go_cut [] (fun wx => BPost m3 base g X vo2 ks2 (s2.s3 name attrs).st.reverse (s2.s3 name attrs).many (s2.s3 name attrs).over wx)
        case first =>
          by_cases hb : isVoid name = true
          · obtain ⟨st2, many2, over2⟩ := s2
            obtain ⟨top, rest, rfl⟩ : ∃ top rest, st2 = top :: rest := by
              cases st2 with
              | nil => exact absurd rfl hs2
              | cons a r => exact ⟨a, r, rfl⟩
            have E := Lib.hid (show (BS.mk (top :: rest) many2 over2).s3 name attrs = ⟨addKid top (.mk name attrs [] []) :: rest, many2, over2⟩ by unfold BS.s3; rw [if_pos hb]; rfl)
            rw [hb]
            have i5 := i4
            simp only [List.reverse_cons] at i5
            go_wp2_with fail
            refine (put_calls (x := .mk name attrs [] []) i5 ⟨ra3, [], SlV.nil m3 4, .nil⟩ (by simp [loadS] at hs2l; omega)).mono ?_
            rintro e w1 ⟨rfl, hb1⟩
            go_wp2
            go_meet
            rw [E.out]
            simpa [addKid] using hb1
          · have hb' : isVoid name = false := by simpa using hb
            have E := Lib.hid (show s2.s3 name attrs = ⟨.mk name attrs [] [] :: s2.st, s2.many, s2.over⟩ by unfold BS.s3; rw [if_neg hb])
            rw [hb']
            obtain ⟨b2, cap2, hvo2, hx02, _⟩ := i4.len (by simpa using htl2)
            rw [List.length_reverse] at hvo2 hx02
            subst hvo2
            have f0 : X.frozen? ⟨g, 0, none⟩ = false := by simp [World.frozen?, i4.obj]
            have hgX : g < X.heap.size := (Array.getElem?_eq_some_iff.1 i4.obj).1
            have hrow := i4.row
            rw [List.length_reverse] at hrow
            have hbase : base ≤ X.heap.size := by have := i4.bs; omega
            obtain ⟨hb2X, hgb2⟩ := i4.blt (b := b2) rfl
            obtain ⟨j0, hi, hz0, hz1, hz2⟩ := info_parts Try.infoEl
            have HF := fun w1 b' cap' o hown hgrow hat => push_end (w := X) (w1 := w1) (b' := b') (cap' := cap') (o := o) (name := name) i4 (Ch.refl _ X) ra3 hown hgrow hat
            rw [List.length_reverse] at HF
            have HF' := Lib.hid HF
            have hneg : ¬ b2 = g := fun e => hgb2 e.symm
            clear HF i4 B3
            go_wp2_with fail
            go_region_law (refine step_append_lies _ rfl (.tmp 47) (.tmp 51) 39 rfl base 38 j0 _ 5 96 Try.underlying39 hi hz0 hz1 hz2 rfl (by decide) (.slice (some ⟨b2, 0, none⟩) s2.st.length cap2) s2.st.length oc2 rfl (hrow.drew.alloc _) ⟨X.heap.size, 0, none⟩ 1 1 [.string ⟨name.toArray⟩, .slice A3 attrs.length ca3, .string ⟨#[]⟩, .slice none 0 0, .string ⟨name.toArray⟩] rfl rfl (World.news_of_block (heap_alloc_new _ _)) (by simp [Value.oneCell']) (by decide) (by unfold maxLen; omega) (by omega) (by simp; omega) _ rfl ?_; intro b' cap' w1 hown1 hgrow1 hat1 hlt1; have hh3 := hgrow1.cell (a := ⟨g, 0, none⟩) (cellA hx02) (fun e => hgb2 (by injection e)); have ff3 := frA hx02 f0 hgrow1 (fun e => hgb2 (by injection e)))
            all_goals
              have hat2 : (Value.slice (some ⟨b2, 0, none⟩) s2.st.length cap2).ownBlock = some b' ∨ b' = X.heap.size + 1 := by simpa using hat1
              go_wp2_with fail
              go_meet
              have fin := HF'.out _ _ _ _ hown1 hgrow1 hat2
              rw [E.out, List.reverse_cons]
              exact fin
        case rest =>
          obtain ⟨hs3, hs3l⟩ := s2.s3_st name attrs hs2
          have hm3' := (s2.s3_rest name attrs).1
          have hm0u : 0 ≤ (s2.s3 name attrs).many := by rw [hm3']; exact hm0t
          have hm1u : (s2.s3 name attrs).many ≤ 500000 := by rw [hm3']; exact hm1t
          clear hm3' i4 y0 y1 y2 y3
          generalize s2.s3 name attrs = s4 at *
          obtain ⟨m5, vo5, oc5, ks5, l5, f5, i5, c5, n5⟩ := hcut
          have htl5 : 0 < s4.st.length := List.length_pos_iff.2 hs3
          have htm5 : s4.st.length ≤ 1000000 := by have := length_le_load s4.st; omega
          go_wp2_with fail
          refine (count_calls i5 hm0u (by omega) htl5 htm5).mono ?_
          rintro e w6 ⟨rfl, hb6⟩
          have fin := B3 (BPost.step l5 f5 c5 n5 hb6)
          clear hb6 i5 c5 n5 f5 l5 B3
          go_wp2
          go_end0
          refine Done.mk ?_
          rw [Hs.out]
          exact fin

end Go.Proofs.Ytlfimcpceiemnaa

/- dom.Build, walked. -/
import Derived.Test.YtlfimcpceiemnaaDomW12
import Derived.Deep.CutBlock
set_option linter.unusedVariables false
namespace Go.Proofs.Ytlfimcpceiemnaa
open Go Go.RowKit

theorem tok_cells {m : Mem} {w : World} (hw : m.ok w) {v : Value} {l : List Token} (h : RdToks m v l) (hn : 0 < l.length) : ∃ b o c, v = .slice (some ⟨b, o, none⟩) l.length c ∧
    ∀ k t, l[k]? = some t → ∃ A n, RdAttrs m (.slice A t.attrs.length n) t.attrs ∧ ∀ w', m.ok w' → w'.cell? ⟨b, o + k * 5, none⟩ = some (.int .i64 t.kind) ∧ w'.cell? ⟨b, o + k * 5 + 1, none⟩ = some (.string ⟨t.name.toArray⟩) ∧
      w'.cell? ⟨b, o + k * 5 + 2, none⟩ = some (.slice A t.attrs.length n) ∧ w'.cell? ⟨b, o + k * 5 + 3, none⟩ = some (.bool t.closed) ∧ w'.cell? ⟨b, o + k * 5 + 4, none⟩ = some (.string ⟨t.text.toArray⟩) := by
  obtain ⟨cs, ⟨h1, A, c, rfl, hc, hr⟩, hT⟩ := h
  obtain ⟨b, o, rfl, hrow⟩ := hr hn
  refine ⟨b, o, c, rfl, fun k t ht => ?_⟩
  obtain ⟨va, e1, e2, e3, e4, e5, ra⟩ := hT.get k t ht
  obtain ⟨_, A', n', rfl, _⟩ := id ra
  refine ⟨A', n', ra, fun w' hw' => ?_⟩
  rw [Nat.mul_comm k 5]
  exact ⟨hw' _ _ _ (hrow _ _ e1), hw' _ _ _ (hrow _ _ e2), hw' _ _ _ (hrow _ _ e3), hw' _ _ _ (hrow _ _ e4), hw' _ _ _ (hrow _ _ e5)⟩

set_option maxHeartbeats 3200000 in
theorem build_calls {m : Mem} {w : World} (hw : m.ok w) {v : Value} {l : List Token} (h : RdToks m v l) (hT : tokText l ≤ 100000000000) (hA : ∀ t ∈ l, t.attrs.length ≤ 1000000) (hl : l.length ≤ 400000) :
    Calls Try.prog 7 #[v] w (NewNodes m w (buildF l).1 (buildF l).2) := by
  have hst := build_start hw
  have hTk := fun hn => tok_cells hw h hn
  obtain ⟨A, c, rfl⟩ : ∃ A c, v = .slice A l.length c := by obtain ⟨_, ⟨_, A, c, h, _⟩, _⟩ := h; exact ⟨A, c, h⟩
  have HTk := Lib.hid hTk
  clear hTk
  go_enter Try.func7, Try.ntmps7
  go_wp2
  obtain ⟨W0, hW0⟩ : ∃ W0, W0 = (w.alloc (.cells #[.string ⟨#[]⟩, .slice none 0 0, .string ⟨#[]⟩, .slice none 0 0, .string ⟨#[]⟩] 38)).alloc (.cells #[.slice (some ⟨w.heap.size, 0, none⟩) 1 1, .int .i64 0, .bool false] 41) := ⟨_, rfl⟩
  have hch0 : Ch (fun _ => False) w W0 := by rw [hW0]; exact ((Ch.refl (fun _ => False) w).alloc _).alloc _
  rw [← hW0] at hst ⊢
  clear hW0
  generalize hbase : w.heap.size = base at *
  have Hb := Lib.hid hbase
  clear hbase
  generalize hvo : Value.slice (some ⟨base, 0, none⟩) 1 1 = vo at *
  clear hvo
  go_loopw [13] (fun i wr => ∃ k : Nat, k ≤ l.length ∧ i = .int .i64 k ∧ fineT ⟨[rootNode], 0, false⟩ (l.take k) ∧ BuildRel m base (base + 1) W0 vo [⟨.slice none 0 0, 0, []⟩] (runT ⟨[rootNode], 0, false⟩ (l.take k)) wr) (fun i _ => l.length - (intOf i).toNat)
  case atStart => exact ⟨0, Nat.zero_le _, rfl, trivial, BPost.refl hst⟩
  case round =>
    rename_i wr
    obtain ⟨k, hk, rfl, hfine, hB⟩ := hrel
    have hgood := run_good (l.take k) _ 0 good_root
    have hmany := run_many (l.take k) _ 0 good_root
    have hTk : tokText (l.take k) ≤ tokText l := by
      have : tokText l = tokText (l.take k) + tokText (l.drop k) := by
        rw [tokText, tokText, tokText, ← List.sum_append, ← List.map_append, List.take_append_drop]
      omega
    rw [List.length_take_of_le hk] at hmany
    generalize hs : runT ⟨[rootNode], 0, false⟩ (l.take k) = s at *
    have Hs := Lib.hid hs
    clear hs
    simp only [Nat.zero_add] at hgood hmany
    have hm1 : s.many ≤ 400000 := by omega
    have hld : loadS s.st ≤ 500000 := by have := hgood.ld; omega
    have hm0 := hgood.m0
    have htl := hgood.tl
    have hne := hgood.ne
    clear hmany
    by_cases hlt : k < l.length
    · have hki : (k : Int) < (l.length : Int) := by omega
      have hki0 : (0 : Int) ≤ (k : Int) := by omega
      obtain ⟨b, o, c', hv, hcl⟩ := HTk.out (by omega)
      injection hv with e1 e2 e3
      subst e1 e3
      clear e2
      obtain ⟨t, ht⟩ : ∃ t, l[k]? = some t := ⟨_, List.getElem?_eq_getElem hlt⟩
      have hmem : t ∈ l := List.mem_of_getElem? ht
      have hal := hA t hmem
      have htt : tokText (l.take k) + t.text.length ≤ tokText l := by
        have : tokText l = tokText (l.take k) + tokText (l.drop k) := by
          rw [tokText, tokText, tokText, ← List.sum_append, ← List.map_append, List.take_append_drop]
        have h2 : l.drop k = t :: l.drop (k + 1) := by
          rw [List.drop_eq_getElem_cons hlt]
          congr 1
          rw [List.getElem?_eq_getElem hlt] at ht
          injection ht
        rw [h2] at this
        simp [tokText] at this ⊢
        omega
      have htake : l.take (k + 1) = l.take k ++ [t] := by rw [List.take_add_one, ht]; rfl
      have hdrop : l = l.take k ++ t :: l.drop (k + 1) := by
        conv => lhs; rw [← List.take_append_drop k l]
        congr 1
        rw [List.drop_eq_getElem_cons hlt]
        congr 1
        rw [List.getElem?_eq_getElem hlt] at ht
        injection ht
      have Htake := Lib.hid htake
      have Hdrop := Lib.hid hdrop
      obtain ⟨Aa, na, ra, hcells⟩ := hcl k t ht
      clear htake hdrop hcl ht hTk
      obtain ⟨m1, vo1, oc1, ks1, l1, f1, i1, c1, n1⟩ := hB
      obtain ⟨y0, y1, y2, y3, y4⟩ := hcells wr (fun b o v hm => i1.hm _ _ _ (l1 _ _ _ hm))
      clear hcells
      have hbx := fun (a0 a1 a2 a3 a4 : Value) => heap_alloc_new wr (.cells #[a0, a1, a2, a3, a4] 32)
      go_upto_block 2 with fail
      have hbx1 := hbx (.int .i64 t.kind) (.string ⟨t.name.toArray⟩) (.slice Aa t.attrs.length na) (.bool t.closed) (.string ⟨t.text.toArray⟩)
      have hch := (Ch.refl (fun _ => False) wr).alloc (.cells #[.int .i64 t.kind, .string ⟨t.name.toArray⟩, .slice Aa t.attrs.length na, .bool t.closed, .string ⟨t.text.toArray⟩] 32)
      have i2 := i1.ch hch (fun _ hk => hk.elim)
      clear hbx
      generalize hX : wr.alloc (.cells #[.int .i64 t.kind, .string ⟨t.name.toArray⟩, .slice Aa t.attrs.length na, .bool t.closed, .string ⟨t.text.toArray⟩] 32) = X at *
      clear hX
      generalize hwn : wr.heap.size = wn at *
      have x0 : X.cell? ⟨wn, 0, none⟩ = some (.int .i64 t.kind) := by rw [cell_of_row X _ 0 _ _ _ hbx1]; rfl
      have x1 : X.cell? ⟨wn, 1, none⟩ = some (.string ⟨t.name.toArray⟩) := by rw [cell_of_row X _ 1 _ _ _ hbx1]; rfl
      have x2 : X.cell? ⟨wn, 2, none⟩ = some (.slice Aa t.attrs.length na) := by rw [cell_of_row X _ 2 _ _ _ hbx1]; rfl
      have x4 : X.cell? ⟨wn, 4, none⟩ = some (.string ⟨t.text.toArray⟩) := by rw [cell_of_row X _ 4 _ _ _ hbx1]; rfl
      clear hbx1 y0 y1 y2 y3 y4 hwn
      have htl2 : tlenS s.st + t.text.length ≤ 1000000000000 := by omega
      go_cut [] (fun wx => BPost m1 base (base + 1) X vo1 ks1 (s.take t).st.reverse (s.take t).many (s.take t).over wx)
      case first =>
        by_cases q1 : t.kind = 1
        · have E := Lib.hid (show s.take t = s.text t.text by unfold BS.take; rw [if_pos q1])
          have q1' : (t.kind == 1) = true := by simpa using q1
          clear q1
          go_wp2_with fail
          refine (text_calls i2 hne hld hm0 (by omega) t.text htl2).mono ?_
          rintro e w1 ⟨rfl, hb1⟩
          rw [← E.out] at hb1
          go_wp2
          go_meet
          exact hb1
        · have q1' : (t.kind == 1) = false := by simpa using q1
          by_cases q2 : t.kind = 2
          · have E := Lib.hid (show s.take t = s.start t.name t.attrs by unfold BS.take; rw [if_neg q1, if_pos q2])
            have q2' : (t.kind == 2) = true := by simpa using q2
            clear q1 q2
            go_wp2_with fail
            refine (start_calls i2 hne hld hm0 (by omega) t.name (ra.le l1) hal).mono ?_
            rintro e w1 ⟨rfl, hb1⟩
            rw [← E.out] at hb1
            go_wp2
            go_meet
            exact hb1
          · have q2' : (t.kind == 2) = false := by simpa using q2
            by_cases q3 : t.kind = 3
            · have E := Lib.hid (show s.take t = s.stop t.name by unfold BS.take; rw [if_neg q1, if_neg q2, if_pos q3])
              have q3' : (t.kind == 3) = true := by simpa using q3
              clear q1 q2 q3
              go_wp2_with fail
              refine (stop_calls i2 hne hld hm0 (by omega) t.name).mono ?_
              rintro e w1 ⟨rfl, hb1⟩
              rw [← E.out] at hb1
              go_wp2
              go_meet
              exact hb1
            · have E := Lib.hid (show s.take t = s by unfold BS.take; rw [if_neg q1, if_neg q2, if_neg q3])
              have q3' : (t.kind == 3) = false := by simpa using q3
              clear q1 q2 q3
              go_wp2
              go_meet
              rw [E.out]
              exact BPost.refl i2
      case rest =>
        have hB2 : BPost m base (base + 1) W0 vo [⟨.slice none 0 0, 0, []⟩] (s.take t).st.reverse (s.take t).many (s.take t).over wc := BPost.step l1 f1 c1 n1 (hcut.ahead hch)
        clear hcut hch i1 i2 c1 n1 f1 l1 ra x0 x1 x2 x4
        obtain ⟨m5, vo5, oc5, ks5, l5, f5, i5, c5, n5⟩ := id hB2
        have z2 : wc.cell? ⟨base + 1, 2, none⟩ = some (.bool (s.take t).over) := by rw [cell_of_row wc _ 2 _ _ _ i5.obj]; rfl
        by_cases ho : (s.take t).over = true
        · have R : NewNodes m w (buildF l).1 (buildF l).2 (.returned (.tuple #[.slice none 0 0, .int .i64 5])) wc := by
            have hrun : (BS.mk [rootNode] 0 false).run l = none := by
              rw [Hdrop.out]
              exact run_over _ _ t _ hfine (by rw [Hs.out]; exact ho)
            have hbf : buildF l = ([], 5) := by unfold buildF; rw [hrun]
            rw [hbf]
            refine ⟨_, m, rfl, Mem.le_refl m, fun b o v hm => i5.hm _ _ _ (l5 _ _ _ hm), ⟨[], SlV.nil m 4, .nil⟩, hch0.trans c5 (fun x hx => .inr ?_), fun _ _ h => h⟩
            rw [Hb.out]; exact (hst.lt x hx).1
          rw [ho] at z2
          clear hB2 i5 c5 n5 f5 l5
          go_wp2
          go_ret2
          exact R
        · have ho' : (s.take t).over = false := by simpa using ho
          rw [ho'] at z2
          have Hf := Lib.hid (show fineT ⟨[rootNode], 0, false⟩ (l.take (k + 1)) from by rw [Htake.out]; exact (fine_snoc t _ _).2 ⟨hfine, by rw [Hs.out]; exact ho'⟩)
          have R : BuildRel m base (base + 1) W0 vo [⟨.slice none 0 0, 0, []⟩] (runT ⟨[rootNode], 0, false⟩ (l.take (k + 1))) wc := by
            rw [Htake.out, runT_snoc, Hs.out]; exact hB2
          clear hB2 i5 c5 n5 f5 l5 ho ho' hfine
          go_wp2
          go_roundw
          case rel => exact ⟨k + 1, by omega, by go_num, Hf.out, R⟩
          case measure => simp [intOf]; omega
    · obtain rfl : k = l.length := by omega
      have Hrun := Lib.hid (show buildF l = (treeOf s, 0) by
        have hr := run_fine _ _ hfine
        rw [Hs.out, List.take_length] at hr
        unfold buildF; rw [hr])
      have hslen : 0 < s.st.length := List.length_pos_iff.2 hne
      clear hlt hfine
      go_wp2
      go_loopw [44] (fun _ wx => ∃ j, j ≤ s.st.length - 1 ∧ lenOf wx (base + 1) = s.st.length - j ∧ BPost m base (base + 1) W0 vo [⟨.slice none 0 0, 0, []⟩] (shutN j s.st).reverse s.many s.over wx) (fun _ wx => lenOf wx (base + 1))
      case atStart =>
        refine ⟨0, Nat.zero_le _, ?_, hB⟩
        obtain ⟨m5, vo5, oc5, ks5, l5, f5, i5, c5, n5⟩ := hB
        obtain ⟨_, _, _, _, h3⟩ := i5.len (by simpa using hslen)
        simpa using h3
      case round =>
        rename World => wx
        obtain ⟨j, hj, hlen, hBj⟩ := hrel
        obtain ⟨m2, vo2, oc2, ks2, l2, f2, i2, c2, n2⟩ := id hBj
        have hsl : (shutN j s.st).length = s.st.length - j := length_shutN j s.st (by omega)
        obtain ⟨b, cap, hvo, hx0, hln⟩ := i2.len (by simp; omega)
        rw [List.length_reverse, hsl] at hx0 hln hvo
        by_cases h2 : j < s.st.length - 1
        · have hi2 : (1 : Int) < ((s.st.length - j : Nat) : Int) := by omega
          have hlj : loadS (shutN j s.st) ≤ 1000000 := Nat.le_trans (load_shutN j s.st) (by omega)
          obtain ⟨top, p, rest, hst2⟩ : ∃ top p rest, shutN j s.st = top :: p :: rest := by
            match hs : shutN j s.st with
            | [] => rw [hs] at hsl; simp at hsl; omega
            | [x] => rw [hs] at hsl; simp at hsl; omega
            | x :: y :: r => exact ⟨x, y, r, rfl⟩
          have hsc := shut_calls (s := ⟨shutN j s.st, s.many, s.over⟩) hst2 i2 hlj
          have Hlen := Lib.hid hlen
          clear hsl hln hst2 hlen hvo
          go_wp2_with fail
          refine hsc.mono ?_
          rintro e w2 ⟨rfl, hb⟩
          have hfin : BPost m base (base + 1) W0 vo [⟨.slice none 0 0, 0, []⟩] (shutN (j + 1) s.st).reverse s.many s.over w2 := by
            rw [shutN_succ]
            exact BPost.step l2 f2 c2 n2 hb
          have hlen2 : lenOf w2 (base + 1) = s.st.length - (j + 1) := by
            obtain ⟨m3, vo3, oc3, ks3, l3, f3, i3, c3, n3⟩ := hfin
            have hs3 := length_shutN (j + 1) s.st (by omega)
            obtain ⟨_, _, _, _, h3⟩ := i3.len (by simp; omega)
            simpa [hs3] using h3
          have hlt : lenOf w2 (base + 1) < lenOf wx (base + 1) := by rw [hlen2, Hlen.out]; omega
          have R : ∃ j, j ≤ s.st.length - 1 ∧ lenOf w2 (base + 1) = s.st.length - j ∧ BPost m base (base + 1) W0 vo [⟨.slice none 0 0, 0, []⟩] (shutN j s.st).reverse s.many s.over w2 := ⟨j + 1, by omega, hlen2, hfin⟩
          have R' := Lib.hid R
          clear hb hfin hlen2 hB hBj i2 c2 n2 f2 l2 R
          go_wp2
          go_roundw
          case rel => exact R'.out
          case measure => exact hlt
        · have ej : j = s.st.length - 1 := by omega
          subst ej
          have hi2 : ¬ (1 : Int) < ((s.st.length - (s.st.length - 1) : Nat) : Int) := by omega
          obtain ⟨r, hr⟩ := shutN_one s.st hne
          rw [hr] at i2
          obtain ⟨b', cap', v', m', hvo', hcell, l1, ok1, rd1, fr1⟩ := final_nodes i2
          have hx0' : wx.cell? ⟨base + 1, 0, none⟩ = some (.slice (some ⟨b', 0, none⟩) 1 cap') := by rw [cell_of_row wx _ 0 _ _ _ i2.obj, hvo']; rfl
          obtain ⟨A', c', hv'⟩ : ∃ A' c', v' = .slice A' r.kids.length c' := by obtain ⟨_, ⟨_, A', c', h, _⟩, _⟩ := rd1; exact ⟨A', c', h⟩
          subst hv'
          have R : NewNodes m w (buildF l).1 (buildF l).2 (.returned (.tuple #[.slice A' r.kids.length c', .int .i64 0])) wx := by
            rw [Hrun.out]
            have : treeOf s = r.kids := by unfold treeOf; rw [hr]
            rw [this]
            refine ⟨_, m', rfl, Mem.le_trans l2 l1, ok1, rd1, hch0.trans c2 (fun x hx => .inr ?_), fun x hx hf => ?_⟩
            · rw [Hb.out]; exact (hst.lt x hx).1
            · rw [Hb.out] at hx
              refine fr1 x (f2 x hf (fun hm => ?_) (by have := (hst.lt (base + 1) (by simp [fpB])).2; omega)) hx
              have := (hst.lt x hm).1
              omega
          clear i2 hsl hln hlen hvo hvo' hx0 hB hBj c2 n2 f2 l2 rd1 ok1 l1 hr fr1
          go_wp2
          go_ret2
          exact R

end Go.Proofs.Ytlfimcpceiemnaa

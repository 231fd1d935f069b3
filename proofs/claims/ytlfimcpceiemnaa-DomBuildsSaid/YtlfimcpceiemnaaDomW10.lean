/- dom's builder, walked: text. -/
import Derived.Test.YtlfimcpceiemnaaDomW9
set_option linter.unusedVariables false
namespace Go.Proofs.Ytlfimcpceiemnaa
open Go Go.RowKit

def tlenK (l : List Node) : Nat := (l.map fun k => k.text.length).sum
def tlenS (t : List Node) : Nat := (t.map fun e => tlenK e.kids).sum
theorem str_append (a b : List UInt8) : ((⟨a.toArray⟩ : ByteArray) ++ ⟨b.toArray⟩) = ⟨(a ++ b).toArray⟩ := by
  apply ByteArray.ext
  simp
theorem NodeCells.snoc {m : Mem} : ∀ {xs : List Node} {x : Node} {cs : List Value}, NodeCells m (xs ++ [x]) cs →
    ∃ cs' va vk, cs = cs' ++ [.string ⟨x.name.toArray⟩, va, .string ⟨x.text.toArray⟩, vk] ∧ NodeCells m xs cs' ∧ NodeAt m x va vk
  | [], x, cs, h => by
    cases h with
    | cons ha hk h1 h2 => cases h2; exact ⟨[], _, _, rfl, .nil, ha, _, hk, h1⟩
  | y :: xs, x, cs, h => by
    cases h with
    | cons ha hk h1 h2 =>
      obtain ⟨cs', va, vk, rfl, h3, r⟩ := h2.snoc
      exact ⟨_ :: _ :: _ :: _ :: cs', va, vk, rfl, .cons ha hk h1 h3, r⟩
theorem joinText_snoc (t : Str) (x : Node) : ∀ l : List Node, joinText t (l ++ [x]) = l ++ [.mk x.name x.attrs (x.text ++ t) x.kids]
  | [] => rfl
  | [y] => rfl
  | y :: z :: l => by
    have := joinText_snoc t x (z :: l)
    simp only [List.cons_append] at this ⊢
    rw [joinText, this]
theorem text_end {m : Mem} {W : World} {base g kb c : Nat} {L init : List Node} {x : Node} {nm : Str} {at' : List Attr} {many : Int} {over : Bool} {vo : Value} {cs' cs0 : List Value} {ks' : List KRow} {va xa xk : Value} {t : Str}
    (h : IsB m W base g (L ++ [.mk nm at' [] (init ++ [x])]) many over vo (cs' ++ [.string ⟨nm.toArray⟩, va, .string ⟨#[]⟩, .slice (some ⟨kb, 0, none⟩) (init.length + 1) c, .string ⟨nm.toArray⟩])
      (ks' ++ [⟨.slice (some ⟨kb, 0, none⟩) (init.length + 1) c, init.length + 1, cs0 ++ [.string ⟨x.name.toArray⟩, xa, .string ⟨x.text.toArray⟩, xk]⟩]))
    (hE : ElCells m L ks' cs') (hA : RdAttrs m va at') (hN : NodeCells m init cs0) (hx : NodeAt m x xa xk) :
    BPost m base g W vo (ks' ++ [⟨.slice (some ⟨kb, 0, none⟩) (init.length + 1) c, init.length + 1, cs0 ++ [.string ⟨x.name.toArray⟩, xa, .string ⟨x.text.toArray⟩, xk]⟩])
      (L ++ [.mk nm at' [] (init ++ [.mk x.name x.attrs (x.text ++ t) x.kids])]) many over (W.setCell ⟨kb, init.length * 4 + 2, none⟩ (.string ⟨(x.text ++ t).toArray⟩)) := by
  have hfp : ∀ xs, fpB g vo (ks' ++ [⟨.slice (some ⟨kb, 0, none⟩) (init.length + 1) c, init.length + 1, xs⟩]) = g :: (vo.ownBlock.toList ++ (ks'.filterMap (·.v.ownBlock) ++ [kb])) := by
    intro xs
    simp [fpB, Value.ownBlock, List.filterMap_append]
  have hnd := h.nd
  rw [hfp] at hnd
  have hkm : kb ≠ g ∧ vo.ownBlock ≠ some kb ∧ kb ∉ ks'.filterMap (·.v.ownBlock) := by
    rw [List.nodup_cons, List.nodup_append, List.nodup_append] at hnd
    obtain ⟨n1, n2, ⟨n3, n4, n5⟩, n6⟩ := hnd
    refine ⟨fun e => n1 (by simp [e]), fun e => n6 kb (by simp [e]) kb (by simp) rfl, fun e => n5 kb e kb (by simp) rfl⟩
  have hrow := h.rows ⟨.slice (some ⟨kb, 0, none⟩) (init.length + 1) c, init.length + 1, cs0 ++ [.string ⟨x.name.toArray⟩, xa, .string ⟨x.text.toArray⟩, xk]⟩ (by simp)
  have hst := (hrow.stored (init.length * 4 + 2) (.string ⟨(x.text ++ t).toArray⟩)).1
  rw [← hN.length, List.set_append_right _ _ (by omega), Nat.add_sub_cancel_left, hN.length] at hst
  simp only [List.set_cons_succ, List.set_cons_zero] at hst
  have hc : Ch (fun j => j = kb) W (W.setCell ⟨kb, init.length * 4 + 2, none⟩ (.string ⟨(x.text ++ t).toArray⟩)) := (Ch.refl (fun j => j = kb) W).setCell (p := ⟨kb, init.length * 4 + 2, none⟩) (.inl rfl) _
  generalize W.setCell ⟨kb, init.length * 4 + 2, none⟩ (.string ⟨(x.text ++ t).toArray⟩) = w2 at *
  refine ⟨m, vo, cs' ++ [.string ⟨nm.toArray⟩, va, .string ⟨#[]⟩, .slice (some ⟨kb, 0, none⟩) (init.length + 1) c, .string ⟨nm.toArray⟩], ks' ++ [⟨.slice (some ⟨kb, 0, none⟩) (init.length + 1) c, init.length + 1, cs0 ++ [.string ⟨x.name.toArray⟩, xa, .string ⟨(x.text ++ t).toArray⟩, xk]⟩], Mem.le_refl m, fun _ h _ _ => h,
    ⟨h.hm.ch hc (fun k hk => by subst hk; exact h.fr _ (by rw [hfp]; simp)), hc.heap h.obj (fun e => hkm.1 e.symm), ?_, ?_, ?_, ?_, ?_, h.bs⟩, hc.mono (fun k hk => by subst hk; rw [hfp]; simp), fun k hk => .inl (by rw [hfp] at hk ⊢; exact hk)⟩
  · have := hc.own h.row (fun k hk e => by subst e; exact hkm.2.1 hk)
    simpa using this
  · have hx' : NodeAt m (.mk x.name x.attrs (x.text ++ t) x.kids) xa xk := hx
    exact hE.append (ElCells.one (k := ⟨.slice (some ⟨kb, 0, none⟩) (init.length + 1) c, init.length + 1, cs0 ++ [.string ⟨x.name.toArray⟩, xa, .string ⟨(x.text ++ t).toArray⟩, xk]⟩) hA (by simp) (hN.append hx'.one))
  · intro r hr
    rcases List.mem_append.1 hr with hr1 | hr1
    · exact hc.own (h.rows r (by simp [hr1])) (fun j hj e => by subst e; exact hkm.2.2 (List.mem_filterMap.2 ⟨r, hr1, hj⟩))
    · simp at hr1; subst hr1; exact hst
  · rw [hfp]; exact hnd
  · intro k hk
    rw [hfp] at hk
    exact h.fr k (by rw [hfp]; exact hk)

set_option maxHeartbeats 1600000 in
theorem text_calls {m : Mem} {w : World} {base g : Nat} {s : BS} {vo : Value} {oc : List Value} {ks : List KRow} (h : IsB m w base g s.st.reverse s.many s.over vo oc ks) (hl0 : s.st ≠ [])
    (hl : loadS s.st ≤ 500000) (hm0 : 0 ≤ s.many) (hm1 : s.many ≤ 500000) (t : Str) (htl : tlenS s.st + t.length ≤ 1000000000000) :
    Calls Try.prog 11 #[.pointer (some ⟨g, 0, none⟩), .string ⟨t.toArray⟩] w (Done (BPost m base g w vo ks (s.text t).st.reverse (s.text t).many (s.text t).over)) := by
  by_cases ht : t = []
  · subst ht
    have fin : BPost m base g w vo ks (s.text []).st.reverse (s.text []).many (s.text []).over w := BPost.refl h
    have ht' : (([] : List UInt8) == []) = true := rfl
    go_enter Try.func11, Try.ntmps11
    go_wp2
    go_end0
    exact Done.mk fin
  · have ht' : (t == []) = false := by simpa using ht
    have ht2 : t.isEmpty = false := by simpa using ht
    obtain ⟨st, many, over⟩ := s
    obtain ⟨top, rest, rfl⟩ : ∃ top rest, st = top :: rest := by
      cases st with
      | nil => exact absurd rfl hl0
      | cons a r => exact ⟨a, r, rfl⟩
    simp only at h hl hm0 hm1 htl
    have hkl : top.kids.length ≤ 500000 := by simp [loadS] at hl; omega
    have hrl : rest.length ≤ 500000 := by have := length_le_load rest; simp [loadS] at hl; omega
    go_enter Try.func11, Try.ntmps11
    go_wp2_with fail
    refine (last_calls h (by simp)).mono ?_
    rintro e w' ⟨b, q, hob, rfl, rfl⟩
    have hch := (Ch.refl (fun _ => False) w).drewN q
    replace h := h.ch hch (fun _ hk => hk.elim)
    have B0 : ∀ {s4 : BS} {w2 : World}, BPost m base g (w.drewN q) vo ks s4.st.reverse s4.many s4.over w2 → BPost m base g w vo ks s4.st.reverse s4.many s4.over w2 := fun hb => hb.ahead hch
    clear hch
    generalize w.drewN q = W at *
    simp only [List.reverse_cons, List.length_append, List.length_reverse, List.length_singleton, Nat.add_sub_cancel] at h ⊢
    obtain ⟨ks', cs', k, va, rfl, rfl, hE, hA, hkn, hkc, htx⟩ := h.els.snoc
    obtain ⟨nm, at', tx, kd⟩ := top
    simp only [Node.text, Node.kids, Node.attrs, Node.name] at htx hkl hkn hA hkc
    subst htx
    have hlen := hE.length
    obtain ⟨b', cap, hv, hcap, hob', _, hcells, _⟩ := own_cells h.row (by simp)
    rw [hob] at hob'
    obtain rfl : b = b' := by injection hob'
    have hc3 : W.cell? ⟨b, rest.length * 5 + 3, none⟩ = some k.v := hcells _ _ (by rw [List.getElem?_append_right (by rw [hlen.1]; simp)]; rw [hlen.1, List.length_reverse, show rest.length * 5 + 3 - rest.length * 5 = 3 from by omega]; rfl)
    have hkrow := h.rows k (by simp)
    obtain ⟨A, c, hkv⟩ : ∃ A c, k.v = .slice A k.n c := by
      rcases hkrow.2 with ⟨h0, h1⟩ | ⟨g, cap, cur, h0, _⟩
      · exact ⟨_, _, by rw [h0, h1]⟩
      · exact ⟨_, _, h0⟩
    have Hob := Lib.hid hob
    have Hkv := Lib.hid hkv
    have Hkn := Lib.hid hkn
    have hknl : k.n ≤ 500000 := by omega
    rw [hkv] at hc3
    clear hob hob' hv hcells hkv hkn hlen
    go_upto_region 2 with fail
    go_cut [25] (fun r wx => r = .bool (lastIsText kd) ∧ wx = W)
    case first =>
      rcases List.eq_nil_or_concat kd with hkd | ⟨init, x, hkd⟩
      · subst hkd
        have h0 : k.n = 0 := by rw [Hkn.out]; rfl
        have h0' : ¬ (0 : Int) < (k.n : Int) := by omega
        clear h0
        go_wp2
        go_meet
        exact ⟨rfl, rfl⟩
      · obtain rfl : kd = init ++ [x] := by simpa using hkd
        have h0 : k.n = init.length + 1 := by rw [Hkn.out]; simp
        have h0' : (0 : Int) < (k.n : Int) := by omega
        have h1' : (0 : Int) ≤ (k.n : Int) - 1 := by omega
        have h2' : (k.n : Int) - 1 < (k.n : Int) := by omega
        obtain ⟨kb, kc, hv1, _, _, _, hcells, _⟩ := own_cells hkrow (by omega)
        obtain ⟨cs0, xa, xk, hkcs, hN, hx⟩ := hkc.snoc
        have hnc := hcells ((k.n - 1) * 4) (.string ⟨x.name.toArray⟩) (by rw [hkcs, List.getElem?_append_right (by rw [hN.length]; omega), hN.length, h0]; simp)
        rw [Hkv.out] at hv1
        injection hv1 with e1 e2 e3
        subst e1 e3
        have e : lastIsText (init ++ [x]) = (x.name == []) := by unfold lastIsText; simp
        have E := Lib.hid e
        clear h0 hcells e e2 hkcs hkd
        have hb2 : (x.name == ([] : List UInt8)) = x.name.isEmpty := by cases x.name <;> rfl
        have E2 := Lib.hid hb2
        clear hb2
        generalize hxn : x.name = xn at *
        clear hxn
        by_cases hxe : xn.isEmpty = true
        · have hxe' : xn = [] := by simpa using hxe
          subst hxe'
          go_wp2
          go_meet
          exact ⟨by rw [E.out]; try rfl, rfl⟩
        · have hxe1 : xn.isEmpty = false := by simpa using hxe
          have hxe2 : (xn == ([] : List UInt8)) = false := by rw [E2.out]; exact hxe1
          clear hxe
          go_wp2
          go_meet
          exact ⟨by rw [E.out, hxe2]; try rfl, rfl⟩
    case rest =>
      obtain ⟨rfl, rfl⟩ := hcut
      by_cases hlt : lastIsText kd = true
      · obtain ⟨init, x, rfl⟩ : ∃ init x, kd = init ++ [x] := by
          rcases List.eq_nil_or_concat kd with hkd | ⟨init, x, hkd⟩
          · subst hkd; cases hlt
          · exact ⟨init, x, by simpa using hkd⟩
        have e : BS.text ⟨.mk nm at' [] (init ++ [x]) :: rest, many, over⟩ t = ⟨.mk nm at' [] (init ++ [.mk x.name x.attrs (x.text ++ t) x.kids]) :: rest, many, over⟩ := by
          simp only [BS.text, ht', Node.kids, Node.name, Node.attrs, Node.text, hlt, joinText_snoc]; rfl
        have E := Lib.hid e
        clear e
        rw [hlt]
        have h0 : k.n = init.length + 1 := by rw [Hkn.out]; simp
        obtain ⟨kb, kc, hv1, _, _, _, hcells, hfro1⟩ := own_cells hkrow (by omega)
        obtain ⟨cs0, xa, xk, hkcs, hN, hx⟩ := hkc.snoc
        have hnc := hcells (init.length * 4 + 2) (.string ⟨x.text.toArray⟩) (by rw [hkcs, List.getElem?_append_right (by rw [hN.length]; omega), hN.length, show init.length * 4 + 2 - init.length * 4 = 2 from by omega]; rfl)
        have hf1 := hfro1 (init.length * 4 + 2)
        have hxt : x.text.length + t.length ≤ 1000000000000 := by
          simp [tlenS, tlenK, Node.kids] at htl; omega
        obtain ⟨kv, kn, kcs⟩ := k
        simp only at hkcs hv1 h0 h hE hA hN hx hkrow hc3 Hkv Hkn hcells hkc B0
        subst hkcs hv1 h0
        obtain ⟨e1, e3⟩ : A = some ⟨kb, 0, none⟩ ∧ c = kc := by have := Hkv.out; injection this with e1 e2 e3; exact ⟨e1.symm, e3.symm⟩
        subst e1 e3
        have fin := text_end (t := t) h hE hA hN hx
        have fin2 : BPost m base g w vo (ks' ++ [⟨.slice (some ⟨kb, 0, none⟩) (init.length + 1) c, init.length + 1, cs0 ++ [.string ⟨x.name.toArray⟩, xa, .string ⟨x.text.toArray⟩, xk]⟩]) (BS.text ⟨.mk nm at' [] (init ++ [x]) :: rest, many, over⟩ t).st.reverse many over (wc.setCell ⟨kb, init.length * 4 + 2, none⟩ (.string ⟨(x.text ++ t).toArray⟩)) := by
          rw [E.out]
          have := B0 (s4 := ⟨.mk nm at' [] (init ++ [.mk x.name x.attrs (x.text ++ t) x.kids]) :: rest, many, over⟩) (by simpa using fin)
          simpa using this
        have h1' : (0 : Int) ≤ ((init.length + 1 : Nat) : Int) - 1 := by omega
        have h2' : ((init.length + 1 : Nat) : Int) - 1 < ((init.length + 1 : Nat) : Int) := by omega
        have h3' : ((init.length + 1 : Nat) : Int) - 1 = (init.length : Int) := by omega
        have hil : init.length ≤ 500000 := by simp at hkl; omega
        clear fin hcells hfro1 hkc h hE hA hN hx hkrow B0
        generalize x.text = xt at *
        generalize x.name = xn at *
        have E4 : BS.many (BS.text ⟨.mk nm at' [] (init ++ [x]) :: rest, many, over⟩ t) = many ∧ BS.over (BS.text ⟨.mk nm at' [] (init ++ [x]) :: rest, many, over⟩ t) = over := by rw [E.out]; exact ⟨rfl, rfl⟩
        rw [← str_append] at fin2
        have E5 := Lib.hid E4
        clear E4
        go_wp2
        go_end0
        refine Done.mk ?_
        rw [E5.out.1, E5.out.2]
        exact fin2
      · have hlt' : lastIsText kd = false := by simpa using hlt
        have e : BS.text ⟨.mk nm at' [] kd :: rest, many, over⟩ t = BS.count ⟨addKid (.mk nm at' [] kd) (.mk [] [] t []) :: rest, many, over⟩ := by
          simp only [BS.text, ht', Node.kids, hlt', putS]; rfl
        have E := Lib.hid e
        clear e
        rw [hlt']
        have hNA : NodeAt m (.mk [] [] t []) (.slice none 0 0) (.slice none 0 0) := ⟨SlV.nil m 2, [], SlV.nil m 4, .nil⟩
        go_wp2_with fail
        refine (put_calls (x := .mk [] [] t []) h hNA (by simpa [Node.kids] using Nat.le_trans hkl (by decide))).mono ?_
        rintro e w1 ⟨rfl, hb1⟩
        obtain ⟨m5, vo5, oc5, ks5, l5, f5, i5, c5, n5⟩ := hb1
        have i6 : IsB m5 w1 base g (BS.mk (addKid (.mk nm at' [] kd) (.mk [] [] t []) :: rest) many over).st.reverse many over vo5 oc5 ks5 := by simpa [addKid] using i5
        go_wp2_with fail
        refine (count_calls (s := ⟨addKid (.mk nm at' [] kd) (.mk [] [] t []) :: rest, many, over⟩) i6 hm0 (by simp; omega) (by simp) (by simp; omega)).mono ?_
        rintro e w6 ⟨rfl, hb6⟩
        have fin := B0 (BPost.step l5 f5 c5 n5 hb6)
        rw [← E.out] at fin
        clear hb6 i5 c5 n5 f5 l5 i6 B0
        go_wp2
        go_end0
        exact Done.mk fin

end Go.Proofs.Ytlfimcpceiemnaa

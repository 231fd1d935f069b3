/- versoref04's builder, walked: take. -/
import Derived.Test.YtlfimcpceiemnaaRefW5
set_option linter.unusedVariables false
namespace Go.Proofs.Ytlfimcpceiemnaa
open Go Go.RowKit

theorem FlatCells.modify {m : Mem} (t : Str) {xs : List Flat} {cs : List Value} (h : FlatCells m xs cs) : ∀ k, k < xs.length → FlatCells m (xs.modify k (addText t)) (cs.set (k * 5 + 2) (.string ⟨((xs.getD k dFlat).text ++ t).toArray⟩)) := by
  induction h with
  | nil => intro k hk; simp at hk
  | @cons f xs va cs ha h2 ih =>
    intro k hk
    cases k with
    | zero => exact FlatCells.cons (f := addText t f) ha h2
    | succ k =>
      have := ih k (by simpa using hk)
      rw [show (k + 1) * 5 + 2 = (k * 5 + 2) + 5 from by omega]
      simpa using FlatCells.cons ha this
theorem rtext_end {m : Mem} {W : World} {base g b c : Nat} {s : RS} {lc : List Value} {ov : Value} (h : IsF m W base g s (.slice (some ⟨b, 0, none⟩) s.l.length c) lc ov) {k : Nat} (hk : k < s.l.length) (t : Str) :
    FPost m base g W (.slice (some ⟨b, 0, none⟩) s.l.length c) ov ⟨s.l.modify k (addText t), s.op, s.bad⟩ (W.setCell ⟨b, k * 5 + 2, none⟩ (.string ⟨((s.l.getD k dFlat).text ++ t).toArray⟩)) := by
  obtain ⟨a1, a2, a3⟩ := h.apart
  have hgb : g ≠ b := fun e => a1 (by simp [Value.ownBlock, e])
  have hob : ov.ownBlock ≠ some b := a3 b rfl
  have hst := (h.rl.stored (k * 5 + 2) (.string ⟨((s.l.getD k dFlat).text ++ t).toArray⟩)).1
  have hc : Ch (fun j => j = b) W (W.setCell ⟨b, k * 5 + 2, none⟩ (.string ⟨((s.l.getD k dFlat).text ++ t).toArray⟩)) := (Ch.refl (fun j => j = b) W).setCell (p := ⟨b, k * 5 + 2, none⟩) (.inl rfl) _
  generalize W.setCell ⟨b, k * 5 + 2, none⟩ (.string ⟨((s.l.getD k dFlat).text ++ t).toArray⟩) = w2 at *
  refine ⟨.slice (some ⟨b, 0, none⟩) s.l.length c, lc.set (k * 5 + 2) (.string ⟨((s.l.getD k dFlat).text ++ t).toArray⟩), ov, ⟨h.hm.ch hc (fun j hj => by subst hj; exact h.fr _ (.inr (.inl rfl))), hc.heap h.obj hgb, ?_, hc.own h.ro (fun j hj e => hob (e ▸ hj)), h.cl.modify t k hk, h.fr, h.bs, ?_⟩, hc.mono (fun j hj => by subst hj; exact .inr (.inl rfl)), fun j hj => .inl hj⟩
  · simpa using hst
  · intro i hi
    have := h.ix i hi
    simpa using this
theorem FPost.drew {m : Mem} {w w2 : World} {base g : Nat} {s2 : RS} {lv ov : Value} (h : FPost m base g w lv ov s2 w2) : FPost m base g w lv ov s2 w2.drew := by
  obtain ⟨lv2, lc2, ov2, i2, c2, n2⟩ := h
  exact ⟨lv2, lc2, ov2, i2.ch ((Ch.refl (fun _ => False) w2).drew) (fun _ h => h.elim), c2.drew, n2⟩
theorem lastUp_lt (l : List Flat) (h : Int) : ∀ n, lastUp l h n < (n : Int) ∧ -1 ≤ lastUp l h n
  | 0 => by simp [lastUp]
  | n + 1 => by
    have := lastUp_lt l h n
    simp only [lastUp]
    split <;> omega
theorem RS.s1_op (s : RS) (name : Str) : (s.s1 name).op.length ≤ s.op.length := (s.s1_len name).2
theorem RS.start_len (s : RS) (name : Str) (attrs : List Attr) : (s.start name attrs).l.length = s.l.length + 1 ∧ (s.start name attrs).op.length ≤ s.op.length + 1 := by
  obtain ⟨h1, h2⟩ := s.s1_len name
  obtain ⟨h3, h4⟩ := (s.s1 name).s2_len name
  unfold RS.start RS.s3
  split
  · simp only [RS.put, List.length_append, List.length_singleton]
    rw [h3, h1]; exact ⟨rfl, by omega⟩
  · simp only [RS.put, List.length_append, List.length_singleton]
    rw [h3, h1]; exact ⟨rfl, by omega⟩
theorem RS.close_len (s : RS) (name : Str) : (s.close name).l = s.l ∧ (s.close name).op.length ≤ s.op.length := by
  unfold RS.close; split
  · exact ⟨rfl, Nat.le_refl _⟩
  · exact ⟨rfl, by simp; omega⟩

set_option maxHeartbeats 3200000 in
theorem rtake_calls {m : Mem} {w : World} {base g : Nat} {s : RS} {lv : Value} {lc : List Value} {ov : Value} (h : IsF m w base g s lv lc ov) (hl : s.op.length ≤ 700000) (hll : s.l.length ≤ 700000)
    (t : Token) {va : Value} (hA : RdAttrs m va t.attrs) (htt : ∀ f ∈ s.l, f.text.length ≤ 1000000000000) (htl : t.text.length ≤ 1000000000000) :
    Calls Try.prog 15 #[.pointer (some ⟨g, 0, none⟩), .agg #[.int .i64 t.kind, .string ⟨t.name.toArray⟩, va, .bool t.closed, .string ⟨t.text.toArray⟩]] w (Done (FPost m base g w lv ov (s.take t))) := by
  obtain ⟨_, Aa, ca, rfl, _⟩ := id hA
  go_enter Try.func15, Try.ntmps15
  go_upto_region 1 with fail
  have hch := (Ch.refl (fun _ => False) w).alloc (.cells #[.int .i64 t.kind, .string ⟨t.name.toArray⟩, .slice Aa t.attrs.length ca, .bool t.closed, .string ⟨t.text.toArray⟩] 32)
  have hbx := heap_alloc_new w (.cells #[.int .i64 t.kind, .string ⟨t.name.toArray⟩, .slice Aa t.attrs.length ca, .bool t.closed, .string ⟨t.text.toArray⟩] 32)
  have hF := h.ch hch (fun _ hk => hk.elim)
  have hng : ¬ fpF g lv ov w.heap.size := fun e => by have := (h.lt _ e).2; omega
  have hnm : ∀ {m : Mem}, m.ok w → m.free w.heap.size := fun hm => hm.new (Nat.le_refl _)
  generalize hwn : w.heap.size = wn at *
  generalize w.alloc (.cells #[.int .i64 t.kind, .string ⟨t.name.toArray⟩, .slice Aa t.attrs.length ca, .bool t.closed, .string ⟨t.text.toArray⟩] 32) = W at *
  have bx : ∀ w' : World, w'.heap[wn]? = W.heap[wn]? → w'.cell? ⟨wn, 0, none⟩ = some (.int .i64 t.kind) ∧ w'.cell? ⟨wn, 1, none⟩ = some (.string ⟨t.name.toArray⟩) ∧ w'.cell? ⟨wn, 2, none⟩ = some (.slice Aa t.attrs.length ca) ∧ w'.cell? ⟨wn, 4, none⟩ = some (.string ⟨t.text.toArray⟩) := by
    intro w' hw'
    rw [hbx] at hw'
    refine ⟨?_, ?_, ?_, ?_⟩ <;> rw [cell_of_row w' _ _ _ _ _ hw'] <;> rfl
  have Bx := Lib.hid bx
  obtain ⟨y0, y1, y2, y4⟩ := bx W rfl
  have hwnW : wn < W.heap.size := (Array.getElem?_eq_some_iff.1 hbx).1
  clear bx hbx hwn
  have Ht : Hid (s.take t = if t.kind = 1 then (if t.text == [] then s else if decide (0 ≤ s.last) && nameAt s s.last == [] then ⟨s.l.modify s.last.toNat (addText t.text), s.op, s.bad⟩ else s.put [] [] t.text) else if t.kind = 2 then s.start t.name t.attrs else if t.kind = 3 then
    (if s.inner [t.name] = 0 then (let s1 := if t.name == cP then (s.start cP []).close cP else s; if t.name == cBr then s1.start cBr [] else s1) else s.close t.name) else s) := Lib.hid rfl
  by_cases q1 : t.kind = 1
  · have q1' : (t.kind == 1) = true := by simpa using q1
    have H1 := Lib.hid (show s.take t = if t.text == [] then s else if decide (0 ≤ s.last) && nameAt s s.last == [] then ⟨s.l.modify s.last.toNat (addText t.text), s.op, s.bad⟩ else s.put [] [] t.text by rw [Ht.out, if_pos q1])
    clear q1
    by_cases qe : t.text = []
    · have qe' : (t.text == ([] : List UInt8)) = true := by simp [qe]
      have qe2 : t.text.isEmpty = true := by simp [qe]
      have fin : FPost m base g w lv ov (s.take t) W := by rw [H1.out, if_pos qe']; exact (FPost.refl hF).ahead hch
      clear qe hF h
      go_wp2
      go_end0
      exact Done.mk fin
    · have qe' : (t.text == ([] : List UInt8)) = false := by simpa using qe
      have qe2 : t.text.isEmpty = false := by simpa using qe
      have H2 := Lib.hid (show s.take t = if decide (0 ≤ s.last) && nameAt s s.last == [] then ⟨s.l.modify s.last.toNat (addText t.text), s.op, s.bad⟩ else s.put [] [] t.text by rw [H1.out, qe']; rfl)
      clear qe
      go_wp2_with fail
      refine (last_calls' hF (by omega) (by omega)).mono ?_
      rintro e w1 ⟨rfl, n, rfl⟩
      have hF2 := hF.ch ((Ch.refl (fun _ => False) W).drewN n) (fun _ hk => hk.elim)
      have hch2 := hch.drewN n
      have bX := Bx.out (W.drewN n) rfl
      obtain ⟨z0, z1, z2, z4⟩ := bX
      have hwnX : wn < (W.drewN n).heap.size := hwnW
      have hfb : (W.drewN n).heap[wn]? = W.heap[wn]? := rfl
      clear y0 y1 y2 y4 hF h hch hwnW
      generalize W.drewN n = X at *
      obtain ⟨A, c, O, d, e1, e2, x0, x1, x2⟩ := hF2.parts
      obtain ⟨hL1, hL2⟩ := lastUp_lt s.l s.here s.l.length
      have hLd : lastUp s.l s.here s.l.length = s.last := rfl
      rw [hLd] at hL1 hL2
      clear hLd
      generalize hLs : s.last = L at *
      clear hLs
      by_cases hL : 0 ≤ L
      · obtain ⟨k, rfl⟩ : ∃ k : Nat, L = (k : Int) := ⟨L.toNat, by omega⟩
        have hkl : k < s.l.length := by omega
        obtain ⟨b, c', hv, hc, hcells⟩ := hF2.flCell (by omega)
        obtain ⟨w0, w2, w3, w4, _⟩ := hcells k hkl
        have hnmk : nameAt s (k : Int) = (s.l.getD k dFlat).name := rfl
        rw [← hnmk] at w0
        rw [hv] at e1
        injection e1 with t1 t2 t3
        subst t1 t3
        subst hv
        clear t2 hcells hnmk
        have i1 : (0 : Int) ≤ (k : Int) := by omega
        have i2 : (k : Int) < (s.l.length : Int) := by omega
        by_cases hnn : nameAt s (k : Int) = []
        · have hn1 : (nameAt s (k : Int) == ([] : List UInt8)) = true := by simp [hnn]
          have hn2 : (nameAt s (k : Int)).isEmpty = true := by simp [hnn]
          have H3 := Lib.hid (show s.take t = ⟨s.l.modify k (addText t.text), s.op, s.bad⟩ by rw [H2.out, hn1, show decide ((0 : Int) ≤ (k : Int)) = true by simp]; rfl)
          have ff : X.frozen? ⟨b, k * 5 + 2, none⟩ = false := by
            obtain ⟨_, _, hv2, _, _, _, _, hfr⟩ := own_cells hF2.rl (by omega)
            injection hv2 with t1 t2 t3
            injection t1 with t1
            injection t1 with t1
            subst t1
            exact hfr _
          have fin := (rtext_end hF2 hkl t.text).ahead hch2
          rw [← H3.out, ← str_append] at fin
          have hxt : (s.l.getD k dFlat).text.length + t.text.length ≤ 2000000000000 := by
            have := htt (s.l.getD k dFlat) (by rw [List.getD_eq_getElem?_getD, List.getElem?_eq_getElem hkl]; exact List.getElem_mem _)
            omega
          have hbX : b < X.heap.size := (hF2.lt b (.inr (.inl rfl))).2
          clear hF2 hch2 hnn H2 H1 Ht
          generalize nameAt s (k : Int) = nm at *
          generalize (s.l.getD k dFlat).text = xt at *
          go_wp2
          go_region
          all_goals
            go_wp2
            go_end0
            exact Done.mk fin.drew
        · have hn1 : (nameAt s (k : Int) == ([] : List UInt8)) = false := by simpa using hnn
          have hn2 : (nameAt s (k : Int)).isEmpty = false := by simpa using hnn
          have H3 := Lib.hid (show s.take t = s.put [] [] t.text by rw [H2.out, hn1, Bool.and_false]; rfl)
          clear hnn H2 H1 Ht
          generalize nameAt s (k : Int) = nm at *
          go_wp2_with fail
          refine (rput_calls hF2 (by omega) (by omega) [] (attrs := []) (SlV.nil m 2) t.text).mono ?_
          rintro e w5 ⟨rfl, hb5⟩
          rw [← H3.out] at hb5
          have fin := hb5.ahead hch2
          clear hb5 hF2
          go_wp2
          go_end0
          exact Done.mk fin
      · have H3 := Lib.hid (show s.take t = s.put [] [] t.text by rw [H2.out, show decide (0 ≤ L) = false by simpa using hL, Bool.false_and]; rfl)
        have hL3 : L < 0 := by omega
        clear H2 H1 Ht e1 e2
        go_wp2_with fail
        refine (rput_calls hF2 (by omega) (by omega) [] (attrs := []) (SlV.nil m 2) t.text).mono ?_
        rintro e w5 ⟨rfl, hb5⟩
        rw [← H3.out] at hb5
        have fin := hb5.ahead hch2
        clear hb5 hF2
        go_wp2
        go_end0
        exact Done.mk fin
  · have q1' : (t.kind == 1) = false := by simpa using q1
    by_cases q2 : t.kind = 2
    · have q2' : (t.kind == 2) = true := by simpa using q2
      have H1 := Lib.hid (show s.take t = s.start t.name t.attrs by rw [Ht.out, if_neg q1, if_pos q2])
      clear q1 q2
      go_wp2_with fail
      refine (rstart_calls hF (by omega) (by omega) t.name hA).mono ?_
      rintro e w5 ⟨rfl, hb5⟩
      rw [← H1.out] at hb5
      have fin := hb5.ahead hch
      clear hb5 hF h
      go_wp2
      go_end0
      exact Done.mk fin
    · have q2' : (t.kind == 2) = false := by simpa using q2
      by_cases q3 : t.kind = 3
      · have q3' : (t.kind == 3) = true := by simpa using q3
        have H1 := Lib.hid (show s.take t = if s.inner [t.name] = 0 then (let s1 := if t.name == cP then (s.start cP []).close cP else s; if t.name == cBr then s1.start cBr [] else s1) else s.close t.name by rw [Ht.out, if_neg q1, if_neg q2, if_pos q3])
        clear q1 q2 q3
        go_wp2_with fail
        refine (rclose_calls hF (by omega) (by omega) t.name).mono ?_
        rintro e w1 ⟨rfl, hb1⟩
        by_cases h0 : s.inner [t.name] = 0
        · have hd : decide (s.inner [t.name] ≠ 0) = false := by simpa using h0
          rw [hd]
          have hcl : s.close t.name = s := by unfold RS.close; rw [if_pos h0]
          rw [hcl] at hb1
          have H2 := Lib.hid (show s.take t = if t.name == cBr then (if t.name == cP then (s.start cP []).close cP else s).start cBr [] else (if t.name == cP then (s.start cP []).close cP else s) by rw [H1.out, if_pos h0])
          clear hd hcl H1 h0
          obtain ⟨lv1, lc1, ov1, i1, c1, n1⟩ := hb1
          have hwb : w1.heap[wn]? = W.heap[wn]? := c1.block wn hwnW hng
          obtain ⟨z0, z1, z2, z4⟩ := Bx.out w1 hwb
          have hwn1 : wn < w1.heap.size := Nat.lt_of_lt_of_le hwnW c1.size
          have hng1 : ¬ fpF g lv1 ov1 wn := fun e => by rcases n1 wn e with e | e; exact hng e; omega
          have B1 : ∀ {s4 : RS} {w2 : World}, FPost m base g w1 lv1 ov1 s4 w2 → FPost m base g w lv ov s4 w2 := fun hb => (FPost.step c1 n1 hb).ahead hch
          have Hwb := Lib.hid hwb
          clear hwb y0 y1 y2 y4 hF h hch c1 n1
          by_cases hp : t.name = cP
          · have hp' : (t.name == ([112] : List UInt8)) = true := by simpa [cP] using hp
            have hbr : (t.name == ([98, 114] : List UInt8)) = false := by rw [hp]; rfl
            have H3 := Lib.hid (show s.take t = (s.start cP []).close cP by rw [H2.out, hp]; rfl)
            obtain ⟨g1, g2⟩ := s.start_len cP []
            have g1' : (s.start cP []).l.length ≤ 1000000 := by omega
            have g2' : (s.start cP []).op.length ≤ 1000000 := by omega
            clear hp g1 g2
            go_wp2_with fail
            refine (rstart_calls i1 (by omega) (by omega) cP (attrs := []) (SlV.nil m 2)).mono ?_
            rintro e w2 ⟨rfl, lv2, lc2, ov2, i2, c2, n2⟩
            go_wp2_with fail
            refine (rclose_calls i2 g2' g1' cP).mono ?_
            rintro e w3 ⟨rfl, hb3⟩
            have fin := B1 (FPost.step c2 n2 hb3)
            rw [← H3.out] at fin
            obtain ⟨lv3, lc3, ov3, i3, c3, n3⟩ := hb3
            have hng2 : ¬ fpF g lv2 ov2 wn := fun e => by rcases n2 wn e with e | e; exact hng1 e; omega
            have hwb2 : w2.heap[wn]? = W.heap[wn]? := (c2.block wn hwn1 hng1).trans Hwb.out
            have hwb3 : w3.heap[wn]? = W.heap[wn]? := (c3.block wn (Nat.lt_of_lt_of_le hwn1 c2.size) hng2).trans hwb2
            obtain ⟨u0, u1, u2, u4⟩ := Bx.out w3 hwb3
            clear i3 c3 n3 i2 c2 n2 i1 B1 hwb2 hwb3
            go_wp2
            go_end0
            exact Done.mk fin
          · have hp' : (t.name == ([112] : List UInt8)) = false := by simpa [cP] using hp
            have hp2 : (t.name == cP) = false := by simpa using hp
            by_cases hq : t.name = cBr
            · have hq' : (t.name == ([98, 114] : List UInt8)) = true := by simpa [cBr] using hq
              have H3 := Lib.hid (show s.take t = s.start cBr [] by rw [H2.out, hp2, show (t.name == cBr) = true by simpa using hq]; rfl)
              clear hp hq hp2
              go_wp2_with fail
              refine (rstart_calls i1 (by omega) (by omega) cBr (attrs := []) (SlV.nil m 2)).mono ?_
              rintro e w2 ⟨rfl, hb2⟩
              have fin := B1 hb2
              rw [← H3.out] at fin
              clear hb2 i1 B1
              go_wp2
              go_end0
              exact Done.mk fin
            · have hq' : (t.name == ([98, 114] : List UInt8)) = false := by simpa [cBr] using hq
              have H3 := Lib.hid (show s.take t = s by rw [H2.out, hp2, show (t.name == cBr) = false by simpa using hq]; rfl)
              have fin := B1 (FPost.refl i1)
              rw [← H3.out] at fin
              clear hp hq hp2 i1 B1
              go_wp2
              go_end0
              exact Done.mk fin
        · have hd : decide (s.inner [t.name] ≠ 0) = true := by simpa using h0
          rw [hd]
          have H2 := Lib.hid (show s.take t = s.close t.name by rw [H1.out, if_neg h0])
          rw [← H2.out] at hb1
          have fin := hb1.ahead hch
          clear hd hb1 hF h h0
          go_wp2
          go_end0
          exact Done.mk fin
      · have q3' : (t.kind == 3) = false := by simpa using q3
        have H1 := Lib.hid (show s.take t = s by rw [Ht.out, if_neg q1, if_neg q2, if_neg q3])
        have fin := (FPost.refl hF).ahead hch
        rw [← H1.out] at fin
        clear q1 q2 q3 hF h
        go_wp2
        go_end0
        exact Done.mk fin

end Go.Proofs.Ytlfimcpceiemnaa

/- versoref04's builder, walked: start. -/
import Derived.Test.YtlfimcpceiemnaaRefW4
set_option linter.unusedVariables false
namespace Go.Proofs.Ytlfimcpceiemnaa
open Go Go.RowKit

theorem Try.infoInt : (Try.prog.info? 3).map (fun i => (i.zero, i.size, i.bytes)) = some (some (.int .i64 0), 1, 8) := by kernel_rfl
/-- One more is open. -/
theorem rpush_end {m : Mem} {w W w1 : World} {base g b' cap' : Nat} {s : RS} {lv : Value} {lc : List Value} {ov : Value} {i : Int} {o : Obj}
    (h : IsF m W base g s lv lc ov) (hch : Ch (fun _ => False) w W) (hi : 0 ≤ i ∧ i < (s.l.length : Int))
    (hown : w1.ownsRow base 3 1 (.slice (some ⟨b', 0, none⟩) (s.op.length + 1) cap') (s.op.length + 1) (intCells s.op ++ [.int .i64 i]))
    (hgrow : (W.alloc o).drew.grownBy w1 ov.ownBlock) (hat : ov.ownBlock = some b' ∨ b' = W.heap.size + 1) :
    FPost m base g w lv ov ⟨s.l, s.op ++ [i], s.bad⟩ (w1.setCell ⟨g, 1, none⟩ (.slice (some ⟨b', 0, none⟩) (s.op.length + 1) cap')) := by
  obtain ⟨a1, a2, a3⟩ := h.apart
  have hch2 : Ch (fun j => ov.ownBlock = some j) W w1 := (((Ch.refl (fun j => ov.ownBlock = some j) W).alloc o).drew).grown hgrow (fun j hj => .inl hj)
  have hgW : g < W.heap.size := (h.lt g (.inl rfl)).2
  have hb'g : b' ≠ g := by
    rcases hat with e | e
    · exact fun e2 => a2 (e2 ▸ e)
    · omega
  have hb'l : lv.ownBlock ≠ some b' := by
    rcases hat with e | e
    · exact fun e2 => a3 _ e2 e
    · exact fun e2 => by have := (h.rl.lt b' e2).2; omega
  have hfree : ∀ j, (ov.ownBlock = some j ∨ j = b') → m.free j := by
    rintro j (hj | rfl)
    · exact h.fr j (.inr (.inr hj))
    · rcases hat with e | e
      · exact h.fr _ (.inr (.inr e))
      · exact h.hm.new (by omega)
  have hc3 : Ch (fun k => k = g) w1 (w1.setCell ⟨g, 1, none⟩ (.slice (some ⟨b', 0, none⟩) (s.op.length + 1) cap')) := (Ch.refl (fun k => k = g) w1).setCell (p := ⟨g, 1, none⟩) (.inl rfl) _
  have ho := heap_setCell_at (i := 1) (hch2.heap h.obj a2) (.slice (some ⟨b', 0, none⟩) (s.op.length + 1) cap')
  generalize w1.setCell ⟨g, 1, none⟩ (.slice (some ⟨b', 0, none⟩) (s.op.length + 1) cap') = w2 at *
  have hok : m.ok w2 := (h.hm.ch hch2 (fun k hk => hfree k (.inl hk))).ch hc3 (fun k hk => by subst hk; exact h.fr _ (.inl rfl))
  refine ⟨lv, lc, .slice (some ⟨b', 0, none⟩) (s.op.length + 1) cap', ⟨hok, ho, ?_, ?_, h.cl, ?_, h.bs, ?_⟩, ?_, ?_⟩
  · exact hc3.own (hch2.own h.rl (fun k hk e => a3 k hk e)) (fun k hk e => a1 (e ▸ hk))
  · have := hc3.own hown (fun k hk e => by simp [Value.ownBlock] at hk; subst hk; exact hb'g e)
    simpa [intCells] using this
  · rintro k (hk | hk | hk)
    · exact h.fr k (.inl hk)
    · exact h.fr k (.inr (.inl hk))
    · simp [Value.ownBlock] at hk; exact hfree k (.inr hk.symm)
  · intro j hj
    simp only [List.mem_append, List.mem_singleton] at hj
    rcases hj with hj | rfl
    · exact h.ix j hj
    · exact hi
  · exact ((hch.mono (fun _ h => h.elim)).trans (hch2.mono (T := fpF g lv ov) (fun j hj => .inr (.inr hj))) (fun j hj => .inl hj)).trans (hc3.mono (T := fpF g lv ov) (fun j hj => .inl hj)) (fun j hj => .inl hj)
  · rintro k (hk | hk | hk)
    · exact .inl (.inl hk)
    · exact .inl (.inr (.inl hk))
    · simp [Value.ownBlock] at hk
      rcases hat with e | e
      · exact .inl (.inr (.inr (hk ▸ e)))
      · exact .inr (by have := hch.size; omega)
theorem RS.s1_len (s : RS) (name : Str) : (s.s1 name).l = s.l ∧ (s.s1 name).op.length ≤ s.op.length := by
  unfold RS.s1 RS.close; split
  · split
    · exact ⟨rfl, Nat.le_refl _⟩
    · exact ⟨rfl, by simp; omega⟩
  · exact ⟨rfl, Nat.le_refl _⟩
theorem RS.s2_len (s : RS) (name : Str) : (s.s2 name).l = s.l ∧ (s.s2 name).op.length ≤ s.op.length := by
  unfold RS.s2; split
  · exact ⟨rfl, by simp; omega⟩
  · exact ⟨rfl, Nat.le_refl _⟩

set_option maxHeartbeats 3200000 in
theorem rstart_calls {m : Mem} {w : World} {base g : Nat} {s : RS} {lv : Value} {lc : List Value} {ov : Value} (h : IsF m w base g s lv lc ov) (hl : s.op.length ≤ 800000) (hll : s.l.length ≤ 800000)
    (name : Str) {attrs : List Attr} {va : Value} (hA : RdAttrs m va attrs) :
    Calls Try.prog 28 #[.pointer (some ⟨g, 0, none⟩), .string ⟨name.toArray⟩, va] w (Done (FPost m base g w lv ov (s.start name attrs))) := by
  obtain ⟨_, Aa, ca, rfl, _⟩ := id hA
  go_enter Try.func28, Try.ntmps28
  go_wp2_with fail
  refine (rblock_calls w h.hm name).mono ?_
  rintro e W0 ⟨rfl, hch0⟩
  have h0 := h.ch hch0 (fun _ hk => hk.elim)
  have Hs := Lib.hid (show s.start name attrs = (((s.s1 name).s2 name).put name attrs []).s3 name from rfl)
  go_upto_if 8 with fail
  go_cut [] (fun wx => FPost m base g w lv ov (s.s1 name) wx)
  case first =>
    by_cases hb : isBlock name = true
    · have E := Lib.hid (show s.s1 name = s.close cP by unfold RS.s1; rw [if_pos hb])
      rw [hb]
      go_wp2_with fail
      refine (rclose_calls h0 (by omega) (by omega) cP).mono ?_
      rintro e w1 ⟨rfl, hb1⟩
      go_wp2
      go_meet
      rw [E.out]; exact hb1.ahead hch0
    · have hb' : isBlock name = false := by simpa using hb
      have E := Lib.hid (show s.s1 name = s by unfold RS.s1; rw [if_neg hb])
      rw [hb']
      go_wp2
      go_meet
      rw [E.out]; exact (FPost.refl h0).ahead hch0
  case rest =>
    clear hch0 h0 h
    obtain ⟨hl1, ho1⟩ := s.s1_len name
    have hll1 : (s.s1 name).l.length ≤ 800000 := by rw [hl1]; exact hll
    clear hl1
    generalize s.s1 name = s1 at *
    obtain ⟨lv1, lc1, ov1, i1, c1, n1⟩ := hcut
    go_wp2_with fail
    have hch := (Ch.refl (fun _ => False) wc).alloc (.cells (strCells [cLi, cUl, cOl]).toArray 9)
    obtain ⟨m', hm', hv'⟩ := lit_strs i1.hm [cLi, cUl, cOl] 9 (by simp)
    have h1 := i1.ch hch (fun _ hk => hk.elim)
    refine (rinner_calls h1 (by omega) (by omega) hm' hv' (by simp)).mono ?_
    rintro e w' ⟨rfl, n, rfl⟩
    clear hm' hv' m'
    have hch2 := hch.drewN n
    have h2 := i1.ch hch2 (fun _ hk => hk.elim)
    generalize (wc.alloc (.cells (strCells [cLi, cUl, cOl]).toArray 9)).drewN n = W at *
    have B1 : ∀ {s2 : RS} {w2 : World}, FPost m base g W lv1 ov1 s2 w2 → FPost m base g w lv ov s2 w2 := fun hb => FPost.step c1 n1 (hb.ahead hch2)
    clear h1 hch i1 c1 n1
    have hle : s1.inner [cLi, cUl, cOl] ≤ s1.op.length := inner_le _ _ _
    have Hs2 : Hid (s1.s2 name = if name == cLi && (decide (0 < s1.inner [cLi, cUl, cOl]) && nameAt s1 (s1.op.getD (s1.inner [cLi, cUl, cOl] - 1) 0) == cLi) then ⟨s1.l, s1.op.take (s1.inner [cLi, cUl, cOl] - 1), s1.bad⟩ else s1) := Lib.hid rfl
    generalize s1.inner [cLi, cUl, cOl] = k at *
    obtain ⟨A, c, O, d, e1, e2, x0, x1, x2⟩ := h2.parts
    go_upto_region 3 with fail
    go_cut [38] (fun r wx => r = .bool (name == cLi && (decide (0 < k) && nameAt s1 (s1.op.getD (k - 1) 0) == cLi)) ∧ ∃ n, wx = W.drewN n)
    case first =>
      by_cases q1 : name = cLi
      · have q1' : (name == cLi) = true := by simp [q1]
        by_cases q2 : 0 < k
        · have q2' : (0 : Int) < (k : Int) := by omega
          obtain ⟨b2, d2, hv2, hc2, hcells2⟩ := h2.opCell (by omega)
          have y1 := hcells2 (k - 1) (by omega)
          rw [hv2] at e2
          injection e2 with t1 t2 t3
          subst t1 t3
          have hmem : s1.op.getD (k - 1) 0 ∈ s1.op := by
            rw [List.getD_eq_getElem?_getD, List.getElem?_eq_getElem (by omega)]
            exact List.getElem_mem _
          have hix := h2.ix _ hmem
          generalize s1.op.getD (k - 1) 0 = r at *
          obtain ⟨r, rfl⟩ : ∃ q : Nat, r = (q : Int) := ⟨r.toNat, by omega⟩
          obtain ⟨b, c', hv1, hc, hcells⟩ := h2.flCell (by omega)
          obtain ⟨hnm, _⟩ := hcells r (by omega)
          rw [hv1] at e1
          injection e1 with t4 t5 t6
          subst t4 t6
          have hnm2 : nameAt s1 (r : Int) = (s1.l.getD r dFlat).name := rfl
          rw [← hnm2] at hnm
          have i1 : (0 : Int) ≤ (k : Int) - 1 := by omega
          have i2 : (k : Int) - 1 < (s1.op.length : Int) := by omega
          obtain ⟨i3, i4⟩ := hix
          clear t2 hv2 hcells2 hcells hv1 t5 hnm2 hmem
          generalize nameAt s1 (r : Int) = nm at *
          by_cases q3 : nm = cLi
          · have q3' : (nm == cLi) = true := by simp [q3]
            have fin : Value.bool (name == cLi && (decide (0 < k) && nm == cLi)) = .bool true := by simp [q1', q2, q3']
            have Fin := Lib.hid fin
            clear q1 q3 fin h2 B1
            simp only [cLi] at q1' q3'
            go_wp2
            go_quiet (fail)
            go_wp2
            go_meet
            exact ⟨by rw [Fin.out]; try rfl, _, rfl⟩
          · have q3' : (nm == cLi) = false := by simp [q3]
            have fin : Value.bool (name == cLi && (decide (0 < k) && nm == cLi)) = .bool false := by simp [q3']
            have Fin := Lib.hid fin
            clear q1 q3 fin h2 B1
            simp only [cLi] at q1' q3'
            go_wp2
            go_quiet (fail)
            go_wp2
            go_meet
            exact ⟨by rw [Fin.out]; try rfl, _, rfl⟩
        · have q2' : ¬ (0 : Int) < (k : Int) := by omega
          have q2'' : decide ((0 : Int) < (k : Int)) = false := by simpa using q2'
          have fin : Value.bool (name == cLi && (decide (0 < k) && nameAt s1 (s1.op.getD (k - 1) 0) == cLi)) = .bool false := by simp [q2]
          have Fin := Lib.hid fin
          clear q1 fin e1 e2 h2 B1
          simp only [cLi] at q1'
          go_wp2
          go_quiet (fail)
          go_wp2
          go_meet
          exact ⟨by rw [Fin.out]; try rfl, _, rfl⟩
      · have q1' : (name == cLi) = false := by simp [q1]
        have fin : Value.bool (name == cLi && (decide (0 < k) && nameAt s1 (s1.op.getD (k - 1) 0) == cLi)) = .bool false := by simp [q1']
        have Fin := Lib.hid fin
        clear q1 fin e1 e2 h2 B1
        simp only [cLi] at q1'
        go_wp2
        go_quiet (fail)
        go_wp2
        go_meet
        exact ⟨by rw [Fin.out]; try rfl, _, rfl⟩
    case rest =>
      obtain ⟨rfl, q, rfl⟩ := hcut
      have h3 := h2.ch ((Ch.refl (fun _ => False) W).drewN q) (fun _ hk => hk.elim)
      have hch3 := (Ch.refl (fun _ => False) W).drewN q
      have B2 : ∀ {s2 : RS} {w2 : World}, FPost m base g (W.drewN q) lv1 ov1 s2 w2 → FPost m base g w lv ov s2 w2 := fun hb => B1 (hb.ahead hch3)
      clear h2 hch3 B1 x0 x1 x2 e1 e2
      generalize W.drewN q = X at *
      obtain ⟨hl2, ho2⟩ := s1.s2_len name
      have hll2 : (s1.s2 name).l.length ≤ 800000 := by rw [hl2]; exact hll1
      clear hl2
      go_upto_if 38 with fail
      go_cut [] (fun wx => FPost m base g w lv ov (s1.s2 name) wx)
      case first =>
        obtain ⟨A, c, O, d, e1, e2, x0, x1, x2⟩ := h3.parts
        by_cases hb : (name == cLi && (decide (0 < k) && nameAt s1 (s1.op.getD (k - 1) 0) == cLi)) = true
        · have E := Lib.hid (show s1.s2 name = ⟨s1.l, s1.op.take (k - 1), s1.bad⟩ by rw [Hs2.out, if_pos hb])
          have hk0 : 0 < k := by simp at hb; exact hb.2.1
          rw [hb]
          obtain ⟨b, d, hv, hd, _⟩ := h3.opCell (by omega)
          rw [hv] at e2
          injection e2 with t1 t2 t3
          subst t1 t3
          subst hv
          have f1 : X.frozen? ⟨g, 1, none⟩ = false := by simp [World.frozen?, h3.obj]
          have fin := cut_end h3 (j := k - 1) (by omega)
          obtain ⟨j, rfl⟩ : ∃ j, k = j + 1 := ⟨k - 1, by omega⟩
          rw [Nat.add_sub_cancel] at fin E
          have fin2 := B2 fin
          rw [← E.out] at fin2
          have i1 : (0 : Int) ≤ ((j + 1 : Nat) : Int) - 1 := by omega
          have i2 : ((j + 1 : Nat) : Int) - 1 ≤ (d : Int) := by omega
          have i3 : j ≤ d := by omega
          clear h3 B2 fin hb t2
          go_wp2
          go_meet
          exact fin2
        · have hb' : (name == cLi && (decide (0 < k) && nameAt s1 (s1.op.getD (k - 1) 0) == cLi)) = false := by simpa using hb
          have E := Lib.hid (show s1.s2 name = s1 by rw [Hs2.out, if_neg hb])
          rw [hb']
          have fin := B2 (FPost.refl h3)
          rw [← E.out] at fin
          clear h3 B2 e1 e2 hb hb'
          go_wp2
          go_meet
          exact fin
      case rest =>
        clear h3 B2 Hs2
        generalize s1.s2 name = s2 at *
        obtain ⟨lv2, lc2, ov2, i2, c2, n2⟩ := hcut
        go_wp2_with fail
        refine (rput_calls i2 (by omega) (by omega) name hA []).mono ?_
        rintro e w3 ⟨rfl, hb3⟩
        have hp : (s2.put name attrs []).l.length = s2.l.length + 1 ∧ (s2.put name attrs []).op = s2.op := by simp [RS.put]
        obtain ⟨hp1, hp2⟩ := hp
        have hpl : (s2.put name attrs []).l.length ≤ 800001 := by omega
        have hpl0 : 0 < (s2.put name attrs []).l.length := by omega
        have hpo : (s2.put name attrs []).op.length ≤ 800000 := by rw [hp2]; omega
        clear hp1 hp2
        have B3 : ∀ {s4 : RS} {w2 : World} {lv3 lc3 ov3}, IsF m w3 base g (s2.put name attrs []) lv3 lc3 ov3 → Ch (fpF g lv2 ov2) wc w3 → (∀ k, fpF g lv3 ov3 k → fpF g lv2 ov2 k ∨ wc.heap.size ≤ k) → FPost m base g w3 lv3 ov3 s4 w2 → FPost m base g w lv ov s4 w2 :=
          fun _ c3 n3 hb => FPost.step c2 n2 (FPost.step c3 n3 hb)
        obtain ⟨lv3, lc3, ov3, i3, c3, n3⟩ := hb3
        have B4 : ∀ {s4 : RS} {w2 : World}, FPost m base g w3 lv3 ov3 s4 w2 → FPost m base g w lv ov s4 w2 := fun hb => B3 i3 c3 n3 hb
        clear B3 c3 n3 i2 c2 n2
        generalize s2.put name attrs [] = s3 at *
        go_upto_if 56 with (go_at_call 34; refine (rvoid_calls _ i3.hm name).mono ?_; rintro e w4 ⟨rfl, hch4⟩)
        rename World => w4
        have i4 := i3.ch hch4 (fun _ hk => hk.elim)
        have B5 : ∀ {s4 : RS} {w2 : World}, FPost m base g w4 lv3 ov3 s4 w2 → FPost m base g w lv ov s4 w2 := fun hb => B4 (hb.ahead hch4)
        clear B4 i3 hch4
        obtain ⟨A, c, O, d, e1, e2, x0, x1, x2⟩ := i4.parts
        by_cases hb : isVoid name = true
        · have E := Lib.hid (show s3.s3 name = s3 by unfold RS.s3; rw [if_pos hb])
          have fin := B5 (FPost.refl i4)
          rw [← E.out, ← Hs.out] at fin
          rw [hb]
          clear i4 B5 e1 e2
          go_wp2
          go_end0
          exact Done.mk fin
        · have hb' : isVoid name = false := by simpa using hb
          have E := Lib.hid (show s3.s3 name = ⟨s3.l, s3.op ++ [(s3.l.length : Int) - 1], s3.bad || decide (64 < (s3.op.length : Int) + 1)⟩ by unfold RS.s3; rw [if_neg hb])
          rw [hb']
          subst e1 e2
          have f1 : w4.frozen? ⟨g, 1, none⟩ = false := by simp [World.frozen?, i4.obj]
          have hgW : g < w4.heap.size := (i4.lt g (.inl rfl)).2
          have hbase : base ≤ w4.heap.size := by have := i4.bs; omega
          obtain ⟨a1, a2, a3⟩ := i4.apart
          have hrow := i4.ro
          have hil : (intCells s3.op).length = s3.op.length := by simp [intCells]
          obtain ⟨j0, hi, hz0, hz1, hz2⟩ := info_parts Try.infoInt
          have xall : ∀ o, (w4.alloc o).cell? ⟨g, 1, none⟩ = some (.slice O s3.op.length d) := fun o => cellA x1
          have xall0 : ∀ o, (w4.alloc o).cell? ⟨g, 0, none⟩ = some (.slice A s3.l.length c) := fun o => cellA x0
          have j1 : (0 : Int) ≤ (s3.l.length : Int) - 1 := by omega
          have HF := Lib.hid (fun w1 b' cap' o hown hgrow hat => rpush_end (w := w4) (w1 := w1) (b' := b') (cap' := cap') (o := o) (i := (s3.l.length : Int) - 1) i4 (Ch.refl _ w4) ⟨by omega, by omega⟩ hown hgrow hat)
          clear i4 hil
          go_upto_region 7 with fail
          go_cut [] (fun wx => FPost m base g w4 (.slice A s3.l.length c) (.slice O s3.op.length d) ⟨s3.l, s3.op ++ [(s3.l.length : Int) - 1], s3.bad⟩ wx)
          case first =>
            have hwr : IntKind.i64.wrap ((s3.l.length : Int) - 1) = (s3.l.length : Int) - 1 := IntWalk.i64_in _ ⟨by omega, by omega⟩
            go_region_law (refine step_append_lies _ rfl (.tmp 61) (.tmp 68) 46 rfl base 3 j0 _ 1 8 Try.underlying46 hi hz0 hz1 hz2 rfl (by decide) (.slice O s3.op.length d) s3.op.length (intCells s3.op) rfl (hrow.drew.alloc _) ⟨w4.heap.size, 0, none⟩ 1 1 [.int .i64 ((s3.l.length : Int) - 1)] rfl rfl (World.news_of_block (heap_alloc_new _ _)) (by simp [Value.oneCell']) (by decide) (by unfold maxLen; omega) (by omega) (by simp; omega) _ rfl ?_; intro b' cap' w1 hown1 hgrow1 hat1 hlt1; have hh3 := hgrow1.cell (a := ⟨g, 1, none⟩) (cellA x1) (fun e => a2 e.symm); have ff3 := frA x1 f1 hgrow1 (fun e => a2 e.symm))
            all_goals
              have hat2 : (Value.slice O s3.op.length d).ownBlock = some b' ∨ b' = w4.heap.size + 1 := by simpa using hat1
              have fin := HF.out _ _ _ _ hown1 hgrow1 hat2
              go_wp2_with fail
              go_meet
              exact fin
          case rest =>
            clear x0 x1 x2 xall xall0 f1 HF hrow
            obtain ⟨lv5, lc5, ov5, i5, c5, n5⟩ := hcut
            obtain ⟨A', c', O', d', h1', h2', z0, z1, z2⟩ := i5.parts
            have g2 : wc.frozen? ⟨g, 2, none⟩ = false := by simp [World.frozen?, i5.obj]
            simp only [List.length_append, List.length_singleton] at z1
            by_cases hb : 64 < (s3.op.length : Int) + 1
            · have fin := B5 (FPost.step c5 n5 (bad_end i5))
              have hE2 : s.start name attrs = ⟨s3.l, s3.op ++ [(s3.l.length : Int) - 1], true⟩ := by
                rw [Hs.out, E.out, show decide (64 < (s3.op.length : Int) + 1) = true by simpa using hb, Bool.or_true]
              have E2 := Lib.hid hE2
              clear hE2
              rw [← E2.out] at fin
              have hb2 : 64 < ((s3.op.length + 1 : Nat) : Int) := by omega
              clear i5 c5 n5 h1' h2' B5
              go_wp2
              go_end0
              exact Done.mk fin
            · have fin := B5 (FPost.step c5 n5 (FPost.refl i5))
              have hE2 : s.start name attrs = ⟨s3.l, s3.op ++ [(s3.l.length : Int) - 1], s3.bad⟩ := by
                rw [Hs.out, E.out, show decide (64 < (s3.op.length : Int) + 1) = false by simpa using hb, Bool.or_false]
              have E2 := Lib.hid hE2
              clear hE2
              rw [← E2.out] at fin
              have hb2 : ¬ 64 < ((s3.op.length + 1 : Nat) : Int) := by omega
              clear i5 c5 n5 h1' h2' B5
              go_wp2
              go_end0
              exact Done.mk fin

end Go.Proofs.Ytlfimcpceiemnaa

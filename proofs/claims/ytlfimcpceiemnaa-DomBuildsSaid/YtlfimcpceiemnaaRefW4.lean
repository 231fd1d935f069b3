/- versoref04's builder, walked: put. -/
import Derived.Test.YtlfimcpceiemnaaRefW3
set_option linter.unusedVariables false
namespace Go.Proofs.Ytlfimcpceiemnaa
open Go Go.RowKit

theorem Try.infoFlat : (Try.prog.info? 62).map (fun i => (i.zero, i.size, i.bytes)) = some (some (.agg #[.string ⟨#[]⟩, .slice none 0 0, .string ⟨#[]⟩, .slice none 0 0, .int .i64 0]), 5, 88) := by kernel_rfl
theorem cellN {w : World} {a : Addr} {v : Value} {o : Obj} {n : Nat} (h : w.cell? a = some v) : ((w.drewN n).alloc o).cell? a = some v := by
  have hb := World.block_lt_of_cell? w a h
  exact (World.cell?_of_block (w := w.drewN n) (w' := (w.drewN n).alloc o) (Below.heap_alloc (w.drewN n) o a.block hb)).trans h
theorem frN {w w1 : World} {a : Addr} {v : Value} {o : Obj} {row : Option Nat} {n : Nat} (h : w.cell? a = some v) (hf : w.frozen? a = false) (hg : ((w.drewN n).alloc o).grownBy w1 row) (hr : some a.block ≠ row) : w1.frozen? a = false := by
  have hb := World.block_lt_of_cell? w a h
  have h1 := Below.heap_alloc (w.drewN n) o a.block hb
  have h2 := hg.block a.block (by simp; omega) hr
  rw [World.frozen?_of_block (w := (w.drewN n).alloc o) h2]
  exact (World.frozen?_of_block (w := w.drewN n) (w' := (w.drewN n).alloc o) h1).trans hf
theorem bad_end {m : Mem} {w : World} {base g : Nat} {s : RS} {lv : Value} {lc : List Value} {ov : Value} (h : IsF m w base g s lv lc ov) : FPost m base g w lv ov ⟨s.l, s.op, true⟩ (w.setCell ⟨g, 2, none⟩ (.bool true)) := by
  obtain ⟨a1, a2, a3⟩ := h.apart
  have ho := heap_setCell_at (i := 2) h.obj (.bool true)
  have hc : Ch (fun k => k = g) w (w.setCell ⟨g, 2, none⟩ (.bool true)) := (Ch.refl (fun k => k = g) w).setCell (p := ⟨g, 2, none⟩) (.inl rfl) _
  generalize w.setCell ⟨g, 2, none⟩ (.bool true) = w2 at *
  exact ⟨lv, lc, ov, ⟨h.hm.ch hc (fun k hk => by subst hk; exact h.fr _ (.inl rfl)), ho, hc.own h.rl (fun k hk e => a1 (e ▸ hk)), hc.own h.ro (fun k hk e => a2 (e ▸ hk)), h.cl, h.fr, h.bs, h.ix⟩, hc.mono (fun k hk => .inl hk), fun k hk => .inl hk⟩

set_option maxHeartbeats 1600000 in
theorem rput_calls {m : Mem} {w : World} {base g : Nat} {s : RS} {lv : Value} {lc : List Value} {ov : Value} (h : IsF m w base g s lv lc ov) (hl : s.op.length ≤ 900000) (hll : s.l.length ≤ 900000)
    (name : Str) {attrs : List Attr} {va : Value} (hA : RdAttrs m va attrs) (text : Str) :
    Calls Try.prog 27 #[.pointer (some ⟨g, 0, none⟩), .agg #[.string ⟨name.toArray⟩, va, .string ⟨text.toArray⟩, .slice none 0 0]] w (Done (FPost m base g w lv ov (s.put name attrs text))) := by
  obtain ⟨_, Aa, ca, rfl, _⟩ := id hA
  go_enter Try.func27, Try.ntmps27
  go_upto_region 1 with fail
  have hch := (Ch.refl (fun _ => False) w).alloc (.cells #[.string ⟨name.toArray⟩, .slice Aa attrs.length ca, .string ⟨text.toArray⟩, .slice none 0 0] 34)
  have hbx := heap_alloc_new w (.cells #[.string ⟨name.toArray⟩, .slice Aa attrs.length ca, .string ⟨text.toArray⟩, .slice none 0 0] 34)
  have hF := h.ch hch (fun _ hk => hk.elim)
  generalize hwn : w.heap.size = wn at *
  generalize w.alloc (.cells #[.string ⟨name.toArray⟩, .slice Aa attrs.length ca, .string ⟨text.toArray⟩, .slice none 0 0] 34) = W at *
  have y0 : W.cell? ⟨wn, 0, none⟩ = some (.string ⟨name.toArray⟩) := by rw [cell_of_row W _ 0 _ _ _ hbx]; rfl
  have y1 : W.cell? ⟨wn, 1, none⟩ = some (.slice Aa attrs.length ca) := by rw [cell_of_row W _ 1 _ _ _ hbx]; rfl
  have y2 : W.cell? ⟨wn, 2, none⟩ = some (.string ⟨text.toArray⟩) := by rw [cell_of_row W _ 2 _ _ _ hbx]; rfl
  have y3 : W.cell? ⟨wn, 3, none⟩ = some (.slice none 0 0) := by rw [cell_of_row W _ 3 _ _ _ hbx]; rfl
  have hwnW : wn < W.heap.size := (Array.getElem?_eq_some_iff.1 hbx).1
  clear hbx hwn h
  obtain ⟨A, c, O, d, h1, h2, x0, x1, x2⟩ := hF.parts
  subst h1 h2
  have f0 : W.frozen? ⟨g, 0, none⟩ = false := by simp [World.frozen?, hF.obj]
  have hgW : g < W.heap.size := (hF.lt g (.inl rfl)).2
  have hbase : base ≤ W.heap.size := by have := hF.bs; omega
  obtain ⟨a1, a2, a3⟩ := hF.apart
  have HH := fun n => here_calls (hF.ch ((Ch.refl (fun _ => False) W).drewN n) (fun _ hk => hk.elim)) (by omega)
  have hrow := hF.rl
  have xall : ∀ n o, ((W.drewN n).alloc o).cell? ⟨g, 0, none⟩ = some (.slice A s.l.length c) := fun n o => cellN x0
  obtain ⟨j0, hi, hz0, hz1, hz2⟩ := info_parts Try.infoFlat
  have HF := Lib.hid (fun w1 b' cap' o n hown hgrow hat => rput_end (w1 := w1) (b' := b') (cap' := cap') (o := o) (n := n) (name := name) (text := text) hF hch hA hown hgrow hat)
  have HH' := Lib.hid HH
  clear HH hF
  go_cut [] (fun wx => FPost m base g w (.slice A s.l.length c) (.slice O s.op.length d) ⟨s.l ++ [⟨name, attrs, text, s.here⟩], s.op, s.bad⟩ wx)
  case first =>
   go_region_law (first | (refine step_append_lies _ rfl (.tmp 8) (.tmp 13) 45 rfl base 62 j0 _ 5 88 Try.underlying45 hi hz0 hz1 hz2 rfl (by decide) (.slice A s.l.length c) s.l.length lc rfl (hrow.alloc _) ⟨W.heap.size, 0, none⟩ 1 1 [.string ⟨name.toArray⟩, .slice Aa attrs.length ca, .string ⟨text.toArray⟩, .slice none 0 0, .int .i64 s.here] rfl rfl (World.news_of_block (heap_alloc_new _ _)) (by simp [Value.oneCell']) (by decide) (by unfold maxLen; omega) (by omega) (by simp; omega) _ rfl ?_; intro b' cap' w1 hown1 hgrow1 hat1 hlt1; have hh3 := hgrow1.cell (a := ⟨g, 0, none⟩) (cellN x0) (fun e => a1 e.symm); have ff3 := frN x0 f0 hgrow1 (fun e => a1 e.symm)) | (go_simp; go_at_call 31; refine (HH'.out _).mono ?_; rintro e w1 ⟨rfl, n, rfl⟩))
   all_goals
     have hat2 : (Value.slice A s.l.length c).ownBlock = some b' ∨ b' = W.heap.size + 1 := by simpa using hat1
     have fin := HF.out _ _ _ _ _ hown1 hgrow1 hat2
     go_wp2_with fail
     go_meet
     exact fin
  case rest =>
    clear x0 x1 x2 y0 y1 y2 y3 f0 xall hrow
    obtain ⟨lv2, lc2, ov2, i2, c2, n2⟩ := hcut
    have hch3 := c2
    obtain ⟨A', c', O', d', h1', h2', z0, z1, z2⟩ := i2.parts
    have g2 : wc.frozen? ⟨g, 2, none⟩ = false := by simp [World.frozen?, i2.obj]
    have Hput : Hid (s.put name attrs text = ⟨s.l ++ [⟨name, attrs, text, s.here⟩], s.op, s.bad || decide (2000 < (s.l.length : Int) + 1)⟩) := Lib.hid rfl
    simp only [List.length_append, List.length_singleton] at z0
    by_cases hb : 2000 < (s.l.length : Int) + 1
    · have fin : FPost m base g w (.slice A s.l.length c) (.slice O s.op.length d) (s.put name attrs text) (wc.setCell ⟨g, 2, none⟩ (.bool true)) := by
        have := FPost.step c2 n2 (bad_end i2)
        rw [Hput.out, show decide (2000 < (s.l.length : Int) + 1) = true by simpa using hb, Bool.or_true]
        exact this
      have hb2 : 2000 < ((s.l.length + 1 : Nat) : Int) := by omega
      clear hch3 i2 c2 n2 h1' h2'
      go_wp2
      go_end0
      exact Done.mk fin
    · have fin : FPost m base g w (.slice A s.l.length c) (.slice O s.op.length d) (s.put name attrs text) wc := by
        have := FPost.step c2 n2 (FPost.refl i2)
        rw [Hput.out, show decide (2000 < (s.l.length : Int) + 1) = false by simpa using hb, Bool.or_false]
        exact this
      have hb2 : ¬ 2000 < ((s.l.length + 1 : Nat) : Int) := by omega
      clear hch3 i2 c2 n2 h1' h2'
      go_wp2
      go_end0
      exact Done.mk fin

end Go.Proofs.Ytlfimcpceiemnaa

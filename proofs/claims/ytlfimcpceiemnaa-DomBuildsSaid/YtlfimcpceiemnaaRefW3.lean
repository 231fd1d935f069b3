/- versoref04's builder, walked: close, put. -/
import Derived.Test.YtlfimcpceiemnaaRefW2
set_option linter.unusedVariables false
namespace Go.Proofs.Ytlfimcpceiemnaa
open Go Go.RowKit

theorem own_take {w : World} {base : Nat} {e : TypeId} {b d n : Nat} {xs : List Value} (h : w.ownsRow base e 1 (.slice (some ⟨b, 0, none⟩) n d) n xs) {j : Nat} (hj : j ≤ n) : w.ownsRow base e 1 (.slice (some ⟨b, 0, none⟩) j d) j (xs.take j) := by
  obtain ⟨hl, h2⟩ := h
  rcases h2 with ⟨h0, _⟩ | ⟨g', cap', cur, hv, hg, hh, hn, hcap, hsz, htake⟩
  · cases h0
  · cases hv
    refine ⟨by simp; omega, .inr ⟨b, d, cur, rfl, hg, hh, by omega, hcap, hsz, ?_⟩⟩
    rw [← htake, List.take_take]
    congr 1
    omega
/-- The builder's object alone has turned: what is open is cut. -/
theorem cut_end {m : Mem} {w : World} {base g b d : Nat} {s : RS} {lv : Value} {lc : List Value} (h : IsF m w base g s lv lc (.slice (some ⟨b, 0, none⟩) s.op.length d)) {j : Nat} (hj : j ≤ s.op.length) :
    FPost m base g w lv (.slice (some ⟨b, 0, none⟩) s.op.length d) ⟨s.l, s.op.take j, s.bad⟩ (w.setCell ⟨g, 1, none⟩ (.slice (some ⟨b, 0, none⟩) j d)) := by
  obtain ⟨a1, a2, a3⟩ := h.apart
  have ho := heap_setCell_at (i := 1) h.obj (.slice (some ⟨b, 0, none⟩) j d)
  have hc : Ch (fun k => k = g) w (w.setCell ⟨g, 1, none⟩ (.slice (some ⟨b, 0, none⟩) j d)) := (Ch.refl (fun k => k = g) w).setCell (p := ⟨g, 1, none⟩) (.inl rfl) _
  generalize w.setCell ⟨g, 1, none⟩ (.slice (some ⟨b, 0, none⟩) j d) = w2 at *
  have hro := own_take h.ro hj
  refine ⟨lv, lc, .slice (some ⟨b, 0, none⟩) j d, ⟨h.hm.ch hc (fun k hk => by subst hk; exact h.fr _ (.inl rfl)), ho, hc.own h.rl (fun k hk e => a1 (e ▸ hk)), ?_, h.cl, ?_, h.bs, ?_⟩, hc.mono (fun k hk => .inl hk), ?_⟩
  · have := hc.own hro (fun k hk e => a2 (e ▸ hk))
    simpa [intCells, List.map_take, List.length_take_of_le hj] using this
  · rintro k (hk | hk | hk)
    · exact h.fr k (.inl hk)
    · exact h.fr k (.inr (.inl hk))
    · exact h.fr k (.inr (.inr hk))
  · intro i hi
    exact h.ix i (List.mem_of_mem_take hi)
  · rintro k (hk | hk | hk)
    · exact .inl (.inl hk)
    · exact .inl (.inr (.inl hk))
    · exact .inl (.inr (.inr hk))
theorem inner_le (names : List Str) (s : RS) : ∀ n, innerN names s n ≤ n
  | 0 => Nat.le_refl _
  | n + 1 => by simp only [innerN]; split; exact Nat.le_refl _; exact Nat.le_succ_of_le (inner_le names s n)

set_option maxHeartbeats 800000 in
theorem rclose_calls {m : Mem} {w : World} {base g : Nat} {s : RS} {lv : Value} {lc : List Value} {ov : Value} (h : IsF m w base g s lv lc ov) (hl : s.op.length ≤ 1000000) (hll : s.l.length ≤ 1000000) (name : Str) :
    Calls Try.prog 29 #[.pointer (some ⟨g, 0, none⟩), .string ⟨name.toArray⟩] w fun e w' => e = .returned (.bool (decide (s.inner [name] ≠ 0))) ∧ FPost m base g w lv ov (s.close name) w' := by
  go_enter Try.func29, Try.ntmps29
  go_wp2_with fail
  have hch := (Ch.refl (fun _ => False) w).alloc (.cells (strCells [name]).toArray 9)
  obtain ⟨m', hm', hv'⟩ := lit_strs h.hm [name] 9 (by simp)
  have h1 := h.ch hch (fun _ hk => hk.elim)
  refine (rinner_calls h1 hl hll hm' hv' (by simp)).mono ?_
  rintro e w' ⟨rfl, n, rfl⟩
  have h2 := h1.ch ((Ch.refl (fun _ => False) _).drewN n) (fun _ hk => hk.elim)
  have hch2 := hch.drewN n
  generalize (w.alloc (.cells (strCells [name]).toArray 9)).drewN n = W at *
  clear hm' hv' h1 hch
  have hle : s.inner [name] ≤ s.op.length := inner_le _ _ _
  have Hc : Hid (s.close name = if s.inner [name] = 0 then s else ⟨s.l, s.op.take (s.inner [name] - 1), s.bad⟩) := Lib.hid rfl
  generalize hin : s.inner [name] = i at *
  have Hin := Lib.hid hin
  clear hin
  by_cases h0 : i = 0
  · subst h0
    have fin : FPost m base g w lv ov (s.close name) W := by rw [Hc.out, if_pos rfl]; exact (FPost.refl h2).ahead hch2
    go_wp2
    go_ret
    exact ⟨Ret1 (by simp [Hin.out]), fin⟩
  · obtain ⟨b, d, hv, hd, _⟩ := h2.opCell (by omega)
    subst hv
    have x1 : W.cell? ⟨g, 1, none⟩ = some (.slice (some ⟨b, 0, none⟩) s.op.length d) := by rw [cell_of_row W g 1 _ _ _ h2.obj]; rfl
    have f1 : W.frozen? ⟨g, 1, none⟩ = false := by simp [World.frozen?, h2.obj]
    have fin : FPost m base g w lv (.slice (some ⟨b, 0, none⟩) s.op.length d) (s.close name) (W.setCell ⟨g, 1, none⟩ (.slice (some ⟨b, 0, none⟩) (i - 1) d)) := by
      rw [Hc.out, if_neg h0]
      exact (cut_end h2 (by omega)).ahead hch2
    have h0' : ((i : Int) == 0) = false := by simpa using h0
    have Hd := Lib.hid (show decide (i ≠ 0) = true by simpa using h0)
    obtain ⟨j, rfl⟩ : ∃ j, i = j + 1 := ⟨i - 1, by omega⟩
    rw [Nat.add_sub_cancel] at fin
    have i1 : (0 : Int) ≤ ((j + 1 : Nat) : Int) - 1 := by omega
    have i2 : ((j + 1 : Nat) : Int) - 1 ≤ (d : Int) := by omega
    have i3 : j ≤ d := by omega
    clear h0 h2 h hch2
    go_wp2
    go_ret
    exact ⟨Ret1 (by simp [Hin.out]), fin⟩

/-- A node more. -/
theorem rput_end {m : Mem} {w W w1 : World} {base g b' cap' : Nat} {s : RS} {lv : Value} {lc : List Value} {ov : Value} {name : Str} {attrs : List Attr} {text : Str} {va : Value} {o : Obj} {n : Nat}
    (h : IsF m W base g s lv lc ov) (hch : Ch (fun _ => False) w W) (hA : RdAttrs m va attrs)
    (hown : w1.ownsRow base 62 5 (.slice (some ⟨b', 0, none⟩) (s.l.length + 1) cap') (s.l.length + 1) (lc ++ [.string ⟨name.toArray⟩, va, .string ⟨text.toArray⟩, .slice none 0 0, .int .i64 s.here]))
    (hgrow : ((W.drewN n).alloc o).grownBy w1 lv.ownBlock) (hat : lv.ownBlock = some b' ∨ b' = W.heap.size + 1) :
    FPost m base g w lv ov ⟨s.l ++ [⟨name, attrs, text, s.here⟩], s.op, s.bad⟩ (w1.setCell ⟨g, 0, none⟩ (.slice (some ⟨b', 0, none⟩) (s.l.length + 1) cap')) := by
  obtain ⟨a1, a2, a3⟩ := h.apart
  have hch2 : Ch (fun j => lv.ownBlock = some j) W w1 := (((Ch.refl (fun j => lv.ownBlock = some j) W).drewN n).alloc o).grown hgrow (fun j hj => .inl hj)
  have hgW : g < W.heap.size := (h.lt g (.inl rfl)).2
  have hb'g : b' ≠ g := by
    rcases hat with e | e
    · exact fun e2 => a1 (e2 ▸ e)
    · omega
  have hb'o : ov.ownBlock ≠ some b' := by
    rcases hat with e | e
    · exact a3 _ e
    · exact fun e2 => by have := (h.ro.lt b' e2).2; omega
  have hfree : ∀ j, (lv.ownBlock = some j ∨ j = b') → m.free j := by
    rintro j (hj | rfl)
    · exact h.fr j (.inr (.inl hj))
    · rcases hat with e | e
      · exact h.fr _ (.inr (.inl e))
      · exact h.hm.new (by omega)
  have hc3 : Ch (fun k => k = g) w1 (w1.setCell ⟨g, 0, none⟩ (.slice (some ⟨b', 0, none⟩) (s.l.length + 1) cap')) := (Ch.refl (fun k => k = g) w1).setCell (p := ⟨g, 0, none⟩) (.inl rfl) _
  have ho := heap_setCell_at (i := 0) (hch2.heap h.obj a1) (.slice (some ⟨b', 0, none⟩) (s.l.length + 1) cap')
  generalize w1.setCell ⟨g, 0, none⟩ (.slice (some ⟨b', 0, none⟩) (s.l.length + 1) cap') = w2 at *
  have hok : m.ok w2 := (h.hm.ch hch2 (fun k hk => hfree k (.inl hk))).ch hc3 (fun k hk => by subst hk; exact h.fr _ (.inl rfl))
  refine ⟨.slice (some ⟨b', 0, none⟩) (s.l.length + 1) cap', lc ++ [.string ⟨name.toArray⟩, va, .string ⟨text.toArray⟩, .slice none 0 0, .int .i64 s.here], ov, ⟨hok, ho, ?_, ?_, h.cl.append (.cons (f := ⟨name, attrs, text, s.here⟩) hA .nil), ?_, h.bs, ?_⟩, ?_, ?_⟩
  · rw [List.length_append]
    exact hc3.own hown (fun k hk e => by simp [Value.ownBlock] at hk; subst hk; exact hb'g e)
  · exact hc3.own (hch2.own h.ro (fun k hk e => a3 k e hk)) (fun k hk e => a2 (e ▸ hk))
  · rintro k (hk | hk | hk)
    · exact h.fr k (.inl hk)
    · simp [Value.ownBlock] at hk; exact hfree k (.inr hk.symm)
    · exact h.fr k (.inr (.inr hk))
  · intro i hi
    have := h.ix i hi
    simp; omega
  · exact ((hch.mono (fun _ h => h.elim)).trans (hch2.mono (T := fpF g lv ov) (fun j hj => .inr (.inl hj))) (fun j hj => .inl hj)).trans (hc3.mono (T := fpF g lv ov) (fun j hj => .inl hj)) (fun j hj => .inl hj)
  · rintro k (hk | hk | hk)
    · exact .inl (.inl hk)
    · simp [Value.ownBlock] at hk
      rcases hat with e | e
      · exact .inl (.inr (.inl (hk ▸ e)))
      · exact .inr (by have := hch.size; omega)
    · exact .inl (.inr (.inr hk))

end Go.Proofs.Ytlfimcpceiemnaa

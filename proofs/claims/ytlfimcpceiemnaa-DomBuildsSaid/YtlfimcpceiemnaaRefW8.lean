/- versoref04.Build, walked. -/
import Derived.Test.YtlfimcpceiemnaaRefW7
set_option linter.unusedVariables false
namespace Go.Proofs.Ytlfimcpceiemnaa
open Go Go.RowKit

theorem text_le_tok (t : Token) : ∀ {l : List Token}, t ∈ l → t.text.length ≤ tokText l
  | a :: l, h => by
    rcases List.mem_cons.1 h with rfl | h
    · simp [tokText]
    · have := text_le_tok t h
      simp [tokText] at this ⊢; omega
def runR (s : RS) : List Token → RS
  | [] => s
  | t :: ts => runR (s.take t) ts
theorem runR_snoc (t : Token) : ∀ (l : List Token) (s : RS), runR s (l ++ [t]) = (runR s l).take t
  | [], s => rfl
  | a :: l, s => runR_snoc t l (s.take a)
/-- None of them made it bad, but maybe the last. -/
theorem run_bad : ∀ (l : List Token) (s : RS) (r : List Token), (∀ k, k < l.length → (runR s (l.take k)).bad = false) → s.run (l ++ r) = (runR s l).run r
  | [], s, r, _ => rfl
  | a :: l, s, r, h => by
    have h0 : s.bad = false := by simpa [runR] using h 0 (by simp)
    rw [List.cons_append, RS.run, h0, runR]
    exact run_bad l _ r (fun k hk => by simpa [runR] using h (k + 1) (by simpa using hk))
theorem run_stop (s : RS) (h : s.bad = true) : ∀ r : List Token, s.run r = s
  | [] => rfl
  | a :: r => by rw [RS.run, h]; rfl
def textR (l : List Flat) (T : Nat) : Prop := ∀ f ∈ l, f.text.length ≤ T
theorem textR_mono {l : List Flat} {T U : Nat} (h : textR l T) (hU : T ≤ U) : textR l U := fun f hf => Nat.le_trans (h f hf) hU
theorem RS.put_text (s : RS) (name : Str) (attrs : List Attr) (text : Str) {T : Nat} (h : textR s.l T) (ht : text.length ≤ T) : textR (s.put name attrs text).l T := by
  intro f hf
  simp only [RS.put, List.mem_append, List.mem_singleton] at hf
  rcases hf with hf | rfl
  · exact h f hf
  · exact ht
theorem RS.s1_text (s : RS) (name : Str) : (s.s1 name).l = s.l := (s.s1_len name).1
theorem RS.start_text (s : RS) (name : Str) (attrs : List Attr) {T : Nat} (h : textR s.l T) : textR (s.start name attrs).l T := by
  have h2 : ((s.s1 name).s2 name).l = s.l := by rw [((s.s1 name).s2_len name).1, (s.s1_len name).1]
  have hp : textR (((s.s1 name).s2 name).put name attrs []).l T := RS.put_text _ _ _ _ (by rw [h2]; exact h) (Nat.zero_le _)
  unfold RS.start RS.s3; split
  · exact hp
  · exact hp
theorem RS.take_facts (s : RS) (t : Token) {T : Nat} (h : textR s.l T) : textR (s.take t).l (T + t.text.length) ∧ (s.take t).l.length ≤ s.l.length + 1 ∧ (s.take t).op.length ≤ s.op.length + 1 := by
  have up : ∀ {l : List Flat}, textR l T → textR l (T + t.text.length) := fun h => textR_mono h (Nat.le_add_right _ _)
  unfold RS.take
  split
  · split
    · exact ⟨up h, by omega, by omega⟩
    · split
      · refine ⟨?_, by simp, by simp⟩
        intro f hf
        simp only at hf
        rw [List.mem_iff_getElem?] at hf
        obtain ⟨i, hi⟩ := hf
        rw [List.getElem?_modify] at hi
        cases hi2 : s.l[i]? with
        | none => rw [hi2] at hi; simp at hi
        | some f0 =>
          have hm := h f0 (List.mem_of_getElem? hi2)
          rw [hi2] at hi
          simp at hi
          subst hi
          split
          · simp [addText]; omega
          · omega
      · exact ⟨RS.put_text _ _ _ _ (up h) (by omega), by simp [RS.put], by simp [RS.put]⟩
  · split
    · exact ⟨up (RS.start_text _ _ _ h), by rw [(s.start_len _ _).1]; omega, (s.start_len _ _).2⟩
    · split
      · split
        · simp only
          by_cases hp : (t.name == cP) = true
          · have hb : (t.name == cBr) = false := by
              have : t.name = cP := by simpa using hp
              rw [this]; rfl
            rw [hp, hb]
            simp only [if_true, Bool.false_eq_true, if_false]
            refine ⟨?_, ?_, ?_⟩
            · rw [(RS.close_len _ _).1]; exact up (RS.start_text _ _ _ h)
            · rw [(RS.close_len _ _).1, (s.start_len _ _).1]; omega
            · exact Nat.le_trans (RS.close_len _ _).2 (s.start_len _ _).2
          · rw [show (t.name == cP) = false by simpa using hp]
            simp only [Bool.false_eq_true, if_false]
            split
            · exact ⟨up (RS.start_text _ _ _ h), by rw [(s.start_len _ _).1]; omega, (s.start_len _ _).2⟩
            · exact ⟨up h, by omega, by omega⟩
        · exact ⟨by rw [(RS.close_len _ _).1]; exact up h, by rw [(RS.close_len _ _).1]; omega, Nat.le_trans (RS.close_len _ _).2 (by omega)⟩
      · exact ⟨up h, by omega, by omega⟩
theorem runR_facts : ∀ (l : List Token) (s : RS) (T : Nat), textR s.l T → textR (runR s l).l (T + tokText l) ∧ (runR s l).l.length ≤ s.l.length + l.length ∧ (runR s l).op.length ≤ s.op.length + l.length
  | [], s, T, h => by simpa [runR, tokText] using h
  | t :: l, s, T, h => by
    obtain ⟨h1, h2, h3⟩ := s.take_facts t h
    obtain ⟨g1, g2, g3⟩ := runR_facts l _ _ h1
    simp only [runR, tokText, List.map_cons, List.sum_cons, List.length_cons] at g1 g2 g3 ⊢
    refine ⟨by rw [← Nat.add_assoc]; exact g1, by omega, by omega⟩
def rs0 : RS := ⟨[], [], false⟩
theorem rbuild_start {m : Mem} {w : World} (hw : m.ok w) : IsF m (w.alloc (.cells #[.slice none 0 0, .slice none 0 0, .bool false] 48)) w.heap.size w.heap.size rs0 (.slice none 0 0) [] (.slice none 0 0) where
  hm := hw.ch ((Ch.refl (fun _ => False) w).alloc _) (fun _ h => h.elim)
  obj := heap_alloc_new w _
  rl := World.ownsRow_nil _ _ _ _
  ro := World.ownsRow_nil _ _ _ _
  cl := .nil
  fr := fun k hk => by
    rcases hk with rfl | hk | hk
    · exact hw.new (Nat.le_refl _)
    · simp [Value.ownBlock] at hk
    · simp [Value.ownBlock] at hk
  bs := Nat.le_refl _
  ix := fun i hi => by simp [rs0] at hi

set_option maxHeartbeats 3200000 in
theorem rbuild_calls {m : Mem} {w : World} (hw : m.ok w) {v : Value} {l : List Token} (h : RdToks m v l) (hT : tokText l ≤ 100000000000) (hl : l.length ≤ 400000) :
    Calls Try.prog 8 #[v] w (NewNodes m w (refBuild l).1 (refBuild l).2) := by
  have hst := rbuild_start hw
  have hTk := fun hn => tok_cells hw h hn
  obtain ⟨A, c, rfl⟩ : ∃ A c, v = .slice A l.length c := by obtain ⟨_, ⟨_, A, c, h, _⟩, _⟩ := h; exact ⟨A, c, h⟩
  have HTk := Lib.hid hTk
  clear hTk
  have hch0 := (Ch.refl (fun _ => False) w).alloc (.cells #[.slice none 0 0, .slice none 0 0, .bool false] 48)
  go_enter Try.func8, Try.ntmps8
  go_wp2
  generalize w.alloc (.cells #[.slice none 0 0, .slice none 0 0, .bool false] 48) = W0 at *
  generalize hbase : w.heap.size = base at *
  have Hb := Lib.hid hbase
  clear hbase
  go_loopw [5] (fun i wr => ∃ k : Nat, k ≤ l.length ∧ i = .int .i64 k ∧ (∀ j, j < k → (runR rs0 (l.take j)).bad = false) ∧ FPost m base base W0 (.slice none 0 0) (.slice none 0 0) (runR rs0 (l.take k)) wr) (fun i _ => l.length - (intOf i).toNat)
  case atStart => exact ⟨0, Nat.zero_le _, rfl, fun j hj => by omega, FPost.refl hst⟩
  case round =>
    rename World => wr
    obtain ⟨k, hk, rfl, hfine, lv1, lc1, ov1, i1, c1, n1⟩ := hrel
    obtain ⟨hf1, hf2, hf3⟩ := runR_facts (l.take k) rs0 0 (fun f hf => by simp [rs0] at hf)
    have hTk : tokText (l.take k) ≤ tokText l := by
      have : tokText l = tokText (l.take k) + tokText (l.drop k) := by
        rw [tokText, tokText, tokText, ← List.sum_append, ← List.map_append, List.take_append_drop]
      omega
    rw [List.length_take_of_le hk] at hf2 hf3
    simp only [rs0, List.length_nil, Nat.zero_add] at hf1 hf2 hf3
    have Hfine := Lib.hid hfine
    clear hfine
    generalize hs : runR rs0 (l.take k) = s at *
    have hs' : runR ⟨[], [], false⟩ (l.take k) = s := hs
    rw [hs'] at hf1 hf2 hf3
    have Hs := Lib.hid hs
    clear hs hs'
    obtain ⟨A1, cc1, O1, d1, e1, e2, x0, x1, x2⟩ := i1.parts
    have htt := textR_mono hf1 (show tokText (l.take k) ≤ 1000000000000 by omega)
    by_cases hlt : k < l.length ∧ s.bad = false
    · obtain ⟨hlt, hbad⟩ := hlt
      have hki : (k : Int) < (l.length : Int) := by omega
      have hki0 : (0 : Int) ≤ (k : Int) := by omega
      obtain ⟨b, o, c', hv, hcl⟩ := HTk.out (by omega)
      injection hv with t1 t2 t3
      subst t1 t3
      obtain ⟨t, ht⟩ : ∃ t, l[k]? = some t := ⟨_, List.getElem?_eq_getElem hlt⟩
      have htl : t.text.length ≤ 1000000000000 := by
        have := text_le_tok t (List.mem_of_getElem? ht)
        omega
      have Htake := Lib.hid (show l.take (k + 1) = l.take k ++ [t] by rw [List.take_add_one, ht]; rfl)
      obtain ⟨Aa, na, ra, hcells⟩ := hcl k t ht
      obtain ⟨y0, y1, y2, y3, y4⟩ := hcells wr i1.hm
      rw [hbad] at x2
      clear hcells hcl ht t2 hTk e1 e2
      go_wp2_with fail
      refine (rtake_calls i1 (by omega) (by omega) t ra htt htl).mono ?_
      rintro e w2 ⟨rfl, hb⟩
      have R : FPost m base base W0 (.slice none 0 0) (.slice none 0 0) (runR rs0 (l.take (k + 1))) w2 := by
        rw [Htake.out, runR_snoc, Hs.out]; exact FPost.step c1 n1 hb
      have Hn := Lib.hid (show ∀ j, j < k + 1 → (runR rs0 (l.take j)).bad = false from fun j hj => by
        rcases Nat.lt_succ_iff_lt_or_eq.1 hj with h1 | rfl
        · exact Hfine.out j h1
        · rw [Hs.out]; exact hbad)
      clear hb i1 c1 n1 hbad
      go_wp2
      go_roundw
      case rel => exact ⟨k + 1, by omega, by go_num, Hn.out, R⟩
      case measure => simp [intOf]; omega
    · have hend : (rs0.run l) = s := by
        have h1 := run_bad (l.take k) rs0 (l.drop k) (fun j hj => by
          have hj' : j < k := by rw [List.length_take_of_le hk] at hj; exact hj
          rw [List.take_take, Nat.min_eq_left (Nat.le_of_lt hj')]
          exact Hfine.out j hj')
        rw [List.take_append_drop, Hs.out] at h1
        rw [h1]
        by_cases hb : s.bad = true
        · exact run_stop s hb _
        · have : k = l.length := by
            have hb' : s.bad = false := by simpa using hb
            rcases Nat.lt_or_ge k l.length with h2 | h2
            · exact absurd ⟨h2, hb'⟩ hlt
            · omega
          rw [this, List.drop_length]; rfl
      have Hend := Lib.hid hend
      clear hend
      cases hbad : s.bad with
      | true =>
        have R : NewNodes m w (refBuild l).1 (refBuild l).2 (.returned (.tuple #[.slice none 0 0, .int .i64 5])) wr := by
          have : refBuild l = ([], 5) := by
            unfold refBuild
            have := Hend.out
            unfold rs0 at this
            rw [this, hbad]; rfl
          rw [this]
          exact ⟨_, m, rfl, Mem.le_refl m, i1.hm, ⟨[], SlV.nil m 4, .nil⟩, hch0.trans c1 (fun x hx => .inr (by rw [Hb.out]; exact (hst.lt x hx).1)), fun _ _ h => h⟩
        rw [hbad] at x2
        have hx2 := x2
        clear i1 c1 n1 hbad hTk e1 e2 hlt
        by_cases hki : (k : Int) < (l.length : Int)
        · go_wp2
          go_ret2
          exact R
        · go_wp2
          go_ret2
          exact R
      | false =>
        have hki : ¬ (k : Int) < (l.length : Int) := by
          intro h2
          exact hlt ⟨by omega, hbad⟩
        have Href := Lib.hid (show refBuild l = (kidsF s.l (-1), 0) by
          unfold refBuild
          have := Hend.out
          unfold rs0 at this
          rw [this, hbad]; rfl)
        have hkc := rkids_calls (s.l.length + 1) m wr base base s lv1 lc1 ov1 i1 (by omega) (-1) (by omega) (.inr rfl) (by omega)
        rw [hbad] at x2
        have hcW : Ch (fun _ => False) w wr := hch0.trans c1 (fun x hx => .inr (by rw [Hb.out]; exact (hst.lt x hx).1))
        clear i1 c1 n1 hbad hTk e1 e2 hlt hst h
        go_wp2_with fail
        refine hkc.mono ?_
        rintro e w2 ⟨v2, m2, rfl, l2, ok2, rd2, c2, f2⟩
        have R : NewNodes m w (refBuild l).1 (refBuild l).2 (.returned (.tuple #[v2, .int .i64 0])) w2 := by
          rw [Href.out]
          exact ⟨_, m2, rfl, l2, ok2, rd2, hcW.trans c2 (fun _ h => h.elim), fun x hx hf => f2 x (Nat.lt_of_lt_of_le hx hcW.size) hf⟩
        obtain ⟨A2, c2', hv2⟩ : ∃ A' c', v2 = .slice A' (kidsN (s.l.length + 1) s.l (-1)).length c' := by obtain ⟨_, ⟨_, A', c', h, _⟩, _⟩ := rd2; exact ⟨A', c', h⟩
        subst hv2
        clear rd2 c2 f2 l2 ok2
        go_wp2
        go_ret2
        exact R

end Go.Proofs.Ytlfimcpceiemnaa

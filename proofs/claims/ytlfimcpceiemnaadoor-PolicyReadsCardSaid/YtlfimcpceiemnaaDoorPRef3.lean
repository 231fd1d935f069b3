/- versoref08.cut, versoref08.Read. -/
import Derived.Test.YtlfimcpceiemnaaDoorPRef2
import Derived.Test.YtlfimcpceiemnaaDoorPCut
set_option linter.unusedVariables false
namespace Go.Proofs.YtlfimcpceiemnaaDoor
open Go Go.RowKit

theorem PolSt.more {m m' : Mem} {w w' : World} {B g : Nat} {p : Pol} (h : PolSt m w B g p) (hc : Ch (fun _ => False) w w') (hok' : m'.ok w') (hfr : ∀ k, k < w.heap.size → m.free k → m'.free k) : PolSt m' w' B g p := by
  obtain ⟨hok, hf, hge, hsz, v1, v2, v3, v4, v5, hb, ho⟩ := h
  have hblt := (Array.getElem?_eq_some_iff.1 hb).1
  have ho2 := ho.keep rfl hc (fun _ _ _ _ _ h => h)
  exact ⟨hok', hfr g hblt hf, hge, Nat.le_trans hsz hc.size, v1, v2, v3, v4, v5, hc.heap hb (fun h => h), fun i v L hv hL => ⟨(ho2.1 i v L hv hL).1, fun k hk => ⟨((ho2.1 i v L hv hL).2 k hk).1, hfr k ((ho.1 i v L hv hL).1.lt k hk).2 ((ho.1 i v L hv hL).2 k hk).2⟩⟩, ho2.2⟩
def goN (num : Str → Int) (s : Str) (k : Nat) : Pol := ((splitF 10 s).take k).foldl (fun p l => takeF num p (splitF 32 l)) zeroP
theorem goN_succ {num : Str → Int} {s l : Str} {k : Nat} (h : (splitF 10 s)[k]? = some l) : goN num s (k + 1) = takeF num (goN num s k) (splitF 32 l) := by
  rw [goN, List.take_add_one, h, List.foldl_append, goN]; rfl
theorem goN_bnd (num : Str → Int) (s : Str) : ∀ k, k ≤ (splitF 10 s).length → bnd k s.length (goN num s k)
  | 0, _ => by
    intro L hL
    simp [goN, zeroP, lists5] at hL
    subst hL
    simp
  | k + 1, hk => by
    obtain ⟨l, hl⟩ : ∃ l, (splitF 10 s)[k]? = some l := ⟨_, List.getElem?_eq_getElem (by omega)⟩
    rw [goN_succ hl]
    have h1 := (splitF_le 10 s).1 l (List.mem_of_getElem? hl)
    exact bnd_step (goN_bnd num s k (by omega)) (fun x hx => Nat.le_trans ((splitF_le 32 l).1 x hx) h1) _
set_option maxHeartbeats 12800000 in
set_option maxRecDepth 100000 in
theorem rread_calls {m : Mem} (w : World) (hw : m.ok w) (s : Str) (hs : s.length ≤ 100000000) :
    Calls Tryd.prog 12 #[.string ⟨s.toArray⟩] w (ReadPost numR m s w) := by
  have hZ0 := (Ch.refl (fun _ => False) w).alloc (.cells (polCells zeroP (.slice none 0 0) (.slice none 0 0) (.slice none 0 0) (.slice none 0 0) (.slice none 0 0)) 25)
  have hok1 := hw.ch hZ0 (fun _ h => h.elim)
  have hP := PolSt.new hok1
  have hr := heap_alloc_new w (.cells (polCells zeroP (.slice none 0 0) (.slice none 0 0) (.slice none 0 0) (.slice none 0 0) (.slice none 0 0)) 25)
  have hC1 := hZ0.alloc (.cells (polCells zeroP (.slice none 0 0) (.slice none 0 0) (.slice none 0 0) (.slice none 0 0) (.slice none 0 0)) 25)
  have hsz1 : (w.alloc (.cells (polCells zeroP (.slice none 0 0) (.slice none 0 0) (.slice none 0 0) (.slice none 0 0) (.slice none 0 0)) 25)).heap.size = w.heap.size + 1 := by simp
  rw [hsz1] at hP
  have hr1 := ((Ch.refl (fun _ => False) (w.alloc (.cells (polCells zeroP (.slice none 0 0) (.slice none 0 0) (.slice none 0 0) (.slice none 0 0) (.slice none 0 0)) 25))).alloc (.cells (polCells zeroP (.slice none 0 0) (.slice none 0 0) (.slice none 0 0) (.slice none 0 0) (.slice none 0 0)) 25)).heap hr (fun h => h)
  unfold polCells zeroP at hP hr1 hC1
  dsimp only at hP hr1 hC1
  clear hZ0 hok1 hr hsz1
  have H0 := Lib.hid hP
  have HR := Lib.hid hr1
  have HC := Lib.hid hC1
  have HFr := Lib.hid (show m.free w.heap.size from hw.new (Nat.le_refl _))
  clear hP hr1 hC1
  go_enter Tryd.func12, Tryd.ntmps12
  go_upto_region 2 with fail
  obtain ⟨W, hW⟩ : ∃ W : World, W = (w.alloc (.cells #[.int .i64 0, .slice none 0 0, .slice none 0 0, .slice none 0 0, .slice none 0 0, .slice none 0 0, .int .i64 0, .int .i64 0, .int .i64 0] 25)).alloc (.cells #[.int .i64 0, .slice none 0 0, .slice none 0 0, .slice none 0 0, .slice none 0 0, .slice none 0 0, .int .i64 0, .int .i64 0, .int .i64 0] 25) := ⟨_, rfl⟩
  have H0' : Hid (PolSt m W (w.heap.size + 1) (w.heap.size + 1) zeroP) := by rw [hW]; exact H0
  have HR' : Hid (W.heap[w.heap.size]? = some (.cells #[.int .i64 0, .slice none 0 0, .slice none 0 0, .slice none 0 0, .slice none 0 0, .slice none 0 0, .int .i64 0, .int .i64 0, .int .i64 0] 25)) := by rw [hW]; exact HR
  have HC' : Hid (Ch (fun _ => False) w W) := by rw [hW]; exact HC
  rw [← hW]
  clear H0 HR HC hW
  have hgW : w.heap.size + 1 < W.heap.size := by
    obtain ⟨v1, v2, v3, v4, v5, hb, _⟩ := H0'.out.row
    exact (Array.getElem?_eq_some_iff.1 hb).1
  generalize hr0 : w.heap.size = r at *
  have Hr0 := Lib.hid hr0
  clear hr0 hw
  have HS : Hid (Calls Tryd.prog 26 #[.string ⟨s.toArray⟩, .int .u8 10] W fun e w' => ∃ v, e = .returned v ∧ w'.ownsRow W.heap.size 9 1 v (splitF 10 s).length (strCells (splitF 10 s)) ∧ Ch (fun _ => False) W w') := cut_calls s 10 (by omega) W
  go_wp2_with fail
  refine HS.out.mono ?_
  rintro e X ⟨v0, rfl, hown0, hc0⟩
  have hokX := H0'.out.ok.ch hc0 (fun _ h => h.elim)
  obtain ⟨m1, hle, hok1, hL0, hfr1⟩ := freeze hokX hown0 (fun k hk => H0'.out.ok.new (hown0.lt k hk).1)
  have H1 := Lib.hid (H0'.out.more hc0 hok1 (fun k hk hf => hfr1 k hf (fun e => by have := (hown0.lt k e).1; omega)))
  have HFr1 := Lib.hid (hfr1 r HFr.out (fun e => by have := (hown0.lt r e).1; omega))
  have HL : Hid (RdStrs m1 v0 (splitF 10 s)) := hL0
  have HR1 := Lib.hid (hc0.heap HR'.out (fun h => h))
  have HC1 := Lib.hid (HC'.out.trans hc0 (fun _ h => .inl h))
  have Hle := Lib.hid hle
  have hn := (splitF_le 10 s).2
  have HG := Lib.hid (show ∀ k, k ≤ (splitF 10 s).length → bnd k s.length (goN numR s k) from goN_bnd numR s)
  have HGf := Lib.hid (show goN numR s (splitF 10 s).length = goF numR zeroP s by rw [goN, List.take_length]; rfl)
  have HGs := Lib.hid (fun k l => goN_succ (num := numR) (s := s) (k := k) (l := l))
  have HGl := Lib.hid (splitF_le 10 s).1
  have HG0 := Lib.hid (show goN numR s 0 = zeroP from rfl)
  clear HR' HC' HS hle H0' hown0 hc0 hokX hok1 hL0 hfr1
  generalize splitF 10 s = ls at *
  obtain ⟨A0, c0, hv0⟩ := rdstrs_form HL.out
  subst hv0
  go_wp2
  go_loopw [6] (fun i wr => ∃ k : Nat, k ≤ ls.length ∧ i = .int .i64 k ∧ Hid (PolSt m1 wr (r + 1) (r + 1) (goN numR s k)) ∧ Hid (Ch (fun k => r + 1 ≤ k) X wr)) (fun i _ => ls.length - (intOf i).toNat)
  case atStart => exact ⟨0, Nat.zero_le _, rfl, by rw [HG0.out]; exact H1, Ch.refl _ X⟩
  case round =>
    rename World => wr
    clear H1
    obtain ⟨k, hk, rfl, H1, H2⟩ := hrel
    by_cases hlt : k < ls.length
    · obtain ⟨l, hl⟩ : ∃ l, ls[k]? = some l := ⟨_, List.getElem?_eq_getElem hlt⟩
      obtain ⟨bL, oL, hA, hc⟩ : ∃ b o, A0 = some ⟨b, o, none⟩ ∧ ∀ k, k < ls.length → wr.cell? ⟨b, o + k, none⟩ = some (.string ⟨(ls[k]?.getD []).toArray⟩) := by
        rcases (strs_cell H1.out.ok HL.out).2.2 with h0 | h0
        · rw [h0] at hlt; simp at hlt
        · exact h0
      subst hA
      have hck := hc k hlt
      rw [hl, Option.getD_some] at hck
      have hki : (k : Int) < (ls.length : Int) := by omega
      have hki0 : (0 : Int) ≤ (k : Int) := by omega
      have hll := HGl.out l (List.mem_of_getElem? hl)
      have HS : Hid (Calls Tryd.prog 26 #[.string ⟨l.toArray⟩, .int .u8 32] wr fun e w' => ∃ v, e = .returned v ∧ w'.ownsRow wr.heap.size 9 1 v (splitF 32 l).length (strCells (splitF 32 l)) ∧ Ch (fun _ => False) wr w') := cut_calls l 32 (by omega) wr
      have hz : szW (splitF 32 l) := ⟨by have := (splitF_le 32 l).2; omega, fun x hx => by have := (splitF_le 32 l).1 x hx; omega⟩
      have hb : ∀ L ∈ lists5 (goN numR s k), L.length ≤ 1000000000 := fun L hL => by have := (HG.out k hk L hL).1; omega
      have HK := Lib.hid (HGs.out k l hl)
      clear hc hl
      go_wp2_with fail
      refine HS.out.mono ?_
      rintro e Y ⟨v2, rfl, hown2, hc2⟩
      have hokY := H1.out.ok.ch hc2 (fun _ h => h.elim)
      obtain ⟨m2, hle2, hok2, hL2, hfr2⟩ := freeze hokY hown2 (fun k hk => H1.out.ok.new (hown2.lt k hk).1)
      have HX := Lib.hid (H1.out.more hc2 hok2 (fun k hk hf => hfr2 k hf (fun e => by have := (hown2.lt k e).1; omega)))
      have HC := Lib.hid (H2.out.trans (hc2.mono (T := fun k => r + 1 ≤ k) (fun _ h => h.elim)) (fun k hk => .inl hk))
      have HL2 : Hid (RdStrs m2 v2 (splitF 32 l)) := hL2
      have HLe := Lib.hid hle2
      clear HS hokY hown2 hc2 hle2 hok2 hL2 hfr2 hck
      generalize splitF 32 l = ws at *
      generalize goN numR s k = p at *
      obtain ⟨A, cp, hv2⟩ := rdstrs_form HL2.out
      subst hv2
      have hl1 : p.elems.length ≤ 1000000000 := hb _ (by simp [lists5])
      have hl2 : p.attrs.length ≤ 1000000000 := hb _ (by simp [lists5])
      have hl3 : p.schemes.length ≤ 1000000000 := hb _ (by simp [lists5])
      have hl4 : p.classes.length ≤ 1000000000 := hb _ (by simp [lists5])
      have hl5 : p.props.length ≤ 1000000000 := hb _ (by simp [lists5])
      have Hz := Lib.hid hz.2
      clear hb hz H2
      by_cases h4 : ws.length = 4
      · obtain ⟨a, b, c, d, rfl⟩ := len4 h4
        obtain ⟨bA, oA, hA, hc⟩ : ∃ b' o, A = some ⟨b', o, none⟩ ∧ ∀ k, k < 4 → Y.cell? ⟨b', o + k, none⟩ = some (.string ⟨([a, b, c, d][k]?.getD []).toArray⟩) := by
          rcases (strs_cell HX.out.ok HL2.out).2.2 with h0 | h0
          · cases h0
          · exact h0
        subst hA
        have w0 := hc 0 (by omega)
        have w1 := hc 1 (by omega)
        have w2 := hc 2 (by omega)
        have w3 := hc 3 (by omega)
        have hlb := Hz.out b (by simp)
        have hlc := Hz.out c (by simp)
        have hld := Hz.out d (by simp)
        rw [Nat.add_zero] at w0
        have hne : ¬ bA = r + 1 := fun e => by
          obtain ⟨_, A', c', h1, _, h3⟩ := HL2.out
          obtain ⟨b', o', h5, h6⟩ := h3 (by simp)
          injection h1 with h1
          rw [h5] at h1
          injection h1 with h1
          injection h1 with h1 h7
          have := h6 0 (.string ⟨a.toArray⟩) rfl
          rw [← h1, e, HX.out.free (o' + 0)] at this
          cases this
        have hne2 : ¬ r + 1 = bA := fun e => hne e.symm
        clear hc h4 HL2
        simp only [List.getElem?_cons_zero, List.getElem?_cons_succ, Option.getD_some, List.length_cons, List.length_nil, Nat.zero_add, Nat.reduceAdd] at w0 w1 w2 w3
        by_cases h0 : a = cCaps
        · have e0 : (a == [99, 97, 112, 115]) = true := by simpa [cCaps] using h0
          have HQ := Lib.hid (show takeF numR p [a, b, c, d] = { p with depth := numR b, nodes := numR c, bytes := numR d } by simp [takeF, h0])
          have HN1 := Lib.hid (fun w => number_calls b (by omega) w)
          have HN2 := Lib.hid (fun w => number_calls c (by omega) w)
          have HN3 := Lib.hid (fun w => number_calls d (by omega) w)
          obtain ⟨hok, hf, hge, hsz, v1, v2, v3, v4, v5, hb, ho⟩ := HX.out
          have y6 : Y.cell? ⟨r + 1, 6, none⟩ = some (.int .i64 p.depth) := by rw [cell_of_row Y _ 6 _ _ _ hb]; rfl
          have f6 : Y.frozen? ⟨r + 1, 6, none⟩ = false := Lib.frozen_of_heap hb 6
          have y7 : Y.cell? ⟨r + 1, 7, none⟩ = some (.int .i64 p.nodes) := by rw [cell_of_row Y _ 7 _ _ _ hb]; rfl
          have f7 : Y.frozen? ⟨r + 1, 7, none⟩ = false := Lib.frozen_of_heap hb 7
          have y8 : Y.cell? ⟨r + 1, 8, none⟩ = some (.int .i64 p.bytes) := by rw [cell_of_row Y _ 8 _ _ _ hb]; rfl
          have f8 : Y.frozen? ⟨r + 1, 8, none⟩ = false := Lib.frozen_of_heap hb 8
          have HF1 := PolSt.store (p' := { p with depth := numR b }) (u := .int .i64 (numR b)) (i := 6) hok hf hge hsz hb ho rfl
          obtain ⟨hok1, hf1, hge1, hsz1, v1, v2, v3, v4, v5, hb1, ho1⟩ := HF1
          have HF2 := PolSt.store (p' := { p with depth := numR b, nodes := numR c }) (u := .int .i64 (numR c)) (i := 7) hok1 hf1 hge1 hsz1 hb1 ho1 rfl
          obtain ⟨hok2, hf2, hge2, hsz2, v1, v2, v3, v4, v5, hb2, ho2⟩ := HF2
          have HF := Lib.hid (PolSt.store (p' := { p with depth := numR b, nodes := numR c, bytes := numR d }) (u := .int .i64 (numR d)) (i := 8) hok2 hf2 hge2 hsz2 hb2 ho2 rfl)
          have HG' := Lib.hid (((HC.out.setCell (p := ⟨r + 1, 6, none⟩) (.inl hge) (.int .i64 (numR b))).setCell (p := ⟨r + 1, 7, none⟩) (.inl hge) (.int .i64 (numR c))).setCell (p := ⟨r + 1, 8, none⟩) (.inl hge) (.int .i64 (numR d)))
          clear hb ho hb1 ho1 hb2 ho2 hok hok1 hok2 h0 HX HC
          go_wp2_with fail
          refine (HN1.out _).mono ?_
          rintro e Y1 ⟨rfl, rfl⟩
          go_wp2_with fail
          refine (HN2.out _).mono ?_
          rintro e Y1 ⟨rfl, rfl⟩
          go_wp2_with fail
          refine (HN3.out _).mono ?_
          rintro e Y1 ⟨rfl, rfl⟩
          go_wp2
          go_roundw
          case rel => exact ⟨k + 1, by omega, by go_num, Lib.hid (by rw [HK.out, HQ.out]; exact HF.out.less HLe.out), HG'⟩
          case measure => simp [intOf]; omega
        · have e0 : (a == [99, 97, 112, 115]) = false := by simpa [cCaps] using h0
          have HQ := Lib.hid (show takeF numR p [a, b, c, d] = p by simp [takeF, h0])
          clear h0
          go_wp2
          go_roundw
          case rel => exact ⟨k + 1, by omega, by go_num, Lib.hid (by rw [HK.out, HQ.out]; exact HX.out.less HLe.out), HC⟩
          case measure => simp [intOf]; omega
      · have e4 : ((ws.length : Int) == 4) = false := by simpa using fun e => h4 (by omega)
        by_cases h2 : ws.length = 2
        · obtain ⟨a, b, rfl⟩ := len2 h2
          obtain ⟨bA, oA, hA, hc⟩ : ∃ b' o, A = some ⟨b', o, none⟩ ∧ ∀ k, k < 2 → Y.cell? ⟨b', o + k, none⟩ = some (.string ⟨([a, b][k]?.getD []).toArray⟩) := by
            rcases (strs_cell HX.out.ok HL2.out).2.2 with h0 | h0
            · cases h0
            · exact h0
          subst hA
          have w0 := hc 0 (by omega)
          have w1 := hc 1 (by omega)
          have hbA := World.block_lt_of_cell? _ _ w0
          have hlb := Hz.out b (by simp)
          rw [Nat.add_zero] at w0
          clear hc h2 h4 HL2
          simp only [List.getElem?_cons_zero, List.getElem?_cons_succ, Option.getD_some, List.length_cons, List.length_nil, Nat.zero_add, Nat.reduceAdd] at w0 w1
          by_cases n0 : a = cEpoch
          · have e0 : (a == [101, 112, 111, 99, 104]) = true := by simpa [cEpoch] using n0
            have HQ := Lib.hid (show takeF numR p [a, b] = { p with epoch := numR b } by simp [takeF, n0])
            clear n0
            have HN1 := Lib.hid (fun w => number_calls b (by omega) w)
            obtain ⟨hok, hf, hge, hsz, v1, v2, v3, v4, v5, hb, ho⟩ := HX.out
            have y0 : Y.cell? ⟨r + 1, 0, none⟩ = some (.int .i64 p.epoch) := by rw [cell_of_row Y _ 0 _ _ _ hb]; rfl
            have f0 : Y.frozen? ⟨r + 1, 0, none⟩ = false := Lib.frozen_of_heap hb 0
            have HF := Lib.hid (PolSt.store (p' := { p with epoch := numR b }) (u := .int .i64 (numR b)) (i := 0) hok hf hge hsz hb ho rfl)
            have HG' := Lib.hid (HC.out.setCell (p := ⟨r + 1, 0, none⟩) (.inl hge) (.int .i64 (numR b)))
            clear hb ho hok HX HC
            go_wp2_with fail
            refine (HN1.out _).mono ?_
            rintro e Y1 ⟨rfl, rfl⟩
            go_wp2
            go_roundw
            case rel => exact ⟨k + 1, by omega, by go_num, Lib.hid (by rw [HK.out, HQ.out]; exact HF.out.less HLe.out), HG'⟩
            case measure => simp [intOf]; omega
          · have e0 : (a == [101, 112, 111, 99, 104]) = false := by simpa [cEpoch] using n0
            by_cases n1 : a = cElem
            · have e1 : (a == [101, 108, 101, 109]) = true := by simpa [cElem] using n1
              have HQ := Lib.hid (show takeF numR p [a, b] = { p with elems := p.elems ++ [b] } by
                rw [takeF, if_neg (by simp), if_neg (by simp)]
                simp [n1, cEpoch, cElem, cAttr, cScheme, cClass, cProp])
              clear n0 n1
              obtain ⟨hok, hf, hge, hsz, v1, v2, v3, v4, v5, hb, ho⟩ := HX.out
              have hown := (ho.1 0 v1 p.elems rfl rfl).1
              have hne := (ho.1 0 v1 p.elems rfl rfl).2
              obtain ⟨Ak, ck, hvk⟩ : ∃ A c, v1 = .slice A p.elems.length c := by
                rcases hown.2 with ⟨h0, h1⟩ | ⟨g', cap, cur, h0, _⟩
                · exact ⟨_, _, by rw [h0, h1]⟩
                · exact ⟨_, _, h0⟩
              have yk : Y.cell? ⟨r + 1, 1, none⟩ = some v1 := by rw [cell_of_row Y _ 1 _ _ _ hb]; rfl
              have fk : Y.frozen? ⟨r + 1, 1, none⟩ = false := Lib.frozen_of_heap hb 1
              subst hvk
              have hgX : r + 1 < Y.heap.size := (Array.getElem?_eq_some_iff.1 hb).1
              have hneg : (Value.slice Ak p.elems.length ck).ownBlock ≠ some (r + 1) := fun e => (hne (r + 1) e).1 rfl
              have HFin := Lib.hid (fun (w1 : World) (g' cap' : Nat) (hown1 : w1.ownsRow (r + 1) 9 1 (.slice (some ⟨g', 0, none⟩) (p.elems.length + 1) cap') (p.elems.length + 1) (strCells p.elems ++ [.string ⟨b.toArray⟩])) (hgrow : (Y.alloc (.cells #[.string ⟨b.toArray⟩] 9)).drew.grownBy w1 (Value.slice Ak p.elems.length ck).ownBlock) (hat : (Value.slice Ak p.elems.length ck).ownBlock = some g' ∨ Y.heap.size ≤ g') =>
                taken_fin (i := 0) (p' := { p with elems := p.elems ++ [b] }) hok hf hge hsz hb ho rfl rfl hown1 hgrow hat (fun u => ⟨_, _, _, _, _, rfl, rfl⟩) rfl)
              obtain ⟨i0, hi, hz0, hz1, hz2⟩ := info_parts stringInfo
              have hl0 : (0 : Int) ≤ (p.elems.length : Int) := by omega
              have hszB : r + 1 ≤ Y.heap.size := hsz
              clear hne ho hb HX
              go_wp2_with fail
              go_region_law (refine step_append_lies _ rfl (.tmp 63) (.tmp 67) 23 rfl (r + 1) 9 i0 _ 1 16 Tryd.underlying23 hi hz0 hz1 hz2 rfl (by decide) (.slice Ak p.elems.length ck) p.elems.length (strCells p.elems) rfl (hown.drew.alloc _) ⟨Y.heap.size, 0, none⟩ 1 1 [.string ⟨b.toArray⟩] rfl rfl (World.news_of_block (heap_alloc_new _ _)) (by simp [Value.oneCell']) (by decide) (by unfold maxLen; omega) (by omega) (by simp; omega) _ rfl ?_; intro g' cap' w1 hown1 hgrow1 hat1 hlt1; have yk1 := hgrow1.cell (a := ⟨r + 1, 1, none⟩) (cellA yk) (fun e => hneg e.symm); have fk1 := frA yk fk hgrow1 (fun e => hneg e.symm))
              all_goals
                have hat2 : (Value.slice Ak p.elems.length ck).ownBlock = some g' ∨ Y.heap.size ≤ g' := by
                  rcases hat1 with h | h
                  · exact .inl h
                  · right; simp at h; omega
                have fin := HFin.out _ _ _ hown1 hgrow1 hat2
                have HF := Lib.hid fin.1
                have HG' := Lib.hid (HC.out.trans fin.2 (fun k hk => .inl hk))
                clear fin hown1 hgrow1 hat1 hat2
                go_wp2
                go_roundw
                case rel => exact ⟨k + 1, by omega, by go_num, Lib.hid (by rw [HK.out, HQ.out]; exact HF.out.less HLe.out), HG'⟩
                case measure => simp [intOf]; omega
            · have e1 : (a == [101, 108, 101, 109]) = false := by simpa [cElem] using n1
              by_cases n2 : a = cAttr
              · have e2 : (a == [97, 116, 116, 114]) = true := by simpa [cAttr] using n2
                have HQ := Lib.hid (show takeF numR p [a, b] = { p with attrs := p.attrs ++ [b] } by
                  rw [takeF, if_neg (by simp), if_neg (by simp)]
                  simp [n2, cEpoch, cElem, cAttr, cScheme, cClass, cProp])
                clear n0 n1 n2
                obtain ⟨hok, hf, hge, hsz, v1, v2, v3, v4, v5, hb, ho⟩ := HX.out
                have hown := (ho.1 1 v2 p.attrs rfl rfl).1
                have hne := (ho.1 1 v2 p.attrs rfl rfl).2
                obtain ⟨Ak, ck, hvk⟩ : ∃ A c, v2 = .slice A p.attrs.length c := by
                  rcases hown.2 with ⟨h0, h1⟩ | ⟨g', cap, cur, h0, _⟩
                  · exact ⟨_, _, by rw [h0, h1]⟩
                  · exact ⟨_, _, h0⟩
                have yk : Y.cell? ⟨r + 1, 2, none⟩ = some v2 := by rw [cell_of_row Y _ 2 _ _ _ hb]; rfl
                have fk : Y.frozen? ⟨r + 1, 2, none⟩ = false := Lib.frozen_of_heap hb 2
                subst hvk
                have hgX : r + 1 < Y.heap.size := (Array.getElem?_eq_some_iff.1 hb).1
                have hneg : (Value.slice Ak p.attrs.length ck).ownBlock ≠ some (r + 1) := fun e => (hne (r + 1) e).1 rfl
                have HFin := Lib.hid (fun (w1 : World) (g' cap' : Nat) (hown1 : w1.ownsRow (r + 1) 9 1 (.slice (some ⟨g', 0, none⟩) (p.attrs.length + 1) cap') (p.attrs.length + 1) (strCells p.attrs ++ [.string ⟨b.toArray⟩])) (hgrow : (Y.alloc (.cells #[.string ⟨b.toArray⟩] 9)).drew.grownBy w1 (Value.slice Ak p.attrs.length ck).ownBlock) (hat : (Value.slice Ak p.attrs.length ck).ownBlock = some g' ∨ Y.heap.size ≤ g') =>
                  taken_fin (i := 1) (p' := { p with attrs := p.attrs ++ [b] }) hok hf hge hsz hb ho rfl rfl hown1 hgrow hat (fun u => ⟨_, _, _, _, _, rfl, rfl⟩) rfl)
                obtain ⟨i0, hi, hz0, hz1, hz2⟩ := info_parts stringInfo
                have hl0 : (0 : Int) ≤ (p.attrs.length : Int) := by omega
                have hszB : r + 1 ≤ Y.heap.size := hsz
                clear hne ho hb HX
                go_wp2_with fail
                go_region_law (refine step_append_lies _ rfl (.tmp 73) (.tmp 77) 23 rfl (r + 1) 9 i0 _ 1 16 Tryd.underlying23 hi hz0 hz1 hz2 rfl (by decide) (.slice Ak p.attrs.length ck) p.attrs.length (strCells p.attrs) rfl (hown.drew.alloc _) ⟨Y.heap.size, 0, none⟩ 1 1 [.string ⟨b.toArray⟩] rfl rfl (World.news_of_block (heap_alloc_new _ _)) (by simp [Value.oneCell']) (by decide) (by unfold maxLen; omega) (by omega) (by simp; omega) _ rfl ?_; intro g' cap' w1 hown1 hgrow1 hat1 hlt1; have yk1 := hgrow1.cell (a := ⟨r + 1, 2, none⟩) (cellA yk) (fun e => hneg e.symm); have fk1 := frA yk fk hgrow1 (fun e => hneg e.symm))
                all_goals
                  have hat2 : (Value.slice Ak p.attrs.length ck).ownBlock = some g' ∨ Y.heap.size ≤ g' := by
                    rcases hat1 with h | h
                    · exact .inl h
                    · right; simp at h; omega
                  have fin := HFin.out _ _ _ hown1 hgrow1 hat2
                  have HF := Lib.hid fin.1
                  have HG' := Lib.hid (HC.out.trans fin.2 (fun k hk => .inl hk))
                  clear fin hown1 hgrow1 hat1 hat2
                  go_wp2
                  go_roundw
                  case rel => exact ⟨k + 1, by omega, by go_num, Lib.hid (by rw [HK.out, HQ.out]; exact HF.out.less HLe.out), HG'⟩
                  case measure => simp [intOf]; omega
              · have e2 : (a == [97, 116, 116, 114]) = false := by simpa [cAttr] using n2
                by_cases n3 : a = cScheme
                · have e3 : (a == [115, 99, 104, 101, 109, 101]) = true := by simpa [cScheme] using n3
                  have HQ := Lib.hid (show takeF numR p [a, b] = { p with schemes := p.schemes ++ [b] } by
                    rw [takeF, if_neg (by simp), if_neg (by simp)]
                    simp [n3, cEpoch, cElem, cAttr, cScheme, cClass, cProp])
                  clear n0 n1 n2 n3
                  obtain ⟨hok, hf, hge, hsz, v1, v2, v3, v4, v5, hb, ho⟩ := HX.out
                  have hown := (ho.1 2 v3 p.schemes rfl rfl).1
                  have hne := (ho.1 2 v3 p.schemes rfl rfl).2
                  obtain ⟨Ak, ck, hvk⟩ : ∃ A c, v3 = .slice A p.schemes.length c := by
                    rcases hown.2 with ⟨h0, h1⟩ | ⟨g', cap, cur, h0, _⟩
                    · exact ⟨_, _, by rw [h0, h1]⟩
                    · exact ⟨_, _, h0⟩
                  have yk : Y.cell? ⟨r + 1, 3, none⟩ = some v3 := by rw [cell_of_row Y _ 3 _ _ _ hb]; rfl
                  have fk : Y.frozen? ⟨r + 1, 3, none⟩ = false := Lib.frozen_of_heap hb 3
                  subst hvk
                  have hgX : r + 1 < Y.heap.size := (Array.getElem?_eq_some_iff.1 hb).1
                  have hneg : (Value.slice Ak p.schemes.length ck).ownBlock ≠ some (r + 1) := fun e => (hne (r + 1) e).1 rfl
                  have HFin := Lib.hid (fun (w1 : World) (g' cap' : Nat) (hown1 : w1.ownsRow (r + 1) 9 1 (.slice (some ⟨g', 0, none⟩) (p.schemes.length + 1) cap') (p.schemes.length + 1) (strCells p.schemes ++ [.string ⟨b.toArray⟩])) (hgrow : (Y.alloc (.cells #[.string ⟨b.toArray⟩] 9)).drew.grownBy w1 (Value.slice Ak p.schemes.length ck).ownBlock) (hat : (Value.slice Ak p.schemes.length ck).ownBlock = some g' ∨ Y.heap.size ≤ g') =>
                    taken_fin (i := 2) (p' := { p with schemes := p.schemes ++ [b] }) hok hf hge hsz hb ho rfl rfl hown1 hgrow hat (fun u => ⟨_, _, _, _, _, rfl, rfl⟩) rfl)
                  obtain ⟨i0, hi, hz0, hz1, hz2⟩ := info_parts stringInfo
                  have hl0 : (0 : Int) ≤ (p.schemes.length : Int) := by omega
                  have hszB : r + 1 ≤ Y.heap.size := hsz
                  clear hne ho hb HX
                  go_wp2_with fail
                  go_region_law (refine step_append_lies _ rfl (.tmp 83) (.tmp 87) 23 rfl (r + 1) 9 i0 _ 1 16 Tryd.underlying23 hi hz0 hz1 hz2 rfl (by decide) (.slice Ak p.schemes.length ck) p.schemes.length (strCells p.schemes) rfl (hown.drew.alloc _) ⟨Y.heap.size, 0, none⟩ 1 1 [.string ⟨b.toArray⟩] rfl rfl (World.news_of_block (heap_alloc_new _ _)) (by simp [Value.oneCell']) (by decide) (by unfold maxLen; omega) (by omega) (by simp; omega) _ rfl ?_; intro g' cap' w1 hown1 hgrow1 hat1 hlt1; have yk1 := hgrow1.cell (a := ⟨r + 1, 3, none⟩) (cellA yk) (fun e => hneg e.symm); have fk1 := frA yk fk hgrow1 (fun e => hneg e.symm))
                  all_goals
                    have hat2 : (Value.slice Ak p.schemes.length ck).ownBlock = some g' ∨ Y.heap.size ≤ g' := by
                      rcases hat1 with h | h
                      · exact .inl h
                      · right; simp at h; omega
                    have fin := HFin.out _ _ _ hown1 hgrow1 hat2
                    have HF := Lib.hid fin.1
                    have HG' := Lib.hid (HC.out.trans fin.2 (fun k hk => .inl hk))
                    clear fin hown1 hgrow1 hat1 hat2
                    go_wp2
                    go_roundw
                    case rel => exact ⟨k + 1, by omega, by go_num, Lib.hid (by rw [HK.out, HQ.out]; exact HF.out.less HLe.out), HG'⟩
                    case measure => simp [intOf]; omega
                · have e3 : (a == [115, 99, 104, 101, 109, 101]) = false := by simpa [cScheme] using n3
                  by_cases n4 : a = cClass
                  · have e4 : (a == [99, 108, 97, 115, 115]) = true := by simpa [cClass] using n4
                    have HQ := Lib.hid (show takeF numR p [a, b] = { p with classes := p.classes ++ [b] } by
                      rw [takeF, if_neg (by simp), if_neg (by simp)]
                      simp [n4, cEpoch, cElem, cAttr, cScheme, cClass, cProp])
                    clear n0 n1 n2 n3 n4
                    obtain ⟨hok, hf, hge, hsz, v1, v2, v3, v4, v5, hb, ho⟩ := HX.out
                    have hown := (ho.1 3 v4 p.classes rfl rfl).1
                    have hne := (ho.1 3 v4 p.classes rfl rfl).2
                    obtain ⟨Ak, ck, hvk⟩ : ∃ A c, v4 = .slice A p.classes.length c := by
                      rcases hown.2 with ⟨h0, h1⟩ | ⟨g', cap, cur, h0, _⟩
                      · exact ⟨_, _, by rw [h0, h1]⟩
                      · exact ⟨_, _, h0⟩
                    have yk : Y.cell? ⟨r + 1, 4, none⟩ = some v4 := by rw [cell_of_row Y _ 4 _ _ _ hb]; rfl
                    have fk : Y.frozen? ⟨r + 1, 4, none⟩ = false := Lib.frozen_of_heap hb 4
                    subst hvk
                    have hgX : r + 1 < Y.heap.size := (Array.getElem?_eq_some_iff.1 hb).1
                    have hneg : (Value.slice Ak p.classes.length ck).ownBlock ≠ some (r + 1) := fun e => (hne (r + 1) e).1 rfl
                    have HFin := Lib.hid (fun (w1 : World) (g' cap' : Nat) (hown1 : w1.ownsRow (r + 1) 9 1 (.slice (some ⟨g', 0, none⟩) (p.classes.length + 1) cap') (p.classes.length + 1) (strCells p.classes ++ [.string ⟨b.toArray⟩])) (hgrow : (Y.alloc (.cells #[.string ⟨b.toArray⟩] 9)).drew.grownBy w1 (Value.slice Ak p.classes.length ck).ownBlock) (hat : (Value.slice Ak p.classes.length ck).ownBlock = some g' ∨ Y.heap.size ≤ g') =>
                      taken_fin (i := 3) (p' := { p with classes := p.classes ++ [b] }) hok hf hge hsz hb ho rfl rfl hown1 hgrow hat (fun u => ⟨_, _, _, _, _, rfl, rfl⟩) rfl)
                    obtain ⟨i0, hi, hz0, hz1, hz2⟩ := info_parts stringInfo
                    have hl0 : (0 : Int) ≤ (p.classes.length : Int) := by omega
                    have hszB : r + 1 ≤ Y.heap.size := hsz
                    clear hne ho hb HX
                    go_wp2_with fail
                    go_region_law (refine step_append_lies _ rfl (.tmp 93) (.tmp 97) 23 rfl (r + 1) 9 i0 _ 1 16 Tryd.underlying23 hi hz0 hz1 hz2 rfl (by decide) (.slice Ak p.classes.length ck) p.classes.length (strCells p.classes) rfl (hown.drew.alloc _) ⟨Y.heap.size, 0, none⟩ 1 1 [.string ⟨b.toArray⟩] rfl rfl (World.news_of_block (heap_alloc_new _ _)) (by simp [Value.oneCell']) (by decide) (by unfold maxLen; omega) (by omega) (by simp; omega) _ rfl ?_; intro g' cap' w1 hown1 hgrow1 hat1 hlt1; have yk1 := hgrow1.cell (a := ⟨r + 1, 4, none⟩) (cellA yk) (fun e => hneg e.symm); have fk1 := frA yk fk hgrow1 (fun e => hneg e.symm))
                    all_goals
                      have hat2 : (Value.slice Ak p.classes.length ck).ownBlock = some g' ∨ Y.heap.size ≤ g' := by
                        rcases hat1 with h | h
                        · exact .inl h
                        · right; simp at h; omega
                      have fin := HFin.out _ _ _ hown1 hgrow1 hat2
                      have HF := Lib.hid fin.1
                      have HG' := Lib.hid (HC.out.trans fin.2 (fun k hk => .inl hk))
                      clear fin hown1 hgrow1 hat1 hat2
                      go_wp2
                      go_roundw
                      case rel => exact ⟨k + 1, by omega, by go_num, Lib.hid (by rw [HK.out, HQ.out]; exact HF.out.less HLe.out), HG'⟩
                      case measure => simp [intOf]; omega
                  · have e4 : (a == [99, 108, 97, 115, 115]) = false := by simpa [cClass] using n4
                    by_cases n5 : a = cProp
                    · have e5 : (a == [112, 114, 111, 112]) = true := by simpa [cProp] using n5
                      have HQ := Lib.hid (show takeF numR p [a, b] = { p with props := p.props ++ [b] } by
                        rw [takeF, if_neg (by simp), if_neg (by simp)]
                        simp [n5, cEpoch, cElem, cAttr, cScheme, cClass, cProp])
                      clear n0 n1 n2 n3 n4 n5
                      obtain ⟨hok, hf, hge, hsz, v1, v2, v3, v4, v5, hb, ho⟩ := HX.out
                      have hown := (ho.1 4 v5 p.props rfl rfl).1
                      have hne := (ho.1 4 v5 p.props rfl rfl).2
                      obtain ⟨Ak, ck, hvk⟩ : ∃ A c, v5 = .slice A p.props.length c := by
                        rcases hown.2 with ⟨h0, h1⟩ | ⟨g', cap, cur, h0, _⟩
                        · exact ⟨_, _, by rw [h0, h1]⟩
                        · exact ⟨_, _, h0⟩
                      have yk : Y.cell? ⟨r + 1, 5, none⟩ = some v5 := by rw [cell_of_row Y _ 5 _ _ _ hb]; rfl
                      have fk : Y.frozen? ⟨r + 1, 5, none⟩ = false := Lib.frozen_of_heap hb 5
                      subst hvk
                      have hgX : r + 1 < Y.heap.size := (Array.getElem?_eq_some_iff.1 hb).1
                      have hneg : (Value.slice Ak p.props.length ck).ownBlock ≠ some (r + 1) := fun e => (hne (r + 1) e).1 rfl
                      have HFin := Lib.hid (fun (w1 : World) (g' cap' : Nat) (hown1 : w1.ownsRow (r + 1) 9 1 (.slice (some ⟨g', 0, none⟩) (p.props.length + 1) cap') (p.props.length + 1) (strCells p.props ++ [.string ⟨b.toArray⟩])) (hgrow : (Y.alloc (.cells #[.string ⟨b.toArray⟩] 9)).drew.grownBy w1 (Value.slice Ak p.props.length ck).ownBlock) (hat : (Value.slice Ak p.props.length ck).ownBlock = some g' ∨ Y.heap.size ≤ g') =>
                        taken_fin (i := 4) (p' := { p with props := p.props ++ [b] }) hok hf hge hsz hb ho rfl rfl hown1 hgrow hat (fun u => ⟨_, _, _, _, _, rfl, rfl⟩) rfl)
                      obtain ⟨i0, hi, hz0, hz1, hz2⟩ := info_parts stringInfo
                      have hl0 : (0 : Int) ≤ (p.props.length : Int) := by omega
                      have hszB : r + 1 ≤ Y.heap.size := hsz
                      clear hne ho hb HX
                      go_wp2_with fail
                      go_region_law (refine step_append_lies _ rfl (.tmp 103) (.tmp 107) 23 rfl (r + 1) 9 i0 _ 1 16 Tryd.underlying23 hi hz0 hz1 hz2 rfl (by decide) (.slice Ak p.props.length ck) p.props.length (strCells p.props) rfl (hown.drew.alloc _) ⟨Y.heap.size, 0, none⟩ 1 1 [.string ⟨b.toArray⟩] rfl rfl (World.news_of_block (heap_alloc_new _ _)) (by simp [Value.oneCell']) (by decide) (by unfold maxLen; omega) (by omega) (by simp; omega) _ rfl ?_; intro g' cap' w1 hown1 hgrow1 hat1 hlt1; have yk1 := hgrow1.cell (a := ⟨r + 1, 5, none⟩) (cellA yk) (fun e => hneg e.symm); have fk1 := frA yk fk hgrow1 (fun e => hneg e.symm))
                      all_goals
                        have hat2 : (Value.slice Ak p.props.length ck).ownBlock = some g' ∨ Y.heap.size ≤ g' := by
                          rcases hat1 with h | h
                          · exact .inl h
                          · right; simp at h; omega
                        have fin := HFin.out _ _ _ hown1 hgrow1 hat2
                        have HF := Lib.hid fin.1
                        have HG' := Lib.hid (HC.out.trans fin.2 (fun k hk => .inl hk))
                        clear fin hown1 hgrow1 hat1 hat2
                        go_wp2
                        go_roundw
                        case rel => exact ⟨k + 1, by omega, by go_num, Lib.hid (by rw [HK.out, HQ.out]; exact HF.out.less HLe.out), HG'⟩
                        case measure => simp [intOf]; omega
                    · have e5 : (a == [112, 114, 111, 112]) = false := by simpa [cProp] using n5
                      have HQ := Lib.hid (show takeF numR p [a, b] = p by simp [takeF, n0, n1, n2, n3, n4, n5])
                      clear n0 n1 n2 n3 n4 n5
                      go_wp2
                      go_roundw
                      case rel => exact ⟨k + 1, by omega, by go_num, Lib.hid (by rw [HK.out, HQ.out]; exact HX.out.less HLe.out), HC⟩
                      case measure => simp [intOf]; omega
        · have e2 : ((ws.length : Int) != 2) = true := by simpa using fun e => h2 (by omega)
          have HQ := Lib.hid (show takeF numR p ws = p by simp [takeF, h2, h4])
          clear h4 h2 HL2
          go_wp2
          go_roundw
          case rel => exact ⟨k + 1, by omega, by go_num, Lib.hid (by rw [HK.out, HQ.out]; exact HX.out.less HLe.out), HC⟩
          case measure => simp [intOf]; omega
    · have hkn : k = ls.length := by omega
      subst hkn
      have hki : ¬ (ls.length : Int) < (ls.length : Int) := by omega
      have hbd := HG.out ls.length (Nat.le_refl _)
      rw [HGf.out] at H1 hbd
      obtain ⟨hok, hf, hge, hsz, v1, v2, v3, v4, v5, hb, ho⟩ := H1.out
      obtain ⟨m', hl1, hok', hrd, hfr⟩ := freeze1 hok ho rfl
      have HFr2 := Lib.hid (hfr r HFr1.out (fun i v hv hk => by
        have hi := (List.getElem?_eq_some_iff.1 hv).1
        obtain ⟨L, hL⟩ : ∃ L, (lists5 (goF numR zeroP s))[i]? = some L := ⟨_, List.getElem?_eq_getElem (show i < (lists5 (goF numR zeroP s)).length from hi)⟩
        have := ((ho.1 i v L hv hL).1.lt r hk).1
        omega))
      have r1 := hrd 0 v1 (goF numR zeroP s).elems rfl rfl
      have r2 := hrd 1 v2 (goF numR zeroP s).attrs rfl rfl
      have r3 := hrd 2 v3 (goF numR zeroP s).schemes rfl rfl
      have r4 := hrd 3 v4 (goF numR zeroP s).classes rfl rfl
      have r5 := hrd 4 v5 (goF numR zeroP s).props rfl rfl
      have hpz : (goF numR zeroP s).sz := by
        have one : ∀ L ∈ lists5 (goF numR zeroP s), szS L := fun L hL => ⟨by have := (hbd L hL).1; omega, fun x hx => by have := (hbd L hL).2 x hx; omega⟩
        exact ⟨one _ (by simp [lists5]), one _ (by simp [lists5]), one _ (by simp [lists5]), one _ (by simp [lists5]), one _ (by simp [lists5])⟩
      have HT := Lib.hid (rtext_calls wr hok' hpz ⟨r1, r2, r3, r4, r5⟩)
      have HRd := Lib.hid (show RdPol m' (goF numR zeroP s) v1 v2 v3 v4 v5 from ⟨r1, r2, r3, r4, r5⟩)
      have Hle' := Lib.hid (Mem.le_trans Hle.out hl1)
      have Hok' := Lib.hid hok'
      have y0 : wr.cell? ⟨r + 1, 0, none⟩ = some (.int .i64 (goF numR zeroP s).epoch) := by rw [cell_of_row wr _ 0 _ _ _ hb]; rfl
      have y1 : wr.cell? ⟨r + 1, 1, none⟩ = some v1 := by rw [cell_of_row wr _ 1 _ _ _ hb]; rfl
      have y2 : wr.cell? ⟨r + 1, 2, none⟩ = some v2 := by rw [cell_of_row wr _ 2 _ _ _ hb]; rfl
      have y3 : wr.cell? ⟨r + 1, 3, none⟩ = some v3 := by rw [cell_of_row wr _ 3 _ _ _ hb]; rfl
      have y4 : wr.cell? ⟨r + 1, 4, none⟩ = some v4 := by rw [cell_of_row wr _ 4 _ _ _ hb]; rfl
      have y5 : wr.cell? ⟨r + 1, 5, none⟩ = some v5 := by rw [cell_of_row wr _ 5 _ _ _ hb]; rfl
      have y6 : wr.cell? ⟨r + 1, 6, none⟩ = some (.int .i64 (goF numR zeroP s).depth) := by rw [cell_of_row wr _ 6 _ _ _ hb]; rfl
      have y7 : wr.cell? ⟨r + 1, 7, none⟩ = some (.int .i64 (goF numR zeroP s).nodes) := by rw [cell_of_row wr _ 7 _ _ _ hb]; rfl
      have y8 : wr.cell? ⟨r + 1, 8, none⟩ = some (.int .i64 (goF numR zeroP s).bytes) := by rw [cell_of_row wr _ 8 _ _ _ hb]; rfl
      have Hb := Lib.hid hb
      clear hfr hrd r1 r2 r3 r4 r5 hpz hok hok' hl1 hbd ho hb
      have HRF := Lib.hid (show readF numR s = if rightF (goF numR zeroP s) = true ∧ textF (goF numR zeroP s) = s then some (goF numR zeroP s) else none from rfl)
      generalize goF numR zeroP s = q at *
      unfold polCells at HT
      have HR4 := Lib.hid (H2.out.heap HR1.out (fun h => by omega))
      have HC4 := Lib.hid (HC1.out.trans (H2.out.mono' (T := fun k => r + 1 ≤ k) (fun _ h => .inl h)) (fun k hk => .inr (by have := Hr0.out; omega)))
      go_wp2_with fail
      cases hR : rightF q with
      | false =>
        have hT := HT.out
        rw [textR, textE, if_neg (by simp [hR]), if_neg (by simp [hR])] at hT
        refine hT.mono ?_
        rintro e w4 ⟨rfl, c4⟩
        clear hT
        have hr4 := c4.heap HR4.out (fun h => h)
        have HC5 := Lib.hid (HC4.out.trans c4 (fun _ h => .inl h))
        have Hok4 := Lib.hid (Hok'.out.ch c4 (fun _ h => h.elim))
        have Hfin := Lib.hid (show readF numR s = none by rw [HRF.out, if_neg (fun h => by rw [hR] at h; cases h.1)])
        have q0 : w4.cell? ⟨r, 0, none⟩ = some (.int .i64 0) := by rw [cell_of_row w4 _ 0 _ _ _ hr4]; rfl
        have f0 : w4.frozen? ⟨r, 0, none⟩ = false := Lib.frozen_of_heap hr4 0
        have q1 : w4.cell? ⟨r, 1, none⟩ = some (.slice none 0 0) := by rw [cell_of_row w4 _ 1 _ _ _ hr4]; rfl
        have f1 : w4.frozen? ⟨r, 1, none⟩ = false := Lib.frozen_of_heap hr4 1
        have q2 : w4.cell? ⟨r, 2, none⟩ = some (.slice none 0 0) := by rw [cell_of_row w4 _ 2 _ _ _ hr4]; rfl
        have f2 : w4.frozen? ⟨r, 2, none⟩ = false := Lib.frozen_of_heap hr4 2
        have q3 : w4.cell? ⟨r, 3, none⟩ = some (.slice none 0 0) := by rw [cell_of_row w4 _ 3 _ _ _ hr4]; rfl
        have f3 : w4.frozen? ⟨r, 3, none⟩ = false := Lib.frozen_of_heap hr4 3
        have q4 : w4.cell? ⟨r, 4, none⟩ = some (.slice none 0 0) := by rw [cell_of_row w4 _ 4 _ _ _ hr4]; rfl
        have f4 : w4.frozen? ⟨r, 4, none⟩ = false := Lib.frozen_of_heap hr4 4
        have q5 : w4.cell? ⟨r, 5, none⟩ = some (.slice none 0 0) := by rw [cell_of_row w4 _ 5 _ _ _ hr4]; rfl
        have f5 : w4.frozen? ⟨r, 5, none⟩ = false := Lib.frozen_of_heap hr4 5
        have q6 : w4.cell? ⟨r, 6, none⟩ = some (.int .i64 0) := by rw [cell_of_row w4 _ 6 _ _ _ hr4]; rfl
        have f6 : w4.frozen? ⟨r, 6, none⟩ = false := Lib.frozen_of_heap hr4 6
        have q7 : w4.cell? ⟨r, 7, none⟩ = some (.int .i64 0) := by rw [cell_of_row w4 _ 7 _ _ _ hr4]; rfl
        have f7 : w4.frozen? ⟨r, 7, none⟩ = false := Lib.frozen_of_heap hr4 7
        have q8 : w4.cell? ⟨r, 8, none⟩ = some (.int .i64 0) := by rw [cell_of_row w4 _ 8 _ _ _ hr4]; rfl
        have f8 : w4.frozen? ⟨r, 8, none⟩ = false := Lib.frozen_of_heap hr4 8
        have Hr4 := Lib.hid hr4
        clear y0 y1 y2 y3 y4 y5 y6 y7 y8 c4 hr4 hR HRF
        go_wp2
        have h9 := nine (b0 := .int .i64 0) (b1 := .slice none 0 0) (b2 := .slice none 0 0) (b3 := .slice none 0 0) (b4 := .slice none 0 0) (b5 := .slice none 0 0) (b6 := .int .i64 0) (b7 := .int .i64 0) (b8 := .int .i64 0) Hr4.out
        clear q0 q1 q2 q3 q4 q5 q6 q7 q8 f0 f1 f2 f3 f4 f5 f6 f7 f8
        generalize hF : World.setCell _ _ _ = F at *
        clear hF
        obtain ⟨hF1, hF2⟩ := h9
        have HF2 := Lib.hid hF2
        clear hF2
        have y0 : F.cell? ⟨r, 0, none⟩ = some (.int .i64 0) := by rw [cell_of_row F _ 0 _ _ _ hF1]; rfl
        have y1 : F.cell? ⟨r, 1, none⟩ = some (.slice none 0 0) := by rw [cell_of_row F _ 1 _ _ _ hF1]; rfl
        have y2 : F.cell? ⟨r, 2, none⟩ = some (.slice none 0 0) := by rw [cell_of_row F _ 2 _ _ _ hF1]; rfl
        have y3 : F.cell? ⟨r, 3, none⟩ = some (.slice none 0 0) := by rw [cell_of_row F _ 3 _ _ _ hF1]; rfl
        have y4 : F.cell? ⟨r, 4, none⟩ = some (.slice none 0 0) := by rw [cell_of_row F _ 4 _ _ _ hF1]; rfl
        have y5 : F.cell? ⟨r, 5, none⟩ = some (.slice none 0 0) := by rw [cell_of_row F _ 5 _ _ _ hF1]; rfl
        have y6 : F.cell? ⟨r, 6, none⟩ = some (.int .i64 0) := by rw [cell_of_row F _ 6 _ _ _ hF1]; rfl
        have y7 : F.cell? ⟨r, 7, none⟩ = some (.int .i64 0) := by rw [cell_of_row F _ 7 _ _ _ hF1]; rfl
        have y8 : F.cell? ⟨r, 8, none⟩ = some (.int .i64 0) := by rw [cell_of_row F _ 8 _ _ _ hF1]; rfl
        clear hF1
        refine bodyPost_ret (v := .tuple #[.agg (polCells zeroP (.slice none 0 0) (.slice none 0 0) (.slice none 0 0) (.slice none 0 0) (.slice none 0 0)), .int .i64 2]) (by simp [results, Tryd.results12, go_sem, polCells, zeroP, y0, y1, y2, y3, y4, y5, y6, y7, y8]) rfl ?_
        refine ⟨_, _, _, _, _, m', by rw [Hfin.out]; rfl, Hle'.out, Hok4.out.ch HF2.out (fun k hk => by subst hk; exact HFr2.out), by rw [Hfin.out]; exact ⟨SlV.nil _ _, SlV.nil _ _, SlV.nil _ _, SlV.nil _ _, SlV.nil _ _⟩, ?_⟩
        exact HC5.out.trans HF2.out (fun k hk => .inr (by have := Hr0.out; omega))
      | true =>
        have hT := HT.out
        rw [textR, textE, if_pos hR, if_pos hR] at hT
        refine hT.mono ?_
        rintro e w4 ⟨rfl, c4⟩
        clear hT
        have hr4 := c4.heap HR4.out (fun h => h)
        have hb4 := c4.heap Hb.out (fun h => h)
        have HC5 := Lib.hid (HC4.out.trans c4 (fun _ h => .inl h))
        have Hok4 := Lib.hid (Hok'.out.ch c4 (fun _ h => h.elim))
        have z0 := c4.cell y0 (fun h => h)
        have z1 := c4.cell y1 (fun h => h)
        have z2 := c4.cell y2 (fun h => h)
        have z3 := c4.cell y3 (fun h => h)
        have z4 := c4.cell y4 (fun h => h)
        have z5 := c4.cell y5 (fun h => h)
        have z6 := c4.cell y6 (fun h => h)
        have z7 := c4.cell y7 (fun h => h)
        have z8 := c4.cell y8 (fun h => h)
        have q0 : w4.cell? ⟨r, 0, none⟩ = some (.int .i64 0) := by rw [cell_of_row w4 _ 0 _ _ _ hr4]; rfl
        have f0 : w4.frozen? ⟨r, 0, none⟩ = false := Lib.frozen_of_heap hr4 0
        have q1 : w4.cell? ⟨r, 1, none⟩ = some (.slice none 0 0) := by rw [cell_of_row w4 _ 1 _ _ _ hr4]; rfl
        have f1 : w4.frozen? ⟨r, 1, none⟩ = false := Lib.frozen_of_heap hr4 1
        have q2 : w4.cell? ⟨r, 2, none⟩ = some (.slice none 0 0) := by rw [cell_of_row w4 _ 2 _ _ _ hr4]; rfl
        have f2 : w4.frozen? ⟨r, 2, none⟩ = false := Lib.frozen_of_heap hr4 2
        have q3 : w4.cell? ⟨r, 3, none⟩ = some (.slice none 0 0) := by rw [cell_of_row w4 _ 3 _ _ _ hr4]; rfl
        have f3 : w4.frozen? ⟨r, 3, none⟩ = false := Lib.frozen_of_heap hr4 3
        have q4 : w4.cell? ⟨r, 4, none⟩ = some (.slice none 0 0) := by rw [cell_of_row w4 _ 4 _ _ _ hr4]; rfl
        have f4 : w4.frozen? ⟨r, 4, none⟩ = false := Lib.frozen_of_heap hr4 4
        have q5 : w4.cell? ⟨r, 5, none⟩ = some (.slice none 0 0) := by rw [cell_of_row w4 _ 5 _ _ _ hr4]; rfl
        have f5 : w4.frozen? ⟨r, 5, none⟩ = false := Lib.frozen_of_heap hr4 5
        have q6 : w4.cell? ⟨r, 6, none⟩ = some (.int .i64 0) := by rw [cell_of_row w4 _ 6 _ _ _ hr4]; rfl
        have f6 : w4.frozen? ⟨r, 6, none⟩ = false := Lib.frozen_of_heap hr4 6
        have q7 : w4.cell? ⟨r, 7, none⟩ = some (.int .i64 0) := by rw [cell_of_row w4 _ 7 _ _ _ hr4]; rfl
        have f7 : w4.frozen? ⟨r, 7, none⟩ = false := Lib.frozen_of_heap hr4 7
        have q8 : w4.cell? ⟨r, 8, none⟩ = some (.int .i64 0) := by rw [cell_of_row w4 _ 8 _ _ _ hr4]; rfl
        have f8 : w4.frozen? ⟨r, 8, none⟩ = false := Lib.frozen_of_heap hr4 8
        have Hr4 := Lib.hid hr4
        clear y0 y1 y2 y3 y4 y5 y6 y7 y8 c4 hb4 hr4
        by_cases ht : textF q = s
        · have e1 : (textF q == s) = true := by simp [ht]
          have e2 : (textF q != s) = false := by simp [ht]
          have Hfin := Lib.hid (show readF numR s = some q by rw [HRF.out, if_pos ⟨hR, ht⟩])
          clear ht hR HRF
          generalize textF q = t at *
          obtain ⟨A1, c1, e1⟩ := rdstrs_form HRd.out.r1
          obtain ⟨A2, c2, e2⟩ := rdstrs_form HRd.out.r2
          obtain ⟨A3, c3, e3⟩ := rdstrs_form HRd.out.r3
          obtain ⟨A4, c4, e4⟩ := rdstrs_form HRd.out.r4
          obtain ⟨A5, c5, e5⟩ := rdstrs_form HRd.out.r5
          subst e1 e2 e3 e4 e5
          go_wp2
          have h9 := nine (b0 := .int .i64 q.epoch) (b1 := .slice A1 q.elems.length c1) (b2 := .slice A2 q.attrs.length c2) (b3 := .slice A3 q.schemes.length c3) (b4 := .slice A4 q.classes.length c4) (b5 := .slice A5 q.props.length c5) (b6 := .int .i64 q.depth) (b7 := .int .i64 q.nodes) (b8 := .int .i64 q.bytes) Hr4.out
          clear q0 q1 q2 q3 q4 q5 q6 q7 q8 f0 f1 f2 f3 f4 f5 f6 f7 f8 z0 z1 z2 z3 z4 z5 z6 z7 z8
          generalize hF : World.setCell _ _ _ = F at *
          clear hF
          obtain ⟨hF1, hF2⟩ := h9
          have HF2 := Lib.hid hF2
          have HF1 := Lib.hid hF1
          clear hF2
          have y0 : F.cell? ⟨r, 0, none⟩ = some (.int .i64 q.epoch) := by rw [cell_of_row F _ 0 _ _ _ hF1]; rfl
          have y1 : F.cell? ⟨r, 1, none⟩ = some (.slice A1 q.elems.length c1) := by rw [cell_of_row F _ 1 _ _ _ hF1]; rfl
          have y2 : F.cell? ⟨r, 2, none⟩ = some (.slice A2 q.attrs.length c2) := by rw [cell_of_row F _ 2 _ _ _ hF1]; rfl
          have y3 : F.cell? ⟨r, 3, none⟩ = some (.slice A3 q.schemes.length c3) := by rw [cell_of_row F _ 3 _ _ _ hF1]; rfl
          have y4 : F.cell? ⟨r, 4, none⟩ = some (.slice A4 q.classes.length c4) := by rw [cell_of_row F _ 4 _ _ _ hF1]; rfl
          have y5 : F.cell? ⟨r, 5, none⟩ = some (.slice A5 q.props.length c5) := by rw [cell_of_row F _ 5 _ _ _ hF1]; rfl
          have y6 : F.cell? ⟨r, 6, none⟩ = some (.int .i64 q.depth) := by rw [cell_of_row F _ 6 _ _ _ hF1]; rfl
          have y7 : F.cell? ⟨r, 7, none⟩ = some (.int .i64 q.nodes) := by rw [cell_of_row F _ 7 _ _ _ hF1]; rfl
          have y8 : F.cell? ⟨r, 8, none⟩ = some (.int .i64 q.bytes) := by rw [cell_of_row F _ 8 _ _ _ hF1]; rfl
          clear hF1
          refine bodyPost_ret (v := .tuple #[.agg (polCells q (.slice A1 q.elems.length c1) (.slice A2 q.attrs.length c2) (.slice A3 q.schemes.length c3) (.slice A4 q.classes.length c4) (.slice A5 q.props.length c5)), .int .i64 0]) (by simp [results, Tryd.results12, go_sem, polCells, y0, y1, y2, y3, y4, y5, y6, y7, y8]) rfl ?_
          refine ⟨_, _, _, _, _, m', by rw [Hfin.out]; rfl, Hle'.out, Hok4.out.ch HF2.out (fun k hk => by subst hk; exact HFr2.out), by rw [Hfin.out]; exact HRd.out, ?_⟩
          exact HC5.out.trans HF2.out (fun k hk => .inr (by have := Hr0.out; omega))
        · have e1 : (textF q == s) = false := by simpa using ht
          have e2 : (textF q != s) = true := by simpa using ht
          have Hfin := Lib.hid (show readF numR s = none by rw [HRF.out, if_neg (fun h => ht h.2)])
          clear ht hR HRF z0 z1 z2 z3 z4 z5 z6 z7 z8
          generalize textF q = t at *
          go_wp2
          have h9 := nine (b0 := .int .i64 0) (b1 := .slice none 0 0) (b2 := .slice none 0 0) (b3 := .slice none 0 0) (b4 := .slice none 0 0) (b5 := .slice none 0 0) (b6 := .int .i64 0) (b7 := .int .i64 0) (b8 := .int .i64 0) Hr4.out
          clear q0 q1 q2 q3 q4 q5 q6 q7 q8 f0 f1 f2 f3 f4 f5 f6 f7 f8
          generalize hF : World.setCell _ _ _ = F at *
          clear hF
          obtain ⟨hF1, hF2⟩ := h9
          have HF2 := Lib.hid hF2
          clear hF2
          have y0 : F.cell? ⟨r, 0, none⟩ = some (.int .i64 0) := by rw [cell_of_row F _ 0 _ _ _ hF1]; rfl
          have y1 : F.cell? ⟨r, 1, none⟩ = some (.slice none 0 0) := by rw [cell_of_row F _ 1 _ _ _ hF1]; rfl
          have y2 : F.cell? ⟨r, 2, none⟩ = some (.slice none 0 0) := by rw [cell_of_row F _ 2 _ _ _ hF1]; rfl
          have y3 : F.cell? ⟨r, 3, none⟩ = some (.slice none 0 0) := by rw [cell_of_row F _ 3 _ _ _ hF1]; rfl
          have y4 : F.cell? ⟨r, 4, none⟩ = some (.slice none 0 0) := by rw [cell_of_row F _ 4 _ _ _ hF1]; rfl
          have y5 : F.cell? ⟨r, 5, none⟩ = some (.slice none 0 0) := by rw [cell_of_row F _ 5 _ _ _ hF1]; rfl
          have y6 : F.cell? ⟨r, 6, none⟩ = some (.int .i64 0) := by rw [cell_of_row F _ 6 _ _ _ hF1]; rfl
          have y7 : F.cell? ⟨r, 7, none⟩ = some (.int .i64 0) := by rw [cell_of_row F _ 7 _ _ _ hF1]; rfl
          have y8 : F.cell? ⟨r, 8, none⟩ = some (.int .i64 0) := by rw [cell_of_row F _ 8 _ _ _ hF1]; rfl
          clear hF1
          refine bodyPost_ret (v := .tuple #[.agg (polCells zeroP (.slice none 0 0) (.slice none 0 0) (.slice none 0 0) (.slice none 0 0) (.slice none 0 0)), .int .i64 2]) (by simp [results, Tryd.results12, go_sem, polCells, zeroP, y0, y1, y2, y3, y4, y5, y6, y7, y8]) rfl ?_
          refine ⟨_, _, _, _, _, m', by rw [Hfin.out]; rfl, Hle'.out, Hok4.out.ch HF2.out (fun k hk => by subst hk; exact HFr2.out), by rw [Hfin.out]; exact ⟨SlV.nil _ _, SlV.nil _ _, SlV.nil _ _, SlV.nil _ _, SlV.nil _ _⟩, ?_⟩
          exact HC5.out.trans HF2.out (fun k hk => .inr (by have := Hr0.out; omega))
end Go.Proofs.YtlfimcpceiemnaaDoor

/- versoref08.Text. -/
import Derived.Test.YtlfimcpceiemnaaDoorPRef1
set_option linter.unusedVariables false
namespace Go.Proofs.YtlfimcpceiemnaaDoor
open Go Go.RowKit

/-- A world that holds the memory, and how it came of w0. -/
def AtR (m : Mem) (w0 w : World) : Prop := m.ok w ∧ Ch (fun _ => False) w0 w
theorem AtR.drewN {m : Mem} {w0 w : World} (h : AtR m w0 w) (n : Nat) : AtR m w0 (w.drewN n) := ⟨h.1.drewN n, h.2.drewN n⟩
theorem AtR.drew {m : Mem} {w0 w : World} (h : AtR m w0 w) : AtR m w0 w.drew := ⟨h.1.drew, h.2.drew⟩
theorem dec_at {m : Mem} {w0 w : World} (h : AtR m w0 w) (n : Int) (h0 : 0 ≤ n) (h1 : n ≤ 1000000000000) :
    Calls Tryd.prog 55 #[.int .i64 n] w fun e w' => e = .returned (.string ⟨(decS n).toArray⟩) ∧ AtR m w0 w' := by
  refine (decimal_calls n h0 h1 w).mono ?_
  rintro e w' ⟨rfl, hc⟩
  exact ⟨rfl, h.1.ch hc (fun _ h => h.elim), h.2.trans hc (fun _ h => .inl h)⟩
theorem lines_at {m : Mem} {w0 w : World} (h : AtR m w0 w) (hd : Str) {v : Value} {xs : List Str} (hr : RdStrs m v xs) (hl : (linesF hd xs).length ≤ 1000000) (hx : xs.length ≤ 1000000) :
    Calls Tryd.prog 56 #[.string ⟨hd.toArray⟩, v] w fun e w' => e = .returned (.string ⟨(linesF hd xs).toArray⟩) ∧ AtR m w0 w' := by
  refine (lines_calls w h.1 hd hr hl hx).mono ?_
  rintro e w' ⟨rfl, n, rfl⟩
  exact ⟨rfl, h.drewN n⟩
/-- A number's digits, as a call of decimal tells them. -/
structure DecOk (n : Int) (D : Str) : Prop where
  ok : D = decS n ∧ 0 ≤ n ∧ n ≤ 1000000000000
theorem dec_ok {m : Mem} {w0 w : World} (h : AtR m w0 w) {n : Int} {D : Str} (hd : DecOk n D) :
    Calls Tryd.prog 55 #[.int .i64 n] w fun e w' => e = .returned (.string ⟨D.toArray⟩) ∧ AtR m w0 w' := by
  obtain ⟨rfl, h0, h1⟩ := hd
  exact dec_at h n h0 h1
/-- A list's lines, as a call of lines tells them. -/
structure LineOk (m : Mem) (v : Value) (hd L : Str) : Prop where
  ok : ∃ xs, RdStrs m v xs ∧ L = linesF hd xs ∧ L.length ≤ 1000000 ∧ xs.length ≤ 1000000
theorem lines_ok {m : Mem} {w0 w : World} (h : AtR m w0 w) {hd L : Str} {v : Value} (hl : LineOk m v hd L) :
    Calls Tryd.prog 56 #[.string ⟨hd.toArray⟩, v] w fun e w' => e = .returned (.string ⟨L.toArray⟩) ∧ AtR m w0 w' := by
  obtain ⟨xs, h1, h2, h3, h4⟩ := hl
  subst h2
  exact lines_at h hd h1 h3 h4
set_option maxHeartbeats 3200000 in
set_option maxRecDepth 100000 in
theorem rtext_calls {m : Mem} (w : World) (hw : m.ok w) {p : Pol} (hz : p.sz) {v1 v2 v3 v4 v5 : Value} (h : RdPol m p v1 v2 v3 v4 v5) :
    Calls Tryd.prog 28 #[.agg (polCells p v1 v2 v3 v4 v5)] w fun e w' => e = .returned (.tuple #[.string ⟨(textR p).toArray⟩, .int .i64 (textE p)]) ∧ Ch (fun _ => False) w w' := by
  have hch := (Ch.refl (fun _ => False) w).alloc (.cells (polCells p v1 v2 v3 v4 v5) 25)
  have hok := hw.ch hch (fun _ h => h.elim)
  have hbx := heap_alloc_new w (.cells (polCells p v1 v2 v3 v4 v5) 25)
  have HR := Lib.hid (rright_calls _ hok hz h)
  unfold polCells at *
  go_enter Tryd.func28, Tryd.ntmps28
  go_wp2_with fail
  refine HR.out.mono ?_
  rintro e w1 ⟨rfl, hc1⟩
  have Hc1 := Lib.hid (hch.trans hc1 (fun _ h => .inl h))
  have hok1 := hok.ch hc1 (fun _ h => h.elim)
  have hb1 := hc1.heap hbx (fun h => h)
  have HB1 := Lib.hid hb1
  generalize hwn : w.heap.size = g at *
  clear hb1 hc1 hbx hok HR hch hw hz
  cases hr : rightF p with
  | false =>
    have HT := Lib.hid (show textR p = [] ∧ textE p = 2 by rw [textR, textE, hr]; exact ⟨rfl, rfl⟩)
    clear hr hwn
    go_wp2
    go_ret2
    exact ⟨Ret1 (by rw [HT.out.1, HT.out.2]; rfl), Hc1.out⟩
  | true =>
    have HT := Lib.hid (show textR p = textF p ∧ textE p = 0 by rw [textR, textE, hr]; exact ⟨rfl, rfl⟩)
    have hlen := textF_len hr
    have hr2 := hr
    simp only [rightF, listsF, wordsF, Bool.and_eq_true] at hr2
    obtain ⟨⟨⟨⟨⟨hnum, ⟨⟨⟨⟨⟨_, q1⟩, q2⟩, ⟨_, q3⟩⟩, ⟨_, q4⟩⟩, ⟨_, q5⟩⟩⟩, _⟩, _⟩, _⟩, _⟩ := hr2
    rw [numsF_iff] at hnum
    have l1 := risesF_len q1
    have l2 := risesF_len q2
    have l3 := risesF_len q3
    have l4 := risesF_len q4
    have l5 := risesF_len q5
    clear q1 q2 q3 q4 q5 hr
    have hle : m.le (memAll w1) := hok1.cells
    have HRd := Lib.hid (show RdPol (memAll w1) p v1 v2 v3 v4 v5 from ⟨h.r1.le hle, h.r2.le hle, h.r3.le hle, h.r4.le hle, h.r5.le hle⟩)
    have M0 : memAll w1 g 0 = some (.int .i64 p.epoch) := by rw [memAll, cell_of_row w1 _ 0 _ _ _ HB1.out]; rfl
    have M1 : memAll w1 g 1 = some v1 := by rw [memAll, cell_of_row w1 _ 1 _ _ _ HB1.out]; rfl
    have M2 : memAll w1 g 2 = some v2 := by rw [memAll, cell_of_row w1 _ 2 _ _ _ HB1.out]; rfl
    have M3 : memAll w1 g 3 = some v3 := by rw [memAll, cell_of_row w1 _ 3 _ _ _ HB1.out]; rfl
    have M4 : memAll w1 g 4 = some v4 := by rw [memAll, cell_of_row w1 _ 4 _ _ _ HB1.out]; rfl
    have M5 : memAll w1 g 5 = some v5 := by rw [memAll, cell_of_row w1 _ 5 _ _ _ HB1.out]; rfl
    have M6 : memAll w1 g 6 = some (.int .i64 p.depth) := by rw [memAll, cell_of_row w1 _ 6 _ _ _ HB1.out]; rfl
    have M7 : memAll w1 g 7 = some (.int .i64 p.nodes) := by rw [memAll, cell_of_row w1 _ 7 _ _ _ HB1.out]; rfl
    have M8 : memAll w1 g 8 = some (.int .i64 p.bytes) := by rw [memAll, cell_of_row w1 _ 8 _ _ _ HB1.out]; rfl
    have hA : AtR (memAll w1) w1 w1 := ⟨memAll_ok hok1, Ch.refl _ _⟩
    generalize memAll w1 = m1 at *
    have HM := Lib.hid (show m1 g 0 = some (.int .i64 p.epoch) ∧ m1 g 1 = some v1 ∧ m1 g 2 = some v2 ∧ m1 g 3 = some v3 ∧ m1 g 4 = some v4 ∧ m1 g 5 = some v5 ∧ m1 g 6 = some (.int .i64 p.depth) ∧ m1 g 7 = some (.int .i64 p.nodes) ∧ m1 g 8 = some (.int .i64 p.bytes) from ⟨M0, M1, M2, M3, M4, M5, M6, M7, M8⟩)
    have hTX : textF p = lineF cEpoch (decS p.epoch) ++ (linesF cElem p.elems ++ (linesF cAttr p.attrs ++ (linesF cScheme p.schemes ++ (linesF cClass p.classes ++ (linesF cProp p.props ++
      lineF cCaps (decS p.depth ++ 32 :: (decS p.nodes ++ 32 :: decS p.bytes))))))) := rfl
    rw [hTX] at hlen
    simp only [List.length_append, lineF_len, List.length_cons] at hlen
    obtain ⟨E, hE⟩ : ∃ E, E = decS p.epoch := ⟨_, rfl⟩
    obtain ⟨D1, hD1⟩ : ∃ E, E = decS p.depth := ⟨_, rfl⟩
    obtain ⟨D2, hD2⟩ : ∃ E, E = decS p.nodes := ⟨_, rfl⟩
    obtain ⟨D3, hD3⟩ : ∃ E, E = decS p.bytes := ⟨_, rfl⟩
    obtain ⟨L1, hL1⟩ : ∃ E, E = linesF cElem p.elems := ⟨_, rfl⟩
    obtain ⟨L2, hL2⟩ : ∃ E, E = linesF cAttr p.attrs := ⟨_, rfl⟩
    obtain ⟨L3, hL3⟩ : ∃ E, E = linesF cScheme p.schemes := ⟨_, rfl⟩
    obtain ⟨L4, hL4⟩ : ∃ E, E = linesF cClass p.classes := ⟨_, rfl⟩
    obtain ⟨L5, hL5⟩ : ∃ E, E = linesF cProp p.props := ⟨_, rfl⟩
    rw [← hE, ← hD1, ← hD2, ← hD3, ← hL1, ← hL2, ← hL3, ← hL4, ← hL5] at hlen hTX
    have CE : DecOk p.epoch E := ⟨hE, by omega, by omega⟩
    have CD1 : DecOk p.depth D1 := ⟨hD1, by omega, by omega⟩
    have CD2 : DecOk p.nodes D2 := ⟨hD2, by omega, by omega⟩
    have CD3 : DecOk p.bytes D3 := ⟨hD3, by omega, by omega⟩
    have CL1 : LineOk m1 v1 cElem L1 := ⟨p.elems, HRd.out.r1, hL1, by omega, by omega⟩
    have CL2 : LineOk m1 v2 cAttr L2 := ⟨p.attrs, HRd.out.r2, hL2, by omega, by omega⟩
    have CL3 : LineOk m1 v3 cScheme L3 := ⟨p.schemes, HRd.out.r3, hL3, by omega, by omega⟩
    have CL4 : LineOk m1 v4 cClass L4 := ⟨p.classes, HRd.out.r4, hL4, by omega, by omega⟩
    have CL5 : LineOk m1 v5 cProp L5 := ⟨p.props, HRd.out.r5, hL5, by omega, by omega⟩
    simp only [cElem, cAttr, cScheme, cClass, cProp] at CL1 CL2 CL3 CL4 CL5
    clear hE hD1 hD2 hD3 hL1 hL2 hL3 hL4 hL5 l1 l2 l3 l4 l5 hnum
    obtain ⟨t1, ht1⟩ : ∃ t, t = [101, 112, 111, 99, 104, 32] ++ E := ⟨_, rfl⟩
    have c1 : (⟨#[101, 112, 111, 99, 104, 32]⟩ : ByteArray) ++ ⟨E.toArray⟩ = ⟨t1.toArray⟩ := by rw [ht1]; exact cat_str _ _
    obtain ⟨t2, ht2⟩ : ∃ t, t = t1 ++ [10] := ⟨_, rfl⟩
    have c2 : (⟨t1.toArray⟩ : ByteArray) ++ ⟨#[10]⟩ = ⟨t2.toArray⟩ := by rw [ht2]; exact cat_str _ _
    obtain ⟨t3, ht3⟩ : ∃ t, t = t2 ++ L1 := ⟨_, rfl⟩
    have c3 : (⟨t2.toArray⟩ : ByteArray) ++ ⟨L1.toArray⟩ = ⟨t3.toArray⟩ := by rw [ht3]; exact cat_str _ _
    obtain ⟨t4, ht4⟩ : ∃ t, t = t3 ++ L2 := ⟨_, rfl⟩
    have c4 : (⟨t3.toArray⟩ : ByteArray) ++ ⟨L2.toArray⟩ = ⟨t4.toArray⟩ := by rw [ht4]; exact cat_str _ _
    obtain ⟨t5, ht5⟩ : ∃ t, t = t4 ++ L3 := ⟨_, rfl⟩
    have c5 : (⟨t4.toArray⟩ : ByteArray) ++ ⟨L3.toArray⟩ = ⟨t5.toArray⟩ := by rw [ht5]; exact cat_str _ _
    obtain ⟨t6, ht6⟩ : ∃ t, t = t5 ++ L4 := ⟨_, rfl⟩
    have c6 : (⟨t5.toArray⟩ : ByteArray) ++ ⟨L4.toArray⟩ = ⟨t6.toArray⟩ := by rw [ht6]; exact cat_str _ _
    obtain ⟨t7, ht7⟩ : ∃ t, t = t6 ++ L5 := ⟨_, rfl⟩
    have c7 : (⟨t6.toArray⟩ : ByteArray) ++ ⟨L5.toArray⟩ = ⟨t7.toArray⟩ := by rw [ht7]; exact cat_str _ _
    obtain ⟨s1, hs1⟩ : ∃ t, t = t7 ++ [99, 97, 112, 115, 32] := ⟨_, rfl⟩
    have d1 : (⟨t7.toArray⟩ : ByteArray) ++ ⟨#[99, 97, 112, 115, 32]⟩ = ⟨s1.toArray⟩ := by rw [hs1]; exact cat_str _ _
    obtain ⟨s2, hs2⟩ : ∃ t, t = s1 ++ D1 := ⟨_, rfl⟩
    have d2 : (⟨s1.toArray⟩ : ByteArray) ++ ⟨D1.toArray⟩ = ⟨s2.toArray⟩ := by rw [hs2]; exact cat_str _ _
    obtain ⟨s3, hs3⟩ : ∃ t, t = s2 ++ [32] := ⟨_, rfl⟩
    have d3 : (⟨s2.toArray⟩ : ByteArray) ++ ⟨#[32]⟩ = ⟨s3.toArray⟩ := by rw [hs3]; exact cat_str _ _
    obtain ⟨s4, hs4⟩ : ∃ t, t = s3 ++ D2 := ⟨_, rfl⟩
    have d4 : (⟨s3.toArray⟩ : ByteArray) ++ ⟨D2.toArray⟩ = ⟨s4.toArray⟩ := by rw [hs4]; exact cat_str _ _
    obtain ⟨s5, hs5⟩ : ∃ t, t = s4 ++ [32] := ⟨_, rfl⟩
    have d5 : (⟨s4.toArray⟩ : ByteArray) ++ ⟨#[32]⟩ = ⟨s5.toArray⟩ := by rw [hs5]; exact cat_str _ _
    obtain ⟨s6, hs6⟩ : ∃ t, t = s5 ++ D3 := ⟨_, rfl⟩
    have d6 : (⟨s5.toArray⟩ : ByteArray) ++ ⟨D3.toArray⟩ = ⟨s6.toArray⟩ := by rw [hs6]; exact cat_str _ _
    obtain ⟨s7, hs7⟩ : ∃ t, t = s6 ++ [10] := ⟨_, rfl⟩
    have d7 : (⟨s6.toArray⟩ : ByteArray) ++ ⟨#[10]⟩ = ⟨s7.toArray⟩ := by rw [hs7]; exact cat_str _ _
    have b1 : t1.length = 6 + E.length := by rw [ht1]; simp; omega
    have b2 : t2.length = t1.length + 1 := by rw [ht2]; simp
    have b3 : t3.length = t2.length + L1.length := by rw [ht3]; simp
    have b4 : t4.length = t3.length + L2.length := by rw [ht4]; simp
    have b5 : t5.length = t4.length + L3.length := by rw [ht5]; simp
    have b6 : t6.length = t5.length + L4.length := by rw [ht6]; simp
    have b7 : t7.length = t6.length + L5.length := by rw [ht7]; simp
    have g1 : s1.length = t7.length + 5 := by rw [hs1]; simp
    have g2 : s2.length = s1.length + D1.length := by rw [hs2]; simp
    have g3 : s3.length = s2.length + 1 := by rw [hs3]; simp
    have g4 : s4.length = s3.length + D2.length := by rw [hs4]; simp
    have g5 : s5.length = s4.length + 1 := by rw [hs5]; simp
    have g6 : s6.length = s5.length + D3.length := by rw [hs6]; simp
    have hcE : cEpoch.length = 5 := rfl
    have hcC : cCaps.length = 4 := rfl
    have zE : E.length ≤ 30000 := by omega
    have zL1 : L1.length ≤ 30000 := by omega
    have zL2 : L2.length ≤ 30000 := by omega
    have zL3 : L3.length ≤ 30000 := by omega
    have zL4 : L4.length ≤ 30000 := by omega
    have zL5 : L5.length ≤ 30000 := by omega
    have zD1 : D1.length ≤ 30000 := by omega
    have zD2 : D2.length ≤ 30000 := by omega
    have zD3 : D3.length ≤ 30000 := by omega
    have zt1 : t1.length ≤ 30000 := by omega
    have zt2 : t2.length ≤ 30000 := by omega
    have zt3 : t3.length ≤ 30000 := by omega
    have zt4 : t4.length ≤ 30000 := by omega
    have zt5 : t5.length ≤ 30000 := by omega
    have zt6 : t6.length ≤ 30000 := by omega
    have zt7 : t7.length ≤ 30000 := by omega
    have zs1 : s1.length ≤ 30000 := by omega
    have zs2 : s2.length ≤ 30000 := by omega
    have zs3 : s3.length ≤ 30000 := by omega
    have zs4 : s4.length ≤ 30000 := by omega
    have zs5 : s5.length ≤ 30000 := by omega
    have zs6 : s6.length ≤ 30000 := by omega
    have N1 : ¬ 9223372036854775807 < 6 + E.length := by omega
    have N2 : ¬ 9223372036854775807 < t1.length + 1 := by omega
    have N3 : ¬ 9223372036854775807 < t2.length + L1.length := by omega
    have N4 : ¬ 9223372036854775807 < t3.length + L2.length := by omega
    have N5 : ¬ 9223372036854775807 < t4.length + L3.length := by omega
    have N6 : ¬ 9223372036854775807 < t5.length + L4.length := by omega
    have N7 : ¬ 9223372036854775807 < t6.length + L5.length := by omega
    have O1 : ¬ 9223372036854775807 < t7.length + 5 := by omega
    have O2 : ¬ 9223372036854775807 < s1.length + D1.length := by omega
    have O3 : ¬ 9223372036854775807 < s2.length + 1 := by omega
    have O4 : ¬ 9223372036854775807 < s3.length + D2.length := by omega
    have O5 : ¬ 9223372036854775807 < s4.length + 1 := by omega
    have O6 : ¬ 9223372036854775807 < s5.length + D3.length := by omega
    have O7 : ¬ 9223372036854775807 < s6.length + 1 := by omega
    clear b1 b2 b3 b4 b5 b6 b7 g1 g2 g3 g4 g5 g6 hcE hcC
    have HFin := Lib.hid (show textF p = s7 by
      rw [hTX, hs7, hs6, hs5, hs4, hs3, hs2, hs1, ht7, ht6, ht5, ht4, ht3, ht2, ht1]; simp [lineF, cEpoch, cCaps])
    have x0 := hA.1 _ _ _ HM.out.1
    have x1 := hA.1 _ _ _ HM.out.2.1
    have x2 := hA.1 _ _ _ HM.out.2.2.1
    have x3 := hA.1 _ _ _ HM.out.2.2.2.1
    have x4 := hA.1 _ _ _ HM.out.2.2.2.2.1
    have x5 := hA.1 _ _ _ HM.out.2.2.2.2.2.1
    have HR0 := Lib.hid (fun (w' : World) (h : AtR m1 w1 w') => show w'.cell? ⟨g, 0, none⟩ = some (.int .i64 p.epoch) ∧ w'.cell? ⟨g, 1, none⟩ = some v1 ∧ w'.cell? ⟨g, 2, none⟩ = some v2 ∧ w'.cell? ⟨g, 3, none⟩ = some v3 ∧ w'.cell? ⟨g, 4, none⟩ = some v4 ∧ w'.cell? ⟨g, 5, none⟩ = some v5 from
      ⟨h.1 _ _ _ HM.out.1, h.1 _ _ _ HM.out.2.1, h.1 _ _ _ HM.out.2.2.1, h.1 _ _ _ HM.out.2.2.2.1, h.1 _ _ _ HM.out.2.2.2.2.1, h.1 _ _ _ HM.out.2.2.2.2.2.1⟩)
    have HR1 := Lib.hid (fun (w' : World) (h : AtR m1 w1 w') => show w'.cell? ⟨g, 6, none⟩ = some (.int .i64 p.depth) ∧ w'.cell? ⟨g, 7, none⟩ = some (.int .i64 p.nodes) ∧ w'.cell? ⟨g, 8, none⟩ = some (.int .i64 p.bytes) from
      ⟨h.1 _ _ _ HM.out.2.2.2.2.2.2.1, h.1 _ _ _ HM.out.2.2.2.2.2.2.2.1, h.1 _ _ _ HM.out.2.2.2.2.2.2.2.2⟩)
    clear ht1 ht2 ht3 ht4 ht5 ht6 ht7 hs1 hs2 hs3 hs4 hs5 hs6 hs7 hTX M0 M1 M2 M3 M4 M5 M6 M7 M8 hlen HB1 h hok1 hle
    have HDD := Lib.hid (show _ ∧ _ ∧ _ ∧ _ ∧ _ ∧ _ ∧ _ ∧ _ ∧ _ ∧ _ ∧ _ ∧ _ ∧ _ ∧ _ from ⟨d1, d2, d3, d4, d5, d6, d7, O1, O2, O3, O4, O5, O6, O7⟩)
    clear d1 d2 d3 d4 d5 d6 d7 O1 O2 O3 O4 O5 O6 O7 zE zL1 zL2 zL3 zL4 zL5 zD1 zD2 zD3 zt1 zt2 zt3 zt4 zt5 zt6 zt7 zs1 zs2 zs3 zs4 zs5 zs6 hwn
    go_wp2
    have hA0 : AtR m1 w1 w1.drew := ⟨hA.1.drew, hA.2.drew⟩
    clear hA
    go_region_held3 (fun w' => w'.cell? ⟨g, 0, none⟩ = some (.int .i64 p.epoch) ∧ w'.cell? ⟨g, 1, none⟩ = some v1 ∧ w'.cell? ⟨g, 2, none⟩ = some v2 ∧ w'.cell? ⟨g, 3, none⟩ = some v3 ∧ w'.cell? ⟨g, 4, none⟩ = some v4 ∧ w'.cell? ⟨g, 5, none⟩ = some v5) (first | exact HR0.out _ ‹AtR _ _ _› | go_keep)
      (first | (go_at_call 55; refine (dec_ok ‹AtR _ _ _› ‹DecOk _ _›).mono ?_; rintro e w5 ⟨rfl, hA6⟩) | (go_at_call 56; refine (lines_ok ‹AtR _ _ _› ‹LineOk _ _ _ _›).mono ?_; rintro e w5 ⟨rfl, hA6⟩))
    rename AtR _ _ _ => hA7
    obtain ⟨d1, d2, d3, d4, d5, d6, d7, O1, O2, O3, O4, O5, O6, O7⟩ := HDD.out
    obtain ⟨x6, x7, x8⟩ := HR1.out _ hA7
    clear c1 c2 c3 c4 c5 c6 c7 N1 N2 N3 N4 N5 N6 N7 CL1 CL2 CL3 CL4 CL5 CE
    try clear x0 x1 x2 x3 x4 x5
    go_wp2
    have hA8 := AtR.drew hA7
    clear hA7
    go_region_held3 (fun w' => w'.cell? ⟨g, 6, none⟩ = some (.int .i64 p.depth) ∧ w'.cell? ⟨g, 7, none⟩ = some (.int .i64 p.nodes) ∧ w'.cell? ⟨g, 8, none⟩ = some (.int .i64 p.bytes)) (first | exact HR1.out _ ‹AtR _ _ _› | go_keep)
      (first | (go_at_call 55; refine (dec_ok ‹AtR _ _ _› ‹DecOk _ _›).mono ?_; rintro e w5 ⟨rfl, hA6⟩))
    rename AtR _ _ _ => hA9
    have HA9 := Lib.hid (Hc1.out.trans hA9.2 (fun _ h => .inl h))
    clear hA9
    go_wp2
    go_ret2
    exact ⟨Ret1 (by rw [HT.out.1, HT.out.2, HFin.out]; rfl), HA9.out⟩
end Go.Proofs.YtlfimcpceiemnaaDoor

/- versolaw08.PolicyBack: true whatever comes in. -/
import Derived.Test.YtlfimcpceiemnaaDoorPolW16
set_option linter.unusedVariables false
namespace Go.Proofs.YtlfimcpceiemnaaDoor
open Go Go.RowKit

theorem light_sz {p : Pol} (h : light p) : p.sz := by
  have one : ∀ L ∈ lists5 p, szS L := fun L hL => ⟨by have := (h L hL).1; omega, fun x hx => by have := (h L hL).2 x hx; omega⟩
  exact ⟨one _ (by simp [lists5]), one _ (by simp [lists5]), one _ (by simp [lists5]), one _ (by simp [lists5]), one _ (by simp [lists5])⟩
theorem right_light {p : Pol} (h : rightF p = true) : light p := by
  intro L hL
  simp only [lists5, List.mem_cons, List.not_mem_nil, or_false] at hL
  have key : ∀ (i : Nat) nm L, (secF p)[i]? = some (nm, L) → L.length ≤ 100 ∧ ∀ x ∈ L, x.length ≤ 10000 := fun i nm L hi => ⟨by have := (sec_right h hi).1; omega, fun x hx => by have := (sec_right h hi).2 x hx; omega⟩
  rcases hL with rfl | rfl | rfl | rfl | rfl
  · exact key 0 _ _ rfl
  · exact key 1 _ _ rfl
  · exact key 2 _ _ rfl
  · exact key 3 _ _ rfl
  · exact key 4 _ _ rfl
theorem RdPol.le {m m' : Mem} {p : Pol} {v1 v2 v3 v4 v5 : Value} (h : RdPol m p v1 v2 v3 v4 v5) (hl : m.le m') : RdPol m' p v1 v2 v3 v4 v5 := ⟨h.r1.le hl, h.r2.le hl, h.r3.le hl, h.r4.le hl, h.r5.le hl⟩
theorem read_back {p : Pol} (h : rightF p = true) : readF atoiF (textF p) = some p := readF_text numOk_atoi h
set_option maxHeartbeats 3200000 in
set_option maxRecDepth 100000 in
theorem polBack_calls {m : Mem} (hE : EnvM m) (w : World) (hw : m.ok w) {p : Pol} {v1 v2 v3 v4 v5 : Value} (h : RdPol m p v1 v2 v3 v4 v5) (s : Str) (hsl : s.length ≤ 140737488351232) :
    Calls Tryd.prog 4 #[.agg (polCells p v1 v2 v3 v4 v5), .string ⟨s.toArray⟩] w fun e w' => e = .returned (.bool true) ∧ Ch (fun _ => False) w w' := by
  have hX := (Ch.refl (fun _ => False) w).alloc (.cells (polCells p v1 v2 v3 v4 v5) 25)
  have okX := hw.ch hX (fun _ h => h.elim)
  have hb := heap_alloc_new w (.cells (polCells p v1 v2 v3 v4 v5) 25)
  have HA := Lib.hid (awake_calls hE _ okX)
  have HX := Lib.hid hX
  unfold polCells at *
  clear hX hw
  go_enter Tryd.func4, Tryd.ntmps4
  go_wp2_with fail
  generalize hXX : w.alloc _ = X at *
  clear hXX
  generalize hg : w.heap.size = g at *
  clear hg
  have y0 : X.cell? ⟨g, 0, none⟩ = some (.int .i64 p.epoch) := by rw [cell_of_row X _ 0 _ _ _ hb]; rfl
  have y1 : X.cell? ⟨g, 1, none⟩ = some (v1) := by rw [cell_of_row X _ 1 _ _ _ hb]; rfl
  have y2 : X.cell? ⟨g, 2, none⟩ = some (v2) := by rw [cell_of_row X _ 2 _ _ _ hb]; rfl
  have y3 : X.cell? ⟨g, 3, none⟩ = some (v3) := by rw [cell_of_row X _ 3 _ _ _ hb]; rfl
  have y4 : X.cell? ⟨g, 4, none⟩ = some (v4) := by rw [cell_of_row X _ 4 _ _ _ hb]; rfl
  have y5 : X.cell? ⟨g, 5, none⟩ = some (v5) := by rw [cell_of_row X _ 5 _ _ _ hb]; rfl
  have y6 : X.cell? ⟨g, 6, none⟩ = some (.int .i64 p.depth) := by rw [cell_of_row X _ 6 _ _ _ hb]; rfl
  have y7 : X.cell? ⟨g, 7, none⟩ = some (.int .i64 p.nodes) := by rw [cell_of_row X _ 7 _ _ _ hb]; rfl
  have y8 : X.cell? ⟨g, 8, none⟩ = some (.int .i64 p.bytes) := by rw [cell_of_row X _ 8 _ _ _ hb]; rfl
  have Hb := Lib.hid (fun (wx : World) (hx : Ch (fun _ => False) X wx) => show (wx.cell? ⟨g, 0, none⟩ = some (.int .i64 p.epoch) ∧ wx.cell? ⟨g, 1, none⟩ = some (v1) ∧ wx.cell? ⟨g, 2, none⟩ = some (v2) ∧ wx.cell? ⟨g, 3, none⟩ = some (v3) ∧ wx.cell? ⟨g, 4, none⟩ = some (v4) ∧ wx.cell? ⟨g, 5, none⟩ = some (v5) ∧ wx.cell? ⟨g, 6, none⟩ = some (.int .i64 p.depth) ∧ wx.cell? ⟨g, 7, none⟩ = some (.int .i64 p.nodes) ∧ wx.cell? ⟨g, 8, none⟩ = some (.int .i64 p.bytes)) from ⟨hx.cell y0 (fun h => h), hx.cell y1 (fun h => h), hx.cell y2 (fun h => h), hx.cell y3 (fun h => h), hx.cell y4 (fun h => h), hx.cell y5 (fun h => h), hx.cell y6 (fun h => h), hx.cell y7 (fun h => h), hx.cell y8 (fun h => h)⟩)
  clear hb y0 y1 y2 y3 y4 y5 y6 y7 y8
  refine HA.out.mono ?_
  rintro e X1 ⟨rfl, c1⟩
  clear HA
  have HL := Lib.hid (light_calls X1 (okX.ch c1 (fun _ h => h.elim)) h)
  obtain ⟨y0, y1, y2, y3, y4, y5, y6, y7, y8⟩ := Hb.out X1 c1
  have HC1 := Lib.hid c1
  clear c1
  unfold polCells at HL
  go_wp2_with fail
  refine HL.out.mono ?_
  rintro e X2 ⟨b, rfl, hlt, c2⟩
  have HC2 := Lib.hid (HC1.out.trans c2 (fun _ h => .inl h))
  have HW2 := Lib.hid (HX.out.trans HC2.out (fun _ h => .inl h))
  clear y0 y1 y2 y3 y4 y5 y6 y7 y8 c2 HL HC1
  cases b with
  | false =>
    go_wp2_with fail
    go_ret
    exact ⟨rfl, HW2.out⟩
  | true =>
    have hsz := light_sz (hlt rfl)
    have HLt := Lib.hid (hlt rfl)
    clear hlt
    by_cases h5 : s.length ≤ 5000
    · have h5' : ¬ (5000 : Int) < (s.length : Int) := by omega
      have ok2 := okX.ch HC2.out (fun _ h => h.elim)
      have HT := Lib.hid (ptext_calls hE X2 ok2 hsz h)
      obtain ⟨y0, y1, y2, y3, y4, y5, y6, y7, y8⟩ := Hb.out X2 HC2.out
      unfold polCells at HT
      go_wp2_with fail
      cases hR : rightF p with
      | true =>
        have hT := HT.out
        rw [textR, textE, if_pos hR, if_pos hR] at hT
        refine hT.mono ?_
        rintro e X3 ⟨rfl, c3⟩
        have HC3 := Lib.hid (HC2.out.trans c3 (fun _ h => .inl h))
        have ok3 := ok2.ch c3 (fun _ h => h.elim)
        have HP := Lib.hid (pread_calls hE X3 ok3 (textF p) (Nat.le_trans (textF_len hR) (by omega)))
        clear hT c3 ok2 y0 y1 y2 y3 y4 y5 y6 y7 y8 HC2 HT
        go_wp2_with fail
        refine HP.out.mono ?_
        rintro e X4 ⟨u1, u2, u3, u4, u5, m1, rfl, hle1, okm1, hrd1, c4⟩
        rw [read_back hR] at hrd1 ⊢
        rw [Option.getD_some] at hrd1
        rw [Option.getD_some, Option.isSome_some, if_pos rfl]
        have HC4 := Lib.hid (HC3.out.trans c4 (fun _ h => .inl h))
        obtain ⟨dA1, dc1, de1⟩ := rdstrs_form hrd1.r1
        obtain ⟨dA2, dc2, de2⟩ := rdstrs_form hrd1.r2
        obtain ⟨dA3, dc3, de3⟩ := rdstrs_form hrd1.r3
        obtain ⟨dA4, dc4, de4⟩ := rdstrs_form hrd1.r4
        obtain ⟨dA5, dc5, de5⟩ := rdstrs_form hrd1.r5
        subst de1 de2 de3 de4 de5
        have c4A := (Ch.refl (fun _ => False) X4).alloc (.cells #[.int .i64 p.epoch, .slice dA1 p.elems.length dc1, .slice dA2 p.attrs.length dc2, .slice dA3 p.schemes.length dc3, .slice dA4 p.classes.length dc4, .slice dA5 p.props.length dc5, .int .i64 p.depth, .int .i64 p.nodes, .int .i64 p.bytes] 25)
        have HC5 := Lib.hid (HC4.out.trans c4A (fun _ h => .inl h))
        have HS := Lib.hid (same_calls _ (okm1.ch c4A (fun _ h => h.elim)) (h.le hle1) hrd1 (fun L hL => by have := (HLt.out L hL).1; omega))
        rw [samePol_self] at HS
        obtain ⟨y0, y1, y2, y3, y4, y5, y6, y7, y8⟩ := Hb.out _ HC5.out
        unfold polCells at HS ⊢
        clear hrd1 hle1 okm1 c4 c4A ok3
        go_wp2_with fail
        refine HS.out.mono ?_
        rintro e X6 ⟨rfl, c6⟩
        have HC := Lib.hid (HC5.out.trans c6 (fun _ h => .inl h))
        have ok := okX.ch HC.out (fun _ h => h.elim)
        clear y0 y1 y2 y3 y4 y5 y6 y7 y8 c6 HS HC5 HC4 HP HC3
        have HRd2 := Lib.hid (pread_calls hE X6 ok s (by omega))
        go_wp2_with fail
        refine HRd2.out.mono ?_
        rintro e Z1 ⟨u1, u2, u3, u4, u5, m2, rfl, hle2, okm2, hrd2, cz1⟩
        have HCZ := Lib.hid (HC.out.trans cz1 (fun _ h => .inl h))
        clear HRd2 HC ok
        cases hs2 : readF atoiF s with
        | none =>
          rw [hs2, Option.getD_none] at hrd2
          rw [Option.getD_none, Option.isSome_none, if_neg (by simp)]
          have okZ := okX.ch HCZ.out (fun _ h => h.elim)
          obtain ⟨dA1, dc1, de1⟩ := rdstrs_form hrd2.r1
          obtain ⟨dA2, dc2, de2⟩ := rdstrs_form hrd2.r2
          obtain ⟨dA3, dc3, de3⟩ := rdstrs_form hrd2.r3
          obtain ⟨dA4, dc4, de4⟩ := rdstrs_form hrd2.r4
          obtain ⟨dA5, dc5, de5⟩ := rdstrs_form hrd2.r5
          subst de1 de2 de3 de4 de5
          have HCA := Lib.hid (HCZ.out.alloc (.cells #[.int .i64 zeroP.epoch, .slice dA1 zeroP.elems.length dc1, .slice dA2 zeroP.attrs.length dc2, .slice dA3 zeroP.schemes.length dc3, .slice dA4 zeroP.classes.length dc4, .slice dA5 zeroP.props.length dc5, .int .i64 zeroP.depth, .int .i64 zeroP.nodes, .int .i64 zeroP.bytes] 25))
          have okA := okX.ch HCA.out (fun _ h => h.elim)
          have HRt := Lib.hid (pright_calls hE _ okA hsz h)
          obtain ⟨y0, y1, y2, y3, y4, y5, y6, y7, y8⟩ := Hb.out _ HCA.out
          unfold polCells
          clear hrd2 cz1 hle2 okm2 okZ okA hs2
          go_wp2_with fail
          refine HRt.out.mono ?_
          rintro e Z2 ⟨rfl, cz2⟩
          have HW := Lib.hid (HX.out.trans (HCA.out.trans cz2 (fun _ h => .inl h)) (fun _ h => .inl h))
          rw [hR]
          clear y0 y1 y2 y3 y4 y5 y6 y7 y8 cz2
          go_wp2
          go_ret
          exact ⟨rfl, HW.out⟩
        | some q =>
          rw [hs2, Option.getD_some] at hrd2
          rw [Option.getD_some, Option.isSome_some, if_pos rfl]
          obtain ⟨hq1, hq2⟩ := readF_some hs2
          have okZ := okm2
          obtain ⟨dA1, dc1, de1⟩ := rdstrs_form hrd2.r1
          obtain ⟨dA2, dc2, de2⟩ := rdstrs_form hrd2.r2
          obtain ⟨dA3, dc3, de3⟩ := rdstrs_form hrd2.r3
          obtain ⟨dA4, dc4, de4⟩ := rdstrs_form hrd2.r4
          obtain ⟨dA5, dc5, de5⟩ := rdstrs_form hrd2.r5
          subst de1 de2 de3 de4 de5
          have czA := (Ch.refl (fun _ => False) Z1).alloc (.cells #[.int .i64 q.epoch, .slice dA1 q.elems.length dc1, .slice dA2 q.attrs.length dc2, .slice dA3 q.schemes.length dc3, .slice dA4 q.classes.length dc4, .slice dA5 q.props.length dc5, .int .i64 q.depth, .int .i64 q.nodes, .int .i64 q.bytes] 25)
          have HCA := Lib.hid (HCZ.out.trans czA (fun _ h => .inl h))
          have hbq := heap_alloc_new Z1 (.cells #[.int .i64 q.epoch, .slice dA1 q.elems.length dc1, .slice dA2 q.attrs.length dc2, .slice dA3 q.schemes.length dc3, .slice dA4 q.classes.length dc4, .slice dA5 q.props.length dc5, .int .i64 q.depth, .int .i64 q.nodes, .int .i64 q.bytes] 25)
          have okA := okm2.ch czA (fun _ h => h.elim)
          have hE2 := hE.le hle2
          have hqs := light_sz (right_light hq1)
          have HT2 := Lib.hid (ptext_calls hE2 _ okA hqs hrd2)
          rw [textR, textE, if_pos hq1, if_pos hq1, hq2] at HT2
          have HRt := Lib.hid (fun (wx : World) (hx : m2.ok wx) => pright_calls hE2 wx hx hqs hrd2)
          rw [hq1] at HRt
          have HOA := Lib.hid okA
          have HBq := Lib.hid hbq
          unfold polCells at HT2 HRt ⊢
          clear hrd2 cz1 hle2 okm2 okZ okA hs2 hq1 hq2 czA hbq hqs
          go_wp2_with fail
          refine HT2.out.mono ?_
          rintro e Z2 ⟨rfl, cz2⟩
          have hb2 := cz2.heap HBq.out (fun h => h)
          have y0 : Z2.cell? ⟨Z1.heap.size, 0, none⟩ = some (.int .i64 q.epoch) := by rw [cell_of_row Z2 _ 0 _ _ _ hb2]; rfl
          have y1 : Z2.cell? ⟨Z1.heap.size, 1, none⟩ = some (.slice dA1 q.elems.length dc1) := by rw [cell_of_row Z2 _ 1 _ _ _ hb2]; rfl
          have y2 : Z2.cell? ⟨Z1.heap.size, 2, none⟩ = some (.slice dA2 q.attrs.length dc2) := by rw [cell_of_row Z2 _ 2 _ _ _ hb2]; rfl
          have y3 : Z2.cell? ⟨Z1.heap.size, 3, none⟩ = some (.slice dA3 q.schemes.length dc3) := by rw [cell_of_row Z2 _ 3 _ _ _ hb2]; rfl
          have y4 : Z2.cell? ⟨Z1.heap.size, 4, none⟩ = some (.slice dA4 q.classes.length dc4) := by rw [cell_of_row Z2 _ 4 _ _ _ hb2]; rfl
          have y5 : Z2.cell? ⟨Z1.heap.size, 5, none⟩ = some (.slice dA5 q.props.length dc5) := by rw [cell_of_row Z2 _ 5 _ _ _ hb2]; rfl
          have y6 : Z2.cell? ⟨Z1.heap.size, 6, none⟩ = some (.int .i64 q.depth) := by rw [cell_of_row Z2 _ 6 _ _ _ hb2]; rfl
          have y7 : Z2.cell? ⟨Z1.heap.size, 7, none⟩ = some (.int .i64 q.nodes) := by rw [cell_of_row Z2 _ 7 _ _ _ hb2]; rfl
          have y8 : Z2.cell? ⟨Z1.heap.size, 8, none⟩ = some (.int .i64 q.bytes) := by rw [cell_of_row Z2 _ 8 _ _ _ hb2]; rfl
          have HCB := Lib.hid (HCA.out.trans cz2 (fun _ h => .inl h))
          have HRx := Lib.hid (HRt.out Z2 (HOA.out.ch cz2 (fun _ h => h.elim)))
          clear cz2 hb2
          go_wp2_with fail
          refine HRx.out.mono ?_
          rintro e Z3 ⟨rfl, cz3⟩
          have HW := Lib.hid (HX.out.trans (HCB.out.trans cz3 (fun _ h => .inl h)) (fun _ h => .inl h))
          clear y0 y1 y2 y3 y4 y5 y6 y7 y8 cz3
          go_wp2
          go_ret
          exact ⟨rfl, HW.out⟩
      | false =>
        have hT := HT.out
        rw [textR, textE, if_neg (by simp [hR]), if_neg (by simp [hR])] at hT
        refine hT.mono ?_
        rintro e X6 ⟨rfl, c3⟩
        have HC := Lib.hid (HC2.out.trans c3 (fun _ h => .inl h))
        have ok := okX.ch HC.out (fun _ h => h.elim)
        clear hT c3 ok2 y0 y1 y2 y3 y4 y5 y6 y7 y8 HC2 HT
        have HRd2 := Lib.hid (pread_calls hE X6 ok s (by omega))
        go_wp2_with fail
        refine HRd2.out.mono ?_
        rintro e Z1 ⟨u1, u2, u3, u4, u5, m2, rfl, hle2, okm2, hrd2, cz1⟩
        have HCZ := Lib.hid (HC.out.trans cz1 (fun _ h => .inl h))
        clear HRd2 HC ok
        cases hs2 : readF atoiF s with
        | none =>
          rw [hs2, Option.getD_none] at hrd2
          rw [Option.getD_none, Option.isSome_none, if_neg (by simp)]
          have okZ := okX.ch HCZ.out (fun _ h => h.elim)
          obtain ⟨dA1, dc1, de1⟩ := rdstrs_form hrd2.r1
          obtain ⟨dA2, dc2, de2⟩ := rdstrs_form hrd2.r2
          obtain ⟨dA3, dc3, de3⟩ := rdstrs_form hrd2.r3
          obtain ⟨dA4, dc4, de4⟩ := rdstrs_form hrd2.r4
          obtain ⟨dA5, dc5, de5⟩ := rdstrs_form hrd2.r5
          subst de1 de2 de3 de4 de5
          have HCA := Lib.hid (HCZ.out.alloc (.cells #[.int .i64 zeroP.epoch, .slice dA1 zeroP.elems.length dc1, .slice dA2 zeroP.attrs.length dc2, .slice dA3 zeroP.schemes.length dc3, .slice dA4 zeroP.classes.length dc4, .slice dA5 zeroP.props.length dc5, .int .i64 zeroP.depth, .int .i64 zeroP.nodes, .int .i64 zeroP.bytes] 25))
          have okA := okX.ch HCA.out (fun _ h => h.elim)
          have HRt := Lib.hid (pright_calls hE _ okA hsz h)
          obtain ⟨y0, y1, y2, y3, y4, y5, y6, y7, y8⟩ := Hb.out _ HCA.out
          unfold polCells
          clear hrd2 cz1 hle2 okm2 okZ okA hs2
          go_wp2_with fail
          refine HRt.out.mono ?_
          rintro e Z2 ⟨rfl, cz2⟩
          have HW := Lib.hid (HX.out.trans (HCA.out.trans cz2 (fun _ h => .inl h)) (fun _ h => .inl h))
          rw [hR]
          clear y0 y1 y2 y3 y4 y5 y6 y7 y8 cz2
          go_wp2
          go_ret
          exact ⟨rfl, HW.out⟩
        | some q =>
          rw [hs2, Option.getD_some] at hrd2
          rw [Option.getD_some, Option.isSome_some, if_pos rfl]
          obtain ⟨hq1, hq2⟩ := readF_some hs2
          have okZ := okm2
          obtain ⟨dA1, dc1, de1⟩ := rdstrs_form hrd2.r1
          obtain ⟨dA2, dc2, de2⟩ := rdstrs_form hrd2.r2
          obtain ⟨dA3, dc3, de3⟩ := rdstrs_form hrd2.r3
          obtain ⟨dA4, dc4, de4⟩ := rdstrs_form hrd2.r4
          obtain ⟨dA5, dc5, de5⟩ := rdstrs_form hrd2.r5
          subst de1 de2 de3 de4 de5
          have czA := (Ch.refl (fun _ => False) Z1).alloc (.cells #[.int .i64 q.epoch, .slice dA1 q.elems.length dc1, .slice dA2 q.attrs.length dc2, .slice dA3 q.schemes.length dc3, .slice dA4 q.classes.length dc4, .slice dA5 q.props.length dc5, .int .i64 q.depth, .int .i64 q.nodes, .int .i64 q.bytes] 25)
          have HCA := Lib.hid (HCZ.out.trans czA (fun _ h => .inl h))
          have hbq := heap_alloc_new Z1 (.cells #[.int .i64 q.epoch, .slice dA1 q.elems.length dc1, .slice dA2 q.attrs.length dc2, .slice dA3 q.schemes.length dc3, .slice dA4 q.classes.length dc4, .slice dA5 q.props.length dc5, .int .i64 q.depth, .int .i64 q.nodes, .int .i64 q.bytes] 25)
          have okA := okm2.ch czA (fun _ h => h.elim)
          have hE2 := hE.le hle2
          have hqs := light_sz (right_light hq1)
          have HT2 := Lib.hid (ptext_calls hE2 _ okA hqs hrd2)
          rw [textR, textE, if_pos hq1, if_pos hq1, hq2] at HT2
          have HRt := Lib.hid (fun (wx : World) (hx : m2.ok wx) => pright_calls hE2 wx hx hqs hrd2)
          rw [hq1] at HRt
          have HOA := Lib.hid okA
          have HBq := Lib.hid hbq
          unfold polCells at HT2 HRt ⊢
          clear hrd2 cz1 hle2 okm2 okZ okA hs2 hq1 hq2 czA hbq hqs
          go_wp2_with fail
          refine HT2.out.mono ?_
          rintro e Z2 ⟨rfl, cz2⟩
          have hb2 := cz2.heap HBq.out (fun h => h)
          have y0 : Z2.cell? ⟨Z1.heap.size, 0, none⟩ = some (.int .i64 q.epoch) := by rw [cell_of_row Z2 _ 0 _ _ _ hb2]; rfl
          have y1 : Z2.cell? ⟨Z1.heap.size, 1, none⟩ = some (.slice dA1 q.elems.length dc1) := by rw [cell_of_row Z2 _ 1 _ _ _ hb2]; rfl
          have y2 : Z2.cell? ⟨Z1.heap.size, 2, none⟩ = some (.slice dA2 q.attrs.length dc2) := by rw [cell_of_row Z2 _ 2 _ _ _ hb2]; rfl
          have y3 : Z2.cell? ⟨Z1.heap.size, 3, none⟩ = some (.slice dA3 q.schemes.length dc3) := by rw [cell_of_row Z2 _ 3 _ _ _ hb2]; rfl
          have y4 : Z2.cell? ⟨Z1.heap.size, 4, none⟩ = some (.slice dA4 q.classes.length dc4) := by rw [cell_of_row Z2 _ 4 _ _ _ hb2]; rfl
          have y5 : Z2.cell? ⟨Z1.heap.size, 5, none⟩ = some (.slice dA5 q.props.length dc5) := by rw [cell_of_row Z2 _ 5 _ _ _ hb2]; rfl
          have y6 : Z2.cell? ⟨Z1.heap.size, 6, none⟩ = some (.int .i64 q.depth) := by rw [cell_of_row Z2 _ 6 _ _ _ hb2]; rfl
          have y7 : Z2.cell? ⟨Z1.heap.size, 7, none⟩ = some (.int .i64 q.nodes) := by rw [cell_of_row Z2 _ 7 _ _ _ hb2]; rfl
          have y8 : Z2.cell? ⟨Z1.heap.size, 8, none⟩ = some (.int .i64 q.bytes) := by rw [cell_of_row Z2 _ 8 _ _ _ hb2]; rfl
          have HCB := Lib.hid (HCA.out.trans cz2 (fun _ h => .inl h))
          have HRx := Lib.hid (HRt.out Z2 (HOA.out.ch cz2 (fun _ h => h.elim)))
          clear cz2 hb2
          go_wp2_with fail
          refine HRx.out.mono ?_
          rintro e Z3 ⟨rfl, cz3⟩
          have HW := Lib.hid (HX.out.trans (HCB.out.trans cz3 (fun _ h => .inl h)) (fun _ h => .inl h))
          clear y0 y1 y2 y3 y4 y5 y6 y7 y8 cz3
          go_wp2
          go_ret
          exact ⟨rfl, HW.out⟩
    · have h5' : (5000 : Int) < (s.length : Int) := by omega
      go_wp2_with fail
      go_ret
      exact ⟨rfl, HW2.out⟩
end Go.Proofs.YtlfimcpceiemnaaDoor

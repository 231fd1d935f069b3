/- versoref08.Right. -/
import Derived.Test.YtlfimcpceiemnaaDoorPolW5
set_option linter.unusedVariables false
namespace Go.Proofs.YtlfimcpceiemnaaDoor
open Go Go.RowKit

def polCells (p : Pol) (v1 v2 v3 v4 v5 : Value) : Array Value := #[.int .i64 p.epoch, v1, v2, v3, v4, v5, .int .i64 p.depth, .int .i64 p.nodes, .int .i64 p.bytes]
structure RdPol (m : Mem) (p : Pol) (v1 v2 v3 v4 v5 : Value) : Prop where
  r1 : RdStrs m v1 p.elems
  r2 : RdStrs m v2 p.attrs
  r3 : RdStrs m v3 p.schemes
  r4 : RdStrs m v4 p.classes
  r5 : RdStrs m v5 p.props
def szS (xs : List Str) : Prop := xs.length ≤ 1000000000000 ∧ ∀ x ∈ xs, x.length ≤ 1000000000
structure Pol.sz (p : Pol) : Prop where
  s1 : szS p.elems
  s2 : szS p.attrs
  s3 : szS p.schemes
  s4 : szS p.classes
  s5 : szS p.props
set_option maxHeartbeats 3200000 in
set_option maxRecDepth 100000 in
theorem rright_calls {m : Mem} (w : World) (hw : m.ok w) {p : Pol} (hz : p.sz) {v1 v2 v3 v4 v5 : Value} (h : RdPol m p v1 v2 v3 v4 v5) :
    Calls Tryd.prog 54 #[.agg (polCells p v1 v2 v3 v4 v5)] w fun e w' => e = .returned (.bool (rightF p)) ∧ Ch (fun _ => False) w w' := by
  obtain ⟨r1, r2, r3, r4, r5⟩ := h
  obtain ⟨z1, z2, z3, z4, z5⟩ := hz
  have hF : rightF p = (numsF p && listsF p && (p.elems.all fun s => !neverF s) && (p.attrs.all fun s => attrF p.elems s) && liF p && schF p) := rfl
  have HF := Lib.hid hF
  have hL : listsF p = (wordsF p.elems && risesF p.attrs && wordsF p.schemes && wordsF p.classes && wordsF p.props) := rfl
  have HL := Lib.hid hL
  have hbx := heap_alloc_new w (.cells (polCells p v1 v2 v3 v4 v5) 25)
  have hch := (Ch.refl (fun _ => False) w).alloc (.cells (polCells p v1 v2 v3 v4 v5) 25)
  have hok := hw.ch hch (fun _ h => h.elim)
  unfold polCells at *
  clear hF hL
  go_enter Tryd.func54, Tryd.ntmps54
  go_upto_region 1 with fail
  generalize hX : w.alloc _ = X at *
  clear hX
  generalize hwn : w.heap.size = g at *
  have x0 : X.cell? ⟨g, 0, none⟩ = some (.int .i64 p.epoch) := by rw [cell_of_row X _ 0 _ _ _ hbx]; rfl
  have x1 : X.cell? ⟨g, 1, none⟩ = some v1 := by rw [cell_of_row X _ 1 _ _ _ hbx]; rfl
  have x2 : X.cell? ⟨g, 2, none⟩ = some v2 := by rw [cell_of_row X _ 2 _ _ _ hbx]; rfl
  have x3 : X.cell? ⟨g, 3, none⟩ = some v3 := by rw [cell_of_row X _ 3 _ _ _ hbx]; rfl
  have x4 : X.cell? ⟨g, 4, none⟩ = some v4 := by rw [cell_of_row X _ 4 _ _ _ hbx]; rfl
  have x5 : X.cell? ⟨g, 5, none⟩ = some v5 := by rw [cell_of_row X _ 5 _ _ _ hbx]; rfl
  have x6 : X.cell? ⟨g, 6, none⟩ = some (.int .i64 p.depth) := by rw [cell_of_row X _ 6 _ _ _ hbx]; rfl
  have x7 : X.cell? ⟨g, 7, none⟩ = some (.int .i64 p.nodes) := by rw [cell_of_row X _ 7 _ _ _ hbx]; rfl
  have x8 : X.cell? ⟨g, 8, none⟩ = some (.int .i64 p.bytes) := by rw [cell_of_row X _ 8 _ _ _ hbx]; rfl
  have Hch := Lib.hid hch
  clear hbx hwn hch
  go_cut [42] (fun r wx => r = .bool (!numsF p) ∧ wx = X)
  case first =>
    -- <<
    clear r1 r2 r3 r4 r5 z1 z2 z3 z4 z5 HL HF
    go_wp2
    all_goals go_meet
    all_goals
      refine ⟨congrArg Value.bool ?_, rfl⟩
      rw [Bool.eq_iff_iff, Bool.not_eq_true', ← Bool.not_eq_true, numsF_iff]
      simp only [Bool.or_eq_true, Bool.and_eq_true, decide_eq_true_eq, beq_iff_eq, eq_self, Bool.false_eq_true, true_iff, false_iff]
      omega
    -- >>
  case rest =>
    obtain ⟨rfl, hwc⟩ := hcut
    subst hwc
    cases hN : numsF p with
    | false =>
      go_wp2
      go_ret
      exact ⟨Ret1 (by rw [HF.out, hN]; rfl), Hch.out⟩
    | true =>
      go_upto_region 3 with fail
      go_cut [70] (fun r wx => r = .bool (!listsF p) ∧ ∃ n, wx = wc.drewN n)
      case first =>
        -- <<
        have HW := Lib.hid (fun (wx : World) (hx : m.ok wx) (v : Value) (xs : List Str) (hr : RdStrs m v xs) (hz : szS xs) => words_calls wx hx hr hz.1 (fun x hm => Nat.le_trans (hz.2 x hm) (by omega)))
        have HR := Lib.hid (fun (wx : World) (hx : m.ok wx) => rises_calls wx hx r2 z2.1)
        have R1 := Lib.hid r1
        have R3 := Lib.hid r3
        have R4 := Lib.hid r4
        have R5 := Lib.hid r5
        have HQ := Lib.hid (fun n => hok.ch ((Ch.refl (fun _ => False) wc).drewN n) (fun _ hk => hk.elim))
        clear r1 r2 r3 r4 r5
        go_wp2_with fail
        refine (HW.out _ ?_ _ _ R1.out z1).mono ?_
        exact hok.heap rfl
        rintro e w' ⟨rfl, n1, rfl⟩
        cases h0 : (p.elems.all wordF && risesF p.elems) with
        | false =>
          go_wp2
          go_meet
          exact ⟨by rw [HL.out]; simp only [wordsF]; rw [h0]; first | rfl | simp, _, by first | rfl | (simp; rfl)⟩
        | true =>
          go_wp2_with fail
          refine (HR.out _ ?_).mono ?_
          exact hok.heap rfl
          rintro e w' ⟨rfl, n2, rfl⟩
          cases h1 : risesF p.attrs with
          | false =>
            go_wp2
            go_meet
            exact ⟨by rw [HL.out]; simp only [wordsF]; rw [h0, h1]; first | rfl | simp, _, by first | rfl | (simp; rfl)⟩
          | true =>
            go_wp2_with fail
            refine (HW.out _ ?_ _ _ R3.out z3).mono ?_
            exact hok.heap rfl
            rintro e w' ⟨rfl, n3, rfl⟩
            cases h2 : (p.schemes.all wordF && risesF p.schemes) with
            | false =>
              go_wp2
              go_meet
              exact ⟨by rw [HL.out]; simp only [wordsF]; rw [h0, h1, h2]; first | rfl | simp, _, by first | rfl | (simp; rfl)⟩
            | true =>
              go_wp2_with fail
              refine (HW.out _ ?_ _ _ R4.out z4).mono ?_
              exact hok.heap rfl
              rintro e w' ⟨rfl, n4, rfl⟩
              cases h3 : (p.classes.all wordF && risesF p.classes) with
              | false =>
                go_wp2
                go_meet
                exact ⟨by rw [HL.out]; simp only [wordsF]; rw [h0, h1, h2, h3]; first | rfl | simp, _, by first | rfl | (simp; rfl)⟩
              | true =>
                go_wp2_with fail
                refine (HW.out _ ?_ _ _ R5.out z5).mono ?_
                exact hok.heap rfl
                rintro e w' ⟨rfl, n5, rfl⟩
                cases h4 : (p.props.all wordF && risesF p.props) with
                | false =>
                  go_wp2
                  go_meet
                  exact ⟨by rw [HL.out]; simp only [wordsF]; rw [h0, h1, h2, h3, h4]; first | rfl | simp, _, by first | rfl | (simp; rfl)⟩
                | true =>
                  go_wp2
                  go_meet
                  exact ⟨by rw [HL.out]; simp only [wordsF]; rw [h0, h1, h2, h3, h4]; first | rfl | simp, _, by first | rfl | (simp; rfl)⟩
        -- >>
      case rest =>
        obtain ⟨rfl, nY, hY⟩ := hcut
        rename World => Y
        have y1 : Y.cell? ⟨g, 1, none⟩ = some v1 := by rw [hY]; exact x1
        have y2 : Y.cell? ⟨g, 2, none⟩ = some v2 := by rw [hY]; exact x2
        have y3 : Y.cell? ⟨g, 3, none⟩ = some v3 := by rw [hY]; exact x3
        have hokY : m.ok Y := by rw [hY]; exact hok.heap rfl
        have HchY := Lib.hid (show Ch (fun _ => False) w Y by rw [hY]; exact Hch.out.drewN nY)
        cases hLL : listsF p with
        | false =>
          clear hY
          go_wp2
          go_ret
          exact ⟨Ret1 (by rw [HF.out, hLL, hN]; rfl), HchY.out⟩
        | true =>
          clear hY x0 x1 x2 x3 x4 x5 x6 x7 x8 hok Hch
          go_wp2
          have L1 : p.elems.length ≤ 1000000000000 := z1.1
          have L2 : p.attrs.length ≤ 1000000000000 := z2.1
          obtain ⟨A1, c1, hv1⟩ := rdstrs_form r1
          subst hv1
          go_loopw [3] (fun r wr => ∃ k : Nat, k ≤ p.elems.length ∧ r = .int .i64 k ∧ m.ok wr ∧ Hid (Ch (fun _ => False) w wr) ∧ wr.cell? ⟨g, 1, none⟩ = some (.slice A1 p.elems.length c1) ∧ wr.cell? ⟨g, 2, none⟩ = some v2 ∧ wr.cell? ⟨g, 3, none⟩ = some v3 ∧ Hid ((p.elems.take k).all (fun s => !neverF s) = true)) (fun r _ => p.elems.length - (intOf r).toNat)
          case atStart => exact ⟨0, Nat.zero_le _, rfl, hokY, HchY, y1, y2, y3, rfl⟩
          case round =>
            rename World => wr
            obtain ⟨k, hk, rfl, hokr, Hcr, yr1, yr2, yr3, HA⟩ := hrel
            by_cases hlt : k < p.elems.length
            · obtain ⟨b, o, hA1, hc⟩ : ∃ b o, A1 = some ⟨b, o, none⟩ ∧ ∀ k, k < p.elems.length → wr.cell? ⟨b, o + k, none⟩ = some (.string ⟨(p.elems[k]?.getD []).toArray⟩) := by
                rcases (strs_cell hokr r1).2.2 with h0 | h0
                · rw [h0] at hlt; simp at hlt
                · exact h0
              subst hA1
              have hck := hc k hlt
              obtain ⟨x, hxk⟩ : ∃ x, p.elems[k]? = some x := ⟨_, List.getElem?_eq_getElem hlt⟩
              rw [hxk, Option.getD_some] at hck
              have hki : (k : Int) < (p.elems.length : Int) := by omega
              have hki0 : (0 : Int) ≤ (k : Int) := by omega
              have HT := Lib.hid (all_take (f := fun s => !neverF s) hxk)
              have HA2 := Lib.hid (fun hf => all_false (f := fun s => !neverF s) hxk hf)
              clear hc hxk
              go_wp2_with fail
              refine (rnever_calls x wr hokr).mono ?_
              rintro e w1 ⟨rfl, hch1⟩
              have q1 := hch1.cell yr1 (fun h => h)
              have q2 := hch1.cell yr2 (fun h => h)
              have q3 := hch1.cell yr3 (fun h => h)
              have hok1 := hokr.ch hch1 (fun _ h => h.elim)
              have Hc1 := Lib.hid (Hcr.out.trans hch1 (fun _ h => .inl h))
              clear hch1 yr1 yr2 yr3 hck
              cases hb : neverF x with
              | false =>
                go_wp2
                go_roundw
                case rel => first | exact ⟨k + 1, by omega, by go_num, hok1, Hc1, q1, q2, q3, Lib.hid (by rw [HT.out, HA.out, hb]; rfl)⟩ | ((repeat apply Exists.intro); exact ⟨⟨k + 1, by omega, by go_num, hok1, Hc1, q1, q2, q3, Lib.hid (by rw [HT.out, HA.out, hb]; rfl)⟩, rfl⟩)
                case measure => simp [intOf]; omega
              | true =>
                go_wp2
                go_ret
                exact ⟨Ret1 (by rw [HF.out, HA2.out (by rw [hb]; rfl)]; simp), Hc1.out⟩
            · have hE : p.elems.take k = p.elems := List.take_of_length_le (by omega)
              rw [hE] at HA
              have hki : ¬ (k : Int) < (p.elems.length : Int) := by omega
              clear hE
              go_wp2
              obtain ⟨A2, c2, hv2⟩ := rdstrs_form r2
              subst hv2
              obtain ⟨wo, hwo⟩ : ∃ wo : World, wo = wr := ⟨_, rfl⟩
              subst hwo
              go_loopw [4] (fun r wr => ∃ k : Nat, k ≤ p.attrs.length ∧ r = .int .i64 k ∧ m.ok wr ∧ Hid (Ch (fun _ => False) w wr) ∧ wr.cell? ⟨g, 1, none⟩ = some (.slice A1 p.elems.length c1) ∧ wr.cell? ⟨g, 2, none⟩ = some (.slice A2 p.attrs.length c2) ∧ wr.cell? ⟨g, 3, none⟩ = some v3 ∧ Hid ((p.attrs.take k).all (fun s => attrF p.elems s) = true)) (fun r _ => p.attrs.length - (intOf r).toNat)
              case atStart => exact ⟨0, Nat.zero_le _, rfl, hokr, Hcr, yr1, yr2, yr3, rfl⟩
              case round =>
                rename World => ws
                clear yr1 yr2 yr3 hokr Hcr hki hlt hk
                obtain ⟨j, hk, rfl, hokr, Hcr, yr1, yr2, yr3, HB⟩ := hrel
                by_cases hlt : j < p.attrs.length
                · obtain ⟨b, o, hA1, hc⟩ : ∃ b o, A2 = some ⟨b, o, none⟩ ∧ ∀ k, k < p.attrs.length → ws.cell? ⟨b, o + k, none⟩ = some (.string ⟨(p.attrs[k]?.getD []).toArray⟩) := by
                    rcases (strs_cell hokr r2).2.2 with h0 | h0
                    · rw [h0] at hlt; simp at hlt
                    · exact h0
                  subst hA1
                  have hck := hc j hlt
                  obtain ⟨x, hxk⟩ : ∃ x, p.attrs[j]? = some x := ⟨_, List.getElem?_eq_getElem hlt⟩
                  rw [hxk, Option.getD_some] at hck
                  have hki : (j : Int) < (p.attrs.length : Int) := by omega
                  have hki0 : (0 : Int) ≤ (j : Int) := by omega
                  have HT := Lib.hid (all_take (f := fun s => attrF p.elems s) hxk)
                  have HA2 := Lib.hid (fun hf => all_false (f := fun s => attrF p.elems s) hxk hf)
                  have HH := Lib.hid (fun n => Calls.quiet_of (v := .bool (attrF p.elems x)) (w := ws) (n := n) ((rattr_calls (ws.drewN n) (hokr.ch ((Ch.refl (fun _ => False) ws).drewN n) (fun _ hk => hk.elim)) r1 z1.1 x (Nat.le_trans (z2.2 x (List.mem_of_getElem? hxk)) (by omega))).mono (fun e w' he => ⟨he.1, 0, he.2.symm⟩)))
                  have HN := Lib.hid (fun n => hokr.ch ((Ch.refl (fun _ => False) ws).drewN n) (fun _ hk => hk.elim))
                  have HC := Lib.hid (fun n => Hcr.out.drewN (b := ws) n)
                  clear hc hxk hokr
                  cases hb : attrF p.elems x with
                  | true =>
                    go_wp2
                    go_quiet ((go_at_call 74; exact HH.out _))
                    rw [hb]
                    go_wp2
                    go_roundw
                    case rel => exact ⟨j + 1, by omega, by go_num, HN.out _, Lib.hid (HC.out _), yr1, yr2, yr3, Lib.hid (by rw [HT.out, HB.out, hb]; rfl)⟩
                    case measure => simp [intOf]; omega
                  | false =>
                    go_wp2
                    go_quiet ((go_at_call 74; exact HH.out _))
                    rw [hb]
                    go_wp2
                    go_ret
                    exact ⟨Ret1 (by rw [HF.out, HA2.out hb]; simp), HC.out _⟩
                · have hE : p.attrs.take j = p.attrs := List.take_of_length_le (by omega)
                  rw [hE] at HB
                  have hki : ¬ (j : Int) < (p.attrs.length : Int) := by omega
                  have HLi := Lib.hid (show rightF p = (liF p && schF p) by rw [HF.out, hN, hLL, HA.out, HB.out]; simp)
                  have HX := Lib.hid (fun s => has_calls ws hokr r1 z1.1 s)
                  have HY := Lib.hid (fun s => has_calls ws hokr r3 z3.1 s)
                  have HLi2 := Lib.hid (show liF p = (!hasStr p.elems [108, 105] || (hasStr p.elems [117, 108] && hasStr p.elems [111, 108])) from rfl)
                  have HSch := Lib.hid (show schF p = (!hasStr p.schemes [106, 97, 118, 97, 115, 99, 114, 105, 112, 116] && !hasStr p.schemes [100, 97, 116, 97] && !hasStr p.schemes [118, 98, 115, 99, 114, 105, 112, 116]) from rfl)
                  clear hE HF HL hLL hokr r1 r3 r2 r4 r5 z1 z2 z3 z4 z5 hN
                  go_upto_region 15 with fail
                  go_cut [114] (fun r wx => r = .bool (!liF p) ∧ wx = ws)
                  case first =>
                    go_wp2_with fail
                    refine (HX.out [108, 105]).mono ?_
                    rintro e w' ⟨rfl, rfl⟩
                    cases b1 : hasStr p.elems [108, 105] with
                    | false =>
                      go_wp2
                      go_meet
                      exact ⟨by rw [HLi2.out, b1]; rfl, rfl⟩
                    | true =>
                      go_wp2_with fail
                      refine (HX.out [117, 108]).mono ?_
                      rintro e w' ⟨rfl, rfl⟩
                      cases b2 : hasStr p.elems [117, 108] with
                      | false =>
                        go_wp2
                        go_meet
                        exact ⟨by rw [HLi2.out, b1, b2]; rfl, rfl⟩
                      | true =>
                        go_wp2_with fail
                        refine (HX.out [111, 108]).mono ?_
                        rintro e w' ⟨rfl, rfl⟩
                        go_wp2
                        go_meet
                        exact ⟨by rw [HLi2.out, b1, b2]; first | rfl | simp, rfl⟩
                  case rest =>
                    obtain ⟨rfl, hwd⟩ := hcut
                    subst hwd
                    cases bl : liF p with
                    | false =>
                      go_wp2
                      go_ret
                      exact ⟨Ret1 (by rw [HLi.out, bl]; rfl), Hcr.out⟩
                    | true =>
                      go_wp2_with fail
                      refine (HY.out [106, 97, 118, 97, 115, 99, 114, 105, 112, 116]).mono ?_
                      rintro e w' ⟨rfl, rfl⟩
                      cases b1 : hasStr p.schemes [106, 97, 118, 97, 115, 99, 114, 105, 112, 116] with
                      | true =>
                        go_wp2
                        go_ret
                        exact ⟨Ret1 (by rw [HLi.out, bl, HSch.out, b1]; rfl), Hcr.out⟩
                      | false =>
                        go_wp2_with fail
                        refine (HY.out [100, 97, 116, 97]).mono ?_
                        rintro e w' ⟨rfl, rfl⟩
                        cases b2 : hasStr p.schemes [100, 97, 116, 97] with
                        | true =>
                          go_wp2
                          go_ret
                          exact ⟨Ret1 (by rw [HLi.out, bl, HSch.out, b1, b2]; rfl), Hcr.out⟩
                        | false =>
                          go_wp2_with fail
                          refine (HY.out [118, 98, 115, 99, 114, 105, 112, 116]).mono ?_
                          rintro e w' ⟨rfl, rfl⟩
                          go_wp2
                          go_ret
                          exact ⟨Ret1 (by rw [HLi.out, bl, HSch.out, b1, b2]; first | rfl | simp), Hcr.out⟩
end Go.Proofs.YtlfimcpceiemnaaDoor

/- versolaw08.PolicyReads: true whatever comes in. -/
import Derived.Test.YtlfimcpceiemnaaDoorPRef3
import Derived.Test.YtlfimcpceiemnaaDoorPolBack
set_option linter.unusedVariables false
namespace Go.Proofs.YtlfimcpceiemnaaDoor
open Go Go.RowKit

set_option maxHeartbeats 3200000 in
set_option maxRecDepth 100000 in
theorem polReads_calls {m : Mem} (hE : EnvM m) (w : World) (hw : m.ok w) (s : Str) (hsl : s.length ≤ 140737488351232) :
    Calls Tryd.prog 3 #[.string ⟨s.toArray⟩] w fun e w' => e = .returned (.bool true) ∧ Ch (fun _ => False) w w' := by
  have HA := Lib.hid (awake_calls hE w hw)
  go_enter Tryd.func3, Tryd.ntmps3
  go_wp2_with fail
  refine HA.out.mono ?_
  rintro e X1 ⟨rfl, c1⟩
  have ok1 := hw.ch c1 (fun _ h => h.elim)
  have HC1 := Lib.hid c1
  clear HA c1
  by_cases h4 : s.length ≤ 4000
  · have h4' : ¬ (4000 : Int) < (s.length : Int) := by omega
    have HP := Lib.hid (pread_calls hE X1 ok1 s (by omega))
    go_wp2_with fail
    refine HP.out.mono ?_
    rintro e X2 ⟨u1, u2, u3, u4, u5, m1, rfl, hle1, okm1, hrd1, c2⟩
    have HQ := Lib.hid (readF_same numOk_numR numOk_atoi s)
    have hsz : ∀ L ∈ lists5 ((readF atoiF s).getD zeroP), L.length ≤ 1000000000000 := by
      cases hr : readF atoiF s with
      | none =>
        intro L hL
        simp [lists5, zeroP] at hL
        subst hL
        simp
      | some p =>
        obtain ⟨hq1, hq2⟩ := readF_some hr
        rw [Option.getD_some]
        intro L hL
        have := (right_light hq1 L hL).1
        omega
    generalize hq : (readF atoiF s).getD zeroP = q at *
    generalize hc : (if (readF atoiF s).isSome = true then (0 : Int) else 2) = c at *
    obtain ⟨dA1, dc1, de1⟩ := rdstrs_form hrd1.r1
    obtain ⟨dA2, dc2, de2⟩ := rdstrs_form hrd1.r2
    obtain ⟨dA3, dc3, de3⟩ := rdstrs_form hrd1.r3
    obtain ⟨dA4, dc4, de4⟩ := rdstrs_form hrd1.r4
    obtain ⟨dA5, dc5, de5⟩ := rdstrs_form hrd1.r5
    subst de1 de2 de3 de4 de5
    have c2A := c2.alloc (.cells #[.int .i64 q.epoch, .slice dA1 q.elems.length dc1, .slice dA2 q.attrs.length dc2, .slice dA3 q.schemes.length dc3, .slice dA4 q.classes.length dc4, .slice dA5 q.props.length dc5, .int .i64 q.depth, .int .i64 q.nodes, .int .i64 q.bytes] 25)
    have okA := okm1.ch ((Ch.refl (fun _ => False) X2).alloc (.cells #[.int .i64 q.epoch, .slice dA1 q.elems.length dc1, .slice dA2 q.attrs.length dc2, .slice dA3 q.schemes.length dc3, .slice dA4 q.classes.length dc4, .slice dA5 q.props.length dc5, .int .i64 q.depth, .int .i64 q.nodes, .int .i64 q.bytes] 25)) (fun _ h => h.elim)
    have hb1 := heap_alloc_new X2 (.cells #[.int .i64 q.epoch, .slice dA1 q.elems.length dc1, .slice dA2 q.attrs.length dc2, .slice dA3 q.schemes.length dc3, .slice dA4 q.classes.length dc4, .slice dA5 q.props.length dc5, .int .i64 q.depth, .int .i64 q.nodes, .int .i64 q.bytes] 25)
    have HC2 := Lib.hid (HC1.out.trans c2A (fun _ h => .inl h))
    have HR := Lib.hid (rread_calls (m := m1) _ okA s (by omega))
    have HB1 := Lib.hid hb1
    unfold polCells
    clear HP okm1 c2 hb1 okA c2A
    go_wp2_with fail
    refine HR.out.mono ?_
    rintro e X3 ⟨u1, u2, u3, u4, u5, m2, rfl, hle2, okm2, hrd2, c3⟩
    rw [HQ.out] at hrd2 ⊢
    rw [hq] at hrd2 ⊢
    rw [hc]
    obtain ⟨eA1, ec1, ee1⟩ := rdstrs_form hrd2.r1
    obtain ⟨eA2, ec2, ee2⟩ := rdstrs_form hrd2.r2
    obtain ⟨eA3, ec3, ee3⟩ := rdstrs_form hrd2.r3
    obtain ⟨eA4, ec4, ee4⟩ := rdstrs_form hrd2.r4
    obtain ⟨eA5, ec5, ee5⟩ := rdstrs_form hrd2.r5
    subst ee1 ee2 ee3 ee4 ee5
    have hb2 := c3.heap HB1.out (fun h => h)
    have c3A := (Ch.refl (fun _ => False) X3).alloc (.cells #[.int .i64 q.epoch, .slice eA1 q.elems.length ec1, .slice eA2 q.attrs.length ec2, .slice eA3 q.schemes.length ec3, .slice eA4 q.classes.length ec4, .slice eA5 q.props.length ec5, .int .i64 q.depth, .int .i64 q.nodes, .int .i64 q.bytes] 25)
    have okB := okm2.ch c3A (fun _ h => h.elim)
    have hb3 := c3A.heap hb2 (fun h => h)
    have hb4 := heap_alloc_new X3 (.cells #[.int .i64 q.epoch, .slice eA1 q.elems.length ec1, .slice eA2 q.attrs.length ec2, .slice eA3 q.schemes.length ec3, .slice eA4 q.classes.length ec4, .slice eA5 q.props.length ec5, .int .i64 q.depth, .int .i64 q.nodes, .int .i64 q.bytes] 25)
    have HC3 := Lib.hid (HC2.out.trans (c3.trans c3A (fun _ h => .inl h)) (fun _ h => .inl h))
    have HS := Lib.hid (same_calls _ okB (hrd1.le hle2) hrd2 hsz)
    rw [samePol_self] at HS
    unfold polCells at HS ⊢
    clear HR HB1 hle1 hle2 okm2 hrd1 hrd2 c3 c3A okB hb2 hsz HQ hq hc ok1
    generalize X2.heap.size = g1 at *
    obtain ⟨Y, hY⟩ : ∃ Y, Y = X3.alloc (.cells #[.int .i64 q.epoch, .slice eA1 q.elems.length ec1, .slice eA2 q.attrs.length ec2, .slice eA3 q.schemes.length ec3, .slice eA4 q.classes.length ec4, .slice eA5 q.props.length ec5, .int .i64 q.depth, .int .i64 q.nodes, .int .i64 q.bytes] 25) := ⟨_, rfl⟩
    rw [← hY] at hb3 hb4 HC3 HS
    go_upto_region 6 with fail
    rw [← hY]
    generalize X3.heap.size = g2 at *
    have y0 : Y.cell? ⟨g1, 0, none⟩ = some (.int .i64 q.epoch) := by rw [cell_of_row Y _ 0 _ _ _ hb3]; rfl
    have y1 : Y.cell? ⟨g1, 1, none⟩ = some (.slice dA1 q.elems.length dc1) := by rw [cell_of_row Y _ 1 _ _ _ hb3]; rfl
    have y2 : Y.cell? ⟨g1, 2, none⟩ = some (.slice dA2 q.attrs.length dc2) := by rw [cell_of_row Y _ 2 _ _ _ hb3]; rfl
    have y3 : Y.cell? ⟨g1, 3, none⟩ = some (.slice dA3 q.schemes.length dc3) := by rw [cell_of_row Y _ 3 _ _ _ hb3]; rfl
    have y4 : Y.cell? ⟨g1, 4, none⟩ = some (.slice dA4 q.classes.length dc4) := by rw [cell_of_row Y _ 4 _ _ _ hb3]; rfl
    have y5 : Y.cell? ⟨g1, 5, none⟩ = some (.slice dA5 q.props.length dc5) := by rw [cell_of_row Y _ 5 _ _ _ hb3]; rfl
    have y6 : Y.cell? ⟨g1, 6, none⟩ = some (.int .i64 q.depth) := by rw [cell_of_row Y _ 6 _ _ _ hb3]; rfl
    have y7 : Y.cell? ⟨g1, 7, none⟩ = some (.int .i64 q.nodes) := by rw [cell_of_row Y _ 7 _ _ _ hb3]; rfl
    have y8 : Y.cell? ⟨g1, 8, none⟩ = some (.int .i64 q.bytes) := by rw [cell_of_row Y _ 8 _ _ _ hb3]; rfl
    have z0 : Y.cell? ⟨g2, 0, none⟩ = some (.int .i64 q.epoch) := by rw [cell_of_row Y _ 0 _ _ _ hb4]; rfl
    have z1 : Y.cell? ⟨g2, 1, none⟩ = some (.slice eA1 q.elems.length ec1) := by rw [cell_of_row Y _ 1 _ _ _ hb4]; rfl
    have z2 : Y.cell? ⟨g2, 2, none⟩ = some (.slice eA2 q.attrs.length ec2) := by rw [cell_of_row Y _ 2 _ _ _ hb4]; rfl
    have z3 : Y.cell? ⟨g2, 3, none⟩ = some (.slice eA3 q.schemes.length ec3) := by rw [cell_of_row Y _ 3 _ _ _ hb4]; rfl
    have z4 : Y.cell? ⟨g2, 4, none⟩ = some (.slice eA4 q.classes.length ec4) := by rw [cell_of_row Y _ 4 _ _ _ hb4]; rfl
    have z5 : Y.cell? ⟨g2, 5, none⟩ = some (.slice eA5 q.props.length ec5) := by rw [cell_of_row Y _ 5 _ _ _ hb4]; rfl
    have z6 : Y.cell? ⟨g2, 6, none⟩ = some (.int .i64 q.depth) := by rw [cell_of_row Y _ 6 _ _ _ hb4]; rfl
    have z7 : Y.cell? ⟨g2, 7, none⟩ = some (.int .i64 q.nodes) := by rw [cell_of_row Y _ 7 _ _ _ hb4]; rfl
    have z8 : Y.cell? ⟨g2, 8, none⟩ = some (.int .i64 q.bytes) := by rw [cell_of_row Y _ 8 _ _ _ hb4]; rfl
    clear hY hb3 hb4
    go_wp2_with fail
    refine HS.out.mono ?_
    rintro e X4 ⟨rfl, c4⟩
    have HC4 := Lib.hid (HC3.out.trans c4 (fun _ h => .inl h))
    clear c4 HS y0 z0 y1 z1 y2 z2 y3 z3 y4 z4 y5 z5 y6 z6 y7 z7 y8 z8
    have hcc : (c == c) = true := by simp
    go_wp2
    go_ret
    exact ⟨rfl, HC4.out⟩
  · have h4' : (4000 : Int) < (s.length : Int) := by omega
    go_wp2
    go_ret
    exact ⟨rfl, HC1.out⟩
end Go.Proofs.YtlfimcpceiemnaaDoor

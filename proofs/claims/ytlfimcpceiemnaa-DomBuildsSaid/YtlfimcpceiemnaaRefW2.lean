/- versoref04: has, Void, Block, inner. -/
import Derived.Test.YtlfimcpceiemnaaRefW1
set_option linter.unusedVariables false
namespace Go.Proofs.Ytlfimcpceiemnaa
open Go Go.RowKit

theorem has_at {xs : List Str} {s : Str} {k : Nat} (hk : k < xs.length) (he : (xs[k]?.getD []) = s) : hasStr xs s = true := by
  have : s ∈ xs := by
    rw [← he, List.getElem?_eq_getElem hk]
    exact List.getElem_mem hk
  simp [hasStr, this]
theorem has_none {xs : List Str} {s : Str} (hall : ∀ j, j < xs.length → ¬ (xs[j]?.getD []) = s) : hasStr xs s = false := by
  rw [← contains_indexOf, indexOf_none hall]; rfl
set_option maxHeartbeats 400000 in
theorem has_calls {m : Mem} (w : World) (hw : m.ok w) {v : Value} {xs : List Str} (h : RdStrs m v xs) (hl : xs.length ≤ 1000000000000) (s : Str) :
    Calls Try.prog 36 #[v, .string ⟨s.toArray⟩] w fun e w' => e = .returned (.bool (hasStr xs s)) ∧ w = w' := by
  obtain ⟨A, c, rfl⟩ := rdstrs_form h
  have hc := (strs_cell hw h).2.2
  clear h
  go_enter Try.func36, Try.ntmps36
  go_wp2
  go_loop [5] (fun r => ∃ k : Nat, k ≤ xs.length ∧ r = .int .i64 k ∧ ∀ j, j < k → ¬ (xs[j]?.getD []) = s) (fun r => xs.length - (intOf r).toNat)
  case atStart => exact ⟨0, Nat.zero_le _, rfl, fun j hj => by omega⟩
  case round =>
    obtain ⟨k, hk, rfl, hall⟩ := hrel
    have Hall := Lib.hid hall
    clear hall
    by_cases hlt : k < xs.length
    · rcases hc with rfl | ⟨b, o, rfl, hc⟩
      · simp at hlt
      · have hck := hc k hlt
        have Hc := Lib.hid hc
        clear hc
        have hki : (k : Int) < (xs.length : Int) := by omega
        have hki0 : (0 : Int) ≤ (k : Int) := by omega
        by_cases he : (xs[k]?.getD []) = s
        · have he' : ((xs[k]?.getD []) == s) = true := by simp [he]
          have Hfin := Lib.hid (has_at hlt he)
          clear he
          generalize hx : xs[k]?.getD [] = x at *
          clear hx
          go_wp2
          go_ret
          exact ⟨Ret1 (by simp [Hfin.out]), rfl⟩
        · have he' : ((xs[k]?.getD []) == s) = false := by simpa using he
          have Hn := Lib.hid (show ∀ j, j < k + 1 → ¬ (xs[j]?.getD []) = s from fun j hj => by
            rcases Nat.lt_succ_iff_lt_or_eq.1 hj with h1 | rfl
            · exact Hall.out j h1
            · exact he)
          clear he
          generalize hx : xs[k]?.getD [] = x at *
          have Hx := Lib.hid hx
          clear hx
          go_wp2
          go_round
          case rel => exact ⟨k + 1, by omega, by go_num, Hn.out⟩
          case measure => simp [intOf]; omega
    · have hki : ¬ (k : Int) < (xs.length : Int) := by omega
      have : k = xs.length := by omega
      subst this
      have Hfin := Lib.hid (has_none Hall.out)
      go_wp2
      go_ret
      exact ⟨Ret1 (by simp [Hfin.out]), rfl⟩
set_option maxHeartbeats 400000 in
theorem rvoid_calls {m : Mem} (w : World) (hw : m.ok w) (s : Str) : Calls Try.prog 34 #[.string ⟨s.toArray⟩] w fun e w' => e = .returned (.bool (isVoid s)) ∧ Ch (fun _ => False) w w' := by
  go_enter Try.func34, Try.ntmps34
  go_wp2_with fail
  obtain ⟨m', hm', hv'⟩ := lit_strs hw voidNames 9 (by decide)
  refine (has_calls _ hm' hv' (by decide) s).mono ?_
  rintro e w' ⟨rfl, rfl⟩
  have hc := (Ch.refl (fun _ => False) w).alloc (.cells (strCells voidNames).toArray 9)
  generalize w.alloc (.cells (strCells voidNames).toArray 9) = W at *
  go_wp2
  go_ret
  exact ⟨rfl, hc⟩
set_option maxHeartbeats 400000 in
theorem rblock_calls {m : Mem} (w : World) (hw : m.ok w) (s : Str) : Calls Try.prog 32 #[.string ⟨s.toArray⟩] w fun e w' => e = .returned (.bool (isBlock s)) ∧ Ch (fun _ => False) w w' := by
  go_enter Try.func32, Try.ntmps32
  go_wp2_with fail
  obtain ⟨m', hm', hv'⟩ := lit_strs hw blockNames 9 (by decide)
  refine (has_calls _ hm' hv' (by decide) s).mono ?_
  rintro e w' ⟨rfl, rfl⟩
  have hc := (Ch.refl (fun _ => False) w).alloc (.cells (strCells blockNames).toArray 9)
  generalize w.alloc (.cells (strCells blockNames).toArray 9) = W at *
  go_wp2
  go_ret
  exact ⟨rfl, hc⟩

set_option maxHeartbeats 800000 in
theorem rinner_calls {m : Mem} {w : World} {base g : Nat} {s : RS} {lv : Value} {lc : List Value} {ov : Value} (h : IsF m w base g s lv lc ov) (hl : s.op.length ≤ 1000000) (hll : s.l.length ≤ 1000000)
    {v : Value} {names : List Str} {m' : Mem} (hm : m'.ok w) (hv : RdStrs m' v names) (hnl : names.length ≤ 1000) :
    Calls Try.prog 33 #[.pointer (some ⟨g, 0, none⟩), v] w fun e w' => e = .returned (.int .i64 (s.inner names)) ∧ ∃ n, w' = w.drewN n := by
  obtain ⟨A, c, O, d, h1, h2, x0, x1, x2⟩ := h.parts
  obtain ⟨N, nc, rfl⟩ := rdstrs_form hv
  have Hin : Hid (innerN names s s.op.length = s.inner names) := Lib.hid rfl
  go_enter Try.func33, Try.ntmps33
  go_wp2
  go_loopw [5] (fun i wr => ∃ k : Nat, k ≤ s.op.length ∧ i = .int .i64 ((k : Int) - 1) ∧ Hid (innerN names s k = s.inner names) ∧ IsF m wr base g s lv lc ov ∧ m'.ok wr ∧ Hid (∃ n, wr = w.drewN n)) (fun i _ => ((intOf i) + 1).toNat)
  case atStart => exact ⟨s.op.length, Nat.le_refl _, by go_num, Hin, h, hm, 0, rfl⟩
  case round =>
    rename World => wr
    obtain ⟨k, hk, rfl, He, hF, hmr, Hn⟩ := hrel
    clear h h1 h2 x0 x1 x2 hm
    obtain ⟨A, c, O, d, h1, h2, x0, x1, x2⟩ := hF.parts
    by_cases h0 : 0 < k
    · obtain ⟨b2, d2, hv2, hc2, hcells2⟩ := hF.opCell (by omega)
      have y1 := hcells2 (k - 1) (by omega)
      rw [hv2] at h2
      injection h2 with e1 e2 e3
      subst e1 e3
      have hmem : s.op.getD (k - 1) 0 ∈ s.op := by
        rw [List.getD_eq_getElem?_getD, List.getElem?_eq_getElem (by omega)]
        exact List.getElem_mem _
      have hix := hF.ix _ hmem
      have Hst : Hid (innerN names s k = if hasStr names (nameAt s (s.op.getD (k - 1) 0)) then k else innerN names s (k - 1)) := Lib.hid (by obtain ⟨j, rfl⟩ : ∃ j, k = j + 1 := ⟨k - 1, by omega⟩; rfl)
      generalize s.op.getD (k - 1) 0 = r at *
      obtain ⟨r, rfl⟩ : ∃ q : Nat, r = (q : Int) := ⟨r.toNat, by omega⟩
      obtain ⟨b, c', hv1, hc, hcells⟩ := hF.flCell (by omega)
      obtain ⟨hnm, _⟩ := hcells r (by omega)
      rw [hv1] at h1
      injection h1 with e4 e5 e6
      subst e4 e6
      have hnm2 : nameAt s (r : Int) = (s.l.getD r dFlat).name := rfl
      rw [← hnm2] at hnm
      have i1 : (0 : Int) ≤ (k : Int) - 1 := by omega
      have i2 : (k : Int) - 1 < (s.op.length : Int) := by omega
      obtain ⟨i3, i4⟩ := hix
      have HH := Lib.hid (fun n (t : Str) => Calls.quiet_of (v := .bool (hasStr names t)) (w := wr) (n := n) ((has_calls (wr.drewN n) (hmr.ch ((Ch.refl (fun _ => False) wr).drewN n) (fun _ hk => hk.elim)) hv (by omega) t).mono (fun e w' he => ⟨he.1, 0, he.2.symm⟩)))
      have HF2 := fun n => hF.ch ((Ch.refl (fun _ => False) wr).drewN n) (fun _ hk => hk.elim)
      have HM2 := Lib.hid (fun n => hmr.ch ((Ch.refl (fun _ => False) wr).drewN n) (fun _ hk => hk.elim))
      clear e2 hv2 hcells2 hcells hv1 e5 hF hnm2
      generalize nameAt s (r : Int) = nm at *
      by_cases hu : hasStr names nm = true
      · have Hf := Lib.hid (show s.inner names = k by rw [← He.out, Hst.out, if_pos hu])
        go_wp2
        go_quiet ((go_at_call 36; exact HH.out _ _))
        rw [hu]
        go_wp2
        go_ret
        obtain ⟨n, hn⟩ := Hn.out
        subst hn
        exact ⟨Ret1 (by simp [Hf.out]), _, by simp; rfl⟩
      · have hu' : hasStr names nm = false := by simpa using hu
        have Hf := Lib.hid (show innerN names s (k - 1) = s.inner names by rw [← He.out, Hst.out, if_neg hu])
        clear hu
        go_wp2
        go_quiet ((go_at_call 36; exact HH.out _ _))
        rw [hu']
        go_wp2
        go_roundw
        case rel =>
          refine ⟨k - 1, by omega, by go_num, Hf, HF2 _, HM2.out _, Lib.hid ?_⟩
          obtain ⟨n, hn⟩ := Hn.out
          subst hn
          exact ⟨_, by simp; rfl⟩
        case measure => simp [intOf]; omega
    · obtain rfl : k = 0 := by omega
      have Hf := Lib.hid (show s.inner names = 0 by rw [← He.out]; rfl)
      clear hF h1 h2
      go_wp2
      go_ret
      exact ⟨Ret1 (by simp [Hf.out]), Hn.out⟩

end Go.Proofs.Ytlfimcpceiemnaa

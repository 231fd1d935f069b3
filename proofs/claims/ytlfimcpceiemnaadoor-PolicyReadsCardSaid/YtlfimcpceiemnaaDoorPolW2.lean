/- versoref08.word, Has, Never; versoref03.Raw. -/
import Derived.Test.YtlfimcpceiemnaaDoorPolW1
set_option linter.unusedVariables false
namespace Go.Proofs.YtlfimcpceiemnaaDoor
open Go Go.RowKit

set_option maxHeartbeats 800000 in
theorem rword_calls (s : Str) (hs : s.length ≤ 1000000000000) (w : World) : Calls Tryd.prog 89 #[.string ⟨s.toArray⟩] w fun e w' => e = .returned (.bool (wordF s)) ∧ w = w' := by
  go_enter Tryd.func89, Tryd.ntmps89
  go_wp2
  go_loop [3] (fun i => ∃ k : Nat, k ≤ s.length ∧ i = .int .i64 k ∧ Hid (chars 0 (s.take k) = true)) (fun i => s.length - (intOf i).toNat)
  case atStart => exact ⟨0, Nat.zero_le _, rfl, rfl⟩
  case round =>
    obtain ⟨k, hk, rfl, H⟩ := hrel
    by_cases hlt : k < s.length
    · have i1 : (k : Int) < (s.length : Int) := by omega
      have i2 : (0 : Int) ≤ (k : Int) := by omega
      obtain ⟨c, hc⟩ : ∃ c, s[k]? = some c := ⟨_, List.getElem?_eq_getElem hlt⟩
      have HT := Lib.hid (chars_take hc)
      go_upto_region 5 with fail
      have hx : ((⟨s.toArray⟩ : ByteArray)[k]'(by simpa [ByteArray.size] using hlt)).toNat = c.toNat := congrArg UInt8.toNat (Option.some.inj ((List.getElem?_eq_getElem hlt).symm.trans hc))
      rw [hx]
      have hlim := c.toNat_lt
      have HC := Lib.hid (show chB k c = ((decide (97 ≤ c.toNat) && decide (c.toNat ≤ 122)) || (decide (0 < k) && ((decide (48 ≤ c.toNat) && decide (c.toNat ≤ 57)) || decide (c.toNat = 45)))) from rfl)
      generalize c.toNat = n at *
      go_cut [36] (fun r wx => r = .bool (!chB k c) ∧ wx = w)
      case first =>
        go_wp2
        all_goals go_meet
        all_goals
          refine ⟨congrArg Value.bool ?_, rfl⟩
          rw [HC.out, Bool.eq_iff_iff]
          simp only [Bool.or_eq_true, Bool.and_eq_true, decide_eq_true_eq, beq_iff_eq, eq_self, Bool.false_eq_true, true_iff, false_iff, Bool.not_eq_true', Bool.or_eq_false_iff, Bool.and_eq_false_iff, decide_eq_false_iff_not, beq_eq_false_iff_ne, ne_eq, Bool.true_eq_false]
          omega
      case rest =>
        obtain ⟨rfl, rfl⟩ := hcut
        cases hb : chB k c with
        | true =>
          go_wp2
          go_round
          case rel => exact ⟨k + 1, by omega, by go_num, Lib.hid (by rw [HT.out, H.out, hb]; rfl)⟩
          case measure => simp [intOf]; omega
        | false =>
          have HF := Lib.hid (show wordF s = false by rw [wordF, chars_false (k := k + 1) (by rw [HT.out, hb, Bool.and_false])]; rfl)
          go_wp2
          go_ret
          exact ⟨Ret1 (by rw [HF.out]; rfl), rfl⟩
    · have i1 : ¬ (k : Int) < (s.length : Int) := by omega
      have hE : s.take k = s := List.take_of_length_le (by omega)
      rw [hE] at H
      have HW := Lib.hid (show wordF s = (decide ((s.length : Int) ≥ 1) && decide ((s.length : Int) ≤ 32)) by
        rw [wordF, H.out, Bool.true_and, show decide (s.length ≤ 32) = decide ((s.length : Int) ≤ 32) from by simp only [decide_eq_decide]; omega]
        congr 1
        cases s with
        | nil => rfl
        | cons a b => simp; omega)
      clear hE
      go_wp2
      all_goals
        go_ret
        refine ⟨Ret1 (congrArg Value.bool ?_), rfl⟩
        rw [HW.out, Bool.eq_iff_iff]
        simp only [Bool.and_eq_true, decide_eq_true_eq, eq_self, Bool.false_eq_true, true_iff, false_iff, ge_iff_le]
        omega
theorem has_out {xs : List Str} {s : Str} (h : ∀ j, j < xs.length → ¬ (xs[j]?.getD []) = s) : hasStr xs s = false := by
  rw [← contains_indexOf, indexOf_none h]; rfl
theorem has_in {xs : List Str} {s : Str} {k : Nat} (hk : k < xs.length) (he : (xs[k]?.getD []) = s) : hasStr xs s = true := by
  rw [hasStr, List.contains_iff_mem, ← he, List.getElem?_eq_getElem hk]
  exact List.getElem_mem hk
set_option maxHeartbeats 800000 in
theorem has_calls {m : Mem} (w : World) (hw : m.ok w) {v : Value} {xs : List Str} (h : RdStrs m v xs) (hl : xs.length ≤ 1000000000000) (s : Str) :
    Calls Tryd.prog 75 #[v, .string ⟨s.toArray⟩] w fun e w' => e = .returned (.bool (hasStr xs s)) ∧ w = w' := by
  obtain ⟨A, c, rfl⟩ := rdstrs_form h
  have hc := (strs_cell hw h).2.2
  clear h
  go_enter Tryd.func75, Tryd.ntmps75
  go_wp2
  go_loop [5] (fun r => ∃ k : Nat, k ≤ xs.length ∧ r = .int .i64 k ∧ Hid (∀ j, j < k → ¬ (xs[j]?.getD []) = s)) (fun r => xs.length - (intOf r).toNat)
  case atStart => exact ⟨0, Nat.zero_le _, rfl, fun j hj => by omega⟩
  case round =>
    obtain ⟨k, hk, rfl, Hall⟩ := hrel
    by_cases hlt : k < xs.length
    · rcases hc with rfl | ⟨b, o, rfl, hc⟩
      · simp at hlt
      · have hck := hc k hlt
        have Hc := Lib.hid hc
        clear hc
        have hki : (k : Int) < (xs.length : Int) := by omega
        have hki0 : (0 : Int) ≤ (k : Int) := by omega
        by_cases he : (xs[k]?.getD []) = s
        · have he' : ((xs[k]?.getD []) == s) = true := by simp [he]
          have Hfin := Lib.hid (has_in hlt he)
          clear he
          generalize hx : xs[k]?.getD [] = x at *
          clear hx
          go_wp2
          go_ret
          exact ⟨Ret1 (by rw [Hfin.out]; rfl), rfl⟩
        · have he' : ((xs[k]?.getD []) == s) = false := by simpa using he
          have Hn := Lib.hid (show ∀ j, j < k + 1 → ¬ (xs[j]?.getD []) = s from fun j hj => by
            rcases Nat.lt_succ_iff_lt_or_eq.1 hj with h1 | rfl
            · exact Hall.out j h1
            · exact he)
          clear he
          generalize hx : xs[k]?.getD [] = x at *
          have Hx := Lib.hid hx
          clear hx
          go_wp2
          go_round
          case rel => exact ⟨k + 1, by omega, by go_num, Hn⟩
          case measure => simp [intOf]; omega
    · have hki : ¬ (k : Int) < (xs.length : Int) := by omega
      have : k = xs.length := by omega
      subst this
      have Hfin := Lib.hid (has_out Hall.out)
      go_wp2
      go_ret
      exact ⟨Ret1 (by rw [Hfin.out]; rfl), rfl⟩
end Go.Proofs.YtlfimcpceiemnaaDoor

/- tok.Raw, policy.never, policy.word. -/
import Derived.Test.YtlfimcpceiemnaaDoorPolSpec
set_option linter.unusedVariables false
namespace Go.Proofs.YtlfimcpceiemnaaDoor
open Go Go.RowKit

set_option maxHeartbeats 400000 in
theorem raw_calls (s : Str) (w : World) : Calls Tryd.prog 61 #[.string ⟨s.toArray⟩] w fun e w' => e = .returned (.tuple #[.bool (rawF s), .bool (rawG s)]) ∧ w = w' := by
  go_enter Tryd.func61, Tryd.ntmps61
  go_wp2
  all_goals
    go_ret2
    exact ⟨Ret1 (by simp_all [rawF, rawG, rawNames1, rawNames2]), rfl⟩
set_option maxHeartbeats 800000 in
theorem never_calls (s : Str) (w : World) : Calls Tryd.prog 40 #[.string ⟨s.toArray⟩] w fun e w' => e = .returned (.bool (neverF s)) ∧ w = w' := by
  go_enter Tryd.func40, Tryd.ntmps40
  go_wp2_with (go_at_call 61; refine (raw_calls s w).mono ?_; rintro e w' ⟨rfl, rfl⟩)
  all_goals
    go_ret
    exact ⟨Ret1 (by simp_all [neverF, neverNames]), rfl⟩
theorem byte_at {s : Str} {k : Nat} (h : k < s.length) : ∃ c, s[k]? = some c ∧ (⟨s.toArray⟩ : ByteArray).size = s.length := ⟨_, List.getElem?_eq_getElem h, by simp [ByteArray.size]⟩
set_option maxHeartbeats 800000 in
theorem word_calls (s : Str) (hs : s.length ≤ 1000000000000) (w : World) : Calls Tryd.prog 39 #[.string ⟨s.toArray⟩] w fun e w' => e = .returned (.bool (wordF s)) ∧ w = w' := by
  go_enter Tryd.func39, Tryd.ntmps39
  go_wp2
  go_loop [7] (fun i => ∃ k : Nat, k ≤ s.length ∧ i = .int .i64 k ∧ Hid (chars 0 (s.take k) = true)) (fun i => s.length - (intOf i).toNat)
  case atStart => exact ⟨0, Nat.zero_le _, rfl, rfl⟩
  case round =>
    obtain ⟨k, hk, rfl, H⟩ := hrel
    by_cases hlt : k < s.length
    · have i1 : (k : Int) < (s.length : Int) := by omega
      have i2 : (0 : Int) ≤ (k : Int) := by omega
      obtain ⟨c, hc⟩ : ∃ c, s[k]? = some c := ⟨_, List.getElem?_eq_getElem hlt⟩
      have HT := Lib.hid (chars_take hc)
      go_upto_region 5 with fail
      have hx : ((⟨s.toArray⟩ : ByteArray)[k]'(by simpa [ByteArray.size] using hlt)).toNat = c.toNat := congrArg UInt8.toNat (Option.some.inj ((List.getElem?_eq_getElem hlt).symm.trans hc))
      rw [hx]
      have hlim := c.toNat_lt
      have HC := Lib.hid (show chB k c = ((decide (97 ≤ c.toNat) && decide (c.toNat ≤ 122)) || (decide (0 < k) && ((decide (48 ≤ c.toNat) && decide (c.toNat ≤ 57)) || decide (c.toNat = 45)))) from rfl)
      generalize c.toNat = n at *
      go_cut [34] (fun r wx => r = .bool (chB k c) ∧ wx = w)
      case first =>
        go_wp2
        all_goals go_meet
        all_goals
          refine ⟨congrArg Value.bool ?_, rfl⟩
          rw [HC.out, Bool.eq_iff_iff]
          simp only [Bool.or_eq_true, Bool.and_eq_true, decide_eq_true_eq, beq_iff_eq, eq_self, Bool.false_eq_true, true_iff, false_iff]
          omega
      case rest =>
        obtain ⟨rfl, rfl⟩ := hcut
        cases hb : chB k c with
        | true =>
          go_wp2
          go_round
          case rel => exact ⟨k + 1, by omega, by go_num, Lib.hid (by rw [HT.out, H.out, hb]; rfl)⟩
          case measure => simp [intOf]; omega
        | false =>
          have HF := Lib.hid (show wordF s = false by rw [wordF, chars_false (k := k + 1) (by rw [HT.out, hb, Bool.and_false])]; rfl)
          go_wp2
          go_ret
          exact ⟨Ret1 (by rw [HF.out]; rfl), rfl⟩
    · have i1 : ¬ (k : Int) < (s.length : Int) := by omega
      have hE : s.take k = s := List.take_of_length_le (by omega)
      rw [hE] at H
      have HW := Lib.hid (show wordF s = (!s.isEmpty && decide ((s.length : Int) ≤ 32)) by rw [wordF, H.out, Bool.true_and, show decide (s.length ≤ 32) = decide ((s.length : Int) ≤ 32) from by simp only [decide_eq_decide]; omega])
      clear hE
      go_wp2
      all_goals
        go_ret
        exact ⟨Ret1 (by first | (rw [HW.out]; rfl) | rfl), rfl⟩
end Go.Proofs.YtlfimcpceiemnaaDoor

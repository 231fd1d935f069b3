/- versoref08.attr. -/
import Derived.Test.YtlfimcpceiemnaaDoorPolW4
set_option linter.unusedVariables false
namespace Go.Proofs.YtlfimcpceiemnaaDoor
open Go Go.RowKit

theorem ext_take (s : Str) (j : Nat) : (⟨s.toArray⟩ : ByteArray).extract 0 j = ⟨(s.take j).toArray⟩ := by
  apply ByteArray.ext
  simp [List.extract_eq_drop_take']
theorem ext_drop (s : Str) (i : Nat) : (⟨s.toArray⟩ : ByteArray).extract i s.length = ⟨(s.drop i).toArray⟩ := by
  apply ByteArray.ext
  simp [List.extract_eq_drop_take']
set_option maxHeartbeats 1600000 in
theorem rattr_calls {m : Mem} (w : World) (hw : m.ok w) {v : Value} {xs : List Str} (h : RdStrs m v xs) (hl : xs.length ≤ 1000000000000) (s : Str) (hs : s.length ≤ 1000000000000) :
    Calls Tryd.prog 74 #[.string ⟨s.toArray⟩, v] w fun e w' => e = .returned (.bool (attrF xs s)) ∧ w = w' := by
  have HH := Lib.hid (fun x => has_calls w hw h hl x)
  obtain ⟨A, c, rfl⟩ := rdstrs_form h
  go_enter Tryd.func74, Tryd.ntmps74
  go_wp2
  go_loop [5] (fun r => ∃ k : Nat, k ≤ s.length ∧ r = .int .i64 k ∧ Hid (∀ j c, j < k → s[j]? = some c → c ≠ 46)) (fun r => s.length - (intOf r).toNat)
  case atStart => exact ⟨0, Nat.zero_le _, rfl, fun j c hj => by omega⟩
  case round =>
    obtain ⟨k, hk, rfl, HK⟩ := hrel
    by_cases hlt : k < s.length
    · have i1 : (k : Int) < (s.length : Int) := by omega
      have i2 : (0 : Int) ≤ (k : Int) := by omega
      obtain ⟨c, hc⟩ : ∃ c, s[k]? = some c := ⟨_, List.getElem?_eq_getElem hlt⟩
      by_cases hd : c = 46
      · subst hd
        have HD := Lib.hid (dot_some hc HK.out)
        go_upto_if 17 with fail
        have hx : ((⟨s.toArray⟩ : ByteArray)[k]'(by simpa [ByteArray.size] using hlt)).toNat = (46 : UInt8).toNat := congrArg UInt8.toNat (Option.some.inj ((List.getElem?_eq_getElem hlt).symm.trans hc))
        rw [hx]
        have HF := Lib.hid (show attrF xs s = (((s.take k == cStar) || hasStr xs (s.take k)) && attrW (s.drop (k + 1))) by rw [attrF, HD.out])
        have HO := Lib.hid (onB_eq (s.drop (k + 1)))
        have hel := ext_take s k
        have hal : (s.drop (k + 1)).length ≤ s.length := by rw [List.length_drop]; omega
        go_upto_region 6 with fail
        rw [ext_drop]
        have hp : (s.take k).length ≤ s.length := by rw [List.length_take]; omega
        generalize s.take k = p at *
        generalize s.drop (k + 1) = a at *
        have hta := ext_take a 2
        go_cut [7] (fun r wx => r = .bool (onB a) ∧ wx = w)
        case first =>
          by_cases q : (a.length : Int) > 1
          · go_wp2
            all_goals go_meet
            all_goals
              refine ⟨?_, rfl⟩
              rw [HO.out, decide_eq_true q, Bool.true_and]
          · go_wp2
            all_goals go_meet
            all_goals
              refine ⟨?_, rfl⟩
              rw [HO.out, decide_eq_false (by omega), Bool.false_and]
        case rest =>
          obtain ⟨rfl, rfl⟩ := hcut
          have HWd := Lib.hid (fun w => rword_calls a (by omega) w)
          have HF2 := Lib.hid (show attrF xs s = ((p == [42] || hasStr xs p) && (wordF a && !onB a && a != [115, 114, 99, 100, 111, 99] && a != [102, 111, 114, 109, 97, 99, 116, 105, 111, 110] && a != [115, 116, 121, 108, 101])) from HF.out)
          clear HO hta HF
          have Hob := HF2.out
          clear HF2
          generalize onB a = ob at *
          have HF2 := Lib.hid Hob
          clear Hob
          go_wp2_with (first | (go_at_call 75; refine (HH.out _).mono ?_; rintro e w' ⟨rfl, rfl⟩) | (go_at_call 89; refine (HWd.out _).mono ?_; rintro e w' ⟨rfl, rfl⟩))
          all_goals
            go_ret
            refine ⟨Ret1 ?_, rfl⟩
            rw [HF2.out]
            clear HWd HH HD hc hal hp hel
            simp_all [bne]
      · have HN := Lib.hid (show ∀ j d, j < k + 1 → s[j]? = some d → d ≠ 46 from fun j d hj hd2 => by
          rcases Nat.lt_succ_iff_lt_or_eq.1 hj with h1 | rfl
          · exact HK.out j d h1 hd2
          · rw [hc] at hd2; injection hd2 with hd2; subst hd2; exact hd)
        have hn : ((c.toNat : Nat) : Int) ≠ 46 := fun e => hd (UInt8.toNat_inj.1 (by simpa using (by exact_mod_cast e : c.toNat = 46)))
        go_upto_if 17 with fail
        have hx : ((⟨s.toArray⟩ : ByteArray)[k]'(by simpa [ByteArray.size] using hlt)).toNat = c.toNat := congrArg UInt8.toNat (Option.some.inj ((List.getElem?_eq_getElem hlt).symm.trans hc))
        rw [hx]
        generalize c.toNat = n at *
        have hn2 : ((n : Int) != 46) = true := by simpa using hn
        go_wp2
        go_round
        case rel => exact ⟨k + 1, by omega, by go_num, HN⟩
        case measure => simp [intOf]; omega
    · have i1 : ¬ (k : Int) < (s.length : Int) := by omega
      have : k = s.length := by omega
      subst this
      have HF := Lib.hid (show attrF xs s = false by rw [attrF, dot_none HK.out])
      go_wp2
      go_ret
      exact ⟨Ret1 (by rw [HF.out]; rfl), rfl⟩
end Go.Proofs.YtlfimcpceiemnaaDoor

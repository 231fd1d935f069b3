/- versoref08.rises, words. -/
import Derived.Test.YtlfimcpceiemnaaDoorPolW3
set_option linter.unusedVariables false
namespace Go.Proofs.YtlfimcpceiemnaaDoor
open Go Go.RowKit

set_option maxHeartbeats 800000 in
theorem rises_calls {m : Mem} (w : World) (hw : m.ok w) {v : Value} {xs : List Str} (h : RdStrs m v xs) (hl : xs.length ≤ 1000000000000) :
    Calls Tryd.prog 72 #[v] w fun e w' => e = .returned (.bool (risesF xs)) ∧ ∃ n, w' = w.drewN n := by
  obtain ⟨A, c, rfl⟩ := rdstrs_form h
  go_enter Tryd.func72, Tryd.ntmps72
  go_wp2
  go_loopw [3] (fun r wr => ∃ k : Nat, 1 ≤ k ∧ (k ≤ xs.length ∨ k = 1) ∧ r = .int .i64 k ∧ m.ok wr ∧ Hid (∃ n, wr = w.drewN n) ∧ Hid (risK xs k = true)) (fun r _ => xs.length - (intOf r).toNat)
  case atStart => exact ⟨1, Nat.le_refl _, .inr rfl, rfl, hw, ⟨0, rfl⟩, rfl⟩
  case round =>
    rename World => wr
    obtain ⟨k, hk1, hk, rfl, hok, HR, HK⟩ := hrel
    have hc := (strs_cell hok h).2.2
    by_cases hlt : k < xs.length
    · rcases hc with rfl | ⟨b, o, rfl, hc⟩
      · simp at hlt
      · have hck := hc k hlt
        have hck1 := hc (k - 1) (by omega)
        have e1 : ((k - 1 : Nat) : Int) = (k : Int) - 1 := by omega
        have hki : (k : Int) < (xs.length : Int) := by omega
        have hki0 : (0 : Int) ≤ (k : Int) := by omega
        have hki1 : (0 : Int) ≤ (k : Int) - 1 := by omega
        have hki2 : (k : Int) - 1 < (xs.length : Int) := by omega
        have hw1 : IntKind.i64.wrap ((k : Int) - 1) = (k : Int) - 1 := IntWalk.i64_in _ ⟨by omega, by omega⟩
        have e2 : ((k : Int) - 1).toNat = k - 1 := by omega
        have HS := Lib.hid (show risK xs (k + 1) = Op.bytesLess (xs[k - 1]?.getD []) (xs[k]?.getD []) by
          rw [risK, HK.out, Bool.true_and, show (k == 0) = false from by simp; omega, Bool.false_or])
        have hok2 := fun n => hok.ch ((Ch.refl (fun _ => False) wr).drewN n) (fun _ hk => hk.elim)
        clear hc
        generalize xs[k]?.getD [] = x at *
        generalize xs[k - 1]?.getD [] = y at *
        clear h
        cases hb : Op.bytesLess y x with
        | true =>
          go_wp2
          go_quiet (fail)
          go_wp2
          go_roundw
          case rel =>
            refine ⟨k + 1, by omega, .inl (by omega), by go_num, hok2 _, Lib.hid ?_, Lib.hid (by rw [HS.out, hb])⟩
            obtain ⟨n, hn⟩ := HR.out
            subst hn
            exact ⟨_, by simp; rfl⟩
          case measure => simp [intOf]; omega
        | false =>
          have HF := Lib.hid (rises_false (show k + 1 ≤ xs.length by omega) (HS.out.trans hb))
          go_wp2
          go_quiet (fail)
          go_wp2
          go_ret
          refine ⟨Ret1 (by rw [HF.out]; rfl), ?_⟩
          obtain ⟨n, hn⟩ := HR.out
          subst hn
          exact ⟨_, by simp; rfl⟩
    · have hki : ¬ (k : Int) < (xs.length : Int) := by omega
      have HF := Lib.hid (show risesF xs = decide ((xs.length : Int) ≤ 64) by
        have h1 : risK xs xs.length = true := by
          rcases hk with hk | hk
          · have : k = xs.length := by omega
            rw [← this]; exact HK.out
          · have : xs.length = 0 ∨ xs.length = 1 := by omega
            rcases this with e | e <;> rw [e] <;> rfl
        rw [risesF, h1, Bool.true_and]
        simp only [decide_eq_decide]; omega)
      go_wp2
      go_ret
      exact ⟨Ret1 (by rw [HF.out]; rfl), HR.out⟩
set_option maxHeartbeats 800000 in
theorem words_calls {m : Mem} (w : World) (hw : m.ok w) {v : Value} {xs : List Str} (h : RdStrs m v xs) (hl : xs.length ≤ 1000000000000) (hx : ∀ x ∈ xs, x.length ≤ 1000000000000) :
    Calls Tryd.prog 71 #[v] w fun e w' => e = .returned (.bool (xs.all wordF && risesF xs)) ∧ ∃ n, w' = w.drewN n := by
  obtain ⟨A, c, rfl⟩ := rdstrs_form h
  have hc := (strs_cell hw h).2.2
  go_enter Tryd.func71, Tryd.ntmps71
  go_wp2
  go_loop [3] (fun r => ∃ k : Nat, k ≤ xs.length ∧ r = .int .i64 k ∧ Hid ((xs.take k).all wordF = true)) (fun r => xs.length - (intOf r).toNat)
  case atStart => exact ⟨0, Nat.zero_le _, rfl, rfl⟩
  case round =>
    obtain ⟨k, hk, rfl, HK⟩ := hrel
    by_cases hlt : k < xs.length
    · rcases hc with rfl | ⟨b, o, rfl, hc⟩
      · simp at hlt
      · have hck := hc k hlt
        obtain ⟨x, hxk⟩ : ∃ x, xs[k]? = some x := ⟨_, List.getElem?_eq_getElem hlt⟩
        rw [hxk, Option.getD_some] at hck
        have hki : (k : Int) < (xs.length : Int) := by omega
        have hki0 : (0 : Int) ≤ (k : Int) := by omega
        have HC := Lib.hid (rword_calls x (hx x (List.mem_of_getElem? hxk)) w)
        have HT := Lib.hid (all_take (f := wordF) hxk)
        have HA := Lib.hid (fun hf => all_false (f := wordF) hxk hf)
        clear hc hxk h hx
        cases hb : wordF x with
        | true =>
          go_wp2_with (go_at_call 89; refine HC.out.mono ?_; rintro e w' ⟨rfl, rfl⟩)
          go_round
          case rel => exact ⟨k + 1, by omega, by go_num, Lib.hid (by rw [HT.out, HK.out, hb]; rfl)⟩
          case measure => simp [intOf]; omega
        | false =>
          go_wp2_with (go_at_call 89; refine HC.out.mono ?_; rintro e w' ⟨rfl, rfl⟩)
          go_ret
          exact ⟨Ret1 (by rw [HA.out hb]; rfl), 0, rfl⟩
    · have hki : ¬ (k : Int) < (xs.length : Int) := by omega
      have hE : xs.take k = xs := List.take_of_length_le (by omega)
      rw [hE] at HK
      clear hE hc
      go_wp2_with fail
      refine (rises_calls w hw h hl).mono ?_
      rintro e w1 ⟨rfl, hn⟩
      go_wp2
      go_ret
      exact ⟨Ret1 (by rw [HK.out]; rfl), hn⟩
end Go.Proofs.YtlfimcpceiemnaaDoor

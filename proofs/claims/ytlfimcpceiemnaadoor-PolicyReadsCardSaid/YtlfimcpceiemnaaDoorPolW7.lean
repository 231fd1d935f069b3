/- policy.list: with whatever function of strings. -/
import Derived.Test.YtlfimcpceiemnaaDoorPolW6
set_option linter.unusedVariables false
namespace Go.Proofs.YtlfimcpceiemnaaDoor
open Go Go.RowKit

def listK (F : Str → Bool) (xs : List Str) (k : Nat) : Bool := risK xs k && (xs.take k).all F
def listF (F : Str → Bool) (xs : List Str) : Bool := xs.all F && risesF xs
theorem listF_false {F : Str → Bool} {xs : List Str} {k : Nat} (hk : k ≤ xs.length) (h : listK F xs k = false) : listF F xs = false := by
  rw [listK, Bool.and_eq_false_iff] at h
  rw [listF, Bool.and_eq_false_iff]
  rcases h with h | h
  · exact .inr (rises_false hk h)
  · left
    rw [List.all_eq_false] at h ⊢
    obtain ⟨x, hx, hf⟩ := h
    exact ⟨x, List.mem_of_mem_take hx, hf⟩
theorem listK_step {F : Str → Bool} {xs : List Str} {k : Nat} {x : Str} (h : xs[k]? = some x) (hk : listK F xs k = true) :
    listK F xs (k + 1) = ((k == 0 || Op.bytesLess (xs[k - 1]?.getD []) x) && F x) := by
  rw [listK, Bool.and_eq_true] at hk
  rw [listK, risK, all_take h, hk.1, hk.2, h, Option.getD_some]; rfl
set_option maxHeartbeats 1600000 in
theorem list_calls {m : Mem} (w : World) (hw : m.ok w) {v : Value} {xs : List Str} (h : RdStrs m v xs) (hl : xs.length ≤ 1000000000000) (fid : FuncId) (caps : Array Value) (F : Str → Bool)
    (he : ∀ args w, (callFunc fid args).run Tryd.prog w = .ok (.enter fid args) w)
    (hcall : ∀ (w' : World) (x : Str), m.ok w' → x ∈ xs → Calls Tryd.prog fid (#[.string ⟨x.toArray⟩] ++ caps) w' fun e w'' => e = .returned (.bool (F x)) ∧ ∃ n, w'' = w'.drewN n) :
    Calls Tryd.prog 37 #[v, .func (.func fid) #[] caps] w fun e w' => e = .returned (.bool (listF F xs)) ∧ ∃ n, w' = w.drewN n := by
  have HC := Lib.hid hcall
  clear hcall
  obtain ⟨A, c, rfl⟩ := rdstrs_form h
  go_enter Tryd.func37, Tryd.ntmps37
  go_wp2
  go_loopw [9] (fun r wr => ∃ k : Nat, k ≤ xs.length ∧ r = .int .i64 k ∧ m.ok wr ∧ Hid (∃ n, wr = w.drewN n) ∧ Hid (listK F xs k = true)) (fun r _ => xs.length - (intOf r).toNat)
  case atStart => exact ⟨0, Nat.zero_le _, rfl, hw, ⟨0, rfl⟩, rfl⟩
  case round =>
    rename World => wr
    obtain ⟨k, hk, rfl, hok, HR, HK⟩ := hrel
    have hc := (strs_cell hok h).2.2
    by_cases hlt : k < xs.length
    · rcases hc with rfl | ⟨b, o, rfl, hc⟩
      · simp at hlt
      · have hck := hc k hlt
        have hck1 := hc (k - 1) (by omega)
        obtain ⟨x, hxk⟩ : ∃ x, xs[k]? = some x := ⟨_, List.getElem?_eq_getElem hlt⟩
        have HS := Lib.hid (listK_step hxk HK.out)
        have HCx := Lib.hid (HC.out wr x hok (List.mem_of_getElem? hxk))
        have HM := Lib.hid (fun n => hok.ch ((Ch.refl (fun _ => False) wr).drewN n) (fun _ hk => hk.elim))
        rw [hxk, Option.getD_some] at hck
        have hki : (k : Int) < (xs.length : Int) := by omega
        have hki0 : (0 : Int) ≤ (k : Int) := by omega
        clear hc hxk
        generalize xs[k - 1]?.getD [] = y at *
        by_cases h0 : k = 0
        · have hz : ¬ (0 : Int) < (k : Int) := by omega
          have HS2 := Lib.hid (show listK F xs (k + 1) = F x by rw [HS.out, h0]; rfl)
          clear hck1 h0
          go_wp2_with fail
          refine HCx.out.mono ?_
          rintro e w' ⟨rfl, n1, rfl⟩
          cases hb : F x with
          | true =>
            go_wp2
            go_roundw
            case rel =>
              refine ⟨k + 1, by omega, by go_num, HM.out _, Lib.hid ?_, Lib.hid (HS2.out.trans hb)⟩
              obtain ⟨n, hn⟩ := HR.out
              subst hn
              exact ⟨_, by simp; rfl⟩
            case measure => simp [intOf]; omega
          | false =>
            have HF := Lib.hid (listF_false (show k + 1 ≤ xs.length by omega) (HS2.out.trans hb))
            go_wp2
            go_ret
            refine ⟨Ret1 (by rw [HF.out]; rfl), ?_⟩
            obtain ⟨n, hn⟩ := HR.out
            subst hn
            exact ⟨_, by simp; rfl⟩
        · have hz : (0 : Int) < (k : Int) := by omega
          have e1 : ((k - 1 : Nat) : Int) = (k : Int) - 1 := by omega
          have hki1 : (0 : Int) ≤ (k : Int) - 1 := by omega
          have hki2 : (k : Int) - 1 < (xs.length : Int) := by omega
          have hw1 : IntKind.i64.wrap ((k : Int) - 1) = (k : Int) - 1 := IntWalk.i64_in _ ⟨by omega, by omega⟩
          have e2 : ((k : Int) - 1).toNat = k - 1 := by omega
          cases hl : Op.bytesLess y x with
          | false =>
            have HF := Lib.hid (listF_false (F := F) (show k + 1 ≤ xs.length by omega) (HS.out.trans (by rw [hl, show (k == 0) = false from by simpa using h0]; rfl)))
            clear h0
            go_wp2_with fail
            go_ret
            exact ⟨Ret1 (by rw [HF.out]; rfl), HR.out⟩
          | true =>
            have HS2 := Lib.hid (show listK F xs (k + 1) = F x by rw [HS.out, hl, Bool.or_true, Bool.true_and])
            clear h0
            go_wp2_with fail
            refine HCx.out.mono ?_
            rintro e w' ⟨rfl, n1, rfl⟩
            cases hb : F x with
            | true =>
              go_wp2
              go_roundw
              case rel =>
                refine ⟨k + 1, by omega, by go_num, HM.out _, Lib.hid ?_, Lib.hid (HS2.out.trans hb)⟩
                obtain ⟨n, hn⟩ := HR.out
                subst hn
                exact ⟨_, by simp; rfl⟩
              case measure => simp [intOf]; omega
            | false =>
              have HF := Lib.hid (listF_false (show k + 1 ≤ xs.length by omega) (HS2.out.trans hb))
              go_wp2
              go_ret
              refine ⟨Ret1 (by rw [HF.out]; rfl), ?_⟩
              obtain ⟨n, hn⟩ := HR.out
              subst hn
              exact ⟨_, by simp; rfl⟩
    · have hki : ¬ (k : Int) < (xs.length : Int) := by omega
      have HF := Lib.hid (show listF F xs = decide ((xs.length : Int) ≤ 64) by
        have h1 : k = xs.length := by omega
        have h2 := HK.out
        rw [listK, h1, List.take_length, Bool.and_eq_true] at h2
        rw [listF, h2.2, risesF, h2.1, Bool.true_and, Bool.true_and]
        simp only [decide_eq_decide]; omega)
      go_wp2
      go_ret
      exact ⟨Ret1 (by rw [HF.out]; rfl), HR.out⟩
end Go.Proofs.YtlfimcpceiemnaaDoor

/- dom's builder, walked: inner. -/
import Derived.Test.YtlfimcpceiemnaaDomW5
import Derived.WalkMore
set_option linter.unusedVariables false
namespace Go.Proofs.Ytlfimcpceiemnaa
open Go Go.RowKit

theorem atS_get {t : List Node} {k : Nat} (hk : k < t.length) : t.reverse[k]? = some (atS t k) := by
  unfold atS
  rw [List.getD_eq_getElem?_getD, List.getElem?_eq_getElem (by simpa using hk)]
  rfl
theorem drop_at {t : List Node} {k : Nat} (hk : k < t.length) : t.drop (t.length - 1 - k) = atS t k :: t.drop (t.length - k) := by
  have h := atS_get hk
  rw [List.getElem?_reverse hk, List.getElem?_eq_getElem (by omega)] at h
  injection h with h
  rw [List.drop_eq_getElem_cons (by omega), h]
  congr 2
  omega
theorem innerS_drop (names : List Str) {t : List Node} {k : Nat} (h0 : 0 < k) (hk : k < t.length) :
    innerS names (t.drop (t.length - 1 - k)) = if hasStr names (atS t k).name then k else innerS names (t.drop (t.length - 1 - (k - 1))) := by
  rw [drop_at hk]
  have h1 := drop_at (t := t) (k := k - 1) (by omega)
  rw [show t.length - k = t.length - 1 - (k - 1) from by omega, h1]
  have hl : (atS t (k - 1) :: t.drop (t.length - (k - 1))).length = k := by rw [← h1]; simp; omega
  simp only [innerS]
  simp only [List.length_cons] at hl
  rw [hl]
theorem innerS_end (names : List Str) {t : List Node} (hk : 0 < t.length) : innerS names (t.drop (t.length - 1 - 0)) = 0 := by
  rw [drop_at hk, List.drop_of_length_le (by omega)]
  rfl

set_option maxHeartbeats 800000 in
theorem inner_calls {m : Mem} {w : World} {base g : Nat} {t : List Node} {many : Int} {over : Bool} {vo : Value} {oc : List Value} {ks : List KRow} (h : IsB m w base g t.reverse many over vo oc ks)
    (ht : 0 < t.length) (hl : t.length ≤ 1000000) {v : Value} {names : List Str} {m' : Mem} (hm : m'.ok w) (hv : RdStrs m' v names) (hnl : names.length ≤ 1000) :
    Calls Try.prog 23 #[.pointer (some ⟨g, 0, none⟩), v] w fun e w' => e = .returned (.int .i64 (innerS names t)) ∧ w = w' := by
  obtain ⟨b, cap, hvo, hcap, hob, hbb, hcells, hfro⟩ := own_cells h.row (by simpa using ht)
  rw [List.length_reverse] at hvo hcap
  subst hvo
  have x0 : w.cell? ⟨g, 0, none⟩ = some (.slice (some ⟨b, 0, none⟩) t.length cap) := by rw [cell_of_row w g 0 _ _ _ h.obj]; rfl
  have Hname : Hid (∀ k, k < t.length → w.cell? ⟨b, k * 5 + 4, none⟩ = some (.string ⟨(atS t k).name.toArray⟩)) := Lib.hid fun k hk => by
    rw [Nat.mul_comm]
    exact hcells _ _ (h.els.name k _ (atS_get hk))
  obtain ⟨A, c, rfl⟩ := rdstrs_form hv
  clear hcells hfro hob h
  have Hz := Lib.hid (innerS_end names ht)
  go_enter Try.func23, Try.ntmps23
  go_wp2
  go_step3
  go_wp2
  go_step3
  go_wp2
  go_loop [5, 6] (fun r i => ∃ k : Nat, k < t.length ∧ i = .int .i64 k ∧ r = .int .i64 0 ∧ Hid (innerS names (t.drop (t.length - 1 - k)) = innerS names t)) (fun _ i => (intOf i).toNat)
  case atStart => exact ⟨t.length - 1, by omega, by go_num, rfl, Lib.hid (by simp)⟩
  case round =>
    obtain ⟨k, hk, rfl, rfl, He⟩ := hrel
    by_cases h0 : 0 < k
    · have hki : (0 : Int) < (k : Int) := by omega
      have hki0 : (0 : Int) ≤ (k : Int) := by omega
      have hki1 : (k : Int) < (t.length : Int) := by omega
      have hnm := Hname.out k hk
      have Hs := Lib.hid (innerS_drop names h0 hk)
      generalize (atS t k).name = nm at *
      go_wp2_with fail
      refine (contains_calls w hm hv (by omega) nm).mono ?_
      rintro e w' ⟨rfl, rfl⟩
      by_cases hc : hasStr names nm = true
      · have Hfin := Lib.hid (show innerS names t = k by rw [← He.out, Hs.out, if_pos hc])
        clear Hs
        rw [hc]
        go_wp2
        rw [Exit.noGoto_ret]
        go_ret
        exact ⟨Ret1 (by simp [Hfin.out]), rfl⟩
      · have hc' : hasStr names nm = false := by simpa using hc
        have Hfin := Lib.hid (show innerS names (t.drop (t.length - 1 - (k - 1))) = innerS names t by rw [← He.out, Hs.out, if_neg hc])
        clear Hs hc
        rw [hc']
        go_wp2
        go_round
        case rel => exact ⟨k - 1, by omega, by go_num, rfl, Hfin⟩
        case measure => simp [intOf]; omega
    · obtain rfl : k = 0 := by omega
      have Hfin := Lib.hid (show innerS names t = 0 by rw [← He.out, Hz.out])
      go_wp2
      go_ret
      exact ⟨Ret1 (by simp [Hfin.out]), rfl⟩

end Go.Proofs.Ytlfimcpceiemnaa

/- Lists of strings: slices.Index, slices.Contains. -/
import Derived.Test.YtlfimcpceiemnaaDoorRep
import Derived.Test.YtlfimcpceiemnaaDoorProg
import Derived.WalkKit
import Derived.WalkLawsBesides
import Derived.Outline
import Derived.Deep.QuietTactic
import Derived.BigQuiet
import Derived.BigRegion
import Derived.Deep.RegionLaw
import Derived.Deep.AppendLies
import Derived.KernelRfl
import Derived.Lib.Hide
import Derived.Maps.AppendAt
import Derived.Deep.CutBlock
import Derived.Deep.DeepCutAuto
import Derived.WalkMore
import Derived.WalkSpells
import Derived.WalkSmall
import Derived.Deep.RegionWith
import Derived.Carry
set_option linter.unusedVariables false
namespace Go.Proofs.YtlfimcpceiemnaaDoor
open Go Go.RowKit

def hasStr (xs : List Str) (s : Str) : Bool := xs.contains s
theorem Ret1 {a b : Value} (h : a = b) : Ending.returned a = Ending.returned b := by rw [h]
/-- Where a string stands in a list first; -1: nowhere. -/
def indexOf (xs : List Str) (s : Str) : Int := match xs.findIdx? (· == s) with | some i => i | none => -1
theorem strs_cell {m : Mem} {w : World} (hw : m.ok w) {A : Option Addr} {n c : Nat} {xs : List Str} (h : RdStrs m (.slice A n c) xs) : n = xs.length ∧ n ≤ c ∧
    (xs = [] ∨ ∃ b o, A = some ⟨b, o, none⟩ ∧ ∀ k, k < xs.length → w.cell? ⟨b, o + k, none⟩ = some (.string ⟨(xs[k]?.getD []).toArray⟩)) := by
  obtain ⟨h1, A', c', hv, hc, hr0⟩ := h
  injection hv with e1 e2 e3
  subst e1 e2 e3
  refine ⟨rfl, hc.1, ?_⟩
  rcases Nat.eq_zero_or_pos xs.length with h0 | h0
  · exact .inl (List.eq_nil_of_length_eq_zero h0)
  · obtain ⟨b, o, rfl, hr⟩ := hr0 h0
    refine .inr ⟨b, o, rfl, fun k hk => hw _ _ _ (hr k _ ?_)⟩
    simp [strCells, List.getElem?_eq_getElem hk]
theorem rdstrs_form {m : Mem} {v : Value} {xs : List Str} (h : RdStrs m v xs) : ∃ A c, v = .slice A xs.length c := by
  obtain ⟨_, A, c, rfl, _⟩ := h
  exact ⟨A, c, rfl⟩
theorem indexOf_at {xs : List Str} {s : Str} {k : Nat} (hk : k < xs.length) (hall : ∀ j, j < k → ¬ (xs[j]?.getD []) = s) (he : (xs[k]?.getD []) = s) : indexOf xs s = k := by
  have : xs.findIdx? (· == s) = some k := by
    rw [List.findIdx?_eq_some_iff_getElem]
    refine ⟨hk, by simpa [List.getElem?_eq_getElem hk] using he, fun j hj => ?_⟩
    have := hall j hj
    simpa [List.getElem?_eq_getElem (show j < xs.length by omega)] using this
  simp [indexOf, this]
theorem indexOf_none {xs : List Str} {s : Str} (hall : ∀ j, j < xs.length → ¬ (xs[j]?.getD []) = s) : indexOf xs s = -1 := by
  have : xs.findIdx? (· == s) = none := by
    rw [List.findIdx?_eq_none_iff]
    intro x hx
    obtain ⟨j, hj, rfl⟩ := List.mem_iff_getElem.1 hx
    have := hall j hj
    simpa [List.getElem?_eq_getElem hj] using this
  simp [indexOf, this]
theorem contains_indexOf (xs : List Str) (s : Str) : decide (0 ≤ indexOf xs s) = hasStr xs s := by
  unfold indexOf hasStr
  cases h : xs.findIdx? (· == s) with
  | none =>
    rw [List.findIdx?_eq_none_iff] at h
    have : ¬ s ∈ xs := fun hm => by simpa using h s hm
    simp [this]
  | some i =>
    rw [List.findIdx?_eq_some_iff_getElem] at h
    obtain ⟨hi, he, _⟩ := h
    have : s ∈ xs := by
      have := List.getElem_mem hi
      simp at he
      rwa [he] at this
    simp [this]
set_option maxHeartbeats 400000 in
theorem index_calls {m : Mem} (w : World) (hw : m.ok w) {v : Value} {xs : List Str} (h : RdStrs m v xs) (hl : xs.length ≤ 1000000000000) (s : Str) :
    Calls Tryd.prog 60 #[v, .string ⟨s.toArray⟩] w fun e w' => e = .returned (.int .i64 (indexOf xs s)) ∧ w = w' := by
  obtain ⟨A, c, rfl⟩ := rdstrs_form h
  have hc := (strs_cell hw h).2.2
  clear h
  go_enter Tryd.func60, Tryd.ntmps60
  go_wp2
  go_loop [5, 8] (fun i r => ∃ k : Nat, k ≤ xs.length ∧ r = .int .i64 k ∧ (i = undef ∨ True) ∧ ∀ j, j < k → ¬ (xs[j]?.getD []) = s) (fun _ r => xs.length - (intOf r).toNat)
  case atStart => exact ⟨0, Nat.zero_le _, rfl, .inr trivial, fun j hj => by omega⟩
  case round =>
    obtain ⟨k, hk, rfl, -, hall⟩ := hrel
    have Hall := Lib.hid hall
    clear hall
    by_cases hlt : k < xs.length
    · rcases hc with rfl | ⟨b, o, rfl, hc⟩
      · simp at hlt
      · have hck := hc k hlt
        have Hc := Lib.hid hc
        clear hc
        have hki : (k : Int) < (xs.length : Int) := by omega
        have hki0 : (0 : Int) ≤ (k : Int) := by omega
        by_cases he : (xs[k]?.getD []) = s
        · have he' : (s == (xs[k]?.getD [])) = true := by simp [he]
          have Hfin := Lib.hid (indexOf_at hlt Hall.out he)
          have He := Lib.hid he
          clear he
          generalize hx : xs[k]?.getD [] = x at *
          clear hx
          go_wp2
          go_ret
          exact ⟨Ret1 (by simp [Hfin.out]), rfl⟩
        · have he' : (s == (xs[k]?.getD [])) = false := by simpa using fun e => he e.symm
          have Hn := Lib.hid (show ∀ j, j < k + 1 → ¬ (xs[j]?.getD []) = s from fun j hj => by
            rcases Nat.lt_succ_iff_lt_or_eq.1 hj with h1 | rfl
            · exact Hall.out j h1
            · exact he)
          clear he
          generalize hx : xs[k]?.getD [] = x at *
          have Hx := Lib.hid hx
          clear hx
          go_wp2
          go_round
          case rel => exact ⟨k + 1, by omega, by go_num, .inr trivial, Hn.out⟩
          case measure => simp [intOf]; omega
    · have hki : ¬ (k : Int) < (xs.length : Int) := by omega
      have : k = xs.length := by omega
      subst this
      have Hfin := Lib.hid (indexOf_none Hall.out)
      go_wp2
      go_ret
      exact ⟨Ret1 (by simp [Hfin.out]), rfl⟩
set_option maxHeartbeats 400000 in
theorem contains_calls {m : Mem} (w : World) (hw : m.ok w) {v : Value} {xs : List Str} (h : RdStrs m v xs) (hl : xs.length ≤ 1000000000000) (s : Str) :
    Calls Tryd.prog 36 #[v, .string ⟨s.toArray⟩] w fun e w' => e = .returned (.bool (hasStr xs s)) ∧ w = w' := by
  have H := Lib.hid (contains_indexOf xs s)
  obtain ⟨A, c, hv⟩ := rdstrs_form h
  subst hv
  go_enter Tryd.func36, Tryd.ntmps36
  go_wp2_with fail
  refine (index_calls w hw h hl s).mono ?_
  rintro e w' ⟨rfl, rfl⟩
  go_wp2
  go_ret
  exact ⟨Ret1 (by rw [← H.out]; try rfl), rfl⟩

end Go.Proofs.YtlfimcpceiemnaaDoor

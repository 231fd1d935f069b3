/- versoref03.Raw, versoref08.Never. -/
import Derived.Test.YtlfimcpceiemnaaDoorPolW2
set_option linter.unusedVariables false
namespace Go.Proofs.YtlfimcpceiemnaaDoor
open Go Go.RowKit

def memAll (w : World) : Mem := fun b o => w.cell? ⟨b, o, none⟩
theorem memAll_ok {m : Mem} {w : World} (h : m.ok w) : (memAll w).ok w := ⟨fun _ _ _ h => h, h.tab⟩
/-- A new row of strings. -/
theorem new_strs (w : World) (xs : List Str) (h0 : 0 < xs.length) (hl : xs.length ≤ 1000000) : RdStrs (memAll (w.alloc (.cells (strCells xs).toArray 9))) (.slice (some ⟨w.heap.size, 0, none⟩) xs.length xs.length) xs := by
  refine ⟨by simp [strCells], _, xs.length, rfl, ⟨Nat.le_refl _, by omega⟩, fun _ => ⟨w.heap.size, 0, rfl, ?_⟩⟩
  intro i u hi
  show (w.alloc (.cells (strCells xs).toArray 9)).cell? ⟨w.heap.size, 0 + i, none⟩ = some u
  rw [cell_of_row _ _ _ _ _ _ (heap_alloc_new w (.cells (strCells xs).toArray 9)), Nat.zero_add]
  simpa using hi
set_option maxHeartbeats 800000 in
theorem rraw_calls {m : Mem} (s : Str) (w : World) (hw : m.ok w) : Calls Tryd.prog 90 #[.string ⟨s.toArray⟩] w fun e w' => e = .returned (.tuple #[.bool (rawF s), .bool (rawG s)]) ∧ Ch (fun _ => False) w w' := by
  have hnew := new_strs w rawNames1 (by decide) (by decide)
  have hch := (Ch.refl (fun _ => False) w).alloc (.cells (strCells rawNames1).toArray 9)
  have hAll := memAll_ok (hw.ch hch (fun _ h => h.elim))
  go_enter Tryd.func90, Tryd.ntmps90
  go_wp2
  generalize hX : w.alloc _ = X
  have hX' : X = w.alloc (.cells (strCells rawNames1).toArray 9) := hX.symm
  rw [← hX'] at hnew hch hAll
  have hc := (strs_cell hAll hnew).2.2
  clear hX hX' hnew hAll hw
  generalize w.heap.size = b0 at *
  rcases hc with h0 | ⟨b, o, hbo, hc⟩
  · exact absurd h0 (by decide)
  obtain ⟨rfl, rfl⟩ : b0 = b ∧ 0 = o := by injection hbo with h; injection h with h1 h2; exact ⟨h1, h2⟩
  simp only [Nat.zero_add] at hc
  have Hc := Lib.hid hc
  clear hc hbo
  go_loop [5] (fun r => ∃ k : Nat, k ≤ 7 ∧ r = .int .i64 k ∧ Hid (∀ j, j < k → ¬ (rawNames1[j]?.getD []) = s)) (fun r => 7 - (intOf r).toNat)
  case atStart => exact ⟨0, Nat.zero_le _, rfl, fun j hj => by omega⟩
  case round =>
    obtain ⟨k, hk, rfl, Hall⟩ := hrel
    by_cases hlt : k < 7
    · have hck := Hc.out k hlt
      have hki : (k : Int) < 7 := by omega
      have hki0 : (0 : Int) ≤ (k : Int) := by omega
      by_cases he : (rawNames1[k]?.getD []) = s
      · have he' : ((rawNames1[k]?.getD []) == s) = true := by simp [he]
        have Hfin := Lib.hid (has_in (xs := rawNames1) hlt he)
        clear he
        generalize hx : rawNames1[k]?.getD [] = x at *
        clear hx
        go_wp2
        go_ret2
        refine ⟨?_, hch⟩
        have h1 : rawNames1.contains s = true := Hfin.out
        rw [rawF, rawG, h1]; rfl
      · have he' : ((rawNames1[k]?.getD []) == s) = false := by simpa using he
        have Hn := Lib.hid (show ∀ j, j < k + 1 → ¬ (rawNames1[j]?.getD []) = s from fun j hj => by
          rcases Nat.lt_succ_iff_lt_or_eq.1 hj with h1 | rfl
          · exact Hall.out j h1
          · exact he)
        clear he
        generalize hx : rawNames1[k]?.getD [] = x at *
        have Hx := Lib.hid hx
        clear hx
        go_wp2
        go_round
        case rel => exact ⟨k + 1, by omega, by go_num, Hn⟩
        case measure => simp [intOf]; omega
    · have hki : ¬ (k : Int) < 7 := by omega
      have : k = 7 := by omega
      subst this
      have Hfin := Lib.hid (show rawNames1.contains s = false from has_out (xs := rawNames1) Hall.out)
      have Hch := Lib.hid hch
      clear hch
      go_wp2
      all_goals
        go_ret2
        refine ⟨?_, Hch.out⟩
        first
          | rfl
          | (rw [rawF, rawG, Hfin.out]
             simp_all [rawNames2]
             try (rw [Bool.eq_iff_iff]; simp [*]))
set_option maxHeartbeats 800000 in
theorem rnever_calls {m : Mem} (s : Str) (w : World) (hw : m.ok w) : Calls Tryd.prog 73 #[.string ⟨s.toArray⟩] w fun e w' => e = .returned (.bool (neverF s)) ∧ Ch (fun _ => False) w w' := by
  go_enter Tryd.func73, Tryd.ntmps73
  go_wp2_with fail
  refine (rraw_calls s w hw).mono ?_
  rintro e w1 ⟨rfl, hc1⟩
  have hnew := new_strs w1 neverNames (by decide) (by decide)
  have hch := (Ch.refl (fun _ => False) w1).alloc (.cells (strCells neverNames).toArray 9)
  have hAll := memAll_ok ((hw.ch hc1 (fun _ h => h.elim)).ch hch (fun _ h => h.elim))
  clear hw
  cases hb : rawF s with
  | true =>
    go_wp2
    go_ret
    refine ⟨Ret1 ?_, hc1⟩
    rw [neverF, hb, Bool.or_true]; rfl
  | false =>
    go_wp2_with fail
    refine (has_calls _ hAll hnew (by decide) s).mono ?_
    rintro e w2 ⟨rfl, rfl⟩
    go_wp2
    go_ret
    refine ⟨Ret1 ?_, hc1.trans hch (fun _ h => .inl h)⟩
    rw [neverF, hb, Bool.or_false]; rfl
end Go.Proofs.YtlfimcpceiemnaaDoor

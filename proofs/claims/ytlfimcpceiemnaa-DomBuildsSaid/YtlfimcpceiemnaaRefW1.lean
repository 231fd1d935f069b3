/- versoref04: has, Void, Block, here, last, inner. -/
import Derived.Test.YtlfimcpceiemnaaRefSpec
set_option linter.unusedVariables false
namespace Go.Proofs.Ytlfimcpceiemnaa
open Go Go.RowKit

theorem IsF.parts {m : Mem} {w : World} {base g : Nat} {s : RS} {lv : Value} {lc : List Value} {ov : Value} (h : IsF m w base g s lv lc ov) :
    ∃ A c O d, lv = .slice A s.l.length c ∧ ov = .slice O s.op.length d ∧ w.cell? ⟨g, 0, none⟩ = some (.slice A s.l.length c) ∧ w.cell? ⟨g, 1, none⟩ = some (.slice O s.op.length d) ∧ w.cell? ⟨g, 2, none⟩ = some (.bool s.bad) := by
  have form : ∀ {e : TypeId} {size n : Nat} {v : Value} {xs : List Value}, w.ownsRow base e size v n xs → ∃ A c, v = .slice A n c := by
    intro e size n v xs h
    rcases h.2 with ⟨h0, h1⟩ | ⟨g, cap, cur, h0, _⟩
    · exact ⟨_, _, by rw [h0, h1]⟩
    · exact ⟨_, _, h0⟩
  obtain ⟨A, c, h1⟩ := form h.rl
  obtain ⟨O, d, h2⟩ := form h.ro
  refine ⟨A, c, O, d, h1, h2, ?_, ?_, ?_⟩
  · rw [cell_of_row w g 0 _ _ _ h.obj, ← h1]; rfl
  · rw [cell_of_row w g 1 _ _ _ h.obj, ← h2]; rfl
  · rw [cell_of_row w g 2 _ _ _ h.obj]; rfl
theorem IsF.opCell {m : Mem} {w : World} {base g : Nat} {s : RS} {lv : Value} {lc : List Value} {ov : Value} (h : IsF m w base g s lv lc ov) (h0 : 0 < s.op.length) :
    ∃ b d, ov = .slice (some ⟨b, 0, none⟩) s.op.length d ∧ s.op.length ≤ d ∧ ∀ k, k < s.op.length → w.cell? ⟨b, k, none⟩ = some (.int .i64 (s.op.getD k 0)) := by
  obtain ⟨b, d, hv, hc, _, _, hcells, _⟩ := own_cells h.ro h0
  exact ⟨b, d, hv, hc, fun k hk => hcells k _ (by simp [intCells, List.getElem?_eq_getElem hk])⟩
theorem IsF.flCell {m : Mem} {w : World} {base g : Nat} {s : RS} {lv : Value} {lc : List Value} {ov : Value} (h : IsF m w base g s lv lc ov) (h0 : 0 < s.l.length) :
    ∃ b c, lv = .slice (some ⟨b, 0, none⟩) s.l.length c ∧ s.l.length ≤ c ∧ ∀ k, k < s.l.length → w.cell? ⟨b, k * 5, none⟩ = some (.string ⟨(s.l.getD k dFlat).name.toArray⟩) ∧ w.cell? ⟨b, k * 5 + 2, none⟩ = some (.string ⟨(s.l.getD k dFlat).text.toArray⟩) ∧ w.cell? ⟨b, k * 5 + 3, none⟩ = some (.slice none 0 0) ∧ w.cell? ⟨b, k * 5 + 4, none⟩ = some (.int .i64 (s.l.getD k dFlat).up) ∧ ∃ va, w.cell? ⟨b, k * 5 + 1, none⟩ = some va ∧ RdAttrs m va (s.l.getD k dFlat).attrs := by
  obtain ⟨b, c, hv, hc, _, _, hcells, _⟩ := own_cells h.rl h0
  refine ⟨b, c, hv, hc, fun k hk => ?_⟩
  obtain ⟨va, e1, e2, e3, e4, e5, ra⟩ := h.cl.get k hk
  exact ⟨hcells _ _ e1, hcells _ _ e3, hcells _ _ e4, hcells _ _ e5, va, hcells _ _ e2, ra⟩
theorem getLastD_getD (l : List Int) (h : 0 < l.length) (d : Int) : l.getLastD d = l.getD (l.length - 1) 0 := by
  rw [List.getLastD_eq_getLast?, List.getLast?_eq_getElem?, List.getD_eq_getElem?_getD, List.getElem?_eq_getElem (by omega)]
  rfl

set_option maxHeartbeats 400000 in
theorem here_calls {m : Mem} {w : World} {base g : Nat} {s : RS} {lv : Value} {lc : List Value} {ov : Value} (h : IsF m w base g s lv lc ov) (hl : s.op.length ≤ 1000000) :
    Calls Try.prog 31 #[.pointer (some ⟨g, 0, none⟩)] w fun e w' => e = .returned (.int .i64 s.here) ∧ ∃ n, w' = w.drewN n := by
  obtain ⟨A, c, O, d, h1, h2, x0, x1, x2⟩ := h.parts
  by_cases h0 : s.op.length = 0
  · have Hh := Lib.hid (show s.here = -1 by unfold RS.here; rw [List.eq_nil_of_length_eq_zero h0]; rfl)
    have h0' : ((s.op.length : Int) == 0) = true := by simp [h0]
    clear h0 h1 h2 h
    generalize s.op.length = n at *
    go_enter Try.func31, Try.ntmps31
    go_wp2
    go_ret
    exact ⟨Ret1 (by simp [Hh.out]), 0, rfl⟩
  · obtain ⟨b, d', hv, hd, hcells⟩ := h.opCell (by omega)
    have hc1 := hcells (s.op.length - 1) (by omega)
    have Hh := Lib.hid (show s.here = s.op.getD (s.op.length - 1) 0 from getLastD_getD _ (by omega) _)
    rw [hv] at h2
    injection h2 with e1 e2 e3
    subst e1 e3
    clear e2 h1 hv hcells h
    have h0' : ((s.op.length : Int) == 0) = false := by simpa using h0
    generalize s.op.getD (s.op.length - 1) 0 = r at *
    have hn : 0 < s.op.length := by omega
    generalize s.op.length = n at *
    have i1 : (0 : Int) ≤ (n : Int) - 1 := by omega
    have i2 : (n : Int) - 1 < (n : Int) := by omega
    clear h0
    go_enter Try.func31, Try.ntmps31
    go_wp2
    go_quiet (fail)
    go_wp2
    go_ret
    exact ⟨Ret1 (by simp [Hh.out]), _, rfl⟩

set_option maxHeartbeats 800000 in
theorem last_calls' {m : Mem} {w : World} {base g : Nat} {s : RS} {lv : Value} {lc : List Value} {ov : Value} (h : IsF m w base g s lv lc ov) (hl : s.op.length ≤ 1000000) (hll : s.l.length ≤ 1000000) :
    Calls Try.prog 26 #[.pointer (some ⟨g, 0, none⟩)] w fun e w' => e = .returned (.int .i64 s.last) ∧ ∃ n, w' = w.drewN n := by
  obtain ⟨A, c, O, d, h1, h2, x0, x1, x2⟩ := h.parts
  have Hlast : Hid (lastUp s.l s.here s.l.length = s.last) := Lib.hid rfl
  go_enter Try.func26, Try.ntmps26
  go_wp2
  go_loopw [3] (fun i wr => ∃ k : Nat, k ≤ s.l.length ∧ i = .int .i64 ((k : Int) - 1) ∧ Hid (lastUp s.l s.here k = s.last) ∧ IsF m wr base g s lv lc ov ∧ Hid (∃ n, wr = w.drewN n)) (fun i _ => ((intOf i) + 1).toNat)
  case atStart => exact ⟨s.l.length, Nat.le_refl _, by go_num, Hlast, h, 0, rfl⟩
  case round =>
    rename World => wr
    obtain ⟨k, hk, rfl, He, hF, Hn⟩ := hrel
    clear h h1 h2 x0 x1 x2
    obtain ⟨A, c, O, d, h1, h2, x0, x1, x2⟩ := hF.parts
    by_cases h0 : 0 < k
    · obtain ⟨b, c', hv, hc, hcells⟩ := hF.flCell (by omega)
      obtain ⟨_, _, _, hup, _⟩ := hcells (k - 1) (by omega)
      rw [hv] at h1
      injection h1 with e1 e2 e3
      subst e1 e3
      have i1 : (0 : Int) ≤ (k : Int) - 1 := by omega
      have i2 : (k : Int) - 1 < (s.l.length : Int) := by omega
      have Hst : Hid (lastUp s.l s.here k = if (s.l.getD (k - 1) dFlat).up = s.here then ((k - 1 : Nat) : Int) else lastUp s.l s.here (k - 1)) := Lib.hid (by obtain ⟨j, rfl⟩ : ∃ j, k = j + 1 := ⟨k - 1, by omega⟩; rfl)
      have HH := Lib.hid (fun n => Calls.quiet_of (here_calls (hF.ch ((Ch.refl (fun _ => False) wr).drewN n) (fun _ hk => hk.elim)) hl))
      have HF2 := fun n => hF.ch ((Ch.refl (fun _ => False) wr).drewN n) (fun _ hk => hk.elim)
      clear e2 hv hcells h2 hF
      generalize (s.l.getD (k - 1) dFlat).up = u at *
      by_cases hu : u = s.here
      · have hu' : (u == s.here) = true := by simpa using hu
        have Hf := Lib.hid (show s.last = ((k - 1 : Nat) : Int) by rw [← He.out, Hst.out, if_pos hu])
        clear hu
        go_wp2
        go_quiet ((go_at_call 31; exact HH.out _))
        go_wp2
        go_ret
        obtain ⟨n, hn⟩ := Hn.out
        subst hn
        exact ⟨Ret1 (by simp [Hf.out]; omega), _, by simp; rfl⟩
      · have hu' : (u == s.here) = false := by simpa using hu
        have Hf := Lib.hid (show lastUp s.l s.here (k - 1) = s.last by rw [← He.out, Hst.out, if_neg hu])
        clear hu
        go_wp2
        go_quiet ((go_at_call 31; exact HH.out _))
        go_wp2
        go_roundw
        case rel =>
          refine ⟨k - 1, by omega, by go_num, Hf, HF2 _, Lib.hid ?_⟩
          obtain ⟨n, hn⟩ := Hn.out
          subst hn
          exact ⟨_, by simp; rfl⟩
        case measure => simp [intOf]; omega
    · obtain rfl : k = 0 := by omega
      have Hf := Lib.hid (show s.last = -1 by rw [← He.out]; rfl)
      clear hF h1 h2
      go_wp2
      go_ret
      exact ⟨Ret1 (by simp [Hf.out]), Hn.out⟩

end Go.Proofs.Ytlfimcpceiemnaa

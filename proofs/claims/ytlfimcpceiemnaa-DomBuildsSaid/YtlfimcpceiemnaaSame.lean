/- versoref03.SameAttrs, versoref04.Same: of what is the same they say yes. -/
import Derived.Test.YtlfimcpceiemnaaRefW8
set_option linter.unusedVariables false
namespace Go.Proofs.Ytlfimcpceiemnaa
open Go Go.RowKit

theorem attr_cells {m : Mem} {w : World} (hw : m.ok w) {A : Option Addr} {n c : Nat} {xs : List Attr} (h : RdAttrs m (.slice A n c) xs) : n = xs.length ∧ n ≤ 9223372036854775807 ∧
    (xs = [] ∨ ∃ b o, A = some ⟨b, o, none⟩ ∧ ∀ k, k < xs.length → ∃ a, xs[k]? = some a ∧ w.cell? ⟨b, o + k * 2, none⟩ = some (.string ⟨a.name.toArray⟩) ∧ w.cell? ⟨b, o + k * 2 + 1, none⟩ = some (.string ⟨a.value.toArray⟩)) := by
  have hmax := SlV.max h
  obtain ⟨h1, A', c', hv, hc, hr0⟩ := h
  injection hv with e1 e2 e3
  subst e1 e2 e3
  refine ⟨rfl, hmax, ?_⟩
  rcases Nat.eq_zero_or_pos xs.length with h0 | h0
  · exact .inl (List.eq_nil_of_length_eq_zero h0)
  · obtain ⟨b, o, rfl, hr⟩ := hr0 h0
    refine .inr ⟨b, o, rfl, fun k hk => ⟨xs[k], List.getElem?_eq_getElem hk, ?_, ?_⟩⟩
    · have hg : ∀ (xs : List Attr) (k : Nat) (hk : k < xs.length), (attrCells xs)[k * 2]? = some (.string ⟨xs[k].name.toArray⟩) := by
        intro xs
        induction xs with
        | nil => intro k hk; simp at hk
        | cons a xs ih =>
          intro k hk
          cases k with
          | zero => rfl
          | succ k => rw [show (k + 1) * 2 = k * 2 + 2 from by omega]; exact ih k (by simpa using hk)
      exact hw _ _ _ (hr _ _ (hg xs k hk))
    · have hg : ∀ (xs : List Attr) (k : Nat) (hk : k < xs.length), (attrCells xs)[k * 2 + 1]? = some (.string ⟨xs[k].value.toArray⟩) := by
        intro xs
        induction xs with
        | nil => intro k hk; simp at hk
        | cons a xs ih =>
          intro k hk
          cases k with
          | zero => rfl
          | succ k => rw [show (k + 1) * 2 + 1 = k * 2 + 1 + 2 from by omega]; exact ih k (by simpa using hk)
      exact hw _ _ _ (hr _ _ (hg xs k hk))
set_option maxHeartbeats 800000 in
theorem sameattrs_calls {m : Mem} {w : World} (hw : m.ok w) {va vb : Value} {xs : List Attr} (ha : RdAttrs m va xs) (hb : RdAttrs m vb xs) :
    Calls Try.prog 17 #[va, vb] w fun e w' => e = .returned (.bool true) ∧ ∃ n, w' = w.drewN n := by
  obtain ⟨_, A, c, rfl, _⟩ := id ha
  obtain ⟨_, B, d, rfl, _⟩ := id hb
  go_enter Try.func17, Try.ntmps17
  go_wp2
  go_loopw [5] (fun i wr => ∃ k : Nat, k ≤ xs.length ∧ i = .int .i64 k ∧ m.ok wr ∧ Hid (∃ n, wr = w.drewN n)) (fun i _ => xs.length - (intOf i).toNat)
  case atStart => exact ⟨0, Nat.zero_le _, rfl, hw, 0, rfl⟩
  case round =>
    rename World => wr
    obtain ⟨k, hk, rfl, hok, Hn⟩ := hrel
    obtain ⟨_, hmax, hA⟩ := attr_cells hok ha
    obtain ⟨_, _, hB⟩ := attr_cells hok hb
    by_cases hlt : k < xs.length
    · rcases hA with rfl | ⟨b, o, rfl, hA⟩
      · simp at hlt
      · rcases hB with rfl | ⟨b2, o2, rfl, hB⟩
        · simp at hlt
        · obtain ⟨a, e1, a1, a2⟩ := hA k hlt
          obtain ⟨a', e2, b1, b2'⟩ := hB k hlt
          rw [e1] at e2
          injection e2 with e2
          subst e2
          have i1 : (k : Int) < (xs.length : Int) := by omega
          have i2 : (0 : Int) ≤ (k : Int) := by omega
          have hok2 := fun n => hok.ch ((Ch.refl (fun _ => False) wr).drewN n) (fun _ hk => hk.elim)
          clear e1 hA hB ha hb hok hw
          generalize a.name = an at *
          generalize a.value = av at *
          go_wp2
          go_quiet (fail)
          go_wp2
          go_roundw
          case rel =>
            refine ⟨k + 1, by omega, by go_num, hok2 _, Lib.hid ?_⟩
            obtain ⟨n, hn⟩ := Hn.out
            subst hn
            exact ⟨_, by simp; rfl⟩
          case measure => simp [intOf]; omega
    · have i1 : ¬ (k : Int) < (xs.length : Int) := by omega
      clear hA hB ha hb
      go_wp2
      go_ret
      exact ⟨rfl, Hn.out⟩

end Go.Proofs.Ytlfimcpceiemnaa

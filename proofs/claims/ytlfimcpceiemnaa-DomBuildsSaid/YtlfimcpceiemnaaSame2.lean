/- versoref04.Same: of what is the same it says yes. -/
import Derived.Test.YtlfimcpceiemnaaSame
set_option linter.unusedVariables false
namespace Go.Proofs.Ytlfimcpceiemnaa
open Go Go.RowKit

theorem node_cells {m : Mem} {w : World} (hw : m.ok w) {A : Option Addr} {n c : Nat} {xs : List Node} (h : RdNodes m (.slice A n c) xs) : n = xs.length ∧ n ≤ 9223372036854775807 ∧
    (xs = [] ∨ ∃ b o, A = some ⟨b, o, none⟩ ∧ ∀ k, k < xs.length → ∃ x Aa ca Ak ck, xs[k]? = some x ∧ w.cell? ⟨b, o + k * 4, none⟩ = some (.string ⟨x.name.toArray⟩) ∧ w.cell? ⟨b, o + k * 4 + 1, none⟩ = some (.slice Aa x.attrs.length ca) ∧ w.cell? ⟨b, o + k * 4 + 2, none⟩ = some (.string ⟨x.text.toArray⟩) ∧
      w.cell? ⟨b, o + k * 4 + 3, none⟩ = some (.slice Ak x.kids.length ck) ∧ RdAttrs m (.slice Aa x.attrs.length ca) x.attrs ∧ RdNodes m (.slice Ak x.kids.length ck) x.kids) := by
  obtain ⟨cs, hs, hN⟩ := h
  have hmax := SlV.max hs
  obtain ⟨h1, A', c', hv, hc, hr0⟩ := hs
  injection hv with e1 e2 e3
  subst e1 e2 e3
  refine ⟨rfl, hmax, ?_⟩
  rcases Nat.eq_zero_or_pos xs.length with h0 | h0
  · exact .inl (List.eq_nil_of_length_eq_zero h0)
  · obtain ⟨b, o, rfl, hr⟩ := hr0 h0
    refine .inr ⟨b, o, rfl, fun k hk => ?_⟩
    obtain ⟨va, vk, c0, c1, c2, c3, ra, kc, sk, nk⟩ := hN.get k xs[k] (List.getElem?_eq_getElem hk)
    obtain ⟨_, Aa, ca, rfl, _⟩ := id ra
    obtain ⟨_, Ak, ck, rfl, _⟩ := id sk
    rw [Nat.mul_comm] at c0 c1 c2 c3
    exact ⟨xs[k], Aa, ca, Ak, ck, List.getElem?_eq_getElem hk, hw _ _ _ (hr _ _ c0), hw _ _ _ (hr _ _ c1), hw _ _ _ (hr _ _ c2), hw _ _ _ (hr _ _ c3), ra, kc, sk, nk⟩
theorem size_kids {x : Node} {xs : List Node} (h : x ∈ xs) : SizeOf.sizeOf x.kids < SizeOf.sizeOf xs := by
  have h1 := List.sizeOf_lt_of_mem h
  cases x with
  | mk n a t k =>
    have : SizeOf.sizeOf k < SizeOf.sizeOf (Node.mk n a t k) := by simp; omega
    simp only [Node.kids]; omega
def SameSpec (n : Nat) : Prop := ∀ (m : Mem) (w : World) (va vb : Value) (xs : List Node), m.ok w → RdNodes m va xs → RdNodes m vb xs → SizeOf.sizeOf xs ≤ n →
    Calls Try.prog 9 #[va, vb] w fun e w' => e = .returned (.bool true) ∧ ∃ n, w' = w.drewN n
set_option maxHeartbeats 3200000 in
theorem same_calls (n : Nat) : SameSpec n := by
  induction n with
  | zero =>
    intro m w va vb xs hw ha hb hn
    cases xs with
    | nil => simp at hn
    | cons x xs => simp at hn
  | succ n IH =>
    intro m w va vb xs hw ha hb hn
    obtain ⟨A, c, hva⟩ : ∃ A c, va = .slice A xs.length c := by obtain ⟨_, ⟨_, A, c, h, _⟩, _⟩ := ha; exact ⟨A, c, h⟩
    obtain ⟨B, d, hvb⟩ : ∃ A c, vb = .slice A xs.length c := by obtain ⟨_, ⟨_, A, c, h, _⟩, _⟩ := hb; exact ⟨A, c, h⟩
    subst hva hvb
    go_enter Try.func9, Try.ntmps9
    go_wp2
    go_loopw [5] (fun i wr => ∃ k : Nat, k ≤ xs.length ∧ i = .int .i64 k ∧ m.ok wr ∧ Hid (∃ n, wr = w.drewN n)) (fun i _ => xs.length - (intOf i).toNat)
    case atStart => exact ⟨0, Nat.zero_le _, rfl, hw, 0, rfl⟩
    case round =>
      rename World => wr
      obtain ⟨k, hk, rfl, hok, Hn⟩ := hrel
      obtain ⟨_, hmax, hA⟩ := node_cells hok ha
      obtain ⟨_, _, hB⟩ := node_cells hok hb
      by_cases hlt : k < xs.length
      · rcases hA with rfl | ⟨b, o, rfl, hA⟩
        · simp at hlt
        · rcases hB with rfl | ⟨b2, o2, rfl, hB⟩
          · simp at hlt
          · obtain ⟨x, Aa, ca, Ak, ck, e1, a0, a1, a2, a3, ra, rk⟩ := hA k hlt
            obtain ⟨x', Ba, da, Bk, dk, e2, b0, b1, b2', b3, rb, rl⟩ := hB k hlt
            rw [e1] at e2
            injection e2 with e2
            subst e2
            have hsz := size_kids (List.mem_of_getElem? e1)
            have i1 : (k : Int) < (xs.length : Int) := by omega
            have i2 : (0 : Int) ≤ (k : Int) := by omega
            have hok2 := fun n => hok.ch ((Ch.refl (fun _ => False) wr).drewN n) (fun _ hk => hk.elim)
            have HA := Lib.hid (fun q => Calls.quiet_of (n := q) (sameattrs_calls (hok2 q) ra rb))
            have HS := Lib.hid (fun q => Calls.quiet_of (n := q) (IH m (wr.drewN q) _ _ x.kids (hok2 q) rk rl (by omega)))
            clear e1 hA hB ha hb hok hw hsz ra rb rk rl
            generalize x.name = xn at *
            generalize x.text = xt at *
            generalize x.attrs.length = al at *
            generalize x.kids.length = kl at *
            go_wp2
            go_quiet (first | (go_at_call 17; exact HA.out _) | (go_at_call 9; exact HS.out _))
            go_wp2
            go_roundw
            case rel =>
              refine ⟨k + 1, by omega, by go_num, hok2 _, Lib.hid ?_⟩
              obtain ⟨n, hn⟩ := Hn.out
              subst hn
              exact ⟨_, by simp; rfl⟩
            case measure => simp [intOf]; omega
      · have i1 : ¬ (k : Int) < (xs.length : Int) := by omega
        clear hA hB ha hb
        go_wp2
        go_ret
        exact ⟨rfl, Hn.out⟩

end Go.Proofs.Ytlfimcpceiemnaa

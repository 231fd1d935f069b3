/- strconv.Atoi: the number of any text. -/
import Derived.Test.YtlfimcpceiemnaaDoorPolW11
import Derived.Lib.AtoiAll
import Derived.Lib.AtoiErrMem
set_option linter.unusedVariables false
namespace Go.Proofs.YtlfimcpceiemnaaDoor
open Go Go.RowKit

def atoiF (s : Str) : Int := match Lib.atoiAll s with | .ok v => v | .range => Lib.atoiSat s | _ => 0
def atoiOk (s : Str) : Bool := match Lib.atoiAll s with | .ok _ => true | _ => false
theorem parse_digits : ∀ (s : Str) (acc k : Nat), s.all digB = true → s.length ≤ k → k ≤ 15 → acc < 10 ^ (15 - k) → Lib.parseUint10 acc s = .ok (s.foldl (fun n c => n * 10 + (c.toNat - 48)) acc)
  | [], acc, k, _, _, _, _ => rfl
  | c :: s, acc, k, h, hl, hk, ha => by
    rw [List.all_cons, Bool.and_eq_true] at h
    have hc := h.1
    simp only [digB, Bool.and_eq_true, decide_eq_true_eq] at hc
    simp only [List.length_cons] at hl
    have hp : 10 ^ (15 - (k - 1)) = 10 ^ (15 - k) * 10 := by rw [show 15 - (k - 1) = (15 - k) + 1 by omega, Nat.pow_succ]
    have hb : 10 ^ (15 - (k - 1)) ≤ 10 ^ 15 := Nat.pow_le_pow_right (by omega) (by omega)
    have hb2 : (10 : Nat) ^ 15 = 1000000000000000 := by decide
    rw [Lib.parseUint10, if_pos hc, if_neg (by omega), if_neg (by omega), parse_digits s _ (k - 1) h.2 (by omega) (by omega) (by omega)]
    rfl
theorem digV_fold : ∀ (s : Str) (acc : Nat), s.all digB = true → ((s.foldl (fun n c => n * 10 + (c.toNat - 48)) acc : Nat) : Int) = s.foldl (fun (n : Int) c => n * 10 + ((c.toNat : Int) - 48)) acc
  | [], acc, _ => rfl
  | c :: s, acc, h => by
    rw [List.all_cons, Bool.and_eq_true] at h
    have hc := h.1
    simp only [digB, Bool.and_eq_true, decide_eq_true_eq] at hc
    rw [List.foldl_cons, List.foldl_cons, digV_fold s _ h.2]
    congr 1
    omega
theorem atoi_digits {s : Str} (h0 : s ≠ []) (h : s.all digB = true) (hl : s.length ≤ 15) : Lib.atoiAll s = .ok (digV s) := by
  have hp := parse_digits s 0 15 h hl (by omega) (by decide)
  have hv := digV_fold s 0 h
  have hlt : (s.foldl (fun n c => n * 10 + (c.toNat - 48)) 0 : Nat) < 10 ^ 15 := by
    have : ∀ (s : Str) (acc k : Nat), s.all digB = true → s.length ≤ k → k ≤ 15 → acc < 10 ^ (15 - k) → s.foldl (fun n c => n * 10 + (c.toNat - 48)) acc < 10 ^ 15 := by
      intro s
      induction s with
      | nil => intro acc k _ _ _ ha; exact Nat.lt_of_lt_of_le ha (Nat.pow_le_pow_right (by omega) (by omega))
      | cons c s ih =>
        intro acc k h hl hk ha
        rw [List.all_cons, Bool.and_eq_true] at h
        have hc := h.1
        simp only [digB, Bool.and_eq_true, decide_eq_true_eq] at hc
        simp only [List.length_cons] at hl
        have hp : 10 ^ (15 - (k - 1)) = 10 ^ (15 - k) * 10 := by rw [show 15 - (k - 1) = (15 - k) + 1 by omega, Nat.pow_succ]
        rw [List.foldl_cons]
        exact ih _ (k - 1) h.2 (by omega) (by omega) (by omega)
    exact this s 0 15 h hl (by omega) (by decide)
  cases s with
  | nil => exact absurd rfl h0
  | cons c r =>
    rw [List.all_cons, Bool.and_eq_true] at h
    have hc := h.1
    simp only [digB, Bool.and_eq_true, decide_eq_true_eq] at hc
    have hb2 : (10 : Nat) ^ 15 = 1000000000000000 := by decide
    unfold Lib.atoiAll
    dsimp only
    rw [if_neg (show ¬ (c.toNat = 43 ∨ c.toNat = 45) by omega), Lib.parseMag, if_neg (by simp), hp]
    dsimp only
    rw [if_neg (by omega), if_neg (by omega), if_neg (by omega), hv]
    rfl
theorem atoiF_dec {n : Int} (h0 : 0 ≤ n) (h1 : n ≤ 1000000) : atoiF (decS n) = n ∧ atoiOk (decS n) = true := by
  have h := atoi_digits (s := decS n) (digS_pos _) (digS_all _) (Nat.le_trans (dec_len n h1) (by omega))
  unfold atoiF atoiOk
  rw [h]
  refine ⟨?_, rfl⟩
  simp only [decS, digV_digS]
  omega
theorem numOk_atoi : NumOk atoiF := fun n h0 h1 => (atoiF_dec (by omega) h1).1
/-- How Atoi ends. -/
def AtoiPost (s : Str) (w : World) (e : Ending) (w' : World) : Prop :=
  ∃ ev, e = .returned (.tuple #[.int .i64 (atoiF s), ev]) ∧ (atoiOk s = true → ev = .nilIface) ∧ (atoiOk s = false → ∃ t a, ev = .iface t (.pointer (some a))) ∧ Ch (fun _ => False) w w'
theorem atoi_calls {m : Mem} (hE : EnvM m) (w : World) (hw : m.ok w) (s : Str) (hs : s.length ≤ 1000000000) :
    Calls Tryd.prog 53 #[.string ⟨s.toArray⟩] w (AtoiPost s w) := by
  have hsz : (⟨s.toArray⟩ : ByteArray).size = s.length := by simp [ByteArray.size]
  have hd : (⟨s.toArray⟩ : ByteArray).data.toList = s := by simp
  cases h : Lib.atoiAll s with
  | ok v =>
    refine (Tryd.strconv_Atoi_ok ⟨s.toArray⟩ (by omega) v (by rw [hd]; exact h) w).mono ?_
    rintro e w' ⟨rfl, hw'⟩
    refine ⟨.nilIface, by unfold atoiF; rw [h], fun _ => rfl, (fun hk => by unfold atoiOk at hk; rw [h] at hk; cases hk), ?_⟩
    rcases hw' with rfl | ⟨t, rfl⟩
    · exact Ch.refl _ _
    · exact below_ch (Lib.bytesWorld_below w _ t)
  | range =>
    obtain ⟨ev, he, hev⟩ := hE.rang
    refine (Tryd.strconv_Atoi_range ⟨s.toArray⟩ (by omega) (by rw [hd]; exact h) ev w (hw _ _ _ he) hev).mono ?_
    rintro e w' ⟨N, rfl, h1, h2, h3⟩
    exact ⟨_, by unfold atoiF; rw [h, hd], (fun hk => by unfold atoiOk at hk; rw [h] at hk; cases hk), fun _ => ⟨_, _, rfl⟩, below_ch h3⟩
  | _ =>
    obtain ⟨ev, he, hev⟩ := hE.synt
    refine (Tryd.strconv_Atoi_bad ⟨s.toArray⟩ (by omega) (by rw [hd]; exact h.trans rfl) ev w (hw _ _ _ he) hev).mono ?_
    rintro e w' ⟨N, rfl, h1, h2, h3⟩
    exact ⟨_, by unfold atoiF; rw [h], (fun hk => by unfold atoiOk at hk; rw [h] at hk; cases hk), fun _ => ⟨_, _, rfl⟩, below_ch h3⟩
set_option maxHeartbeats 800000 in
theorem num_calls {m : Mem} (hE : EnvM m) (w : World) (hw : m.ok w) {x i : Nat} {v : Value} {ws : List Str} (hx : w.cell? ⟨x, 0, none⟩ = some v) (h : RdStrs m v ws) (hl : ws.length ≤ 1000000000) (hs : ∀ s ∈ ws, s.length ≤ 1000000000) (hi : i < ws.length) :
    Calls Tryd.prog 52 #[.int .i64 i, .pointer (some ⟨x, 0, none⟩)] w fun e w' => e = .returned (.int .i64 (atoiF (ws[i]?.getD []))) ∧ Ch (fun _ => False) w w' := by
  obtain ⟨A, c, rfl⟩ := rdstrs_form h
  obtain ⟨b, o, hA, hc⟩ : ∃ b o, A = some ⟨b, o, none⟩ ∧ ∀ k, k < ws.length → w.cell? ⟨b, o + k, none⟩ = some (.string ⟨(ws[k]?.getD []).toArray⟩) := by
    rcases (strs_cell hw h).2.2 with h0 | h0
    · rw [h0] at hi; simp at hi
    · exact h0
  subst hA
  have hck := hc i hi
  have hm : (ws[i]?.getD []).length ≤ 1000000000 := by
    rw [List.getElem?_eq_getElem hi]
    exact hs _ (List.getElem_mem hi)
  generalize ws[i]?.getD [] = t at *
  have HA := Lib.hid (atoi_calls hE w hw t hm)
  have hi1 : (i : Int) < (ws.length : Int) := by omega
  have hi0 : (0 : Int) ≤ (i : Int) := by omega
  clear hc h hs hw
  go_enter Tryd.func52, Tryd.ntmps52
  go_wp2_with fail
  refine HA.out.mono ?_
  rintro e w' ⟨ev, rfl, -, -, hc⟩
  have HC := Lib.hid hc
  clear hc
  go_wp2
  go_ret
  exact ⟨rfl, HC.out⟩
end Go.Proofs.YtlfimcpceiemnaaDoor

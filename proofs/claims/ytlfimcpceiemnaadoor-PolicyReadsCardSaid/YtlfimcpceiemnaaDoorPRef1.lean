/- versoref08.decimal, lines, number. -/
import Derived.Test.YtlfimcpceiemnaaDoorPolW16
import Derived.Lib.SlBytesRow
set_option linter.unusedVariables false
namespace Go.Proofs.YtlfimcpceiemnaaDoor
open Go Go.RowKit

theorem digS_step (k : Nat) (h : 10 ≤ k) : digS k = digS (k / 10) ++ [UInt8.ofNat (48 + k % 10)] := by rw [digS, if_neg (by omega)]
theorem digS_low (k : Nat) (h : k < 10) : digS k = [UInt8.ofNat (48 + k)] := by rw [digS, if_pos h]
theorem convert_one (w : World) (n : Nat) (h : n < 256) :
    (convert 58 9 (.slice (some ⟨w.heap.size, 0, none⟩) 1 1)).run Tryd.prog (w.alloc (.cells #[.int .u8 (n : Int)] 5)) = .ok (.string ⟨#[UInt8.ofNat n]⟩) (w.alloc (.cells #[.int .u8 (n : Int)] 5)) := by
  have hs : Tryd.prog.underlying 58 = some (.slice 5) := by kernel_rfl
  have he : Tryd.prog.underlying 5 = some (.int .u8) := by kernel_rfl
  have hd : Tryd.prog.underlying 9 = some .string := by kernel_rfl
  refine Lib.run_convert_whole (P := Tryd.prog) (w.alloc (.cells #[.int .u8 (n : Int)] 5)) 58 5 9 hs he hd w.heap.size 0 ⟨#[UInt8.ofNat n]⟩ ?_ 1
  intro i hi
  have h0 : i = 0 := by
    have : (⟨#[UInt8.ofNat n]⟩ : ByteArray).size = 1 := rfl
    omega
  subst h0
  rw [cell_of_row _ _ _ _ _ _ (heap_alloc_new w _)]
  have : (UInt8.ofNat n).toNat = n := by simp [UInt8.toNat_ofNat']; omega
  show some (Value.int .u8 (n : Int)) = some (.int .u8 ((UInt8.ofNat n).toNat : Int))
  rw [this]
set_option maxHeartbeats 1600000 in
set_option maxRecDepth 100000 in
theorem decimal_calls (n : Int) (h0 : 0 ≤ n) (h1 : n ≤ 1000000000000) (w : World) :
    Calls Tryd.prog 55 #[.int .i64 n] w fun e w' => e = .returned (.string ⟨(decS n).toArray⟩) ∧ Ch (fun _ => False) w w' := by
  obtain ⟨N, rfl⟩ : ∃ N : Nat, n = N := ⟨n.toNat, by omega⟩
  have hD : decS (N : Int) = digS N := by rw [decS]; rfl
  rw [hD]
  clear hD
  go_enter Tryd.func55, Tryd.ntmps55
  go_wp2
  go_loopw [0, 3] (fun n s wr => ∃ (k : Nat) (acc : Str), n = .int .i64 k ∧ s = .string ⟨acc.toArray⟩ ∧ k ≤ N ∧ Hid (digS N = digS k ++ acc) ∧ Hid (Ch (fun _ => False) w wr)) (fun n _ _ => (intOf n).toNat)
  case atStart => exact ⟨N, [], rfl, rfl, Nat.le_refl _, (List.append_nil _).symm, Ch.refl _ w⟩
  case round =>
    rename World => wr
    obtain ⟨k, acc, rfl, rfl, hk, HD, HC⟩ := hrel
    have hla : acc.length ≤ 13 := by
      have h2 := congrArg List.length HD.out
      rw [List.length_append] at h2
      have h3 := digS_len N 13 (by omega) (by omega)
      omega
    by_cases hlt : 10 ≤ k
    · have hki : (k : Int) ≥ 10 := by omega
      have hcv := convert_one wr (48 + k % 10) (by omega)
      have c1 := cat_str [UInt8.ofNat (48 + k % 10)] acc
      have HS := Lib.hid (digS_step k hlt)
      have HC1 := Lib.hid (HC.out.alloc (.cells #[.int .u8 (48 + (k : Int) % 10)] 5))
      rw [show ((48 + k % 10 : Nat) : Int) = 48 + (k : Int) % 10 by omega] at hcv
      generalize UInt8.ofNat (48 + k % 10) = x at *
      go_wp2
      exact ⟨⟨k / 10, x :: acc, by go_num, rfl, by omega, Lib.hid (by rw [HD.out, HS.out]; simp), HC1.out⟩, by simp [intOf]; omega⟩
    · have hki : ¬ (k : Int) ≥ 10 := by omega
      have hcv := convert_one wr (48 + k) (by omega)
      have c1 := cat_str [UInt8.ofNat (48 + k)] acc
      have HS := Lib.hid (digS_low k (by omega))
      have HC1 := Lib.hid (HC.out.alloc (.cells #[.int .u8 (48 + (k : Int))] 5))
      rw [show ((48 + k : Nat) : Int) = 48 + (k : Int) by omega] at hcv
      generalize UInt8.ofNat (48 + k) = x at *
      go_wp2
      go_ret
      exact ⟨Ret1 (by rw [HD.out, HS.out]; rfl), HC1.out⟩
/-- What versoref08.number reads. -/
def numR (s : Str) : Int := if s.all digB = true ∧ s.length ≤ 7 then digV s else 0
theorem digV_fold_bound : ∀ (s : Str) (acc : Int), s.all digB = true → 0 ≤ acc → 0 ≤ s.foldl (fun n c => n * 10 + ((c.toNat : Int) - 48)) acc ∧ s.foldl (fun n c => n * 10 + ((c.toNat : Int) - 48)) acc + 1 ≤ (acc + 1) * 10 ^ s.length
  | [], acc, _, h => by simp; exact h
  | c :: s, acc, h, h0 => by
    rw [List.all_cons, Bool.and_eq_true] at h
    have hc : 48 ≤ c.toNat ∧ c.toNat ≤ 57 := by simpa [digB] using h.1
    obtain ⟨a, b⟩ := digV_fold_bound s (acc * 10 + ((c.toNat : Int) - 48)) h.2 (by omega)
    refine ⟨a, Int.le_trans b ?_⟩
    rw [List.length_cons, Int.pow_succ, Int.mul_comm (10 ^ s.length) 10, ← Int.mul_assoc]
    exact Int.mul_le_mul_of_nonneg_right (by omega) (Int.pow_nonneg (by decide))
theorem digV_bound (s : Str) (h : s.all digB = true) : 0 ≤ digV s ∧ digV s + 1 ≤ 10 ^ s.length := by
  have := digV_fold_bound s 0 h (Int.le_refl _)
  rw [digV]; omega
theorem numOk_numR : NumOk numR := fun n h0 h1 => by
  have hl := dec_len n h1
  have ha : (decS n).all digB = true := digS_all _
  rw [numR, if_pos ⟨ha, hl⟩, decS, digV_digS]
  omega
set_option maxHeartbeats 1600000 in
set_option maxRecDepth 100000 in
theorem number_calls (s : Str) (hs : s.length ≤ 1000000000000) (w : World) : Calls Tryd.prog 27 #[.string ⟨s.toArray⟩] w fun e w' => e = .returned (.int .i64 (numR s)) ∧ w = w' := by
  go_enter Tryd.func27, Tryd.ntmps27
  go_wp2
  go_loop [3, 4] (fun v i => ∃ k : Nat, k ≤ s.length ∧ i = .int .i64 k ∧ v = .int .i64 (digV (s.take k)) ∧ Hid ((s.take k).all digB = true ∧ (0 < k → s.length ≤ 7))) (fun _ i => s.length - (intOf i).toNat)
  case atStart => exact ⟨0, Nat.zero_le _, rfl, rfl, rfl, fun h => absurd h (by omega)⟩
  case round =>
    obtain ⟨k, hk, rfl, rfl, H⟩ := hrel
    by_cases hlt : k < s.length
    · have i1 : (k : Int) < (s.length : Int) := by omega
      have i2 : (0 : Int) ≤ (k : Int) := by omega
      obtain ⟨c, hc⟩ : ∃ c, s[k]? = some c := ⟨_, List.getElem?_eq_getElem hlt⟩
      have HT := Lib.hid (show s.take (k + 1) = s.take k ++ [c] by rw [List.take_add_one, hc]; rfl)
      have HV := Lib.hid (digV_snoc (s.take k) c)
      have HD := Lib.hid (show digB c = (decide (48 ≤ c.toNat) && decide (c.toNat ≤ 57)) from rfl)
      have hB := digV_bound (s.take k) H.out.1
      have HB : digV (s.take k) ≤ 10000000 := by
        rcases Nat.eq_zero_or_pos k with h0 | h0
        · subst h0; rw [List.take_zero]; decide
        · have h7 := H.out.2 h0
          have : (s.take k).length ≤ 7 := by rw [List.length_take]; omega
          have h2 : (10 : Int) ^ (s.take k).length ≤ 10 ^ 7 := by
            have h3 : (10 : Nat) ^ (s.take k).length ≤ 10 ^ 7 := Nat.pow_le_pow_right (by decide) this
            have h4 : ((10 ^ (s.take k).length : Nat) : Int) ≤ ((10 ^ 7 : Nat) : Int) := Int.ofNat_le.2 h3
            simpa using h4
          omega
      have HB0 := hB.1
      clear hB
      have HN := Lib.hid (fun (hf : digB c = false) => show numR s = 0 by
        rw [numR, if_neg]
        intro h
        have := List.all_eq_true.1 h.1 c (List.mem_of_getElem? hc)
        rw [hf] at this; cases this)
      have HN2 := Lib.hid (fun (hf : ¬ s.length ≤ 7) => show numR s = 0 by rw [numR, if_neg (fun h => hf h.2)])
      have hx : ((⟨s.toArray⟩ : ByteArray)[k]'(by simpa [ByteArray.size] using hlt)).toNat = c.toNat := congrArg UInt8.toNat (Option.some.inj ((List.getElem?_eq_getElem hlt).symm.trans hc))
      have hlim := c.toNat_lt
      by_cases hd : digB c = true ∧ s.length ≤ 7
      · have hd1 : 48 ≤ c.toNat ∧ c.toNat ≤ 57 := by have := hd.1; rw [HD.out] at this; simpa using this
        have n1 : ¬ (c.toNat : Int) < 48 := by omega
        have n2 : ¬ (57 : Int) < (c.toNat : Int) := by omega
        have n3 : ¬ (7 : Int) < (s.length : Int) := by omega
        have HDD := Lib.hid hd
        clear hd
        go_wp2
        exact ⟨⟨k + 1, by omega, by go_num, by rw [HT.out, HV.out], Lib.hid ⟨by rw [HT.out, List.all_append, H.out.1, List.all_cons, HDD.out.1]; rfl, fun _ => HDD.out.2⟩⟩, by simp [intOf]; omega⟩
      · have HZ := Lib.hid (show numR s = 0 by
          by_cases h1 : digB c = true
          · exact HN2.out (fun h2 => hd ⟨h1, h2⟩)
          · exact HN.out (by simpa using h1))
        have hdd : ¬ (48 ≤ c.toNat ∧ c.toNat ≤ 57 ∧ s.length ≤ 7) := fun h => hd ⟨by rw [HD.out]; simp; omega, h.2.2⟩
        clear hd
        go_wp2
        all_goals first
          | (go_ret; exact ⟨Ret1 (by rw [HZ.out]; rfl), rfl⟩)
          | (exfalso; apply hdd; simp_all; omega)
    · have i1 : ¬ (k : Int) < (s.length : Int) := by omega
      have hE : s.take k = s := List.take_of_length_le (by omega)
      rw [hE] at H ⊢
      have HW := Lib.hid (show numR s = digV s by
        rw [numR, if_pos ⟨H.out.1, (by rcases Nat.eq_zero_or_pos k with h0 | h0 <;> first | omega | exact H.out.2 h0)⟩])
      clear hE
      go_wp2
      go_ret
      exact ⟨Ret1 (by rw [HW.out]; rfl), rfl⟩
set_option maxHeartbeats 1600000 in
set_option maxRecDepth 100000 in
theorem lines_calls {m : Mem} (w : World) (hw : m.ok w) (h : Str) {v : Value} {xs : List Str} (hr : RdStrs m v xs) (hl : (linesF h xs).length ≤ 1000000) (hx : xs.length ≤ 1000000) :
    Calls Tryd.prog 56 #[.string ⟨h.toArray⟩, v] w fun e w' => e = .returned (.string ⟨(linesF h xs).toArray⟩) ∧ ∃ n, w' = w.drewN n := by
  obtain ⟨A, c, rfl⟩ := rdstrs_form hr
  go_enter Tryd.func56, Tryd.ntmps56
  go_wp2
  go_loopw [5, 6] (fun s i wr => ∃ k : Nat, k ≤ xs.length ∧ i = .int .i64 k ∧ s = .string ⟨(linesF h (xs.take k)).toArray⟩ ∧ m.ok wr ∧ Hid (∃ n, wr = w.drewN n)) (fun _ i _ => xs.length - (intOf i).toNat)
  case atStart => exact ⟨0, Nat.zero_le _, rfl, rfl, hw, 0, rfl⟩
  case round =>
    rename World => wr
    obtain ⟨k, hk, rfl, rfl, hok, HR⟩ := hrel
    by_cases hlt : k < xs.length
    · obtain ⟨x, hx⟩ : ∃ x, xs[k]? = some x := ⟨_, List.getElem?_eq_getElem hlt⟩
      obtain ⟨bA, oA, hA, hc⟩ : ∃ b o, A = some ⟨b, o, none⟩ ∧ ∀ k, k < xs.length → wr.cell? ⟨b, o + k, none⟩ = some (.string ⟨(xs[k]?.getD []).toArray⟩) := by
        rcases (strs_cell hok hr).2.2 with h0 | h0
        · rw [h0] at hlt; simp at hlt
        · exact h0
      subst hA
      have hck := hc k hlt
      rw [hx, Option.getD_some] at hck
      have hki : (k : Int) < (xs.length : Int) := by omega
      have hki0 : (0 : Int) ≤ (k : Int) := by omega
      have HM := Lib.hid (fun n => hok.drewN n)
      have hT : linesF h (xs.take (k + 1)) = linesF h (xs.take k) ++ (h ++ 32 :: (x ++ [10])) := by
        rw [linesF, linesF, List.take_add_one, hx, List.flatMap_append]; simp [lineF]
      have hle : (linesF h (xs.take (k + 1))).length ≤ 1000000 := by
        have : linesF h xs = linesF h (xs.take (k + 1)) ++ linesF h (xs.drop (k + 1)) := by rw [linesF, linesF, linesF, ← List.flatMap_append, List.take_append_drop]
        rw [this, List.length_append] at hl; omega
      rw [hT] at hle
      have hle2 := hle
      simp only [List.length_append, List.length_cons, List.length_nil] at hle2
      have HT := Lib.hid hT
      generalize linesF h (xs.take k) = t at *
      obtain ⟨t1, ht1⟩ : ∃ u, u = t ++ h := ⟨_, rfl⟩
      obtain ⟨t2, ht2⟩ : ∃ u, u = t1 ++ [32] := ⟨_, rfl⟩
      obtain ⟨t3, ht3⟩ : ∃ u, u = t2 ++ x := ⟨_, rfl⟩
      obtain ⟨t4, ht4⟩ : ∃ u, u = t3 ++ [10] := ⟨_, rfl⟩
      have c1 : (⟨t.toArray⟩ : ByteArray) ++ ⟨h.toArray⟩ = ⟨t1.toArray⟩ := by rw [ht1]; exact cat_str t h
      have c2 : (⟨t1.toArray⟩ : ByteArray) ++ ⟨#[32]⟩ = ⟨t2.toArray⟩ := by rw [ht2]; exact cat_str _ _
      have c3 : (⟨t2.toArray⟩ : ByteArray) ++ ⟨x.toArray⟩ = ⟨t3.toArray⟩ := by rw [ht3]; exact cat_str _ _
      have c4 : (⟨t3.toArray⟩ : ByteArray) ++ ⟨#[10]⟩ = ⟨t4.toArray⟩ := by rw [ht4]; exact cat_str _ [10]
      have l1 : t1.length = t.length + h.length := by rw [ht1, List.length_append]
      have l2 : t2.length = t1.length + 1 := by rw [ht2, List.length_append]; rfl
      have l3 : t3.length = t2.length + x.length := by rw [ht3, List.length_append]
      have HTT := Lib.hid (show linesF h (xs.take (k + 1)) = t4 by rw [hT, ht4, ht3, ht2, ht1]; simp)
      clear ht1 ht2 ht3 ht4 HT
      clear hc hx hr hT hok
      go_wp2
      go_roundw
      case rel =>
        refine ⟨k + 1, by omega, by go_num, ?_, HM.out 0, Lib.hid ?_⟩
        · rw [HTT.out]
        · obtain ⟨n, hn⟩ := HR.out
          subst hn
          exact ⟨n, rfl⟩
      case measure => simp [intOf]; omega
    · have hki : ¬ (k : Int) < (xs.length : Int) := by omega
      have hT : xs.take k = xs := List.take_of_length_le (by omega)
      rw [hT]
      clear hr
      go_wp2
      go_ret
      exact ⟨rfl, HR.out⟩
/-- versoref08.cut on its way. -/
def CutSt (c : UInt8) (s : Str) (k j : Nat) (L : List Str) : Prop :=
  (k ≤ s.length → splitF c s = L ++ splitF c (s.drop j) ∧ ∀ i, j ≤ i → i < k → s[i]? ≠ some c) ∧ (k = s.length + 1 → L = splitF c s)
theorem seg_no {c : UInt8} {s : Str} {k j : Nat} (h : ∀ i, j ≤ i → i < k → s[i]? ≠ some c) : ∀ x ∈ (s.drop j).take (k - j), x ≠ c := by
  intro x hx e
  subst e
  obtain ⟨i, hi, he⟩ := List.getElem_of_mem hx
  rw [List.length_take, List.length_drop] at hi
  refine h (j + i) (by omega) (by omega) ?_
  rw [List.getElem_take, List.getElem_drop] at he
  rw [List.getElem?_eq_getElem (by omega), he]
theorem CutSt.sep {c : UInt8} {s : Str} {k j : Nat} {L : List Str} (h : CutSt c s k j L) (hj : j ≤ k) (hk : s[k]? = some c) : CutSt c s (k + 1) (k + 1) (L ++ [(s.drop j).take (k - j)]) := by
  have hlt : k < s.length := (List.getElem?_eq_some_iff.1 hk).1
  obtain ⟨h1, h2⟩ := h.1 (by omega)
  have e : s.drop j = (s.drop j).take (k - j) ++ c :: s.drop (k + 1) := by
    have h3 : (s.drop j).drop (k - j) = c :: s.drop (k + 1) := by
      rw [List.drop_drop, show j + (k - j) = k by omega, List.drop_eq_getElem_cons hlt]
      congr 1
      exact (List.getElem?_eq_some_iff.1 hk).2
    rw [← h3, List.take_append_drop]
  have e2 : splitF c s = L ++ [(s.drop j).take (k - j)] ++ splitF c (s.drop (k + 1)) := by
    rw [h1]
    conv => lhs; rw [e, splitF_app _ _ (seg_no h2)]
    simp
  refine ⟨fun _ => ⟨e2, fun i h1 h2 => by omega⟩, fun hk1 => by omega⟩
theorem CutSt.no {c : UInt8} {s : Str} {k j : Nat} {L : List Str} (h : CutSt c s k j L) (hlt : k < s.length) (hk : s[k]? ≠ some c) : CutSt c s (k + 1) j L := by
  obtain ⟨h1, h2⟩ := h.1 (by omega)
  refine ⟨fun _ => ⟨h1, fun i a b => ?_⟩, fun hk1 => by omega⟩
  by_cases hi : i = k
  · subst hi; exact hk
  · exact h2 i a (by omega)
theorem CutSt.last {c : UInt8} {s : Str} {j : Nat} {L : List Str} (h : CutSt c s s.length j L) (hj : j ≤ s.length) : CutSt c s (s.length + 1) (s.length + 1) (L ++ [(s.drop j).take (s.length - j)]) := by
  obtain ⟨h1, h2⟩ := h.1 (Nat.le_refl _)
  have hs : (s.drop j).take (s.length - j) = s.drop j := List.take_of_length_le (by rw [List.length_drop]; omega)
  have h3 := seg_no h2
  rw [hs] at h3 ⊢
  exact ⟨fun h => by omega, fun _ => by rw [h1, splitF_one _ h3]⟩
theorem ext_mid (s : Str) (j k : Nat) : (⟨s.toArray⟩ : ByteArray).extract j k = ⟨((s.drop j).take (k - j)).toArray⟩ := by
  apply ByteArray.ext
  simp [List.extract_eq_drop_take']
end Go.Proofs.YtlfimcpceiemnaaDoor

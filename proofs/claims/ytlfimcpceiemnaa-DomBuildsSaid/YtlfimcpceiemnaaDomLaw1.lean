/- versoref04.LightTokens, versolaw04.named, dom.Text. -/
import Derived.Test.YtlfimcpceiemnaaSame2
import Derived.Deep.RegionWith
set_option linter.unusedVariables false
namespace Go.Proofs.Ytlfimcpceiemnaa
open Go Go.RowKit

def lightT (t : Token) : Nat := 1 + min t.name.length 6000 + min t.text.length 6000 + min t.attrs.length 6000
def lightSum (l : List Token) : Nat := (l.map lightT).sum
theorem lightSum_snoc (l : List Token) (t : Token) : lightSum (l ++ [t]) = lightSum l + lightT t := by simp [lightSum]
theorem lightSum_take (l : List Token) (k : Nat) : lightSum (l.take k) ≤ lightSum l := by
  have : lightSum l = lightSum (l.take k) + lightSum (l.drop k) := by
    rw [lightSum, lightSum, lightSum, ← List.sum_append, ← List.map_append, List.take_append_drop]
  omega
theorem light_bounds : ∀ {l : List Token}, lightSum l < 6000 → l.length < 6000 ∧ tokText l < 6000 ∧ ∀ t ∈ l, t.attrs.length < 6000
  | [], _ => by simp [tokText]
  | t :: l, h => by
    simp only [lightSum, List.map_cons, List.sum_cons, lightT] at h
    have h2 : lightSum l < 6000 := by unfold lightSum; omega
    obtain ⟨a, b, c⟩ := light_bounds h2
    have key : l.length ≤ lightSum l ∧ tokText l ≤ lightSum l := by
      clear h a b c
      induction l with
      | nil => simp [tokText, lightSum]
      | cons x l ih =>
        have h3 : lightSum l < 6000 := by simp only [lightSum, List.map_cons, List.sum_cons, lightT] at h2 ⊢; omega
        have := ih h3
        simp only [lightSum, tokText, List.map_cons, List.sum_cons, lightT, List.length_cons] at h2 this ⊢
        omega
    simp only [lightSum] at key
    refine ⟨by simp; omega, by simp only [tokText, List.map_cons, List.sum_cons] at key ⊢; omega, ?_⟩
    intro x hx
    rcases List.mem_cons.1 hx with rfl | hx
    · omega
    · exact c x hx
theorem rdtoks_form {m : Mem} {v : Value} {l : List Token} (h : RdToks m v l) : ∃ A c, v = .slice A l.length c ∧ l.length ≤ 9223372036854775807 := by
  obtain ⟨_, hs, _⟩ := h
  have := SlV.max hs
  obtain ⟨_, A, c, h, _⟩ := hs
  exact ⟨A, c, h, this⟩

set_option maxHeartbeats 1600000 in
theorem light_calls {m : Mem} {w : World} (hw : m.ok w) {v : Value} {l : List Token} (h : RdToks m v l) :
    Calls Try.prog 5 #[v] w fun e w' => e = .returned (.bool (decide (lightSum l < 6000))) ∧ ∃ n, w' = w.drewN n := by
  have HTk := Lib.hid (fun hn => tok_cells hw h hn)
  obtain ⟨A, c, rfl, hmax⟩ := rdtoks_form h
  go_enter Try.func5, Try.ntmps5
  go_wp2
  go_loopw [3, 4] (fun s i wr => ∃ k : Nat, k ≤ l.length ∧ i = .int .i64 k ∧ s = .int .i64 (lightSum (l.take k) : Nat) ∧ lightSum (l.take k) ≤ 24000 ∧ m.ok wr ∧ Hid (∃ n, wr = w.drewN n)) (fun _ i _ => l.length - (intOf i).toNat)
  case atStart => exact ⟨0, Nat.zero_le _, rfl, rfl, by simp [lightSum], hw, 0, rfl⟩
  case round =>
    rename World => wr
    obtain ⟨k, hk, rfl, rfl, hS, hok, Hn⟩ := hrel
    have hle := lightSum_take l k
    by_cases hlt : k < l.length ∧ lightSum (l.take k) < 6000
    · obtain ⟨hlt, hs6⟩ := hlt
      obtain ⟨b, o, c', hv, hcl⟩ := HTk.out (by omega)
      injection hv with t1 t2 t3
      subst t1 t3
      obtain ⟨t, ht⟩ : ∃ t, l[k]? = some t := ⟨_, List.getElem?_eq_getElem hlt⟩
      have Htake := Lib.hid (show lightSum (l.take (k + 1)) = lightSum (l.take k) + lightT t by rw [List.take_add_one, ht]; exact lightSum_snoc _ _)
      obtain ⟨Aa, na, ra, hcells⟩ := hcl k t ht
      obtain ⟨y0, y1, y2, y3, y4⟩ := hcells wr hok
      have hok2 := fun n => hok.ch ((Ch.refl (fun _ => False) wr).drewN n) (fun _ hk => hk.elim)
      have i1 : (k : Int) < (l.length : Int) := by omega
      have i2 : (0 : Int) ≤ (k : Int) := by omega
      have i3 : ((lightSum (l.take k) : Nat) : Int) < 6000 := by omega
      have hta := SlV.max ra
      have Hlt : Hid (lightT t = 1 + min t.name.length 6000 + min t.text.length 6000 + min t.attrs.length 6000) := Lib.hid rfl
      have hnl : (t.name.length : Int) ≤ 9223372036854775807 ∨ True := .inr trivial
      clear hcells hcl ht t2 ra hle
      generalize lightSum (l.take k) = S at *
      generalize t.attrs.length = al at *
      generalize t.name = tn at *
      generalize t.text = tt at *
      go_wp2
      go_quiet (fail)
      go_wp2
      go_roundw
      case rel =>
        refine ⟨k + 1, by omega, by go_num, ?_, by rw [Htake.out, Hlt.out]; omega, hok2 _, Lib.hid ?_⟩
        · rw [Htake.out, Hlt.out]
          refine congrArg (Value.int IntKind.i64) ?_
          (repeat' split) <;> omega
        · obtain ⟨n, hn⟩ := Hn.out
          subst hn
          exact ⟨_, by simp; rfl⟩
      case measure => simp [intOf]; omega
    · have hE : decide (lightSum l < 6000) = decide (lightSum (l.take k) < 6000) := by
        by_cases h6 : lightSum (l.take k) < 6000
        · have : k = l.length := by
            rcases Nat.lt_or_ge k l.length with h2 | h2
            · exact absurd ⟨h2, h6⟩ hlt
            · omega
          rw [this, List.take_length]
        · have h7 : ¬ lightSum l < 6000 := by omega
          simp [h6, h7]
      have HE := Lib.hid hE
      clear hE
      by_cases h6 : lightSum (l.take k) < 6000
      · have i1 : ¬ (k : Int) < (l.length : Int) := by
          intro h2
          exact hlt ⟨by omega, h6⟩
        have i3 : ((lightSum (l.take k) : Nat) : Int) < 6000 := by omega
        generalize lightSum (l.take k) = S at *
        clear hlt hle
        go_wp2
        go_ret
        exact ⟨Ret1 (by rw [HE.out]; simp [h6]), Hn.out⟩
      · have i3 : ¬ ((lightSum (l.take k) : Nat) : Int) < 6000 := by omega
        generalize lightSum (l.take k) = S at *
        clear hlt hle
        by_cases i1 : (k : Int) < (l.length : Int)
        · go_wp2
          go_ret
          exact ⟨Ret1 (by rw [HE.out]; simp [h6]), Hn.out⟩
        · go_wp2
          go_ret
          exact ⟨Ret1 (by rw [HE.out]; simp [h6]), Hn.out⟩

def badTok (t : Token) : Bool := t.kind == 2 && t.name == []
set_option maxHeartbeats 1600000 in
theorem named_calls {m : Mem} {w : World} (hw : m.ok w) {v : Value} {l : List Token} (h : RdToks m v l) :
    Calls Try.prog 6 #[v] w fun e w' => e = .returned (.bool (!l.any badTok)) ∧ w = w' := by
  have HTk := Lib.hid (fun hn => tok_cells hw h hn)
  obtain ⟨A, c, rfl, hmax⟩ := rdtoks_form h
  go_enter Try.func6, Try.ntmps6
  go_wp2
  go_loop [3] (fun i => ∃ k : Nat, k ≤ l.length ∧ i = .int .i64 k ∧ Hid ((l.take k).any badTok = false)) (fun i => l.length - (intOf i).toNat)
  case atStart => exact ⟨0, Nat.zero_le _, rfl, rfl⟩
  case round =>
    obtain ⟨k, hk, rfl, HB⟩ := hrel
    by_cases hlt : k < l.length
    · obtain ⟨b, o, c', hv, hcl⟩ := HTk.out (by omega)
      injection hv with t1 t2 t3
      subst t1 t3
      obtain ⟨t, ht⟩ : ∃ t, l[k]? = some t := ⟨_, List.getElem?_eq_getElem hlt⟩
      obtain ⟨Aa, na, ra, hcells⟩ := hcl k t ht
      obtain ⟨y0, y1, y2, y3, y4⟩ := hcells w hw
      have i1 : (k : Int) < (l.length : Int) := by omega
      have i2 : (0 : Int) ≤ (k : Int) := by omega
      have htake : l.take (k + 1) = l.take k ++ [t] := by rw [List.take_add_one, ht]; rfl
      by_cases hb : badTok t = true
      · have hE := Lib.hid (show l.any badTok = true from List.any_eq_true.2 ⟨t, List.mem_of_getElem? ht, hb⟩)
        simp only [badTok, Bool.and_eq_true] at hb
        obtain ⟨q1, q2⟩ := hb
        have q3 : t.name.isEmpty = true := by simpa using q2
        clear hcells hcl ht t2 ra htake q2
        go_wp2
        go_ret
        exact ⟨Ret1 (by simp [hE.out]), rfl⟩
      · have hN := Lib.hid (show (l.take (k + 1)).any badTok = false by rw [htake, List.any_append, HB.out]; simpa using hb)
        clear hcells hcl ht t2 ra htake
        by_cases q1 : (t.kind == 2) = true
        · have q2 : t.name.isEmpty = false := by
            simp only [badTok, q1, Bool.true_and] at hb
            cases hn : t.name with
            | nil => rw [hn] at hb; exact absurd rfl hb
            | cons a b => rfl
          clear hb
          go_wp2
          go_round
          case rel => exact ⟨k + 1, by omega, by go_num, hN⟩
          case measure => simp [intOf]; omega
        · have q1' : (t.kind == 2) = false := by simpa using q1
          clear hb q1
          go_wp2
          go_round
          case rel => exact ⟨k + 1, by omega, by go_num, hN⟩
          case measure => simp [intOf]; omega
    · obtain rfl : k = l.length := by omega
      have hE := Lib.hid (show l.any badTok = false by have := HB.out; rwa [List.take_length] at this)
      go_wp2
      go_ret
      exact ⟨Ret1 (by simp [hE.out]), rfl⟩

end Go.Proofs.Ytlfimcpceiemnaa

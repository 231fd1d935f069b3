/- versolaw04.DomBuilds answers true. -/
import Derived.Test.YtlfimcpceiemnaaDomLaw3
import Derived.Test.YtlfimcpceiemnaaPure3
set_option linter.unusedVariables false
namespace Go.Proofs.Ytlfimcpceiemnaa
open Go Go.RowKit

set_option maxHeartbeats 3200000 in
theorem law_calls {m : Mem} {w : World} (hw : m.ok w) {v : Value} {l : List Token} (h : RdToks m v l) :
    Calls Try.prog 3 #[v] w fun e w' => e = .returned (.bool true) ∧ Ch (fun _ => False) w w' := by
  go_enter Try.func3, Try.ntmps3
  go_wp2_with fail
  refine (awake_calls w).mono ?_
  rintro e w1 ⟨rfl, c1⟩
  have hok1 := hw.ch c1 (fun _ hk => hk.elim)
  go_wp2_with fail
  refine (light_calls hok1 h).mono ?_
  rintro e w2 ⟨rfl, n2, rfl⟩
  have c2 := c1.drewN n2
  have hok2 := hw.ch c2 (fun _ hk => hk.elim)
  generalize w1.drewN n2 = w2 at *
  clear c1 hok1
  go_wp2_with fail
  refine (named_calls hok2 h).mono ?_
  rintro e w3 ⟨rfl, rfl⟩
  by_cases hL : lightSum l < 6000
  · by_cases hN : l.any badTok = false
    · obtain ⟨hb1, hb2, hb3⟩ := light_bounds hL
      have hB := build_calls hok2 h (by omega) (fun t ht => by have := hb3 t ht; omega) (by omega)
      have hE := builds_same l hN
      have HE := Lib.hid hE
      rw [decide_eq_true hL, hN]
      clear hE hL hN
      go_wp2_with fail
      refine hB.mono ?_
      rintro e w3 ⟨va, m3, rfl, hle3, hok3, hrd3, c3, hf3⟩
      have hC := rbuild_calls hok3 (h.le hle3) (by omega) (by omega)
      have c23 := c2.trans c3 (fun _ hk => .inl hk)
      clear hB
      go_wp2_with fail
      refine hC.mono ?_
      rintro e w4 ⟨vb, m4, rfl, hle4, hok4, hrd4, c4, hf4⟩
      have c34 := c23.trans c4 (fun _ hk => .inl hk)
      rw [HE.out] at *
      have hrd5 := hrd3.le hle4
      generalize (refBuild l).1 = xs at *
      generalize (refBuild l).2 = er at *
      have hS := same_calls (SizeOf.sizeOf xs) m4 w4 va vb xs hok4 hrd5 hrd4 (Nat.le_refl _)
      clear hC
      go_wp2_with fail
      refine hS.mono ?_
      rintro e w5 ⟨rfl, n5, rfl⟩
      go_wp2
      go_ret
      exact ⟨rfl, c34.drewN n5⟩
    · rw [decide_eq_true hL, show l.any badTok = true by simpa using hN]
      clear hL hN
      go_wp2
      go_ret
      exact ⟨rfl, c2⟩
  · rw [decide_eq_false hL]
    clear hL
    go_wp2
    go_ret
    exact ⟨rfl, c2⟩
end Go.Proofs.Ytlfimcpceiemnaa

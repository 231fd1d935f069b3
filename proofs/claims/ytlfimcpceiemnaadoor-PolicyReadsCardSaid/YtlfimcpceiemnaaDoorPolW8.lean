/- policy.attr; the closures of policy.Right. -/
import Derived.Test.YtlfimcpceiemnaaDoorPolW7
import Derived.Test.YtlfimcpceiemnaaDoorLibStr
import Derived.Test.YtlfimcpceiemnaaDoorShelf
set_option linter.unusedVariables false
namespace Go.Proofs.YtlfimcpceiemnaaDoor
open Go Go.RowKit

/-- What the library's own variables hold. -/
structure EnvM (m : Mem) : Prop where
  maxlen : ∃ x : Int, m 0 0 = some (.int .i64 x)
  synt : ∃ ev, m 1 0 = some ev ∧ (ev = .nilIface ∨ ∃ te pe, ev = .iface te pe)
  rang : ∃ ev, m 2 0 = some ev ∧ (ev = .nilIface ∨ ∃ te pe, ev = .iface te pe)
theorem Mem.ok.of_le {m m' : Mem} {w : World} (h : m'.ok w) (hl : m.le m') : m.ok w := ⟨fun b o v hv => h _ _ _ (hl _ _ _ hv), h.tab⟩
theorem EnvM.le {m m' : Mem} (h : EnvM m) (hl : m.le m') : EnvM m' := by
  obtain ⟨⟨x, hx⟩, ⟨e1, h1, h2⟩, ⟨e3, h3, h4⟩⟩ := h
  exact ⟨⟨x, hl _ _ _ hx⟩, ⟨e1, hl _ _ _ h1, h2⟩, ⟨e3, hl _ _ _ h3, h4⟩⟩
set_option maxHeartbeats 800000 in
theorem pattr_calls (a : Str) (ha : a.length ≤ 1000000000000) (w : World) : Calls Tryd.prog 43 #[.string ⟨a.toArray⟩] w fun e w' => e = .returned (.bool (attrW a)) ∧ w = w' := by
  have HP := Lib.hid (fun w => (Tryd.strings_HasPrefix ⟨a.toArray⟩ ⟨#[111, 110]⟩ w).mono (R' := fun e w' => e = .returned (.bool (onB a)) ∧ w = w') (fun e w' h => ⟨h.1, h.2.symm⟩))
  have HW := Lib.hid (word_calls a ha w)
  have HA := Lib.hid (show attrW a = (wordF a && !onB a && a != [115, 114, 99, 100, 111, 99] && a != [102, 111, 114, 109, 97, 99, 116, 105, 111, 110] && a != [115, 116, 121, 108, 101]) from rfl)
  generalize onB a = ob at *
  go_enter Tryd.func43, Tryd.ntmps43
  go_wp2_with (first | (go_at_call 39; refine HW.out.mono ?_; rintro e w' ⟨rfl, rfl⟩) | (go_at_call 63; refine (HP.out _).mono ?_; rintro e w' ⟨rfl, rfl⟩))
  all_goals
    go_ret
    refine ⟨Ret1 ?_, rfl⟩
    rw [HA.out]
    clear HW HP
    simp_all [bne]
set_option maxHeartbeats 800000 in
theorem has1_calls {m : Mem} (w : World) (hw : m.ok w) {g : Nat} {v : Value} {xs : List Str} (hg : w.cell? ⟨g, 1, none⟩ = some v) (h : RdStrs m v xs) (hl : xs.length ≤ 1000000000000) (s : Str) :
    Calls Tryd.prog 35 #[.string ⟨s.toArray⟩, .pointer (some ⟨g, 0, none⟩)] w fun e w' => e = .returned (.bool (hasStr xs s)) ∧ w = w' := by
  have HH := Lib.hid (contains_calls w hw h hl s)
  clear h
  go_enter Tryd.func35, Tryd.ntmps35
  go_wp2_with (go_at_call 36; refine HH.out.mono ?_; rintro e w' ⟨rfl, rfl⟩)
  go_ret
  exact ⟨rfl, rfl⟩
def elemOk (s : Str) : Bool := wordF s && !neverF s
def schemeOk (s : Str) : Bool := wordF s && s != cJs && s != cData && s != cVb
set_option maxHeartbeats 800000 in
theorem right2_calls (s : Str) (hs : s.length ≤ 1000000000000) (w : World) : Calls Tryd.prog 38 #[.string ⟨s.toArray⟩] w fun e w' => e = .returned (.bool (elemOk s)) ∧ ∃ n, w' = w.drewN n := by
  have HW := Lib.hid (word_calls s hs w)
  have HN := Lib.hid (never_calls s w)
  have HF := Lib.hid (show elemOk s = (wordF s && !neverF s) from rfl)
  go_enter Tryd.func38, Tryd.ntmps38
  cases hb : wordF s with
  | false =>
    go_wp2_with (go_at_call 39; refine HW.out.mono ?_; rintro e w' ⟨rfl, rfl⟩)
    go_ret
    exact ⟨Ret1 (by rw [HF.out, hb]; rfl), 0, rfl⟩
  | true =>
    go_wp2_with (first | (go_at_call 39; refine HW.out.mono ?_; rintro e w' ⟨rfl, rfl⟩) | (go_at_call 40; refine HN.out.mono ?_; rintro e w' ⟨rfl, rfl⟩))
    go_ret
    exact ⟨Ret1 (by rw [HF.out, hb]; rfl), 0, rfl⟩
set_option maxHeartbeats 800000 in
theorem right4_calls (s : Str) (hs : s.length ≤ 1000000000000) (w : World) : Calls Tryd.prog 44 #[.string ⟨s.toArray⟩] w fun e w' => e = .returned (.bool (schemeOk s)) ∧ ∃ n, w' = w.drewN n := by
  have HW := Lib.hid (word_calls s hs w)
  have HF := Lib.hid (show schemeOk s = (wordF s && s != [106, 97, 118, 97, 115, 99, 114, 105, 112, 116] && s != [100, 97, 116, 97] && s != [118, 98, 115, 99, 114, 105, 112, 116]) from rfl)
  go_enter Tryd.func44, Tryd.ntmps44
  go_wp2_with (go_at_call 39; refine HW.out.mono ?_; rintro e w' ⟨rfl, rfl⟩)
  all_goals
    go_ret
    refine ⟨Ret1 ?_, 0, rfl⟩
    rw [HF.out]
    clear HW
    simp_all [bne]
theorem attrF_cut (elems : List Str) (s : Str) : attrF elems s = ((Lib.cut s [46]).2.2 && ((Lib.cut s [46]).1 == cStar || hasStr elems (Lib.cut s [46]).1) && attrW (Lib.cut s [46]).2.1) := by
  rcases cut_one 46 s with ⟨h1, h2⟩ | ⟨a, b, h1, h2, h3⟩
  · rw [h2, attrF, dot_none (fun j c hj hc => h1 c (List.mem_of_getElem? hc))]; rfl
  · have hd : s.findIdx? (· == 46) = some a.length := dot_some (by rw [h1]; simp) (fun j c hj hc => by
      rw [h1, List.getElem?_append_left hj] at hc
      exact h2 c (List.mem_of_getElem? hc))
    rw [h3, attrF, hd]
    have e1 : s.take a.length = a := by rw [h1]; simp
    have e2 : s.drop (a.length + 1) = b := by rw [h1]; simp
    simp only [e1, e2, Bool.true_and]
theorem cut_len (s : Str) : (Lib.cut s [46]).1.length ≤ s.length ∧ (Lib.cut s [46]).2.1.length ≤ s.length := by
  rcases cut_one 46 s with ⟨h1, h2⟩ | ⟨a, b, h1, h2, h3⟩
  · rw [h2]; simp
  · rw [h3, h1]; simp; omega
set_option maxHeartbeats 1600000 in
theorem right3_calls {m : Mem} (hE : EnvM m) (w : World) (hw : m.ok w) {g q : Nat} {v : Value} {xs : List Str} (hg : w.cell? ⟨g, 1, none⟩ = some v) (hq : w.cell? ⟨q, 0, none⟩ = some (.func (.func 35) #[] #[.pointer (some ⟨g, 0, none⟩)]))
    (h : RdStrs m v xs) (hl : xs.length ≤ 1000000000000) (s : Str) (hs : s.length ≤ 1000000000) :
    Calls Tryd.prog 41 #[.string ⟨s.toArray⟩, .pointer (some ⟨q, 0, none⟩)] w fun e w' => e = .returned (.bool (attrF xs s)) ∧ ∃ n, w' = w.drewN n := by
  obtain ⟨mx, hmx⟩ := hE.maxlen
  have h0 := hw _ _ _ hmx
  have HC := Lib.hid (Tryd.strings_Cut ⟨s.toArray⟩ ⟨#[46]⟩ mx w (by simp [ByteArray.size]; omega) h0)
  have HF := Lib.hid (attrF_cut xs s)
  obtain ⟨l1, l2⟩ := cut_len s
  have hc0 : Lib.cut (⟨s.toArray⟩ : ByteArray).data.toList (⟨#[46]⟩ : ByteArray).data.toList = Lib.cut s [46] := rfl
  rw [hc0] at HC
  generalize Lib.cut s [46] = ct at *
  obtain ⟨a, b, is⟩ := ct
  dsimp only at *
  have HK := Lib.hid (fun n => has1_calls (w.drewN n) (hw.ch ((Ch.refl (fun _ => False) w).drewN n) (fun _ hk => hk.elim)) (g := g) hg h hl a)
  have HA := Lib.hid (fun w => pattr_calls b (by omega) w)
  clear hc0 h hg h0 hmx
  go_enter Tryd.func41, Tryd.ntmps41
  go_wp2_with fail
  refine HC.out.mono ?_
  rintro e w' ⟨rfl, n, rfl⟩
  have HF2 := Lib.hid (show attrF xs s = (is && (a == [42] || hasStr xs a) && attrW b) from HF.out)
  clear HF HC
  cases is with
  | false =>
    go_wp2_with fail
    go_ret
    exact ⟨Ret1 (by rw [HF2.out]; rfl), n, rfl⟩
  | true =>
    cases hst : (a == [42]) with
    | true =>
      go_wp2_with (go_at_call 43; refine (HA.out _).mono ?_; rintro e w' ⟨rfl, rfl⟩)
      go_ret
      exact ⟨Ret1 (by rw [HF2.out, hst]; rfl), n, rfl⟩
    | false =>
      cases hh : hasStr xs a with
      | true =>
        go_wp2_with (first | (go_at_call 43; refine (HA.out _).mono ?_; rintro e w' ⟨rfl, rfl⟩) | (go_at_call 35; refine (HK.out _).mono ?_; rintro e w' ⟨rfl, rfl⟩; rw [hh]))
        go_ret
        exact ⟨Ret1 (by rw [HF2.out, hst, hh]; rfl), n, rfl⟩
      | false =>
        go_wp2_with (go_at_call 35; refine (HK.out _).mono ?_; rintro e w' ⟨rfl, rfl⟩; rw [hh])
        go_ret
        exact ⟨Ret1 (by rw [HF2.out, hst, hh]; rfl), n, rfl⟩
end Go.Proofs.YtlfimcpceiemnaaDoor

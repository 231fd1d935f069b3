/- dom's builder, walked: end. -/
import Derived.Test.YtlfimcpceiemnaaDomW10
set_option linter.unusedVariables false
namespace Go.Proofs.Ytlfimcpceiemnaa
open Go Go.RowKit

theorem BS.start_st (s : BS) (name : Str) (attrs : List Attr) (h : s.st ≠ []) : (s.start name attrs).st ≠ [] ∧ loadS (s.start name attrs).st ≤ loadS s.st + 1 ∧ (s.start name attrs).many = s.many + 1 := by
  obtain ⟨a1, a2⟩ := s.s1_st name h
  obtain ⟨b1, b2⟩ := (s.s1 name).s2_st name a1
  obtain ⟨c1, c2⟩ := ((s.s1 name).s2 name).s3_st name attrs b1
  refine ⟨c1, by simp only [BS.start, BS.count]; omega, ?_⟩
  simp only [BS.start, BS.count]
  rw [(BS.s3_rest _ _ _).1, (BS.s2_rest _ _).1, (BS.s1_rest _ _).1]
theorem closeS_none {name : Str} {t : List Node} (h : ¬ 0 < innerS [name] t) : closeS name t = t := by unfold closeS; rw [if_neg h]

set_option maxHeartbeats 1600000 in
theorem stop_calls {m : Mem} {w : World} {base g : Nat} {s : BS} {vo : Value} {oc : List Value} {ks : List KRow} (h : IsB m w base g s.st.reverse s.many s.over vo oc ks) (hl0 : s.st ≠ [])
    (hl : loadS s.st ≤ 500000) (hm0 : 0 ≤ s.many) (hm1 : s.many ≤ 500000) (name : Str) :
    Calls Try.prog 13 #[.pointer (some ⟨g, 0, none⟩), .string ⟨name.toArray⟩] w (Done (BPost m base g w vo ks (s.stop name).st.reverse (s.stop name).many (s.stop name).over)) := by
  go_enter Try.func13, Try.ntmps13
  go_wp2_with fail
  refine (close_calls h hl0 (by omega) name).mono ?_
  rintro e w1 ⟨rfl, hb1⟩
  by_cases h0 : 0 < innerS [name] s.st
  · have E := Lib.hid (show s.stop name = s.close name by unfold BS.stop; rw [if_pos h0])
    have d0 : decide (0 < innerS [name] s.st) = true := by simpa using h0
    rw [d0]
    go_wp2
    go_end0
    refine Done.mk ?_
    rw [E.out]; exact hb1
  · have d0 : decide (0 < innerS [name] s.st) = false := by simpa using h0
    rw [d0]
    have hcl : s.close name = s := by unfold BS.close; rw [closeS_none h0]
    rw [hcl] at hb1
    obtain ⟨m1, vo1, oc1, ks1, l1, f1, i1, c1, n1⟩ := hb1
    have B1 : ∀ {s4 : BS} {w2 : World}, BPost m1 base g w1 vo1 ks1 s4.st.reverse s4.many s4.over w2 → BPost m base g w vo ks s4.st.reverse s4.many s4.over w2 := fun hb => BPost.step l1 f1 c1 n1 hb
    clear hcl c1 n1 f1 l1
    obtain ⟨st1, st2, st3⟩ := s.start_st name [] hl0
    by_cases hp : name = cP
    · have hp' : (name == ([112] : List UInt8)) = true := by simpa [cP] using hp
      have E := Lib.hid (show s.stop name = (s.start name []).close name by unfold BS.stop; rw [if_neg h0, if_pos (by simpa [cP] using hp)])
      clear hp h0 d0
      go_wp2_with fail
      refine (start_calls i1 hl0 hl hm0 hm1 name (attrs := []) (SlV.nil m1 2) (by simp)).mono ?_
      rintro e w2 ⟨rfl, hb2⟩
      obtain ⟨m2, vo2, oc2, ks2, l2, f2, i2, c2, n2⟩ := hb2
      go_wp2_with fail
      refine (close_calls i2 st1 (by omega) name).mono ?_
      rintro e w3 ⟨rfl, hb3⟩
      have fin := B1 (BPost.step (st2 := ((s.start name []).close name).st.reverse) (many2 := ((s.start name []).close name).many) (over2 := ((s.start name []).close name).over) l2 f2 c2 n2 hb3)
      rw [← E.out] at fin
      clear hb3 i2 c2 n2 f2 l2 B1
      go_wp2
      go_end0
      exact Done.mk fin
    · have hp' : (name == ([112] : List UInt8)) = false := by simpa [cP] using hp
      by_cases hq : name = cBr
      · have hq' : (name == ([98, 114] : List UInt8)) = true := by simpa [cBr] using hq
        have E := Lib.hid (show s.stop name = s.start name [] by unfold BS.stop; rw [if_neg h0, if_neg (by simpa [cP] using hp), if_pos (by simpa [cBr] using hq)])
        clear hp hq h0 d0
        go_wp2_with fail
        refine (start_calls i1 hl0 hl hm0 hm1 name (attrs := []) (SlV.nil m1 2) (by simp)).mono ?_
        rintro e w2 ⟨rfl, hb2⟩
        have fin := B1 hb2
        rw [← E.out] at fin
        clear hb2 B1
        go_wp2
        go_end0
        exact Done.mk fin
      · have hq' : (name == ([98, 114] : List UInt8)) = false := by simpa [cBr] using hq
        have E := Lib.hid (show s.stop name = s by unfold BS.stop; rw [if_neg h0, if_neg (by simpa [cP] using hp), if_neg (by simpa [cBr] using hq)])
        clear hp hq h0 d0
        have fin := B1 (BPost.refl i1)
        rw [← E.out] at fin
        clear B1
        go_wp2
        go_end0
        exact Done.mk fin

end Go.Proofs.Ytlfimcpceiemnaa

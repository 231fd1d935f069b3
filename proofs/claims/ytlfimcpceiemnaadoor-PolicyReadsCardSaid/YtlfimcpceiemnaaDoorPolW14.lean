/- versoref08.sameList, Same. -/
import Derived.Test.YtlfimcpceiemnaaDoorPolW13
set_option linter.unusedVariables false
namespace Go.Proofs.YtlfimcpceiemnaaDoor
open Go Go.RowKit

theorem take_eq_step {xs ys : List Str} {k : Nat} {x y : Str} (h : xs.take k = ys.take k) (hx : xs[k]? = some x) (hy : ys[k]? = some y) (he : x = y) : xs.take (k + 1) = ys.take (k + 1) := by
  rw [List.take_add_one, List.take_add_one, h, hx, hy, he]
set_option maxHeartbeats 800000 in
theorem sameList_calls {m : Mem} (w : World) (hw : m.ok w) {v u : Value} {xs ys : List Str} (h : RdStrs m v xs) (h' : RdStrs m u ys) (hl : xs.length ≤ 1000000000000) :
    Calls Tryd.prog 29 #[v, u] w fun e w' => e = .returned (.bool (xs == ys)) ∧ ∃ n, w' = w.drewN n := by
  obtain ⟨A, c, rfl⟩ := rdstrs_form h
  obtain ⟨B, d, rfl⟩ := rdstrs_form h'
  by_cases hne : xs.length = ys.length
  · have e0 : ((xs.length : Int) != (ys.length : Int)) = false := by rw [hne]; simp
    have Hne := Lib.hid hne
    clear hne
    go_enter Tryd.func29, Tryd.ntmps29
    go_wp2
    go_loopw [5] (fun i wr => ∃ k : Nat, k ≤ xs.length ∧ i = .int .i64 k ∧ m.ok wr ∧ Hid (∃ n, wr = w.drewN n) ∧ Hid (xs.take k = ys.take k)) (fun i _ => xs.length - (intOf i).toNat)
    case atStart => exact ⟨0, Nat.zero_le _, rfl, hw, ⟨0, rfl⟩, rfl⟩
    case round =>
      rename World => wr
      obtain ⟨k, hk, rfl, hok, HR, HK⟩ := hrel
      by_cases hlt : k < xs.length
      · have hlt2 : k < ys.length := by have := Hne.out; omega
        obtain ⟨x, hx⟩ : ∃ x, xs[k]? = some x := ⟨_, List.getElem?_eq_getElem hlt⟩
        obtain ⟨y, hy⟩ : ∃ y, ys[k]? = some y := ⟨_, List.getElem?_eq_getElem hlt2⟩
        obtain ⟨bA, oA, hA, hc⟩ : ∃ b o, A = some ⟨b, o, none⟩ ∧ ∀ k, k < xs.length → wr.cell? ⟨b, o + k, none⟩ = some (.string ⟨(xs[k]?.getD []).toArray⟩) := by
          rcases (strs_cell hok h).2.2 with h0 | h0
          · rw [h0] at hlt; simp at hlt
          · exact h0
        obtain ⟨bB, oB, hB, hd⟩ : ∃ b o, B = some ⟨b, o, none⟩ ∧ ∀ k, k < ys.length → wr.cell? ⟨b, o + k, none⟩ = some (.string ⟨(ys[k]?.getD []).toArray⟩) := by
          rcases (strs_cell hok h').2.2 with h0 | h0
          · rw [h0] at hlt2; simp at hlt2
          · exact h0
        subst hA hB
        have hck := hc k hlt
        have hdk := hd k hlt2
        rw [hx, Option.getD_some] at hck
        rw [hy, Option.getD_some] at hdk
        have hki : (k : Int) < (xs.length : Int) := by omega
        have hki2 : (k : Int) < (ys.length : Int) := by omega
        have hki0 : (0 : Int) ≤ (k : Int) := by omega
        have HM := Lib.hid (fun n => hok.ch ((Ch.refl (fun _ => False) wr).drewN n) (fun _ hk => hk.elim))
        by_cases he : x = y
        · have HT := Lib.hid (take_eq_step HK.out hx hy he)
          have e1 : (x == y) = true := by simpa using he
          clear hc hd hx hy he h h'
          go_wp2
          go_quiet (fail)
          go_wp2
          go_roundw
          case rel =>
            refine ⟨k + 1, by omega, by go_num, HM.out _, Lib.hid ?_, HT⟩
            obtain ⟨n, hn⟩ := HR.out
            subst hn
            exact ⟨_, by simp; rfl⟩
          case measure => simp [intOf]; omega
        · have e1 : (x == y) = false := by simpa using he
          have HF := Lib.hid (show (xs == ys) = false by
            rw [beq_eq_false_iff_ne]
            rintro rfl
            rw [hx] at hy
            exact he (Option.some.inj hy))
          clear hc hd hx hy he h h'
          go_wp2
          go_quiet (fail)
          go_wp2
          go_ret
          refine ⟨Ret1 (by rw [HF.out]; first | rfl | simp), ?_⟩
          obtain ⟨n, hn⟩ := HR.out
          subst hn
          exact ⟨_, by simp; rfl⟩
      · have hki : ¬ (k : Int) < (xs.length : Int) := by omega
        have HF := Lib.hid (show (xs == ys) = true by
          have := HK.out
          rw [List.take_of_length_le (by omega), List.take_of_length_le (by have := Hne.out; omega)] at this
          simpa using this)
        clear h h'
        go_wp2
        go_ret
        exact ⟨Ret1 (by rw [HF.out]; first | rfl | simp), HR.out⟩
  · have e0 : ((xs.length : Int) != (ys.length : Int)) = true := by simpa using fun e => hne (by omega)
    have HF := Lib.hid (show (xs == ys) = false by rw [beq_eq_false_iff_ne]; exact fun e => hne (by rw [e]))
    clear hne h h'
    go_enter Tryd.func29, Tryd.ntmps29
    go_wp2
    go_ret
    exact ⟨Ret1 (by rw [HF.out]; first | rfl | simp), 0, rfl⟩
def samePol (p q : Pol) : Bool := (p.epoch == q.epoch) && (p.elems == q.elems) && (p.attrs == q.attrs) && (p.schemes == q.schemes) && (p.classes == q.classes) && (p.props == q.props) && (p.depth == q.depth) && (p.nodes == q.nodes) && (p.bytes == q.bytes)
theorem samePol_self (p : Pol) : samePol p p = true := by simp [samePol]
theorem samePol_eq {p q : Pol} (h : samePol p q = true) : p = q := by
  obtain ⟨a1, a2, a3, a4, a5, a6, a7, a8, a9⟩ := p
  obtain ⟨b1, b2, b3, b4, b5, b6, b7, b8, b9⟩ := q
  simp only [samePol, Bool.and_eq_true, beq_iff_eq] at h
  obtain ⟨⟨⟨⟨⟨⟨⟨⟨rfl, rfl⟩, rfl⟩, rfl⟩, rfl⟩, rfl⟩, rfl⟩, rfl⟩, rfl⟩ := h
  rfl
set_option maxHeartbeats 3200000 in
set_option maxRecDepth 100000 in
theorem same_calls {m : Mem} (w : World) (hw : m.ok w) {p q : Pol} {v1 v2 v3 v4 v5 u1 u2 u3 u4 u5 : Value} (h : RdPol m p v1 v2 v3 v4 v5) (h' : RdPol m q u1 u2 u3 u4 u5) (hz : ∀ L ∈ lists5 p, L.length ≤ 1000000000000) :
    Calls Tryd.prog 13 #[.agg (polCells p v1 v2 v3 v4 v5), .agg (polCells q u1 u2 u3 u4 u5)] w fun e w' => e = .returned (.bool (samePol p q)) ∧ Ch (fun _ => False) w w' := by
  obtain ⟨r1, r2, r3, r4, r5⟩ := h
  obtain ⟨t1, t2, t3, t4, t5⟩ := h'
  have hch := ((Ch.refl (fun _ => False) w).alloc (.cells (polCells p v1 v2 v3 v4 v5) 25)).alloc (.cells (polCells q u1 u2 u3 u4 u5) 25)
  have hok := hw.ch hch (fun _ h => h.elim)
  have L1 := Lib.hid (fun (wx : World) (hx : m.ok wx) => sameList_calls wx hx r1 t1 (hz p.elems (by simp [lists5])))
  have L2 := Lib.hid (fun (wx : World) (hx : m.ok wx) => sameList_calls wx hx r2 t2 (hz p.attrs (by simp [lists5])))
  have L3 := Lib.hid (fun (wx : World) (hx : m.ok wx) => sameList_calls wx hx r3 t3 (hz p.schemes (by simp [lists5])))
  have L4 := Lib.hid (fun (wx : World) (hx : m.ok wx) => sameList_calls wx hx r4 t4 (hz p.classes (by simp [lists5])))
  have L5 := Lib.hid (fun (wx : World) (hx : m.ok wx) => sameList_calls wx hx r5 t5 (hz p.props (by simp [lists5])))
  have HF := Lib.hid (show samePol p q = ((p.epoch == q.epoch) && (p.elems == q.elems) && (p.attrs == q.attrs) && (p.schemes == q.schemes) && (p.classes == q.classes) && (p.props == q.props) && (p.depth == q.depth) && (p.nodes == q.nodes) && (p.bytes == q.bytes)) from rfl)
  have HC := Lib.hid hch
  have HOK := Lib.hid hok
  unfold polCells at *
  clear r1 r2 r3 r4 r5 t1 t2 t3 t4 t5 hz hch hok hw
  go_enter Tryd.func13, Tryd.ntmps13
  cases b0 : (p.epoch == q.epoch) with
  | false =>
    go_wp2_with fail
    go_ret
    exact ⟨Ret1 (by rw [HF.out, b0]; first | rfl | simp), HC.out.drewN 0⟩
  | true =>
    go_wp2_with fail
    refine (L1.out _ ?_).mono ?_
    exact HOK.out.heap rfl
    rintro e w' ⟨rfl, n1, rfl⟩
    cases b1 : (p.elems == q.elems) with
    | false =>
      go_wp2_with fail
      go_ret
      exact ⟨Ret1 (by rw [HF.out, b0, b1]; first | rfl | simp), HC.out.drewN _⟩
    | true =>
      go_wp2_with fail
      refine (L2.out _ ?_).mono ?_
      exact HOK.out.heap rfl
      rintro e w' ⟨rfl, n2, rfl⟩
      cases b2 : (p.attrs == q.attrs) with
      | false =>
        go_wp2_with fail
        go_ret
        exact ⟨Ret1 (by rw [HF.out, b0, b1, b2]; first | rfl | simp), HC.out.drewN _⟩
      | true =>
        go_wp2_with fail
        refine (L3.out _ ?_).mono ?_
        exact HOK.out.heap rfl
        rintro e w' ⟨rfl, n3, rfl⟩
        cases b3 : (p.schemes == q.schemes) with
        | false =>
          go_wp2_with fail
          go_ret
          exact ⟨Ret1 (by rw [HF.out, b0, b1, b2, b3]; first | rfl | simp), HC.out.drewN _⟩
        | true =>
          go_wp2_with fail
          refine (L4.out _ ?_).mono ?_
          exact HOK.out.heap rfl
          rintro e w' ⟨rfl, n4, rfl⟩
          cases b4 : (p.classes == q.classes) with
          | false =>
            go_wp2_with fail
            go_ret
            exact ⟨Ret1 (by rw [HF.out, b0, b1, b2, b3, b4]; first | rfl | simp), HC.out.drewN _⟩
          | true =>
            go_wp2_with fail
            refine (L5.out _ ?_).mono ?_
            exact HOK.out.heap rfl
            rintro e w' ⟨rfl, n5, rfl⟩
            cases b5 : (p.props == q.props) with
            | false =>
              go_wp2_with fail
              go_ret
              exact ⟨Ret1 (by rw [HF.out, b0, b1, b2, b3, b4, b5]; first | rfl | simp), HC.out.drewN _⟩
            | true =>
              cases c1 : (p.depth == q.depth) with
              | false =>
                go_wp2_with fail
                go_ret
                exact ⟨Ret1 (by rw [HF.out, b0, b1, b2, b3, b4, b5, c1]; first | rfl | simp), HC.out.drewN _⟩
              | true =>
                cases c2 : (p.nodes == q.nodes) with
                | false =>
                  go_wp2_with fail
                  go_ret
                  exact ⟨Ret1 (by rw [HF.out, b0, b1, b2, b3, b4, b5, c1, c2]; first | rfl | simp), HC.out.drewN _⟩
                | true =>
                  cases c3 : (p.bytes == q.bytes) with
                  | false =>
                    go_wp2_with fail
                    go_ret
                    exact ⟨Ret1 (by rw [HF.out, b0, b1, b2, b3, b4, b5, c1, c2, c3]; first | rfl | simp), HC.out.drewN _⟩
                  | true =>
                    go_wp2_with fail
                    go_ret
                    exact ⟨Ret1 (by rw [HF.out, b0, b1, b2, b3, b4, b5, c1, c2, c3]; first | rfl | simp), HC.out.drewN _⟩
end Go.Proofs.YtlfimcpceiemnaaDoor

/- versoref08.Light. -/
import Derived.Test.YtlfimcpceiemnaaDoorPolW14
set_option linter.unusedVariables false
namespace Go.Proofs.YtlfimcpceiemnaaDoor
open Go Go.RowKit

def light (p : Pol) : Prop := ∀ L ∈ lists5 p, L.length ≤ 100 ∧ ∀ x ∈ L, x.length ≤ 10000
def LightPost (p : Pol) (w : World) (e : Ending) (w' : World) : Prop := ∃ b : Bool, e = .returned (.bool b) ∧ (b = true → light p) ∧ Ch (fun _ => False) w w'
theorem five_at {m : Mem} {p : Pol} {v1 v2 v3 v4 v5 : Value} (h : RdPol m p v1 v2 v3 v4 v5) {i : Nat} (hi : i < 5) :
    ∃ L A c, (lists5 p)[i]? = some L ∧ [v1, v2, v3, v4, v5][i]? = some (.slice A L.length c) ∧ RdStrs m (.slice A L.length c) L := by
  obtain ⟨r1, r2, r3, r4, r5⟩ := h
  obtain ⟨A1, c1, rfl⟩ := rdstrs_form r1
  obtain ⟨A2, c2, rfl⟩ := rdstrs_form r2
  obtain ⟨A3, c3, rfl⟩ := rdstrs_form r3
  obtain ⟨A4, c4, rfl⟩ := rdstrs_form r4
  obtain ⟨A5, c5, rfl⟩ := rdstrs_form r5
  match i, hi with
  | 0, _ => exact ⟨_, _, _, rfl, rfl, r1⟩
  | 1, _ => exact ⟨_, _, _, rfl, rfl, r2⟩
  | 2, _ => exact ⟨_, _, _, rfl, rfl, r3⟩
  | 3, _ => exact ⟨_, _, _, rfl, rfl, r4⟩
  | 4, _ => exact ⟨_, _, _, rfl, rfl, r5⟩
theorem lists5_len (p : Pol) : (lists5 p).length = 5 := rfl
/-- What the outer loop has seen. -/
def seen (p : Pol) (i n : Nat) : Prop := (n < 6000 → ∀ (k : Nat) L, k < i → (lists5 p)[k]? = some L → ∀ x ∈ L, x.length ≤ 10000) ∧ ∀ (k : Nat) L, k < i → (lists5 p)[k]? = some L → L.length ≤ 100
set_option maxHeartbeats 1600000 in
set_option maxRecDepth 100000 in
theorem light_calls {m : Mem} (w : World) (hw : m.ok w) {p : Pol} {v1 v2 v3 v4 v5 : Value} (h : RdPol m p v1 v2 v3 v4 v5) :
    Calls Tryd.prog 14 #[.agg (polCells p v1 v2 v3 v4 v5)] w (LightPost p w) := by
  obtain ⟨A1, c1, e1⟩ := rdstrs_form h.r1
  obtain ⟨A2, c2, e2⟩ := rdstrs_form h.r2
  obtain ⟨A3, c3, e3⟩ := rdstrs_form h.r3
  obtain ⟨A4, c4, e4⟩ := rdstrs_form h.r4
  obtain ⟨A5, c5, e5⟩ := rdstrs_form h.r5
  subst e1 e2 e3 e4 e5
  have HRd := Lib.hid h
  clear h
  unfold polCells
  go_enter Tryd.func14, Tryd.ntmps14
  go_wp2
  have hX := ((Ch.refl (fun _ => False) w).alloc (.cells (polCells p (.slice A1 p.elems.length c1) (.slice A2 p.attrs.length c2) (.slice A3 p.schemes.length c3) (.slice A4 p.classes.length c4) (.slice A5 p.props.length c5)) 25)).alloc (.cells #[.slice A1 p.elems.length c1, .slice A2 p.attrs.length c2, .slice A3 p.schemes.length c3, .slice A4 p.classes.length c4, .slice A5 p.props.length c5] 23)
  have hb := heap_alloc_new (w.alloc (.cells (polCells p (.slice A1 p.elems.length c1) (.slice A2 p.attrs.length c2) (.slice A3 p.schemes.length c3) (.slice A4 p.classes.length c4) (.slice A5 p.props.length c5)) 25)) (.cells #[.slice A1 p.elems.length c1, .slice A2 p.attrs.length c2, .slice A3 p.schemes.length c3, .slice A4 p.classes.length c4, .slice A5 p.props.length c5] 23)
  have hsz : (w.alloc (.cells (polCells p (.slice A1 p.elems.length c1) (.slice A2 p.attrs.length c2) (.slice A3 p.schemes.length c3) (.slice A4 p.classes.length c4) (.slice A5 p.props.length c5)) 25)).heap.size = w.heap.size + 1 := by simp
  rw [hsz] at hb
  clear hsz
  have hok := hw.ch hX (fun _ h => h.elim)
  unfold polCells at hX hb hok
  have hcell : ∀ (i : Nat) v, [Value.slice A1 p.elems.length c1, .slice A2 p.attrs.length c2, .slice A3 p.schemes.length c3, .slice A4 p.classes.length c4, .slice A5 p.props.length c5][i]? = some v → _ := fun i v hv => (cell_of_row _ _ i _ _ _ hb).trans (by simpa using hv)
  have HX := Lib.hid hX
  have HOK := Lib.hid hok
  have HCl := Lib.hid hcell
  clear hX hok hcell hb
  generalize hY : World.alloc _ _ = Y at *
  clear hY
  generalize w.heap.size + 1 = sl at *
  go_loopw [3, 19] (fun a r wr => ∃ i n : Nat, i ≤ 5 ∧ n ≤ i * 1000000 ∧ a = .int .i64 n ∧ r = .int .i64 i ∧ wr = Y ∧ Hid (seen p i n)) (fun _ r _ => 5 - (intOf r).toNat)
  case atStart => exact ⟨0, 0, by omega, by omega, rfl, rfl, rfl, Lib.hid ⟨fun _ k L hk => by omega, fun k L hk => by omega⟩⟩
  case round =>
    obtain ⟨i, n, hi, hn, rfl, rfl, hwr, HS⟩ := hrel
    subst hwr
    by_cases hlt : i < 5
    · obtain ⟨L, A, c, h1, h2, h3⟩ := five_at HRd.out hlt
      have h2' := HCl.out i _ h2
      have hii : (i : Int) < 5 := by omega
      have hii0 : (0 : Int) ≤ (i : Int) := by omega
      have H1 := Lib.hid h1
      have H3 := Lib.hid h3
      clear h1 h2 h3
      by_cases hL : L.length ≤ 100
      · have hL2 : ¬ (100 : Int) < (L.length : Int) := by omega
        go_wp2
        go_loop [3, 6] (fun a r => ∃ j n' : Nat, j ≤ L.length ∧ n' ≤ n + j * 10000 ∧ a = .int .i64 n' ∧ r = .int .i64 j ∧ Hid (n' < 6000 → n < 6000 ∧ ∀ x ∈ L.take j, x.length ≤ 10000)) (fun _ r => L.length - (intOf r).toNat)
        case atStart => exact ⟨0, n, by omega, by omega, rfl, rfl, Lib.hid (fun h => ⟨h, by simp⟩)⟩
        case round =>
          obtain ⟨j, n', hj, hn', rfl, rfl, HJ⟩ := hrel
          by_cases hlj : j < L.length
          · obtain ⟨x, hx⟩ : ∃ x, L[j]? = some x := ⟨_, List.getElem?_eq_getElem hlj⟩
            obtain ⟨bA, oA, hA, hc⟩ : ∃ b o, A = some ⟨b, o, none⟩ ∧ ∀ k, k < L.length → wr.cell? ⟨b, o + k, none⟩ = some (.string ⟨(L[k]?.getD []).toArray⟩) := by
              rcases (strs_cell HOK.out H3.out).2.2 with h0 | h0
              · rw [h0] at hlj; simp at hlj
              · exact h0
            subst hA
            have hck := hc j hlj
            rw [hx, Option.getD_some] at hck
            have hjj : (j : Int) < (L.length : Int) := by omega
            have hjj0 : (0 : Int) ≤ (j : Int) := by omega
            obtain ⟨y, hy, hy1, hy2⟩ : ∃ y : Nat, (min (x.length : Int) 10000) = (y : Int) ∧ y ≤ 10000 ∧ (y < 6000 → x.length ≤ 10000) := ⟨min x.length 10000, by omega, by omega, by omega⟩
            have HY := Lib.hid hy2
            have HT := Lib.hid (show L.take (j + 1) = L.take j ++ [x] by rw [List.take_add_one, hx]; rfl)
            clear hc hx hy2
            go_wp2
            go_round
            case rel =>
              refine ⟨j + 1, n' + y, by omega, by omega, by go_num, by go_num, Lib.hid (fun h => ?_)⟩
              have h1 := HJ.out (by omega)
              refine ⟨h1.1, fun z hz => ?_⟩
              rw [HT.out] at hz
              rcases List.mem_append.1 hz with h2 | h2
              · exact h1.2 z h2
              · rw [List.mem_singleton] at h2; subst h2; exact HY.out (by omega)
            case measure => simp [intOf]; omega
          · have hjj : ¬ (j : Int) < (L.length : Int) := by omega
            have hj1 : L.take j = L := List.take_of_length_le (by omega)
            rw [hj1] at HJ
            have hjl : j ≤ 100 := by omega
            clear hj1
            go_wp2
            go_roundw
            case rel =>
              refine ⟨i + 1, n', by omega, by omega, by first | rfl | trivial, by go_num, by first | rfl | trivial, Lib.hid ⟨fun h k M hk hM => ?_, fun k M hk hM => ?_⟩⟩
              · by_cases e : k = i
                · subst e
                  have := H1.out.symm.trans hM
                  injection this with this
                  subst this
                  exact (HJ.out h).2
                · exact HS.out.1 (HJ.out h).1 k M (by omega) hM
              · by_cases e : k = i
                · subst e
                  have := H1.out.symm.trans hM
                  injection this with this
                  subst this
                  exact hL
                · exact HS.out.2 k M (by omega) hM
            case measure => simp [intOf]; omega
      · have hL2 : (100 : Int) < (L.length : Int) := by omega
        go_wp2
        go_ret
        exact ⟨false, rfl, (fun h => by cases h), HX.out⟩
    · have hi5 : i = 5 := by omega
      subst hi5
      have hii : ¬ ((5 : Nat) : Int) < 5 := by omega
      by_cases hn6 : n < 6000
      · have hn7 : (n : Int) < 6000 := by omega
        go_wp2
        go_ret
        refine ⟨true, rfl, fun _ L hL => ?_, HX.out⟩
        obtain ⟨k, hk, hkL⟩ := List.mem_iff_getElem.1 hL
        have hk5 : k < 5 := by simpa [lists5_len] using hk
        have e : (lists5 p)[k]? = some L := by rw [List.getElem?_eq_getElem hk, hkL]
        exact ⟨HS.out.2 k L hk5 e, HS.out.1 hn6 k L hk5 e⟩
      · have hn7 : ¬ (n : Int) < 6000 := by omega
        go_wp2
        go_ret
        exact ⟨false, rfl, (fun h => by cases h), HX.out⟩
end Go.Proofs.YtlfimcpceiemnaaDoor

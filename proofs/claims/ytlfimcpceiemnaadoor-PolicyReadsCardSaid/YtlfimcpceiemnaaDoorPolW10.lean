/- strconv.Itoa, strings.Join, the closure of policy.Text. -/
import Derived.Test.YtlfimcpceiemnaaDoorPolW9
import Derived.Test.YtlfimcpceiemnaaDoorBld
import Derived.Lib.AppendIntMem
set_option linter.unusedVariables false
namespace Go.Proofs.YtlfimcpceiemnaaDoor
open Go Go.RowKit

theorem decDigits_eq (n : Nat) : Lib.decDigits n = digS n := by
  induction n using digS.induct with
  | case1 n h => rw [digS, if_pos h, Lib.decDigits_one h]
  | case2 n h ih => rw [digS, if_neg h, Lib.decDigits, dif_neg h, ih]
theorem itoa_eq {n : Int} (h : 0 ≤ n) : Lib.itoa n = decS n := by rw [Lib.itoa, if_neg (by omega), decDigits_eq]; rfl
theorem itoa_calls {m : Mem} (hE : EnvM m) (w : World) (hw : m.ok w) (n : Int) (h0 : 0 ≤ n) (h1 : n ≤ 1000000000000) :
    Calls Tryd.prog 33 #[.int .i64 n] w fun e w' => e = .returned (.string ⟨(decS n).toArray⟩) ∧ Ch (fun _ => False) w w' := by
  refine (Tryd.strconv_Itoa n (by omega) (by omega) w hw.tab).mono ?_
  rintro e w' ⟨rfl, k, os, rfl⟩
  exact ⟨by rw [itoa_eq h0], Ch.of_below (Lib.below_grow _ _ (Nat.le_refl _) _ _) _⟩
def joinW : List Str → Str
  | [] => []
  | [a] => a
  | a :: r => a ++ 32 :: joinW r
theorem join_joinW (l : List Str) : Lib.join l [32] = joinW l := by
  induction l with
  | nil => rfl
  | cons a r ih =>
    cases r with
    | nil => rw [Lib.join_one]; rfl
    | cons b r =>
      rw [joinW, ← ih]
      simp [Lib.join, List.intercalate]
      intro h; cases h
theorem below_ch {w w' : World} (h : Below w.heap.size w w') : Ch (fun _ => False) w w' := Ch.of_below h _
set_option maxHeartbeats 1000000 in
theorem lay_calls {T : TypeId} (hT : BldTy T) (hT5 : T ≠ 5) {m : Mem} {w : World} {B b : Nat} {bs : Str} (h : BldAt T m w B b bs) (ws : List Str) (bk c : Nat)
    (hcells : ∀ (j : Nat) x, ws[j]? = some x → w.cell? ⟨bk, j, none⟩ = some (.string ⟨x.toArray⟩)) (hbk : bk < w.heap.size) (hn : ws.length ≤ 1000) (hc : ws.length ≤ c) (hl : (joinW ws).length ≤ 1000000) (hbs : bs.length ≤ 1000000000) :
    Calls Tryd.prog 30 #[.slice (some ⟨bk, 0, none⟩) ws.length c, .pointer (some ⟨b, 0, none⟩)] w fun e w' => e = .returned (.tuple #[]) ∧ BldAt T m w' B b (bs ++ (joinW ws ++ [10])) ∧ Ch (fun k => B ≤ k) w w' := by
  have e0 : (ws.map fun s => (⟨s.toArray⟩ : ByteArray)).map (·.data.toList) = ws := by
    rw [List.map_map]
    conv => rhs; rw [← List.map_id ws]
    exact List.map_congr_left fun x _ => by simp
  have HJ := Tryd.strings_Join bk 0 c (ws.map fun s => (⟨s.toArray⟩ : ByteArray)) ⟨#[32]⟩ w (fun j x hx => by
    rw [List.getElem?_map] at hx
    obtain ⟨s, hs, rfl⟩ := Option.map_eq_some_iff.1 hx
    rw [Nat.zero_add]
    exact hcells j s hs) hbk (by simp; omega) (by simpa using hc) (by rw [e0]; have : (⟨#[32]⟩ : ByteArray).data.toList = [32] := rfl
                                                                      rw [this, join_joinW]; omega)
  rw [e0, show (⟨#[32]⟩ : ByteArray).data.toList = [32] from rfl, join_joinW, List.length_map] at HJ
  have HJ := Lib.hid HJ
  have H := Lib.hid h
  clear h hcells
  generalize hj : joinW ws = js at *
  clear hj e0
  go_enter Tryd.func30, Tryd.ntmps30
  go_wp2_with fail
  refine HJ.out.mono ?_
  rintro e w1 ⟨rfl, hb1⟩
  have H1 := Lib.hid (H.out.ch (m' := m) (below_ch hb1) (fun _ h => h.elim))
  have HW := Lib.hid (write_calls hT hT5 H1.out (js ++ [10]) (by simp; omega))
  have hc1 := Lib.hid (below_ch hb1)
  have hsz := H.out.size
  clear hb1
  have hcat : (⟨js.toArray⟩ : ByteArray) ++ ⟨#[10]⟩ = ⟨(js ++ [10]).toArray⟩ := by
    apply ByteArray.ext
    simp
  go_wp2_with fail
  refine HW.out.mono ?_
  rintro e w2 ⟨rfl, h2, hc2⟩
  have H2 := Lib.hid h2
  have hc3 := Lib.hid ((hc1.out.mono' (T := fun k => B ≤ k) (fun k h => h.elim)).trans hc2 (fun k hk => .inl hk))
  clear h2 hc2
  go_wp2
  go_end0
  exact ⟨rfl, H2.out, hc3.out⟩
end Go.Proofs.YtlfimcpceiemnaaDoor

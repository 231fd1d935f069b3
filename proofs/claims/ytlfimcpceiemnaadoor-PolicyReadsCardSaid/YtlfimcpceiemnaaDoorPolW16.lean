/- policy.Elem, Attr; versolaw08.awake. -/
import Derived.Test.YtlfimcpceiemnaaDoorPolW15
set_option linter.unusedVariables false
namespace Go.Proofs.YtlfimcpceiemnaaDoor
open Go Go.RowKit

set_option maxHeartbeats 800000 in
theorem elem_calls {m : Mem} (w : World) (hw : m.ok w) {p : Pol} {v1 v2 v3 v4 v5 : Value} (h : RdPol m p v1 v2 v3 v4 v5) (hl : p.elems.length ≤ 1000000000000) (s : Str) :
    Calls Tryd.prog 50 #[.agg (polCells p v1 v2 v3 v4 v5), .string ⟨s.toArray⟩] w fun e w' => e = .returned (.bool (hasStr p.elems s)) ∧ Ch (fun _ => False) w w' := by
  have hX := (Ch.refl (fun _ => False) w).alloc (.cells (polCells p v1 v2 v3 v4 v5) 25)
  have hok := hw.ch hX (fun _ h => h.elim)
  have HH := Lib.hid (contains_calls _ hok h.r1 hl s)
  have HX := Lib.hid hX
  unfold polCells at *
  clear hX hok h hw
  go_enter Tryd.func50, Tryd.ntmps50
  go_wp2_with fail
  refine HH.out.mono ?_
  rintro e w' ⟨rfl, rfl⟩
  go_wp2
  go_ret
  exact ⟨rfl, HX.out⟩
theorem cat_str (a b : Str) : (⟨a.toArray⟩ : ByteArray) ++ ⟨b.toArray⟩ = ⟨(a ++ b).toArray⟩ := by
  apply ByteArray.ext
  simp
def letsF (p : Pol) (s a : Str) : Bool := hasStr p.elems s && (hasStr p.attrs (42 :: 46 :: a) || hasStr p.attrs (s ++ 46 :: a))
set_option maxHeartbeats 1600000 in
set_option maxRecDepth 100000 in
theorem pAttr_calls {m : Mem} (w : World) (hw : m.ok w) {p : Pol} {v1 v2 v3 v4 v5 : Value} (h : RdPol m p v1 v2 v3 v4 v5) (hl : p.elems.length ≤ 1000000000000) (hl2 : p.attrs.length ≤ 1000000000000) (s a : Str) (hs : s.length ≤ 1000000) (ha : a.length ≤ 1000000) :
    Calls Tryd.prog 23 #[.agg (polCells p v1 v2 v3 v4 v5), .string ⟨s.toArray⟩, .string ⟨a.toArray⟩] w fun e w' => e = .returned (.bool (letsF p s a)) ∧ Ch (fun _ => False) w w' := by
  have hX := (Ch.refl (fun _ => False) w).alloc (.cells (polCells p v1 v2 v3 v4 v5) 25)
  have hok := hw.ch hX (fun _ h => h.elim)
  have HE := Lib.hid (elem_calls _ hok h hl s)
  have hb := heap_alloc_new w (.cells (polCells p v1 v2 v3 v4 v5) 25)
  have c1 : (⟨#[42, 46]⟩ : ByteArray) ++ ⟨a.toArray⟩ = ⟨(42 :: 46 :: a).toArray⟩ := cat_str [42, 46] a
  have c2 : (⟨s.toArray⟩ : ByteArray) ++ ⟨#[46]⟩ = ⟨(s ++ [46]).toArray⟩ := cat_str s [46]
  have c3 : (⟨(s ++ [46]).toArray⟩ : ByteArray) ++ ⟨a.toArray⟩ = ⟨(s ++ 46 :: a).toArray⟩ := by rw [cat_str, List.append_assoc]; rfl
  have HR := Lib.hid h.r2
  have HL := Lib.hid (show letsF p s a = (hasStr p.elems s && (hasStr p.attrs (42 :: 46 :: a) || hasStr p.attrs (s ++ 46 :: a))) from rfl)
  have HX := Lib.hid hX
  have HO := Lib.hid hok
  have Hb := Lib.hid hb
  unfold polCells at *
  clear hX hok h hw hb
  go_enter Tryd.func23, Tryd.ntmps23
  go_wp2_with fail
  refine HE.out.mono ?_
  rintro e w1 ⟨rfl, hc⟩
  have hok1 := HO.out.ch hc (fun _ h => h.elim)
  have hb1 := hc.heap Hb.out (fun h => h)
  have y2 : w1.cell? ⟨w.heap.size, 2, none⟩ = some v2 := by rw [cell_of_row w1 _ 2 _ _ _ hb1]; rfl
  have HC := Lib.hid (HX.out.trans hc (fun _ h => .inl h))
  have H1 := Lib.hid (contains_calls w1 hok1 HR.out hl2 (42 :: 46 :: a))
  have H2 := Lib.hid (contains_calls w1 hok1 HR.out hl2 (s ++ 46 :: a))
  clear hb1 hc
  cases b0 : hasStr p.elems s with
  | false =>
    go_wp2_with fail
    go_ret
    exact ⟨Ret1 (by rw [HL.out, b0]; rfl), HC.out⟩
  | true =>
    go_wp2_with fail
    refine H1.out.mono ?_
    rintro e w' ⟨rfl, rfl⟩
    cases b1 : hasStr p.attrs (42 :: 46 :: a) with
    | true =>
      go_wp2_with fail
      go_ret
      exact ⟨Ret1 (by rw [HL.out, b0, b1]; rfl), HC.out⟩
    | false =>
      go_wp2_with fail
      refine H2.out.mono ?_
      rintro e w' ⟨rfl, rfl⟩
      go_wp2_with fail
      go_ret
      exact ⟨Ret1 (by rw [HL.out, b0, b1]; rfl), HC.out⟩
def P0 : Pol := ⟨1, [[97]], [[97, 46, 104, 114, 101, 102]], [], [], [], 9, 99, 999⟩
theorem right0 : rightF P0 = true := by decide
theorem dig1 (n : Nat) (h : n < 10) : digS n = [UInt8.ofNat (48 + n)] := by rw [digS, if_pos h]
theorem dig99 : digS 99 = [57, 57] := by rw [digS, if_neg (by omega), dig1 _ (by omega)]; rfl
theorem dig999 : digS 999 = [57, 57, 57] := by
  rw [digS, if_neg (by omega), show 999 / 10 = 99 from rfl, dig99]; rfl
theorem text0 : textR P0 = [101, 112, 111, 99, 104, 32, 49, 10, 101, 108, 101, 109, 32, 97, 10, 97, 116, 116, 114, 32, 97, 46, 104, 114, 101, 102, 10, 99, 97, 112, 115, 32, 57, 32, 57, 57, 32, 57, 57, 57, 10] := by
  rw [textR, if_pos right0, textF]
  have e1 : decS P0.epoch = [49] := dig1 1 (by omega)
  have e2 : decS P0.depth = [57] := dig1 9 (by omega)
  have e3 : decS P0.nodes = [57, 57] := dig99
  have e4 : decS P0.bytes = [57, 57, 57] := dig999
  rw [e1, e2, e3, e4]
  rfl
theorem textE0 : textE P0 = 0 := by rw [textE, if_pos right0]
theorem sz0 : P0.sz := by
  refine ⟨?_, ?_, ?_, ?_, ?_⟩
  all_goals
    refine ⟨by decide, fun x hx => ?_⟩
    simp [P0] at hx
    try (subst hx; decide)
set_option maxHeartbeats 1600000 in
set_option maxRecDepth 100000 in
theorem awake_calls {m : Mem} (hE : EnvM m) (w : World) (hw : m.ok w) :
    Calls Tryd.prog 10 #[] w fun e w' => e = .returned (.bool true) ∧ Ch (fun _ => False) w w' := by
  go_enter Tryd.func10, Tryd.ntmps10
  go_upto_region 2 with fail
  obtain ⟨X, hX⟩ : ∃ X : World, X = (((w.alloc (.cells #[.string ⟨#[97]⟩] 9)).alloc (.cells #[.string ⟨#[97, 46, 104, 114, 101, 102]⟩] 9)).alloc (.cells #[.int .i64 1, .slice (some ⟨w.heap.size, 0, none⟩) 1 1, .slice (some ⟨w.heap.size + 1, 0, none⟩) 1 1, .slice none 0 0, .slice none 0 0, .slice none 0 0, .int .i64 9, .int .i64 99, .int .i64 999] 25)) := ⟨_, rfl⟩
  have hc : Ch (fun _ => False) w X := by rw [hX]; exact (((Ch.refl _ w).alloc _).alloc _).alloc _
  have hbx : X.heap[w.heap.size + 1 + 1]? = some (.cells #[.int .i64 1, .slice (some ⟨w.heap.size, 0, none⟩) 1 1, .slice (some ⟨w.heap.size + 1, 0, none⟩) 1 1, .slice none 0 0, .slice none 0 0, .slice none 0 0, .int .i64 9, .int .i64 99, .int .i64 999] 25 (0, 0)) := by
    rw [hX]
    have := heap_alloc_new ((w.alloc (.cells #[.string ⟨#[97]⟩] 9)).alloc (.cells #[.string ⟨#[97, 46, 104, 114, 101, 102]⟩] 9)) (.cells #[.int .i64 1, .slice (some ⟨w.heap.size, 0, none⟩) 1 1, .slice (some ⟨w.heap.size + 1, 0, none⟩) 1 1, .slice none 0 0, .slice none 0 0, .slice none 0 0, .int .i64 9, .int .i64 99, .int .i64 999] 25)
    simpa using this
  have x1 : X.cell? ⟨w.heap.size, 0, none⟩ = some (.string ⟨#[97]⟩) := by
    have h1 : (w.alloc (.cells #[.string ⟨#[97]⟩] 9)).cell? ⟨w.heap.size, 0, none⟩ = some (.string ⟨#[97]⟩) := by rw [cell_of_row _ _ 0 _ _ _ (heap_alloc_new w _)]; rfl
    rw [hX]
    exact (((Ch.refl (fun _ => False) (w.alloc (.cells #[.string ⟨#[97]⟩] 9))).alloc _).alloc _).cell h1 (fun h => h)
  have x2 : X.cell? ⟨w.heap.size + 1, 0, none⟩ = some (.string ⟨#[97, 46, 104, 114, 101, 102]⟩) := by
    have h0 : (w.alloc (.cells #[.string ⟨#[97]⟩] 9)).heap.size = w.heap.size + 1 := by simp
    have h1 : ((w.alloc (.cells #[.string ⟨#[97]⟩] 9)).alloc (.cells #[.string ⟨#[97, 46, 104, 114, 101, 102]⟩] 9)).cell? ⟨w.heap.size + 1, 0, none⟩ = some (.string ⟨#[97, 46, 104, 114, 101, 102]⟩) := by rw [← h0, cell_of_row _ _ 0 _ _ _ (heap_alloc_new _ _)]; rfl
    rw [hX]
    exact ((Ch.refl (fun _ => False) ((w.alloc (.cells #[.string ⟨#[97]⟩] 9)).alloc (.cells #[.string ⟨#[97, 46, 104, 114, 101, 102]⟩] 9))).alloc _).cell h1 (fun h => h)
  rw [← hX]
  clear hX
  generalize w.heap.size = b at *
  have hokX := hw.ch hc (fun _ h => h.elim)
  have hle : m.le (memAll X) := hokX.cells
  have hrd : RdPol (memAll X) P0 (.slice (some ⟨b, 0, none⟩) 1 1) (.slice (some ⟨b + 1, 0, none⟩) 1 1) (.slice none 0 0) (.slice none 0 0) (.slice none 0 0) := by
    refine ⟨⟨rfl, _, 1, rfl, ⟨Nat.le_refl _, by omega⟩, fun _ => ⟨b, 0, rfl, fun i v hv => ?_⟩⟩, ⟨rfl, _, 1, rfl, ⟨Nat.le_refl _, by omega⟩, fun _ => ⟨b + 1, 0, rfl, fun i v hv => ?_⟩⟩, SlV.nil _ _, SlV.nil _ _, SlV.nil _ _⟩
    · match i, hv with
      | 0, hv => simp [strCells, P0] at hv; subst hv; exact x1
      | i + 1, hv => simp [strCells, P0] at hv
    · match i, hv with
      | 0, hv => simp [strCells, P0] at hv; subst hv; exact x2
      | i + 1, hv => simp [strCells, P0] at hv
  have HT := Lib.hid (ptext_calls (hE.le hle) X (memAll_ok hokX) sz0 hrd)
  have HR := Lib.hid (fun (wx : World) (hx : (memAll X).ok wx) => pright_calls (hE.le hle) wx hx sz0 hrd)
  have HA := Lib.hid (fun (wx : World) (hx : (memAll X).ok wx) => pAttr_calls wx hx hrd (by decide) (by decide) [97] [104, 114, 101, 102] (by decide) (by decide))
  have HX := Lib.hid hc
  have HOK := Lib.hid (memAll_ok hokX)
  have y0 : X.cell? ⟨b + 1 + 1, 0, none⟩ = some (.int .i64 1) := by rw [cell_of_row X _ 0 _ _ _ hbx]; rfl
  have y1 : X.cell? ⟨b + 1 + 1, 1, none⟩ = some (.slice (some ⟨b, 0, none⟩) 1 1) := by rw [cell_of_row X _ 1 _ _ _ hbx]; rfl
  have y2 : X.cell? ⟨b + 1 + 1, 2, none⟩ = some (.slice (some ⟨b + 1, 0, none⟩) 1 1) := by rw [cell_of_row X _ 2 _ _ _ hbx]; rfl
  have y3 : X.cell? ⟨b + 1 + 1, 3, none⟩ = some (.slice none 0 0) := by rw [cell_of_row X _ 3 _ _ _ hbx]; rfl
  have y4 : X.cell? ⟨b + 1 + 1, 4, none⟩ = some (.slice none 0 0) := by rw [cell_of_row X _ 4 _ _ _ hbx]; rfl
  have y5 : X.cell? ⟨b + 1 + 1, 5, none⟩ = some (.slice none 0 0) := by rw [cell_of_row X _ 5 _ _ _ hbx]; rfl
  have y6 : X.cell? ⟨b + 1 + 1, 6, none⟩ = some (.int .i64 9) := by rw [cell_of_row X _ 6 _ _ _ hbx]; rfl
  have y7 : X.cell? ⟨b + 1 + 1, 7, none⟩ = some (.int .i64 99) := by rw [cell_of_row X _ 7 _ _ _ hbx]; rfl
  have y8 : X.cell? ⟨b + 1 + 1, 8, none⟩ = some (.int .i64 999) := by rw [cell_of_row X _ 8 _ _ _ hbx]; rfl
  clear hle hrd hc hbx x1 x2 hw hE
  rw [text0, textE0] at HT
  rw [right0] at HR
  rw [show letsF P0 [97] [104, 114, 101, 102] = true from by decide] at HA
  have Hb := Lib.hid (fun (wx : World) (hx : Ch (fun _ => False) X wx) => show (wx.cell? ⟨b + 1 + 1, 0, none⟩ = some (.int .i64 1) ∧ wx.cell? ⟨b + 1 + 1, 1, none⟩ = some (.slice (some ⟨b, 0, none⟩) 1 1) ∧ wx.cell? ⟨b + 1 + 1, 2, none⟩ = some (.slice (some ⟨b + 1, 0, none⟩) 1 1) ∧ wx.cell? ⟨b + 1 + 1, 3, none⟩ = some (.slice none 0 0) ∧ wx.cell? ⟨b + 1 + 1, 4, none⟩ = some (.slice none 0 0) ∧ wx.cell? ⟨b + 1 + 1, 5, none⟩ = some (.slice none 0 0) ∧ wx.cell? ⟨b + 1 + 1, 6, none⟩ = some (.int .i64 9) ∧ wx.cell? ⟨b + 1 + 1, 7, none⟩ = some (.int .i64 99) ∧ wx.cell? ⟨b + 1 + 1, 8, none⟩ = some (.int .i64 999)) from ⟨hx.cell y0 (fun h => h), hx.cell y1 (fun h => h), hx.cell y2 (fun h => h), hx.cell y3 (fun h => h), hx.cell y4 (fun h => h), hx.cell y5 (fun h => h), hx.cell y6 (fun h => h), hx.cell y7 (fun h => h), hx.cell y8 (fun h => h)⟩)
  go_wp2_with fail
  refine HT.out.mono ?_
  rintro e X1 ⟨rfl, c1⟩
  have HC1 := Lib.hid c1
  obtain ⟨z0, z1, z2, z3, z4, z5, z6, z7, z8⟩ := Hb.out X1 c1
  have ok1 := HOK.out.ch c1 (fun _ h => h.elim)
  clear c1 y0 y1 y2 y3 y4 y5 y6 y7 y8
  go_wp2_with fail
  refine (HR.out X1 ok1).mono ?_
  rintro e X2 ⟨rfl, c2⟩
  have HC2 := Lib.hid (HC1.out.trans c2 (fun _ h => .inl h))
  obtain ⟨y0, y1, y2, y3, y4, y5, y6, y7, y8⟩ := Hb.out X2 HC2.out
  have ok2 := ok1.ch c2 (fun _ h => h.elim)
  clear c2 z0 z1 z2 z3 z4 z5 z6 z7 z8 ok1
  go_wp2_with fail
  refine (HA.out X2 ok2).mono ?_
  rintro e X3 ⟨rfl, c3⟩
  have HC3 := Lib.hid (HX.out.trans (HC2.out.trans c3 (fun _ h => .inl h)) (fun _ h => .inl h))
  clear c3
  go_wp2
  go_ret
  exact ⟨rfl, HC3.out⟩
end Go.Proofs.YtlfimcpceiemnaaDoor

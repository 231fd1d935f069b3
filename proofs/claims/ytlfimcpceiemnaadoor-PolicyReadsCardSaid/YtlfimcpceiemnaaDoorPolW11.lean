/- policy.Text. -/
import Derived.Test.YtlfimcpceiemnaaDoorPolW10
import Derived.Deep.RegionHeld3
set_option linter.unusedVariables false
namespace Go.Proofs.YtlfimcpceiemnaaDoor
open Go Go.RowKit

def textR (p : Pol) : Str := if rightF p = true then textF p else []
def textE (p : Pol) : Int := if rightF p = true then 0 else 2
def secF (p : Pol) : List (Str × List Str) := [(cElem, p.elems), (cAttr, p.attrs), (cScheme, p.schemes), (cClass, p.classes), (cProp, p.props)]
def tkF (p : Pol) (i : Nat) : Str := lineF cEpoch (decS p.epoch) ++ ((secF p).take i).flatMap (fun s => linesF s.1 s.2)
theorem tkF_succ {p : Pol} {i : Nat} {nm : Str} {L : List Str} (h : (secF p)[i]? = some (nm, L)) : tkF p (i + 1) = tkF p i ++ linesF nm L := by
  rw [tkF, List.take_add_one, h, List.flatMap_append, tkF, List.append_assoc]; simp
theorem tkF_text (p : Pol) : textF p = tkF p 5 ++ lineF cCaps (decS p.depth ++ 32 :: (decS p.nodes ++ 32 :: decS p.bytes)) := by
  simp [textF, tkF, secF]
theorem tkF_len (p : Pol) (hr : rightF p = true) (i : Nat) : (tkF p i).length ≤ 20000 := by
  have h1 := textF_len hr
  have h2 := congrArg List.length (tkF_text p)
  have h3 : tkF p 5 = tkF p i ++ ((secF p).drop i).flatMap (fun s => linesF s.1 s.2) := by
    rw [tkF, tkF, List.append_assoc, ← List.flatMap_append, List.take_append_drop]; rfl
  have h4 := congrArg List.length h3
  rw [List.length_append] at h2 h4
  omega
theorem linesF_take_len (h : Str) (l : List Str) (j : Nat) : (linesF h (l.take j)).length ≤ (linesF h l).length := by
  have : linesF h l = linesF h (l.take j) ++ linesF h (l.drop j) := by rw [linesF, linesF, linesF, ← List.flatMap_append, List.take_append_drop]
  rw [this, List.length_append]; omega
theorem linesF_snoc {h : Str} {l : List Str} {j : Nat} {x : Str} (hx : l[j]? = some x) : linesF h (l.take (j + 1)) = linesF h (l.take j) ++ lineF h x := by
  rw [List.take_add_one, hx, linesF, List.flatMap_append, linesF]; simp
theorem join_line (h s : Str) : joinW [h, s] ++ [10] = lineF h s := by simp [joinW, lineF]
def secNames : Array Value := #[.string ⟨#[101, 108, 101, 109]⟩, .string ⟨#[97, 116, 116, 114]⟩, .string ⟨#[115, 99, 104, 101, 109, 101]⟩, .string ⟨#[99, 108, 97, 115, 115]⟩, .string ⟨#[112, 114, 111, 112]⟩]
theorem sec_at {m : Mem} {p : Pol} {v1 v2 v3 v4 v5 : Value} (h : RdPol m p v1 v2 v3 v4 v5) {i : Nat} (hi : i < 5) :
    ∃ nm L A c, (secF p)[i]? = some (nm, L) ∧ [v1, v2, v3, v4, v5][i]? = some (.slice A L.length c) ∧ RdStrs m (.slice A L.length c) L ∧ secNames[i]? = some (.string ⟨nm.toArray⟩) ∧ nm.length ≤ 10 := by
  obtain ⟨r1, r2, r3, r4, r5⟩ := h
  obtain ⟨A1, c1, rfl⟩ := rdstrs_form r1
  obtain ⟨A2, c2, rfl⟩ := rdstrs_form r2
  obtain ⟨A3, c3, rfl⟩ := rdstrs_form r3
  obtain ⟨A4, c4, rfl⟩ := rdstrs_form r4
  obtain ⟨A5, c5, rfl⟩ := rdstrs_form r5
  match i, hi with
  | 0, _ => exact ⟨_, _, _, _, rfl, rfl, r1, rfl, by decide⟩
  | 1, _ => exact ⟨_, _, _, _, rfl, rfl, r2, rfl, by decide⟩
  | 2, _ => exact ⟨_, _, _, _, rfl, rfl, r3, rfl, by decide⟩
  | 3, _ => exact ⟨_, _, _, _, rfl, rfl, r4, rfl, by decide⟩
  | 4, _ => exact ⟨_, _, _, _, rfl, rfl, r5, rfl, by decide⟩
theorem sec_right {p : Pol} (hr : rightF p = true) {i : Nat} {nm : Str} {L : List Str} (h : (secF p)[i]? = some (nm, L)) : L.length ≤ 64 ∧ ∀ x ∈ L, x.length ≤ 65 := by
  have h0 := hr
  simp only [rightF, Bool.and_eq_true] at h0
  obtain ⟨⟨⟨⟨⟨h1, h2⟩, h3⟩, h4⟩, h5⟩, h6⟩ := h0
  simp only [listsF, wordsF, Bool.and_eq_true] at h2
  obtain ⟨⟨⟨⟨⟨e1, q1⟩, q2⟩, ⟨e3, q3⟩⟩, ⟨e4, q4⟩⟩, ⟨e5, q5⟩⟩ := h2
  have hw : ∀ {l : List Str}, l.all wordF = true → ∀ x ∈ l, x.length ≤ 65 := fun hl x hx => Nat.le_trans (word_len (List.all_eq_true.1 hl x hx)) (by omega)
  match i, h with
  | 0, h => simp [secF] at h; obtain ⟨_, rfl⟩ := h; exact ⟨risesF_len q1, hw e1⟩
  | 1, h => simp [secF] at h; obtain ⟨_, rfl⟩ := h; exact ⟨risesF_len q2, fun x hx => attr_len e1 (List.all_eq_true.1 h4 x hx)⟩
  | 2, h => simp [secF] at h; obtain ⟨_, rfl⟩ := h; exact ⟨risesF_len q3, hw e3⟩
  | 3, h => simp [secF] at h; obtain ⟨_, rfl⟩ := h; exact ⟨risesF_len q4, hw e4⟩
  | 4, h => simp [secF] at h; obtain ⟨_, rfl⟩ := h; exact ⟨risesF_len q5, hw e5⟩
  | k + 5, h => simp [secF] at h
theorem right_nums {p : Pol} (hr : rightF p = true) : 1 ≤ p.epoch ∧ p.epoch ≤ 1000000 ∧ 1 ≤ p.depth ∧ p.depth ≤ 64 ∧ 1 ≤ p.nodes ∧ p.nodes ≤ 2000 ∧ 1 ≤ p.bytes ∧ p.bytes ≤ 16384 := by
  simp only [rightF, Bool.and_eq_true] at hr
  exact (numsF_iff p).1 hr.1.1.1.1.1
theorem bldTy1 : BldTy 60 := by unfold BldTy; kernel_rfl
theorem Mem.with_ok {m : Mem} {w : World} (h : m.ok w) (cs : List Value) (t : TypeId) : (m.with w.heap.size cs).ok (w.alloc (.cells cs.toArray t)) := by
  refine ⟨?_, (h.ch ((Ch.refl (fun _ => False) w).alloc (.cells cs.toArray t)) (fun _ h => h.elim)).tab⟩
  intro b o v hv
  by_cases hb : b = w.heap.size
  · subst hb
    rw [Mem.with_at] at hv
    rw [cell_of_row _ _ _ _ _ _ (heap_alloc_new w _)]
    simpa using hv
  · rw [Mem.with_ne m cs hb] at hv
    exact ((Ch.refl (fun _ => False) w).alloc _).cell (h b o v hv) (fun h => h)
theorem BldAt.alloc_with {T : TypeId} {m : Mem} {w : World} {B b : Nat} {bs : Str} (h : BldAt T m w B b bs) (cs : List Value) (t : TypeId) : BldAt T (m.with w.heap.size cs) (w.alloc (.cells cs.toArray t)) B b bs := by
  obtain ⟨hok, hfree, hge, hsz, p, v, hbk, hp, hown, hne⟩ := h
  have hblt := (Array.getElem?_eq_some_iff.1 hbk).1
  have hc := (Ch.refl (fun _ => False) w).alloc (.cells cs.toArray t)
  exact ⟨Mem.with_ok hok cs t, Mem.with_free cs (by omega) hfree, hge, Nat.le_trans hsz hc.size, p, v, hc.heap hbk (fun h => h), hp, hc.own hown (fun _ _ h => h), fun k hk => ⟨(hne k hk).1, Mem.with_free cs (by have := (hown.lt k hk).2; omega) (hne k hk).2⟩⟩
theorem row_cells (w : World) (ws : List Str) (t : TypeId) : ∀ (j : Nat) x, ws[j]? = some x → (w.alloc (.cells (strCells ws).toArray t)).cell? ⟨w.heap.size, j, none⟩ = some (.string ⟨x.toArray⟩) := by
  intro j x hx
  rw [cell_of_row _ _ _ _ _ _ (heap_alloc_new w _)]
  simp [strCells, hx]
/-- A row of words laid, and written. -/
theorem lay_row {T : TypeId} (hT : BldTy T) (hT5 : T ≠ 5) {m : Mem} {w : World} {B b : Nat} {bs : Str} (h : BldAt T m w B b bs) (ws : List Str) (t : TypeId) (hn : ws.length ≤ 1000) (hl : (joinW ws).length ≤ 1000000) (hbs : bs.length ≤ 1000000000) :
    Calls Tryd.prog 30 #[.slice (some ⟨w.heap.size, 0, none⟩) ws.length ws.length, .pointer (some ⟨b, 0, none⟩)] (w.alloc (.cells (strCells ws).toArray t)) fun e w' => e = .returned (.tuple #[]) ∧ BldAt T m w' B b (bs ++ (joinW ws ++ [10])) ∧ Ch (fun k => B ≤ k) w w' := by
  have hc := (Ch.refl (fun _ => False) w).alloc (.cells (strCells ws).toArray t)
  refine (lay_calls hT hT5 (h.ch (m' := m) hc (fun _ h => h.elim)) ws w.heap.size ws.length (row_cells w ws t) (by simp) hn (Nat.le_refl _) hl hbs).mono ?_
  rintro e w' ⟨rfl, h1, h2⟩
  exact ⟨rfl, h1, (hc.mono' (T := fun k => B ≤ k) (fun _ h => h.elim)).trans h2 (fun k hk => .inl hk)⟩
theorem ch_under {B : Nat} {w w' : World} (h : Below B w w') : Ch (fun k => B ≤ k) w w' := ⟨h.os, h.tape, h.output, h.size, fun k _ hs => h.block k (by omega)⟩
/-- The builder in a world, and how that world came of w0. -/
def At (m : Mem) (b : Nat) (bs : Str) (w0 w : World) : Prop := BldAt 60 m w b b bs ∧ Ch (fun k => b ≤ k) w0 w
theorem itoa_at {m : Mem} (hE : EnvM m) {b : Nat} {bs : Str} {w0 w : World} (h : At m b bs w0 w) (n : Int) (h0 : 0 ≤ n) (h1 : n ≤ 1000000000000) :
    Calls Tryd.prog 33 #[.int .i64 n] w fun e w' => e = .returned (.string ⟨(decS n).toArray⟩) ∧ At m b bs w0 w' := by
  refine (itoa_calls hE w h.1.ok n h0 h1).mono ?_
  rintro e w' ⟨rfl, hc⟩
  exact ⟨rfl, h.1.ch (m' := m) hc (fun _ h => h.elim), h.2.trans (hc.mono (fun _ h => h.elim)) (fun k hk => .inl hk)⟩
theorem caps_at {m : Mem} {b : Nat} {bs : Str} {w0 w : World} (h : At m b bs w0 w) (x y z : Str) (hx : x.length ≤ 100) (hy : y.length ≤ 100) (hz : z.length ≤ 100) (hbs : bs.length ≤ 1000000000) :
    Calls Tryd.prog 30 #[.slice (some ⟨w.heap.size, 0, none⟩) 4 4, .pointer (some ⟨b, 0, none⟩)] (w.alloc (.cells #[.string ⟨#[99, 97, 112, 115]⟩, .string ⟨x.toArray⟩, .string ⟨y.toArray⟩, .string ⟨z.toArray⟩] 9)) fun e w' => e = .returned (.tuple #[]) ∧ At m b (bs ++ lineF cCaps (x ++ 32 :: (y ++ 32 :: z))) w0 w' := by
  refine (lay_row bldTy1 (by decide) h.1 [cCaps, x, y, z] 9 (by simp) (by simp [joinW, cCaps]; omega) hbs).mono ?_
  rintro e w' ⟨rfl, h1, h2⟩
  have e : joinW [cCaps, x, y, z] ++ [10] = lineF cCaps (x ++ 32 :: (y ++ 32 :: z)) := by simp [joinW, lineF]
  rw [e] at h1
  exact ⟨rfl, h1, h.2.trans h2 (fun k hk => .inl hk)⟩
set_option maxHeartbeats 3200000 in
set_option maxRecDepth 100000 in
theorem ptext_calls {m : Mem} (hE : EnvM m) (w : World) (hw : m.ok w) {p : Pol} (hz : p.sz) {v1 v2 v3 v4 v5 : Value} (h : RdPol m p v1 v2 v3 v4 v5) :
    Calls Tryd.prog 15 #[.agg (polCells p v1 v2 v3 v4 v5)] w fun e w' => e = .returned (.tuple #[.string ⟨(textR p).toArray⟩, .int .i64 (textE p)]) ∧ Ch (fun _ => False) w w' := by
  have hch := (Ch.refl (fun _ => False) w).alloc (.cells (polCells p v1 v2 v3 v4 v5) 25)
  have hok := hw.ch hch (fun _ h => h.elim)
  have hbx := heap_alloc_new w (.cells (polCells p v1 v2 v3 v4 v5) 25)
  have HR := Lib.hid (pright_calls hE _ hok hz h)
  unfold polCells at *
  go_enter Tryd.func15, Tryd.ntmps15
  go_wp2_with fail
  refine HR.out.mono ?_
  rintro e w1 ⟨rfl, hc1⟩
  have Hc1 := Lib.hid (hch.trans hc1 (fun _ h => .inl h))
  have hok1 := hok.ch hc1 (fun _ h => h.elim)
  have hb1 := hc1.heap hbx (fun h => h)
  have HB1 := Lib.hid hb1
  have hg : w.heap.size < w1.heap.size := (Array.getElem?_eq_some_iff.1 hb1).1
  generalize hwn : w.heap.size = g at *
  clear hb1 hc1 hbx hok HR hch hw hz
  cases hr : rightF p with
  | false =>
    have HT := Lib.hid (show textR p = [] ∧ textE p = 2 by rw [textR, textE, hr]; exact ⟨rfl, rfl⟩)
    clear hr hwn
    go_wp2
    go_ret2
    exact ⟨Ret1 (by rw [HT.out.1, HT.out.2]; rfl), Hc1.out⟩
  | true =>
    have HT := Lib.hid (show textR p = textF p ∧ textE p = 0 by rw [textR, textE, hr]; exact ⟨rfl, rfl⟩)
    have Hr := Lib.hid hr
    have Hwn := Lib.hid hwn
    clear hr hwn
    have hB := BldAt.new (T := 60) (memAll_ok hok1) (by decide)
    have hle : m.le (memAll w1) := hok1.cells
    have HRd := Lib.hid (show RdPol (memAll w1) p v1 v2 v3 v4 v5 from ⟨h.r1.le hle, h.r2.le hle, h.r3.le hle, h.r4.le hle, h.r5.le hle⟩)
    have hE1 := hE.le hle
    have M0 : memAll w1 g 0 = some (.int .i64 p.epoch) := by rw [memAll, cell_of_row w1 _ 0 _ _ _ HB1.out]; rfl
    have M1 : memAll w1 g 1 = some v1 := by rw [memAll, cell_of_row w1 _ 1 _ _ _ HB1.out]; rfl
    have M2 : memAll w1 g 2 = some v2 := by rw [memAll, cell_of_row w1 _ 2 _ _ _ HB1.out]; rfl
    have M3 : memAll w1 g 3 = some v3 := by rw [memAll, cell_of_row w1 _ 3 _ _ _ HB1.out]; rfl
    have M4 : memAll w1 g 4 = some v4 := by rw [memAll, cell_of_row w1 _ 4 _ _ _ HB1.out]; rfl
    have M5 : memAll w1 g 5 = some v5 := by rw [memAll, cell_of_row w1 _ 5 _ _ _ HB1.out]; rfl
    have M6 : memAll w1 g 6 = some (.int .i64 p.depth) := by rw [memAll, cell_of_row w1 _ 6 _ _ _ HB1.out]; rfl
    have M7 : memAll w1 g 7 = some (.int .i64 p.nodes) := by rw [memAll, cell_of_row w1 _ 7 _ _ _ HB1.out]; rfl
    have M8 : memAll w1 g 8 = some (.int .i64 p.bytes) := by rw [memAll, cell_of_row w1 _ 8 _ _ _ HB1.out]; rfl
    have HM := Lib.hid (show memAll w1 g 0 = some (.int .i64 p.epoch) ∧ memAll w1 g 1 = some v1 ∧ memAll w1 g 2 = some v2 ∧ memAll w1 g 3 = some v3 ∧ memAll w1 g 4 = some v4 ∧ memAll w1 g 5 = some v5 ∧ memAll w1 g 6 = some (.int .i64 p.depth) ∧ memAll w1 g 7 = some (.int .i64 p.nodes) ∧ memAll w1 g 8 = some (.int .i64 p.bytes) from ⟨M0, M1, M2, M3, M4, M5, M6, M7, M8⟩)
    clear M0 M1 M2 M3 M4 M5 M6 M7 M8 HB1 h hok1 hle hE
    have HC2 := Lib.hid ((Ch.refl (fun k => w1.heap.size ≤ k) w1).alloc (.cells #[.pointer none, .slice none 0 0] 60))
    go_upto_region 5 with fail
    generalize hZ : w1.alloc _ = Z at *
    clear hZ
    generalize hm1 : memAll w1 = m1 at *
    clear hm1
    generalize hb : w1.heap.size = b at *
    clear hb
    have z0 := hB.ok _ _ _ HM.out.1
    have HB := Lib.hid hB
    clear hB
    obtain ⟨n1, n2, n3, n4, n5, n6, n7, n8⟩ := right_nums Hr.out
    go_wp2_with fail
    refine (itoa_calls hE1 _ HB.out.ok p.epoch (by omega) (by omega)).mono ?_
    rintro e Z1 ⟨rfl, hz1⟩
    have HB1 := HB.out.ch (m' := m1) hz1 (fun _ h => h.elim)
    have hd := dec_len p.epoch n2
    have HL : Hid (Calls Tryd.prog 30 #[.slice (some ⟨Z1.heap.size, 0, none⟩) 2 2, .pointer (some ⟨b, 0, none⟩)] (Z1.alloc (.cells #[.string ⟨#[101, 112, 111, 99, 104]⟩, .string ⟨(decS p.epoch).toArray⟩] 9)) fun e w' => e = .returned (.tuple #[]) ∧ BldAt 60 m1 w' b b ([] ++ (joinW [cEpoch, decS p.epoch] ++ [10])) ∧ Ch (fun k => b ≤ k) Z1 w') := Lib.hid (lay_row bldTy1 (by decide) HB1 [cEpoch, decS p.epoch] 9 (by simp) (by simp [joinW, cEpoch]; omega) (by simp))
    have HZ1 := Lib.hid (HC2.out.trans (hz1.mono (fun _ h => h.elim)) (fun k hk => .inl hk))
    clear hz1 z0 hd HB1 HC2
    go_wp2_with fail
    refine HL.out.mono ?_
    rintro e Z2 ⟨rfl, hB2, hz2⟩
    have HZ2 := Lib.hid (HZ1.out.trans hz2 (fun k hk => .inl hk))
    have HB2 := Lib.hid (show BldAt 60 m1 Z2 b b (tkF p 0) by rw [List.nil_append, join_line] at hB2; exact (by simpa [tkF] using hB2))
    clear hz2 hB2 HZ1 HL HB
    obtain ⟨A0, A1, A2, A3, A4, A5, A6, A7, A8⟩ := HM.out
    have y1 := HB2.out.ok _ _ _ A1
    have y2 := HB2.out.ok _ _ _ A2
    have y3 := HB2.out.ok _ _ _ A3
    have y4 := HB2.out.ok _ _ _ A4
    have y5 := HB2.out.ok _ _ _ A5
    clear A0 A1 A2 A3 A4 A5 A6 A7 A8
    obtain ⟨A1, c1, e1⟩ := rdstrs_form HRd.out.r1
    obtain ⟨A2, c2, e2⟩ := rdstrs_form HRd.out.r2
    obtain ⟨A3, c3, e3⟩ := rdstrs_form HRd.out.r3
    obtain ⟨A4, c4, e4⟩ := rdstrs_form HRd.out.r4
    obtain ⟨A5, c5, e5⟩ := rdstrs_form HRd.out.r5
    subst e1 e2 e3 e4 e5
    go_wp2_with fail
    have HB3 := Lib.hid (HB2.out.alloc_with [.slice A1 p.elems.length c1, .slice A2 p.attrs.length c2, .slice A3 p.schemes.length c3, .slice A4 p.classes.length c4, .slice A5 p.props.length c5] 23)
    have hle := Mem.le_with [.slice A1 p.elems.length c1, .slice A2 p.attrs.length c2, .slice A3 p.schemes.length c3, .slice A4 p.classes.length c4, .slice A5 p.props.length c5] (HB2.out.ok.new (Nat.le_refl _))
    have HA3 := Lib.hid (fun i => Mem.with_at m1 Z2.heap.size [.slice A1 p.elems.length c1, .slice A2 p.attrs.length c2, .slice A3 p.schemes.length c3, .slice A4 p.classes.length c4, .slice A5 p.props.length c5] i)
    have HZ3 := Lib.hid (HZ2.out.alloc (.cells [.slice A1 p.elems.length c1, .slice A2 p.attrs.length c2, .slice A3 p.schemes.length c3, .slice A4 p.classes.length c4, .slice A5 p.props.length c5].toArray 23))
    generalize hZ3 : Z2.alloc _ = Z3 at *
    clear hZ3
    generalize Z2.heap.size = sl at *
    generalize hm3 : m1.with sl _ = m3 at *
    clear hm3
    have HRd3 := Lib.hid (show RdPol m3 p _ _ _ _ _ from ⟨HRd.out.r1.le hle, HRd.out.r2.le hle, HRd.out.r3.le hle, HRd.out.r4.le hle, HRd.out.r5.le hle⟩)
    have HE3 := Lib.hid (hE1.le hle)
    have HM3 := Lib.hid (show m3 g 6 = some (.int .i64 p.depth) ∧ m3 g 7 = some (.int .i64 p.nodes) ∧ m3 g 8 = some (.int .i64 p.bytes) from ⟨hle _ _ _ HM.out.2.2.2.2.2.2.1, hle _ _ _ HM.out.2.2.2.2.2.2.2.1, hle _ _ _ HM.out.2.2.2.2.2.2.2.2⟩)
    clear hle HM HRd hE1 HB2 HZ2 y1 y2 y3 y4 y5
    go_loopw [32] (fun r wr => ∃ i : Nat, i ≤ 5 ∧ r = .int .i64 i ∧ Hid (BldAt 60 m3 wr b b (tkF p i)) ∧ Hid (Ch (fun k => b ≤ k) w1 wr)) (fun r _ => 5 - (intOf r).toNat)
    case atStart => exact ⟨0, by omega, rfl, HB3, HZ3⟩
    case round =>
      rename World => wr
      clear HB3 HZ3
      obtain ⟨i, hi, rfl, HB3, HZ3⟩ := hrel
      by_cases hlt : i < 5
      · obtain ⟨nm, L, A, c, h1, h2, h3, h4, h5⟩ := sec_at HRd3.out hlt
        have h2' := HB3.out.ok sl i _ ((HA3.out i).trans h2)
        obtain ⟨k1, k2⟩ := sec_right Hr.out h1
        have hii : (i : Int) < 5 := by omega
        have hii0 : (0 : Int) ≤ (i : Int) := by omega
        have H1 := Lib.hid h1
        have H3 := Lib.hid h3
        have H4 := Lib.hid h4
        have K2 := Lib.hid k2
        clear h1 h2 h3 h4 k2
        go_wp2_with fail
        obtain ⟨wo, hwo⟩ : ∃ wo : World, wo = wr := ⟨_, rfl⟩
        subst hwo
        go_loopw [39] (fun r ws => ∃ j : Nat, j ≤ L.length ∧ r = .int .i64 j ∧ Hid (BldAt 60 m3 ws b b (tkF p i ++ linesF nm (L.take j))) ∧ Hid (Ch (fun k => b ≤ k) w1 ws)) (fun r _ => L.length - (intOf r).toNat)
        case atStart => exact ⟨0, by omega, rfl, Lib.hid (by simpa [linesF] using HB3.out), HZ3⟩
        case round =>
          rename World => ws
          clear HB3 HZ3 h2'
          obtain ⟨j, hj, rfl, HBj, HZj⟩ := hrel
          by_cases hlj : j < L.length
          · obtain ⟨x, hx⟩ : ∃ x, L[j]? = some x := ⟨_, List.getElem?_eq_getElem hlj⟩
            obtain ⟨bA, oA, hA, hc⟩ : ∃ b' o, A = some ⟨b', o, none⟩ ∧ ∀ k, k < L.length → ws.cell? ⟨b', o + k, none⟩ = some (.string ⟨(L[k]?.getD []).toArray⟩) := by
              rcases (strs_cell HBj.out.ok H3.out).2.2 with h0 | h0
              · rw [h0] at hlj; simp at hlj
              · exact h0
            subst hA
            have hck := hc j hlj
            rw [hx, Option.getD_some] at hck
            have hjj : (j : Int) < (L.length : Int) := by omega
            have hjj0 : (0 : Int) ≤ (j : Int) := by omega
            have hcl := World.block_lt_of_cell? ws _ hck
            have h4e : ([Value.string ⟨#[101, 108, 101, 109]⟩, .string ⟨#[97, 116, 116, 114]⟩, .string ⟨#[115, 99, 104, 101, 109, 101]⟩, .string ⟨#[99, 108, 97, 115, 115]⟩, .string ⟨#[112, 114, 111, 112]⟩] : List Value)[i]'(by simpa using hlt) = .string ⟨nm.toArray⟩ := by
              have h := H4.out
              simp only [secNames, List.getElem?_toArray] at h
              rw [List.getElem?_eq_getElem (by simpa using hlt)] at h
              exact Option.some.inj h
            have hxl := K2.out x (List.mem_of_getElem? hx)
            have hS := linesF_snoc (h := nm) hx
            have hbl : (tkF p i ++ linesF nm (L.take j)).length ≤ 20000 := by
              have e1 := tkF_succ H1.out
              have e2 := tkF_len p Hr.out (i + 1)
              have e3 := linesF_take_len nm L j
              rw [e1, List.length_append] at e2
              rw [List.length_append]; omega
            have hB4 := HBj.out.ch (m' := m3) ((Ch.refl (fun _ => False) ws).alloc (.cells #[Value.string ⟨#[101, 108, 101, 109]⟩, .string ⟨#[97, 116, 116, 114]⟩, .string ⟨#[115, 99, 104, 101, 109, 101]⟩, .string ⟨#[99, 108, 97, 115, 115]⟩, .string ⟨#[112, 114, 111, 112]⟩] 9)) (fun _ h => h.elim)
            have hL := lay_row bldTy1 (by decide) hB4 [nm, x] 9 (by simp) (by simp [joinW]; omega) (by omega)
            have HZ4 := Lib.hid (HZj.out.alloc (.cells #[Value.string ⟨#[101, 108, 101, 109]⟩, .string ⟨#[97, 116, 116, 114]⟩, .string ⟨#[115, 99, 104, 101, 109, 101]⟩, .string ⟨#[99, 108, 97, 115, 115]⟩, .string ⟨#[112, 114, 111, 112]⟩] 9))
            rw [join_line, List.append_assoc, ← hS] at hL
            have hszA : ∀ o, (ws.alloc o).heap.size = ws.heap.size + 1 := fun o => by simp
            rw [hszA] at hL
            clear hszA
            have HL := Lib.hid hL
            clear hL hB4 hS hbl hc hx
            go_wp2_with fail
            refine HL.out.mono ?_
            rintro e w5 ⟨rfl, hb5, hz5⟩
            have HB5 := Lib.hid hb5
            have HZ5 := Lib.hid (HZ4.out.trans hz5 (fun k hk => .inl hk))
            clear hb5 hz5
            go_wp2
            go_roundw
            case rel => exact ⟨j + 1, by omega, by go_num, HB5, HZ5⟩
            case measure => simp [intOf]; omega
          · have hjj : ¬ (j : Int) < (L.length : Int) := by omega
            have hj2 : L.take j = L := List.take_of_length_le (by omega)
            rw [hj2, ← tkF_succ H1.out] at HBj
            clear hj2
            go_wp2
            go_roundw
            case rel => exact ⟨i + 1, by omega, by go_num, HBj, HZj⟩
            case measure => simp [intOf]; omega
      · have hi5 : i = 5 := by omega
        subst hi5
        have hii : ¬ ((5 : Nat) : Int) < 5 := by omega
        have hA5 : At m3 b (tkF p 5) w1 wr := ⟨HB3.out, HZ3.out⟩
        have hA6 : At m3 b (tkF p 5) w1 wr.drew := ⟨hA5.1.ch (m' := m3) (Ch.refl (fun _ => False) wr).drew (fun _ h => h.elim), hA5.2.drew⟩
        have y6 := hA5.1.ok _ _ _ HM3.out.1
        have y7 := hA5.1.ok _ _ _ HM3.out.2.1
        have y8 := hA5.1.ok _ _ _ HM3.out.2.2
        clear hA5
        have HM6 := HM3.out.1
        have HM7 := HM3.out.2.1
        have HM8 := HM3.out.2.2
        have hd1 := dec_len p.depth (by omega)
        have hd2 := dec_len p.nodes (by omega)
        have hd3 := dec_len p.bytes (by omega)
        have hl5 := tkF_len p Hr.out 5
        have HX := Lib.hid (show textF p = tkF p 5 ++ lineF cCaps (decS p.depth ++ 32 :: (decS p.nodes ++ 32 :: decS p.bytes)) from tkF_text p)
        clear HB3 HZ3 HM3
        go_wp2
        go_region_held3 (fun w' => w'.cell? ⟨g, 6, none⟩ = some (.int .i64 p.depth) ∧ w'.cell? ⟨g, 7, none⟩ = some (.int .i64 p.nodes) ∧ w'.cell? ⟨g, 8, none⟩ = some (.int .i64 p.bytes)) (first | exact ⟨(‹At _ _ _ _ _›).1.ok _ _ _ HM6, (‹At _ _ _ _ _›).1.ok _ _ _ HM7, (‹At _ _ _ _ _›).1.ok _ _ _ HM8⟩ | go_keep)
          (first | (go_at_call 33; refine (itoa_at HE3.out ‹At _ _ _ _ _› _ ?_ ?_).mono ?_; omega; omega; rintro e w5 ⟨rfl, hA6⟩) | (go_at_call 30; refine (caps_at ‹At _ _ _ _ _› _ _ _ ?_ ?_ ?_ ?_).mono ?_; omega; omega; omega; omega; rintro e w5 ⟨rfl, hA7⟩))
        all_goals
          rename At _ _ _ _ _ => hA7
          rw [← HX.out] at hA7
          have hS := Lib.hid (string_calls hA7.1 (by rw [HX.out]; simp [lineF, cCaps]))
          have HF := Lib.hid hA7.2
          clear hA7 y6 y7 y8
          go_wp2_with fail
          refine hS.out.mono ?_
          rintro e w6 ⟨rfl, hb6⟩
          have HG := Lib.hid (Hc1.out.trans (HF.out.trans (ch_under hb6) (fun k hk => .inl hk)) (fun k hk => .inr (by have := Hwn.out; omega)))
          go_wp2
          go_ret2
          exact ⟨Ret1 (by rw [HT.out.1, HT.out.2]; rfl), HG.out⟩
end Go.Proofs.YtlfimcpceiemnaaDoor

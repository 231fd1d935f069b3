/- versoref04's builder, walked: kids. -/
import Derived.Test.YtlfimcpceiemnaaRefW6
import Derived.Maps.AppendAt
set_option linter.unusedVariables false
namespace Go.Proofs.Ytlfimcpceiemnaa
open Go Go.RowKit

/-- A list of nodes, newly made. -/
def NewKids (m : Mem) (w : World) (xs : List Node) (e : Ending) (w' : World) : Prop :=
  ∃ v m', e = .returned v ∧ m.le m' ∧ m'.ok w' ∧ RdNodes m' v xs ∧ Ch (fun _ => False) w w' ∧ ∀ k, k < w.heap.size → m.free k → m'.free k
def nodeN (n : Nat) (l : List Flat) (i : Nat) : Node := .mk (l.getD i dFlat).name (l.getD i dFlat).attrs (l.getD i dFlat).text (if (l.getD i dFlat).name == [] then [] else kidsN n l i)
def kidsK (l : List Flat) (up : Int) (k : Nat) : List Nat := (List.range k).filter fun i => decide (up < (i : Int)) && (l.getD i dFlat).up == up
theorem kidsN_eq (n : Nat) (l : List Flat) (up : Int) : kidsN (n + 1) l up = (kidsK l up l.length).map (nodeN n l) := rfl
theorem kidsK_start (l : List Flat) (up : Int) (k : Nat) (h : (k : Int) ≤ up + 1) : kidsK l up k = [] := by
  unfold kidsK
  rw [List.filter_eq_nil_iff]
  intro i hi
  have := List.mem_range.1 hi
  simp; intro h2; omega
theorem kidsK_succ (l : List Flat) (up : Int) (k : Nat) (h : up < (k : Int)) : kidsK l up (k + 1) = if (l.getD k dFlat).up = up then kidsK l up k ++ [k] else kidsK l up k := by
  unfold kidsK
  rw [List.range_succ, List.filter_append]
  by_cases hu : (l.getD k dFlat).up = up
  · rw [if_pos hu]; simp only [List.filter_cons, List.filter_nil, hu, beq_self_eq_true, decide_eq_true h, Bool.and_self, if_true]
  · rw [if_neg hu]; simp only [List.filter_cons, List.filter_nil, beq_eq_false_iff_ne.2 hu, Bool.and_false, Bool.false_eq_true, if_false, List.append_nil]
theorem kidsK_length (l : List Flat) (up : Int) (k : Nat) : (kidsK l up k).length ≤ k := by
  unfold kidsK
  exact Nat.le_trans (List.length_filter_le _ _) (by simp)
theorem FlatCells.le {m m' : Mem} (hm : m.le m') {xs : List Flat} {cs : List Value} (h : FlatCells m xs cs) : FlatCells m' xs cs := by
  induction h with
  | nil => exact .nil
  | cons ha h2 ih => exact .cons (ha.le hm) ih
/-- What holds at the head of each round. -/
def KidsRel (m : Mem) (w : World) (xs : List Node) (v : Value) (wr : World) : Prop :=
  ∃ oc mk, wr.ownsRow w.heap.size 34 4 v xs.length oc ∧ NodeCells mk xs oc ∧ m.le mk ∧ mk.ok wr ∧ Ch (fun _ => False) w wr ∧ (∀ k, k < w.heap.size → m.free k → mk.free k) ∧ ∀ k, v.ownBlock = some k → mk.free k
theorem KidsRel.snoc {m : Mem} {w wr wx w1 : World} {xs : List Node} {v v1 : Value} {x : Node} {va vk : Value} {oc : List Value} {mk : Mem} (hcx : Ch (fun _ => False) wr wx) (hm : m.le mk) (hok : mk.ok wx) (hc : Ch (fun _ => False) w wr)
    (hfr : ∀ k, k < w.heap.size → m.free k → mk.free k) (hvf : ∀ k, v.ownBlock = some k → mk.free k) (hN : NodeCells mk xs oc) (hx : NodeAt mk x va vk) (hlt : ∀ k, v.ownBlock = some k → w.heap.size ≤ k)
    (hown : w1.ownsRow w.heap.size 34 4 v1 (xs.length + 1) (oc ++ [.string ⟨x.name.toArray⟩, va, .string ⟨x.text.toArray⟩, vk])) {o : Obj} (hgrow : (wx.alloc o).grownBy w1 v.ownBlock)
    (hat : ∀ k, v1.ownBlock = some k → v.ownBlock = some k ∨ wx.heap.size ≤ k) : KidsRel m w (xs ++ [x]) v1 w1 := by
  have hc1 : Ch (fun j => v.ownBlock = some j) wx w1 := ((Ch.refl (fun j => v.ownBlock = some j) wx).alloc o).grown hgrow (fun k hk => .inl hk)
  refine ⟨_, mk, by simpa using hown, hN.append hx.one, hm, hok.ch hc1 hvf, (hc.trans hcx (fun _ h => h.elim)).trans (hc1.mono (T := fun j => v.ownBlock = some j) (fun _ h => h)) (fun k hk => .inr (hlt k hk)), hfr, fun k hk => ?_⟩
  rcases hat k hk with h | h
  · exact hvf k h
  · exact hok.new h

def KidsSpec (n : Nat) : Prop := ∀ (m : Mem) (w : World) (base g : Nat) (s : RS) (lv : Value) (lc : List Value) (ov : Value), IsF m w base g s lv lc ov → s.l.length ≤ 1000000 → ∀ (up : Int), -1 ≤ up → (up < (s.l.length : Int) ∨ up = -1) → (s.l.length : Int) - up ≤ n →
    Calls Try.prog 16 #[.pointer (some ⟨g, 0, none⟩), .int .i64 up] w (NewKids m w (kidsN n s.l up))
set_option maxHeartbeats 3200000 in
theorem rkids_calls (n : Nat) : KidsSpec n := by
  induction n with
  | zero => intro m w base g s lv lc ov h hll up hu0 hu1 hn; omega
  | succ n IH =>
    intro m w base g s lv lc ov h hll up hu0 hu1 hn
    rw [kidsN_eq]
    obtain ⟨A, c, O, d, h1, h2, x0, x1, x2⟩ := h.parts
    obtain ⟨i0, hi, hz0, hz1, hz2⟩ := info_parts Try.infoNode
    go_enter Try.func16, Try.ntmps16
    go_wp2
    go_loopw [5, 6] (fun u i wr => ∃ (v : Value) (k : Nat), v = u ∧ up + 1 ≤ (k : Int) ∧ k ≤ s.l.length ∧ i = .int .i64 k ∧ KidsRel m w ((kidsK s.l up k).map (nodeN n s.l)) v wr) (fun _ i _ => s.l.length - (intOf i).toNat)
    case atStart =>
      refine ⟨_, (up + 1).toNat, rfl, by omega, by omega, by go_num, ?_⟩
      rw [kidsK_start _ _ _ (by omega)]
      exact ⟨[], m, World.ownsRow_nil _ _ _ _, .nil, Mem.le_refl m, h.hm, Ch.refl _ w, fun _ _ h => h, fun k hk => by simp [Value.ownBlock] at hk⟩
    case round =>
      rename World => wr
      obtain ⟨v, k, rfl, hku, hkl, rfl, oc, mk, hown, hN, hle, hok, hch, hfr, hvf⟩ := hrel
      have hF := h.ch hch (fun _ h => h.elim)
      have hmk : ∀ k, fpF g lv ov k → mk.free k := fun k hk => hfr k (h.lt k hk).2 (h.fr k hk)
      clear x0 x1 x2
      obtain ⟨_, _, _, _, e1, e2, x0, x1, x2⟩ := hF.parts
      rw [h1] at e1
      injection e1 with t1 t2 t3
      subst t1 t3
      clear t2 e2
      have hlt0 : ∀ k, v.ownBlock = some k → w.heap.size ≤ k := fun k hk => (hown.lt k hk).1
      have hxl := kidsK_length s.l up k
      by_cases hlt : k < s.l.length
      · obtain ⟨b, c', hv, hc, hcells⟩ := hF.flCell (by omega)
        obtain ⟨y0, y2, y3, y4, va, y1, ra⟩ := hcells k hlt
        obtain ⟨_, Aa, ca, rfl, _⟩ := id ra
        rw [hv] at h1
        injection h1 with t1 t2 t3
        subst t1 t3
        clear t2 hcells
        have i1 : (k : Int) < (s.l.length : Int) := by omega
        have i2 : (0 : Int) ≤ (k : Int) := by omega
        have Hsucc := Lib.hid (kidsK_succ s.l up k (by omega))
        have hnode : nodeN n s.l k = .mk (s.l.getD k dFlat).name (s.l.getD k dFlat).attrs (s.l.getD k dFlat).text (if (s.l.getD k dFlat).name == [] then [] else kidsN n s.l k) := rfl
        generalize hf : s.l.getD k dFlat = f at *
        clear hf
        by_cases hu : f.up = up
        · have hu' : (f.up == up) = true := by simpa using hu
          have Hk : Hid ((kidsK s.l up (k + 1)).map (nodeN n s.l) = (kidsK s.l up k).map (nodeN n s.l) ++ [nodeN n s.l k]) := Lib.hid (by rw [Hsucc.out, if_pos hu]; simp)
          clear hu
          have hbx := heap_alloc_new wr (.cells #[.string ⟨f.name.toArray⟩, .slice Aa f.attrs.length ca, .string ⟨f.text.toArray⟩, .slice none 0 0] 34)
          have hchX := (Ch.refl (fun _ => False) wr).alloc (.cells #[.string ⟨f.name.toArray⟩, .slice Aa f.attrs.length ca, .string ⟨f.text.toArray⟩, .slice none 0 0] 34)
          have hFX := hF.ch hchX (fun _ h => h.elim)
          have hokX := hok.ch hchX (fun _ h => h.elim)
          have hwn1 : wr.heap.size < (wr.alloc (.cells #[.string ⟨f.name.toArray⟩, .slice Aa f.attrs.length ca, .string ⟨f.text.toArray⟩, .slice none 0 0] 34)).heap.size := by simp
          go_upto_region 7 with fail
          generalize hwn : wr.heap.size = wn at *
          generalize wr.alloc (.cells #[.string ⟨f.name.toArray⟩, .slice Aa f.attrs.length ca, .string ⟨f.text.toArray⟩, .slice none 0 0] 34) = X at *
          have z0 : X.cell? ⟨wn, 0, none⟩ = some (.string ⟨f.name.toArray⟩) := by rw [cell_of_row X _ 0 _ _ _ hbx]; rfl
          have hwnf : mk.free wn := by rw [← hwn]; exact hok.new (Nat.le_refl _)
          have Hwn := Lib.hid hwn
          clear hwn
          have hFmk : IsF mk X base g s lv lc ov := ⟨hokX, hFX.obj, hFX.rl, hFX.ro, hFX.cl.le hle, hmk, hFX.bs, hFX.ix⟩
          go_upto_if 39 with fail
          go_cut [] (fun wx => ∃ m2 vk, mk.le m2 ∧ m2.ok wx ∧ Ch (fun _ => False) wr wx ∧ (∀ k, k < wr.heap.size → mk.free k → m2.free k) ∧ wx.heap[wn]? = some (.cells #[.string ⟨f.name.toArray⟩, .slice Aa f.attrs.length ca, .string ⟨f.text.toArray⟩, vk] 34 (0, 0)) ∧ NodeAt m2 (nodeN n s.l k) (.slice Aa f.attrs.length ca) vk)
          case first =>
            by_cases hn0 : f.name = []
            · have e1 : (f.name == ([] : List UInt8)) = true := by simp [hn0]
              have e2 : f.name.isEmpty = true := by simp [hn0]
              have R : ∃ m2 vk, mk.le m2 ∧ m2.ok X ∧ Ch (fun _ => False) wr X ∧ (∀ k, k < wr.heap.size → mk.free k → m2.free k) ∧ X.heap[wn]? = some (.cells #[.string ⟨f.name.toArray⟩, .slice Aa f.attrs.length ca, .string ⟨f.text.toArray⟩, vk] 34 (0, 0)) ∧ NodeAt m2 (nodeN n s.l k) (.slice Aa f.attrs.length ca) vk := by
                refine ⟨mk, _, Mem.le_refl mk, hokX, hchX, fun _ _ h => h, hbx, ?_⟩
                rw [hnode, if_pos e1]
                exact ⟨ra.le hle, [], SlV.nil mk 4, .nil⟩
              have R' := Lib.hid R
              clear R hn0 hnode hbx hF hFX hFmk h hv hown
              rw [e2]
              go_wp2
              go_meet
              exact R'.out
            · have e1 : (f.name == ([] : List UInt8)) = false := by simpa using hn0
              have e2 : f.name.isEmpty = false := by simpa using hn0
              have hc1 := IH mk X base g s _ lc ov hFmk hll (k : Int) (by omega) (.inl (by omega)) (by omega)
              clear hn0
              rw [e2]
              go_wp2_with fail
              refine hc1.mono ?_
              rintro e w2 ⟨v2, m2, rfl, l2, ok2, rd2, c2, f2⟩
              obtain ⟨A2, c2', hv2⟩ : ∃ A' c', v2 = .slice A' (kidsN n s.l k).length c' := by obtain ⟨_, ⟨_, A', c', h, _⟩, _⟩ := rd2; exact ⟨A', c', h⟩
              subst hv2
              have hbx2 := c2.heap hbx (fun h => h)
              have q3 : w2.cell? ⟨wn, 3, none⟩ = some (.slice none 0 0) := by rw [cell_of_row w2 _ 3 _ _ _ hbx2]; rfl
              have qf : w2.frozen? ⟨wn, 3, none⟩ = false := by simp [World.frozen?, hbx2]
              have R : ∃ m3 vk, mk.le m3 ∧ m3.ok (w2.setCell ⟨wn, 3, none⟩ (.slice A2 (kidsN n s.l k).length c2')) ∧ Ch (fun _ => False) wr (w2.setCell ⟨wn, 3, none⟩ (.slice A2 (kidsN n s.l k).length c2')) ∧ (∀ k, k < wr.heap.size → mk.free k → m3.free k) ∧
                  (w2.setCell ⟨wn, 3, none⟩ (.slice A2 (kidsN n s.l k).length c2')).heap[wn]? = some (.cells #[.string ⟨f.name.toArray⟩, .slice Aa f.attrs.length ca, .string ⟨f.text.toArray⟩, vk] 34 (0, 0)) ∧ NodeAt m3 (nodeN n s.l k) (.slice Aa f.attrs.length ca) vk := by
                have hm2f : m2.free wn := f2 wn hwn1 hwnf
                have c3 : Ch (fun j => j = wn) w2 (w2.setCell ⟨wn, 3, none⟩ (.slice A2 (kidsN n s.l k).length c2')) := (Ch.refl (fun j => j = wn) w2).setCell (p := ⟨wn, 3, none⟩) (.inl rfl) _
                refine ⟨m2, .slice A2 (kidsN n s.l k).length c2', l2, ok2.ch c3 (fun j hj => by subst hj; exact hm2f), (hchX.trans c2 (fun _ h => h.elim)).trans c3 (fun j hj => .inr (by subst hj; rw [Hwn.out]; omega)), fun j hj hf => f2 j (by have := hchX.size; omega) hf, heap_setCell_at hbx2 _, ?_⟩
                rw [hnode, e1]
                obtain ⟨cs2, sl2, nc2⟩ := rd2
                exact ⟨ra.le (Mem.le_trans hle l2), cs2, sl2, nc2⟩
              have R' := Lib.hid R
              clear R hnode hbx hbx2 hF hFX hFmk h hv hown rd2 c2 f2 l2 ok2 hchX
              go_wp2
              go_meet
              exact R'.out
          case rest =>
            obtain ⟨m2, vk, l2, ok2, c2, f2, hb2, hna⟩ := hcut
            obtain ⟨_, _, ⟨_, Ak, ck, rfl, _⟩, _⟩ := id hna
            have u0 : wc.cell? ⟨wn, 0, none⟩ = some (.string ⟨f.name.toArray⟩) := by rw [cell_of_row wc _ 0 _ _ _ hb2]; rfl
            have u1 : wc.cell? ⟨wn, 1, none⟩ = some (.slice Aa f.attrs.length ca) := by rw [cell_of_row wc _ 1 _ _ _ hb2]; rfl
            have u2 : wc.cell? ⟨wn, 2, none⟩ = some (.string ⟨f.text.toArray⟩) := by rw [cell_of_row wc _ 2 _ _ _ hb2]; rfl
            have u3 : wc.cell? ⟨wn, 3, none⟩ = some (.slice Ak (nodeN n s.l k).kids.length ck) := by rw [cell_of_row wc _ 3 _ _ _ hb2]; rfl
            have hown2 := c2.own hown (fun _ _ h => h)
            have hSn := fun (v1 : Value) (w1 : World) (o : Obj) hown1 hgrow hat => KidsRel.snoc (m := m) (w := w) (v1 := v1) (w1 := w1) (o := o) (x := nodeN n s.l k) c2 (Mem.le_trans hle l2) ok2 hch (fun j hj hf => f2 j (by have := hch.size; omega) (hfr j hj hf)) (fun j hj => f2 j (hown.lt j hj).2 (hvf j hj)) (hN.le l2) hna hlt0 hown1 hgrow hat
            have HS := Lib.hid hSn
            have hbase : w.heap.size ≤ wc.heap.size := by have := hch.size; have := c2.size; omega
            have hwnc : wn < wc.heap.size := (Array.getElem?_eq_some_iff.1 hb2).1
            generalize hKK : (kidsK s.l up k).map (nodeN n s.l) = KK at *
            have hKl : KK.length ≤ 1000000 := by rw [← hKK]; simp; omega
            have hnm : (nodeN n s.l k).name = f.name ∧ (nodeN n s.l k).text = f.text := by rw [hnode]; exact ⟨rfl, rfl⟩
            rw [hnm.1, hnm.2] at HS
            clear hKK hSn hb2 hna hown hN hF hFX hFmk h hv hbx hnode hchX c2 hch hnm
            generalize (nodeN n s.l k).kids.length = kl at *
            go_wp2_with (at_builtin; refine wpList_append_own_at _ rfl (.tmp 44) (.tmp 46) 25 rfl w.heap.size 34 i0 _ 4 80 Try.underlying25 hi hz0 hz1 hz2 rfl (by decide) v KK.length oc rfl (hown2.alloc _) ⟨wc.heap.size, 0, none⟩ 1 1 [.string ⟨f.name.toArray⟩, .slice Aa f.attrs.length ca, .string ⟨f.text.toArray⟩, .slice Ak kl ck] rfl rfl (World.news_of_block (heap_alloc_new _ _)) (by simp [Value.oneCell']) (by unfold maxLen; omega) (by omega) (by simp; omega) ?_)
            intro v1 w1 hown1 hgrow1 _ hat1
            have hat2 : ∀ j, v1.ownBlock = some j → v.ownBlock = some j ∨ wc.heap.size ≤ j := by
              intro j hj
              rcases hat1 with e | e
              · exact .inl (e ▸ hj)
              · rw [e] at hj; injection hj with hj; right; first | omega | (simp at hj; omega)
            have R := HS.out v1 w1 _ hown1 hgrow1 hat2
            rw [← Hk.out] at R
            clear hown1 hgrow1 hat1 hat2 hown2
            go_wp2
            go_roundw
            case rel => exact ⟨_, k + 1, rfl, by omega, by omega, by go_num, R⟩
            case measure => simp [intOf]; omega
        · have hu' : (f.up == up) = false := by simpa using hu
          have R : KidsRel m w ((kidsK s.l up (k + 1)).map (nodeN n s.l)) v wr := by
            rw [Hsucc.out, if_neg hu]; exact ⟨oc, mk, hown, hN, hle, hok, hch, hfr, hvf⟩
          clear hu hF hnode hv h hown hN
          go_wp2
          go_roundw
          case rel => exact ⟨_, k + 1, rfl, by omega, by omega, by go_num, R⟩
          case measure => simp [intOf]; omega
      · obtain rfl : k = s.l.length := by omega
        obtain ⟨m', l1, ok1, sl1, fr1⟩ := freeze hok hown hvf
        obtain ⟨A', c', hv'⟩ : ∃ A' c', v = .slice A' ((kidsK s.l up s.l.length).map (nodeN n s.l)).length c' := by obtain ⟨_, A', c', h, _⟩ := sl1; exact ⟨A', c', h⟩
        have R : NewKids m w ((kidsK s.l up s.l.length).map (nodeN n s.l)) (.returned v) wr :=
          ⟨v, m', rfl, Mem.le_trans hle l1, ok1, ⟨oc, sl1, hN.le l1⟩, hch, fun x hx hf => fr1 x (hfr x hx hf) (fun e => by have := hlt0 x e; omega)⟩
        subst hv'
        clear hF h hown sl1
        go_wp2
        go_ret
        exact R

end Go.Proofs.Ytlfimcpceiemnaa

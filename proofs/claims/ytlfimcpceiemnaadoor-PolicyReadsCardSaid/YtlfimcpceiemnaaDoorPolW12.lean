/- policy.taken. -/
import Derived.Test.YtlfimcpceiemnaaDoorAtoi
set_option linter.unusedVariables false
namespace Go.Proofs.YtlfimcpceiemnaaDoor
open Go Go.RowKit

/-- Five slices of strings, each in a row of its own. -/
def Own5 (m : Mem) (w : World) (B g : Nat) (vs : List Value) (Ls : List (List Str)) : Prop :=
  (∀ (i : Nat) v L, vs[i]? = some v → Ls[i]? = some L → w.ownsRow B 9 1 v L.length (strCells L) ∧ ∀ k, v.ownBlock = some k → k ≠ g ∧ m.free k) ∧
  (∀ (i j : Nat) v u k, vs[i]? = some v → vs[j]? = some u → v.ownBlock = some k → u.ownBlock = some k → i = j)
theorem Own5.keep {m : Mem} {w w' : World} {B g : Nat} {vs : List Value} {Ls : List (List Str)} (h : Own5 m w B g vs Ls) (hl : vs.length = Ls.length) {S : Nat → Prop} (hc : Ch S w w') (hS : ∀ (i : Nat) v k, vs[i]? = some v → v.ownBlock = some k → ¬ S k) : Own5 m w' B g vs Ls :=
  ⟨fun i v L h1 h2 => ⟨hc.own (h.1 i v L h1 h2).1 (fun k hk => hS i v k h1 hk), (h.1 i v L h1 h2).2⟩, h.2⟩
/-- One of them has got one string more. -/
theorem Own5.put {m : Mem} {w w1 : World} {B g : Nat} {vs : List Value} {Ls : List (List Str)} (h : Own5 m w B g vs Ls) (hl : vs.length = Ls.length) (hok : m.ok w) (hg : g < w.heap.size) {i : Nat} {v v' : Value} {L : List Str} {x : Str} (hv : vs[i]? = some v) (hL : Ls[i]? = some L)
    (hown : w1.ownsRow B 9 1 v' (L.length + 1) (strCells L ++ [.string ⟨x.toArray⟩])) (hgrow : w.grownBy w1 v.ownBlock) (hat : v'.ownBlock = v.ownBlock ∨ ∃ k, v'.ownBlock = some k ∧ w.heap.size ≤ k) :
    Own5 m w1 B g (vs.set i v') (Ls.set i (L ++ [x])) := by
  have hi := (List.getElem?_eq_some_iff.1 hv).1
  have hi2 := (List.getElem?_eq_some_iff.1 hL).1
  have hvown := (h.1 i v L hv hL)
  have hc : Ch (fun k => v.ownBlock = some k) w w1 := Ch.of_grown hgrow (fun k hk => hk)
  have hlt : ∀ (j : Nat) u M k, vs[j]? = some u → Ls[j]? = some M → u.ownBlock = some k → k < w.heap.size := fun j u M k h1 h2 hk => ((h.1 j u M h1 h2).1.lt k hk).2
  have hall : ∀ (j : Nat) u, vs[j]? = some u → ∃ M, Ls[j]? = some M := fun j u hu => by
    have := (List.getElem?_eq_some_iff.1 hu).1
    exact ⟨_, List.getElem?_eq_getElem (by omega)⟩
  constructor
  · intro j u M hu hM
    by_cases hj : j = i
    · subst hj
      rw [List.getElem?_set_self hi] at hu
      rw [List.getElem?_set_self hi2] at hM
      injection hu with hu
      injection hM with hM
      subst hu hM
      refine ⟨by simpa [strCells] using hown, fun k hk => ?_⟩
      rcases hat with ha | ⟨k', ha, hk'⟩
      · exact hvown.2 k (ha ▸ hk)
      · rw [ha] at hk
        injection hk with hk
        subst hk
        exact ⟨by omega, hok.new hk'⟩
    · rw [List.getElem?_set_ne (fun e => hj e.symm)] at hu hM
      have hjo := h.1 j u M hu hM
      exact ⟨hc.own hjo.1 (fun k hk he => hj (h.2 j i u v k hu hv hk he)), hjo.2⟩
  · intro j l u t k hu ht hk hk2
    have key : ∀ (a b : Nat) (p q : Value) (k : Nat), a ≠ i → (vs.set i v')[a]? = some p → p.ownBlock = some k → v'.ownBlock = some k → False := fun a b p q k ha hp hpk hvk => by
      rw [List.getElem?_set_ne (fun e => ha e.symm)] at hp
      obtain ⟨M, hM⟩ := hall a p hp
      have h1 := hlt a p M k hp hM hpk
      rcases hat with h2 | ⟨k', h2, h3⟩
      · exact ha (h.2 a i p v k hp hv hpk (h2 ▸ hvk))
      · rw [h2] at hvk
        injection hvk with hvk
        omega
    by_cases hj : j = i
    · by_cases hl' : l = i
      · omega
      · exfalso
        rw [hj, List.getElem?_set_self hi] at hu
        injection hu with hu
        subst hu
        exact key l j t v' k hl' ht hk2 hk
    · by_cases hl' : l = i
      · exfalso
        rw [hl', List.getElem?_set_self hi] at ht
        injection ht with ht
        subst ht
        exact key j l u v' k hj hu hk hk2
      · rw [List.getElem?_set_ne (fun e => hj e.symm)] at hu
        rw [List.getElem?_set_ne (fun e => hl' e.symm)] at ht
        exact h.2 j l u t k hu ht hk hk2
def lists5 (p : Pol) : List (List Str) := [p.elems, p.attrs, p.schemes, p.classes, p.props]
/-- A policy that is being read, behind a pointer. -/
structure PolSt (m : Mem) (w : World) (B g : Nat) (p : Pol) : Prop where
  ok : m.ok w
  free : m.free g
  ge : B ≤ g
  size : B ≤ w.heap.size
  row : ∃ v1 v2 v3 v4 v5, w.heap[g]? = some (.cells (polCells p v1 v2 v3 v4 v5) 25 (0, 0)) ∧ Own5 m w B g [v1, v2, v3, v4, v5] (lists5 p)
theorem PolSt.keep {m : Mem} {w w' : World} {B g : Nat} {p : Pol} (h : PolSt m w B g p) {S : Nat → Prop} (hc : Ch S w w') (hS : ∀ k, S k → w.heap.size ≤ k) : PolSt m w' B g p := by
  obtain ⟨hok, hf, hge, hsz, v1, v2, v3, v4, v5, hb, ho⟩ := h
  have hlt := (Array.getElem?_eq_some_iff.1 hb).1
  refine ⟨hok.ch hc (fun k hk => hok.new (hS k hk)), hf, hge, Nat.le_trans hsz hc.size, v1, v2, v3, v4, v5, hc.heap hb (fun hs => by have := hS g hs; omega), ho.keep rfl hc (fun i v k hv hk hs => ?_)⟩
  have hi := (List.getElem?_eq_some_iff.1 hv).1
  obtain ⟨L, hL⟩ : ∃ L, (lists5 p)[i]? = some L := ⟨_, List.getElem?_eq_getElem (show i < (lists5 p).length from hi)⟩
  have := ((ho.1 i v L hv hL).1.lt k hk).2
  have := hS k hs
  omega
/-- A store into the policy's own block. -/
theorem PolSt.store {m : Mem} {w : World} {B g : Nat} {p p' : Pol} {v1 v2 v3 v4 v5 u : Value} {i : Nat} {u1 u2 u3 u4 u5 : Value} (hok : m.ok w) (hf : m.free g) (hge : B ≤ g) (hsz : B ≤ w.heap.size)
    (hb : w.heap[g]? = some (.cells (polCells p v1 v2 v3 v4 v5) 25 (0, 0))) (ho : Own5 m w B g [u1, u2, u3, u4, u5] (lists5 p'))
    (he : (polCells p v1 v2 v3 v4 v5).setIfInBounds i u = polCells p' u1 u2 u3 u4 u5) : PolSt m (w.setCell ⟨g, i, none⟩ u) B g p' := by
  have hc : Ch (fun k => k = g) w (w.setCell ⟨g, i, none⟩ u) := (Ch.refl (fun k => k = g) w).setCell (p := ⟨g, i, none⟩) (.inl rfl) u
  refine ⟨hok.ch hc (fun k hk => by subst hk; exact hf), hf, hge, Nat.le_trans hsz hc.size, u1, u2, u3, u4, u5, ?_, ho.keep rfl hc (fun j v k hv hk hs => ?_)⟩
  · rw [heap_setCell_same _ _ _ _ _ _ hb, he]
  · have hi := (List.getElem?_eq_some_iff.1 hv).1
    obtain ⟨L, hL⟩ : ∃ L, (lists5 p')[j]? = some L := ⟨_, List.getElem?_eq_getElem (show j < (lists5 p').length from hi)⟩
    exact ((ho.1 j v L hv hL).2 k hk).1 hs
theorem len4 {ws : List Str} (h : ws.length = 4) : ∃ a b c d, ws = [a, b, c, d] := by
  match ws, h with
  | [a, b, c, d], _ => exact ⟨a, b, c, d, rfl⟩
theorem len2 {ws : List Str} (h : ws.length = 2) : ∃ a b, ws = [a, b] := by
  match ws, h with
  | [a, b], _ => exact ⟨a, b, rfl⟩
theorem stringInfo : (Tryd.prog.info? 9).map (fun i => (i.zero, i.size, i.bytes)) = some (some (.string ⟨#[]⟩), 1, 16) := by kernel_rfl
def szW (ws : List Str) : Prop := ws.length ≤ 1000000000 ∧ ∀ s ∈ ws, s.length ≤ 1000000000
theorem cellA {w : World} {a : Addr} {v : Value} {o : Obj} (h : w.cell? a = some v) : (w.alloc o).drew.cell? a = some v := by
  have hb := World.block_lt_of_cell? w a h
  exact (World.cell?_of_block (w := w) (w' := w.alloc o) (Below.heap_alloc w o a.block hb)).trans h
theorem frA {w w1 : World} {a : Addr} {v : Value} {o : Obj} {row : Option Nat} (h : w.cell? a = some v) (hf : w.frozen? a = false) (hg : (w.alloc o).drew.grownBy w1 row) (hr : some a.block ≠ row) : w1.frozen? a = false := by
  have hb := World.block_lt_of_cell? w a h
  have h1 := Below.heap_alloc w o a.block hb
  have h2 := hg.block a.block (by simp; omega) hr
  rw [World.frozen?_of_block (w := (w.alloc o).drew) h2]
  exact (World.frozen?_of_block (w := w) (w' := w.alloc o) h1).trans hf
/-- Behind an append to the i-th list and the store. -/
theorem taken_fin {m : Mem} {X : World} {B g : Nat} {p p' : Pol} {v1 v2 v3 v4 v5 : Value} {i : Nat} {L : List Str} {b : Str} {u : Value} {o : Obj} {w1 : World} {g' cap' : Nat}
    (hok : m.ok X) (hf : m.free g) (hge : B ≤ g) (hsz : B ≤ X.heap.size) (hb : X.heap[g]? = some (.cells (polCells p v1 v2 v3 v4 v5) 25 (0, 0))) (ho : Own5 m X B g [v1, v2, v3, v4, v5] (lists5 p))
    (hv : [v1, v2, v3, v4, v5][i]? = some u) (hL : (lists5 p)[i]? = some L)
    (hown1 : w1.ownsRow B 9 1 (.slice (some ⟨g', 0, none⟩) (L.length + 1) cap') (L.length + 1) (strCells L ++ [.string ⟨b.toArray⟩])) (hgrow : (X.alloc o).drew.grownBy w1 u.ownBlock) (hat : u.ownBlock = some g' ∨ X.heap.size ≤ g')
    (hc : ∀ u' : Value, ∃ u1 u2 u3 u4 u5, [v1, v2, v3, v4, v5].set i u' = [u1, u2, u3, u4, u5] ∧ (polCells p v1 v2 v3 v4 v5).setIfInBounds (i + 1) u' = polCells p' u1 u2 u3 u4 u5) (hp : (lists5 p).set i (L ++ [b]) = lists5 p') :
    PolSt m (w1.setCell ⟨g, i + 1, none⟩ (.slice (some ⟨g', 0, none⟩) (L.length + 1) cap')) B g p' ∧ Ch (fun k => B ≤ k) X (w1.setCell ⟨g, i + 1, none⟩ (.slice (some ⟨g', 0, none⟩) (L.length + 1) cap')) := by
  have hgX := (Array.getElem?_eq_some_iff.1 hb).1
  have hown := ho.1 i u L hv hL
  have hg0 : X.grownBy w1 u.ownBlock := ⟨hgrow.os, hgrow.tape, hgrow.output, Nat.le_trans (by simp) hgrow.size, fun k hk hn => (hgrow.block k (by simp; omega) hn).trans (Below.heap_alloc X o k hk)⟩
  have hc1 : Ch (fun k => u.ownBlock = some k) X w1 := Ch.of_grown hg0 (fun k hk => hk)
  have ho1 := ho.put rfl hok hgX hv hL hown1 hg0 (by
    rcases hat with h | h
    · exact .inl (by rw [h]; rfl)
    · exact .inr ⟨g', rfl, h⟩)
  have hok1 : m.ok w1 := hok.ch hc1 (fun k hk => (hown.2 k hk).2)
  have hb1 := hc1.heap hb (fun e => (hown.2 g e).1 rfl)
  obtain ⟨u1, u2, u3, u4, u5, h1, h2⟩ := hc (.slice (some ⟨g', 0, none⟩) (L.length + 1) cap')
  rw [h1, hp] at ho1
  refine ⟨PolSt.store hok1 hf hge (Nat.le_trans hsz hc1.size) hb1 ho1 h2, ?_⟩
  exact (hc1.mono (fun k hk => (hown.1.lt k hk).1)).setCell (p := ⟨g, i + 1, none⟩) (.inl hge) _
-- WALKS
set_option maxHeartbeats 3200000 in
set_option maxRecDepth 100000 in
theorem taken_none {m : Mem} (hE : EnvM m) {w : World} {B g : Nat} {p : Pol} (h : PolSt m w B g p) {v : Value} {ws : List Str} (hr : RdStrs m v ws) (hz : szW ws) (h4 : ¬ ws.length = 4) (h2 : ¬ ws.length = 2) :
    Calls Tryd.prog 25 #[.pointer (some ⟨g, 0, none⟩), v] w fun e w' => e = .returned (.tuple #[]) ∧ PolSt m w' B g p ∧ Ch (fun k => B ≤ k) w w' := by
  obtain ⟨A, c, rfl⟩ := rdstrs_form hr
  have hch := (Ch.refl (fun _ => False) w).alloc (.cells #[.slice A ws.length c] 23)
  have HX := Lib.hid (h.keep hch (fun _ h => h.elim))
  have hxb := heap_alloc_new w (.cells #[.slice A ws.length c] 23)
  have hlt : g < w.heap.size := (Array.getElem?_eq_some_iff.1 h.row.choose_spec.choose_spec.choose_spec.choose_spec.choose_spec.1).1
  have hwB := h.size
  have hgB := h.ge
  have hszX : (w.alloc (.cells #[.slice A ws.length c] 23)).heap.size = w.heap.size + 1 := by simp
  clear h
  go_enter Tryd.func25, Tryd.ntmps25
  go_upto_region 2 with fail
  generalize hX : w.alloc _ = X at *
  clear hX
  generalize hxn : w.heap.size = xb at *
  have x0 : X.cell? ⟨xb, 0, none⟩ = some (.slice A ws.length c) := by rw [cell_of_row X _ 0 _ _ _ hxb]; rfl
  have HC := Lib.hid (hch.mono' (T := fun k => B ≤ k) (fun _ h => h.elim))
  have Hxn := Lib.hid hxn
  clear hxb hch hxn hszX
  have e4 : ((ws.length : Int) == 4) = false := by simpa using fun e => h4 (by omega)
  have e2 : ((ws.length : Int) != 2) = true := by simpa using fun e => h2 (by omega)
  clear h4 h2 hr hz
  go_wp2
  go_end0
  exact ⟨rfl, HX.out, HC.out⟩
set_option maxHeartbeats 3200000 in
set_option maxRecDepth 100000 in
theorem taken_four {m : Mem} (hE : EnvM m) {w : World} {B g : Nat} {p : Pol} (h : PolSt m w B g p) {v : Value} {ws : List Str} (hr : RdStrs m v ws) (hz : szW ws) (h4 : ws.length = 4) (h0 : ¬ ws[0]?.getD [] = cCaps) :
    Calls Tryd.prog 25 #[.pointer (some ⟨g, 0, none⟩), v] w fun e w' => e = .returned (.tuple #[]) ∧ PolSt m w' B g p ∧ Ch (fun k => B ≤ k) w w' := by
  obtain ⟨a, b, c, d, rfl⟩ := len4 h4
  obtain ⟨A, cp, rfl⟩ := rdstrs_form hr
  have hch := (Ch.refl (fun _ => False) w).alloc (.cells #[.slice A 4 cp] 23)
  have HX := Lib.hid (h.keep hch (fun _ h => h.elim))
  have hxb := heap_alloc_new w (.cells #[.slice A 4 cp] 23)
  have hlt : g < w.heap.size := (Array.getElem?_eq_some_iff.1 h.row.choose_spec.choose_spec.choose_spec.choose_spec.choose_spec.1).1
  have hwB := h.size
  have hgB := h.ge
  have hszX : (w.alloc (.cells #[.slice A 4 cp] 23)).heap.size = w.heap.size + 1 := by simp
  clear h
  obtain ⟨bA, oA, hA, hc⟩ : ∃ b' o, A = some ⟨b', o, none⟩ ∧ ∀ k, k < 4 → (w.alloc (.cells #[.slice A 4 cp] 23)).cell? ⟨b', o + k, none⟩ = some (.string ⟨([a, b, c, d][k]?.getD []).toArray⟩) := by
    rcases (strs_cell HX.out.ok hr).2.2 with h0 | h0
    · cases h0
    · exact h0
  subst hA
  have w0 := hc 0 (by omega)
  have e0 : (a == [99, 97, 112, 115]) = false := by simpa [cCaps] using h0
  rw [Nat.add_zero] at w0
  clear hc h0 hr hz h4
  simp only [List.getElem?_cons_zero, Option.getD_some, List.length_cons, List.length_nil, Nat.zero_add, Nat.reduceAdd] at *
  go_enter Tryd.func25, Tryd.ntmps25
  go_upto_region 2 with fail
  generalize hX : w.alloc _ = X at *
  clear hX
  generalize hxn : w.heap.size = xb at *
  have x0 : X.cell? ⟨xb, 0, none⟩ = some (.slice (some ⟨bA, oA, none⟩) 4 cp) := by rw [cell_of_row X _ 0 _ _ _ hxb]; rfl
  have HC := Lib.hid (hch.mono' (T := fun k => B ≤ k) (fun _ h => h.elim))
  have Hxn := Lib.hid hxn
  clear hxb hch hxn hszX
  go_wp2
  go_end0
  exact ⟨rfl, HX.out, HC.out⟩
set_option maxHeartbeats 3200000 in
set_option maxRecDepth 100000 in
theorem taken_two {m : Mem} (hE : EnvM m) {w : World} {B g : Nat} {p : Pol} (h : PolSt m w B g p) {v : Value} {ws : List Str} (hr : RdStrs m v ws) (hz : szW ws) (h2 : ws.length = 2) (n0 : ¬ ws[0]?.getD [] = cEpoch) (n1 : ¬ ws[0]?.getD [] = cElem) (n2 : ¬ ws[0]?.getD [] = cAttr) (n3 : ¬ ws[0]?.getD [] = cScheme) (n4 : ¬ ws[0]?.getD [] = cClass) (n5 : ¬ ws[0]?.getD [] = cProp) :
    Calls Tryd.prog 25 #[.pointer (some ⟨g, 0, none⟩), v] w fun e w' => e = .returned (.tuple #[]) ∧ PolSt m w' B g p ∧ Ch (fun k => B ≤ k) w w' := by
  obtain ⟨a, b, rfl⟩ := len2 h2
  obtain ⟨A, cp, rfl⟩ := rdstrs_form hr
  have hch := (Ch.refl (fun _ => False) w).alloc (.cells #[.slice A 2 cp] 23)
  have HX := Lib.hid (h.keep hch (fun _ h => h.elim))
  have hxb := heap_alloc_new w (.cells #[.slice A 2 cp] 23)
  have hlt : g < w.heap.size := (Array.getElem?_eq_some_iff.1 h.row.choose_spec.choose_spec.choose_spec.choose_spec.choose_spec.1).1
  have hwB := h.size
  have hgB := h.ge
  have hszX : (w.alloc (.cells #[.slice A 2 cp] 23)).heap.size = w.heap.size + 1 := by simp
  clear h
  obtain ⟨bA, oA, hA, hc⟩ : ∃ b' o, A = some ⟨b', o, none⟩ ∧ ∀ k, k < 2 → (w.alloc (.cells #[.slice A 2 cp] 23)).cell? ⟨b', o + k, none⟩ = some (.string ⟨([a, b][k]?.getD []).toArray⟩) := by
    rcases (strs_cell HX.out.ok hr).2.2 with h0 | h0
    · cases h0
    · exact h0
  subst hA
  have w0 := hc 0 (by omega)
  have w1 := hc 1 (by omega)
  have hbA := World.block_lt_of_cell? _ _ w0
  rw [Nat.add_zero] at w0
  have Hr := Lib.hid hr
  have hlb := hz.2 b (by simp)
  have Hz := Lib.hid hz.2
  have e0 : (a == [101, 112, 111, 99, 104]) = false := by simpa [cEpoch] using n0
  have e1 : (a == [101, 108, 101, 109]) = false := by simpa [cElem] using n1
  have e2 : (a == [97, 116, 116, 114]) = false := by simpa [cAttr] using n2
  have e3 : (a == [115, 99, 104, 101, 109, 101]) = false := by simpa [cScheme] using n3
  have e4 : (a == [99, 108, 97, 115, 115]) = false := by simpa [cClass] using n4
  have e5 : (a == [112, 114, 111, 112]) = false := by simpa [cProp] using n5
  clear n0 n1 n2 n3 n4 n5
  clear hc hr hz h2
  simp only [List.getElem?_cons_zero, List.getElem?_cons_succ, Option.getD_some, List.length_cons, List.length_nil, Nat.zero_add, Nat.reduceAdd] at *
  go_enter Tryd.func25, Tryd.ntmps25
  go_upto_region 2 with fail
  generalize hX : w.alloc _ = X at *
  clear hX
  generalize hxn : w.heap.size = xb at *
  have x0 : X.cell? ⟨xb, 0, none⟩ = some (.slice (some ⟨bA, oA, none⟩) 2 cp) := by rw [cell_of_row X _ 0 _ _ _ hxb]; rfl
  have HC := Lib.hid (hch.mono' (T := fun k => B ≤ k) (fun _ h => h.elim))
  have Hxn := Lib.hid hxn
  clear hxb hch hxn hszX
  go_wp2
  go_end0
  exact ⟨rfl, HX.out, HC.out⟩
set_option maxHeartbeats 3200000 in
set_option maxRecDepth 100000 in
theorem taken_epoch {m : Mem} (hE : EnvM m) {w : World} {B g : Nat} {p : Pol} (h : PolSt m w B g p) {v : Value} {ws : List Str} (hr : RdStrs m v ws) (hz : szW ws) (h2 : ws.length = 2) (hn : ws[0]?.getD [] = cEpoch) :
    Calls Tryd.prog 25 #[.pointer (some ⟨g, 0, none⟩), v] w fun e w' => e = .returned (.tuple #[]) ∧ PolSt m w' B g { p with epoch := atoiF (ws[1]?.getD []) } ∧ Ch (fun k => B ≤ k) w w' := by
  obtain ⟨a, b, rfl⟩ := len2 h2
  obtain ⟨A, cp, rfl⟩ := rdstrs_form hr
  have hch := (Ch.refl (fun _ => False) w).alloc (.cells #[.slice A 2 cp] 23)
  have HX := Lib.hid (h.keep hch (fun _ h => h.elim))
  have hxb := heap_alloc_new w (.cells #[.slice A 2 cp] 23)
  have hlt : g < w.heap.size := (Array.getElem?_eq_some_iff.1 h.row.choose_spec.choose_spec.choose_spec.choose_spec.choose_spec.1).1
  have hwB := h.size
  have hgB := h.ge
  have hszX : (w.alloc (.cells #[.slice A 2 cp] 23)).heap.size = w.heap.size + 1 := by simp
  clear h
  obtain ⟨bA, oA, hA, hc⟩ : ∃ b' o, A = some ⟨b', o, none⟩ ∧ ∀ k, k < 2 → (w.alloc (.cells #[.slice A 2 cp] 23)).cell? ⟨b', o + k, none⟩ = some (.string ⟨([a, b][k]?.getD []).toArray⟩) := by
    rcases (strs_cell HX.out.ok hr).2.2 with h0 | h0
    · cases h0
    · exact h0
  subst hA
  have w0 := hc 0 (by omega)
  have w1 := hc 1 (by omega)
  have hbA := World.block_lt_of_cell? _ _ w0
  rw [Nat.add_zero] at w0
  have Hr := Lib.hid hr
  have hlb := hz.2 b (by simp)
  have Hz := Lib.hid hz.2
  have e0 : (a == [101, 112, 111, 99, 104]) = true := by simpa [cEpoch] using hn
  clear hn
  clear hc hr hz h2
  simp only [List.getElem?_cons_zero, List.getElem?_cons_succ, Option.getD_some, List.length_cons, List.length_nil, Nat.zero_add, Nat.reduceAdd] at *
  go_enter Tryd.func25, Tryd.ntmps25
  go_upto_region 2 with fail
  generalize hX : w.alloc _ = X at *
  clear hX
  generalize hxn : w.heap.size = xb at *
  have x0 : X.cell? ⟨xb, 0, none⟩ = some (.slice (some ⟨bA, oA, none⟩) 2 cp) := by rw [cell_of_row X _ 0 _ _ _ hxb]; rfl
  have HC := Lib.hid (hch.mono' (T := fun k => B ≤ k) (fun _ h => h.elim))
  have Hxn := Lib.hid hxn
  clear hxb hch hxn hszX
  have HN := Lib.hid (num_calls hE X HX.out.ok x0 Hr.out (by simp) Hz.out (show 1 < [a, b].length by simp))
  go_wp2_with fail
  refine HN.out.mono ?_
  rintro e w1 ⟨rfl, hc1⟩
  have HC1 := Lib.hid (HC.out.trans (hc1.mono (fun _ h => h.elim)) (fun k hk => .inl hk))
  obtain ⟨hok, hf, hge, hsz, v1, v2, v3, v4, v5, hb, ho⟩ := HX.out.keep hc1 (fun _ h => h.elim)
  have y0 : w1.cell? ⟨g, 0, none⟩ = some (.int .i64 p.epoch) := by rw [cell_of_row w1 _ 0 _ _ _ hb]; rfl
  have f0 : w1.frozen? ⟨g, 0, none⟩ = false := Lib.frozen_of_heap hb 0
  have HF := Lib.hid (PolSt.store (p' := { p with epoch := atoiF b }) (u := .int .i64 (atoiF b)) (i := 0) hok hf hge hsz hb ho rfl)
  have HG := Lib.hid (HC1.out.setCell (p := ⟨g, 0, none⟩) (.inl hge) (.int .i64 (atoiF b)))
  clear hb ho hc1
  go_wp2
  go_end0
  exact ⟨rfl, HF.out, HG.out⟩
set_option maxHeartbeats 3200000 in
set_option maxRecDepth 100000 in
theorem taken_caps {m : Mem} (hE : EnvM m) {w : World} {B g : Nat} {p : Pol} (h : PolSt m w B g p) {v : Value} {ws : List Str} (hr : RdStrs m v ws) (hz : szW ws) (h4 : ws.length = 4) (h0 : ws[0]?.getD [] = cCaps) :
    Calls Tryd.prog 25 #[.pointer (some ⟨g, 0, none⟩), v] w fun e w' => e = .returned (.tuple #[]) ∧ PolSt m w' B g { p with depth := atoiF (ws[1]?.getD []), nodes := atoiF (ws[2]?.getD []), bytes := atoiF (ws[3]?.getD []) } ∧ Ch (fun k => B ≤ k) w w' := by
  obtain ⟨a, b, c, d, rfl⟩ := len4 h4
  obtain ⟨A, cp, rfl⟩ := rdstrs_form hr
  have hch := (Ch.refl (fun _ => False) w).alloc (.cells #[.slice A 4 cp] 23)
  have HX := Lib.hid (h.keep hch (fun _ h => h.elim))
  have hxb := heap_alloc_new w (.cells #[.slice A 4 cp] 23)
  have hlt : g < w.heap.size := (Array.getElem?_eq_some_iff.1 h.row.choose_spec.choose_spec.choose_spec.choose_spec.choose_spec.1).1
  have hwB := h.size
  have hgB := h.ge
  have hszX : (w.alloc (.cells #[.slice A 4 cp] 23)).heap.size = w.heap.size + 1 := by simp
  clear h
  obtain ⟨bA, oA, hA, hc⟩ : ∃ b' o, A = some ⟨b', o, none⟩ ∧ ∀ k, k < 4 → (w.alloc (.cells #[.slice A 4 cp] 23)).cell? ⟨b', o + k, none⟩ = some (.string ⟨([a, b, c, d][k]?.getD []).toArray⟩) := by
    rcases (strs_cell HX.out.ok hr).2.2 with h0 | h0
    · cases h0
    · exact h0
  subst hA
  have w0 := hc 0 (by omega)
  have e0 : (a == [99, 97, 112, 115]) = true := by simpa [cCaps] using h0
  have Hr := Lib.hid hr
  have Hz := Lib.hid hz.2
  rw [Nat.add_zero] at w0
  clear hc h0 hr hz h4
  simp only [List.getElem?_cons_zero, List.getElem?_cons_succ, Option.getD_some, List.length_cons, List.length_nil, Nat.zero_add, Nat.reduceAdd] at *
  go_enter Tryd.func25, Tryd.ntmps25
  go_upto_region 2 with fail
  generalize hX : w.alloc _ = X at *
  clear hX
  generalize hxn : w.heap.size = xb at *
  have x0 : X.cell? ⟨xb, 0, none⟩ = some (.slice (some ⟨bA, oA, none⟩) 4 cp) := by rw [cell_of_row X _ 0 _ _ _ hxb]; rfl
  have HC := Lib.hid (hch.mono' (T := fun k => B ≤ k) (fun _ h => h.elim))
  have Hxn := Lib.hid hxn
  clear hxb hch hxn hszX
  have HN1 := Lib.hid (num_calls hE X HX.out.ok x0 Hr.out (by simp) Hz.out (show 1 < [a, b, c, d].length by simp))
  go_wp2_with fail
  refine HN1.out.mono ?_
  rintro e X1 ⟨rfl, hc1⟩
  have HX1 := Lib.hid (HX.out.keep hc1 (fun _ h => h.elim))
  have HC1 := Lib.hid (HC.out.trans (hc1.mono (fun _ h => h.elim)) (fun k hk => .inl hk))
  have x1 := hc1.cell x0 (fun h => h)
  have HN2 := Lib.hid (num_calls hE X1 HX1.out.ok x1 Hr.out (by simp) Hz.out (show 2 < [a, b, c, d].length by simp))
  clear hc1 x0
  go_wp2_with fail
  refine HN2.out.mono ?_
  rintro e X2 ⟨rfl, hc2⟩
  have HX2 := Lib.hid (HX1.out.keep hc2 (fun _ h => h.elim))
  have HC2 := Lib.hid (HC1.out.trans (hc2.mono (fun _ h => h.elim)) (fun k hk => .inl hk))
  have x2 := hc2.cell x1 (fun h => h)
  have HN3 := Lib.hid (num_calls hE X2 HX2.out.ok x2 Hr.out (by simp) Hz.out (show 3 < [a, b, c, d].length by simp))
  clear hc2 x1
  go_wp2_with fail
  refine HN3.out.mono ?_
  rintro e X3 ⟨rfl, hc3⟩
  have HC3 := Lib.hid (HC2.out.trans (hc3.mono (fun _ h => h.elim)) (fun k hk => .inl hk))
  obtain ⟨hok, hf, hge, hsz, v1, v2, v3, v4, v5, hb, ho⟩ := HX2.out.keep hc3 (fun _ h => h.elim)
  have y6 : X3.cell? ⟨g, 6, none⟩ = some (.int .i64 p.depth) := by rw [cell_of_row X3 _ 6 _ _ _ hb]; rfl
  have f6 : X3.frozen? ⟨g, 6, none⟩ = false := Lib.frozen_of_heap hb 6
  have y7 : X3.cell? ⟨g, 7, none⟩ = some (.int .i64 p.nodes) := by rw [cell_of_row X3 _ 7 _ _ _ hb]; rfl
  have f7 : X3.frozen? ⟨g, 7, none⟩ = false := Lib.frozen_of_heap hb 7
  have y8 : X3.cell? ⟨g, 8, none⟩ = some (.int .i64 p.bytes) := by rw [cell_of_row X3 _ 8 _ _ _ hb]; rfl
  have f8 : X3.frozen? ⟨g, 8, none⟩ = false := Lib.frozen_of_heap hb 8
  have HF1 := PolSt.store (p' := { p with depth := atoiF b }) (u := .int .i64 (atoiF b)) (i := 6) hok hf hge hsz hb ho rfl
  obtain ⟨hok1, hf1, hge1, hsz1, v1, v2, v3, v4, v5, hb1, ho1⟩ := HF1
  have HF2 := PolSt.store (p' := { p with depth := atoiF b, nodes := atoiF c }) (u := .int .i64 (atoiF c)) (i := 7) hok1 hf1 hge1 hsz1 hb1 ho1 rfl
  obtain ⟨hok2, hf2, hge2, hsz2, v1, v2, v3, v4, v5, hb2, ho2⟩ := HF2
  have HF := Lib.hid (PolSt.store (p' := { p with depth := atoiF b, nodes := atoiF c, bytes := atoiF d }) (u := .int .i64 (atoiF d)) (i := 8) hok2 hf2 hge2 hsz2 hb2 ho2 rfl)
  have HG := Lib.hid (((HC3.out.setCell (p := ⟨g, 6, none⟩) (.inl hge) (.int .i64 (atoiF b))).setCell (p := ⟨g, 7, none⟩) (.inl hge) (.int .i64 (atoiF c))).setCell (p := ⟨g, 8, none⟩) (.inl hge) (.int .i64 (atoiF d)))
  clear hb ho hc3 hb1 ho1 hb2 ho2 hok1 hok2 x2
  go_wp2
  go_end0
  exact ⟨rfl, HF.out, HG.out⟩
set_option maxHeartbeats 3200000 in
set_option maxRecDepth 100000 in
theorem taken_elems {m : Mem} (hE : EnvM m) {w : World} {B g : Nat} {p : Pol} (h : PolSt m w B g p) {v : Value} {ws : List Str} (hr : RdStrs m v ws) (hz : szW ws) (h2 : ws.length = 2) (n0 : ¬ ws[0]?.getD [] = cEpoch) (hn : ws[0]?.getD [] = cElem) (hl : p.elems.length ≤ 1000000000) :
    Calls Tryd.prog 25 #[.pointer (some ⟨g, 0, none⟩), v] w fun e w' => e = .returned (.tuple #[]) ∧ PolSt m w' B g { p with elems := p.elems ++ [ws[1]?.getD []] } ∧ Ch (fun k => B ≤ k) w w' := by
  obtain ⟨a, b, rfl⟩ := len2 h2
  obtain ⟨A, cp, rfl⟩ := rdstrs_form hr
  have hch := (Ch.refl (fun _ => False) w).alloc (.cells #[.slice A 2 cp] 23)
  have HX := Lib.hid (h.keep hch (fun _ h => h.elim))
  have hxb := heap_alloc_new w (.cells #[.slice A 2 cp] 23)
  have hlt : g < w.heap.size := (Array.getElem?_eq_some_iff.1 h.row.choose_spec.choose_spec.choose_spec.choose_spec.choose_spec.1).1
  have hwB := h.size
  have hgB := h.ge
  have hszX : (w.alloc (.cells #[.slice A 2 cp] 23)).heap.size = w.heap.size + 1 := by simp
  clear h
  obtain ⟨bA, oA, hA, hc⟩ : ∃ b' o, A = some ⟨b', o, none⟩ ∧ ∀ k, k < 2 → (w.alloc (.cells #[.slice A 2 cp] 23)).cell? ⟨b', o + k, none⟩ = some (.string ⟨([a, b][k]?.getD []).toArray⟩) := by
    rcases (strs_cell HX.out.ok hr).2.2 with h0 | h0
    · cases h0
    · exact h0
  subst hA
  have w0 := hc 0 (by omega)
  have w1 := hc 1 (by omega)
  have hbA := World.block_lt_of_cell? _ _ w0
  rw [Nat.add_zero] at w0
  have Hr := Lib.hid hr
  have hlb := hz.2 b (by simp)
  have Hz := Lib.hid hz.2
  have e0 : (a == [101, 112, 111, 99, 104]) = false := by simpa [cEpoch] using n0
  have e1 : (a == [101, 108, 101, 109]) = true := by simpa [cElem] using hn
  clear n0 hn
  clear hc hr hz h2
  simp only [List.getElem?_cons_zero, List.getElem?_cons_succ, Option.getD_some, List.length_cons, List.length_nil, Nat.zero_add, Nat.reduceAdd] at *
  go_enter Tryd.func25, Tryd.ntmps25
  go_upto_region 2 with fail
  generalize hX : w.alloc _ = X at *
  clear hX
  generalize hxn : w.heap.size = xb at *
  have x0 : X.cell? ⟨xb, 0, none⟩ = some (.slice (some ⟨bA, oA, none⟩) 2 cp) := by rw [cell_of_row X _ 0 _ _ _ hxb]; rfl
  have HC := Lib.hid (hch.mono' (T := fun k => B ≤ k) (fun _ h => h.elim))
  have Hxn := Lib.hid hxn
  clear hxb hch hxn hszX
  obtain ⟨hok, hf, hge, hsz, v1, v2, v3, v4, v5, hb, ho⟩ := HX.out
  have hown := (ho.1 0 v1 p.elems rfl rfl).1
  have hne := (ho.1 0 v1 p.elems rfl rfl).2
  obtain ⟨Ak, ck, hvk⟩ : ∃ A c, v1 = .slice A p.elems.length c := by
    rcases hown.2 with ⟨h0, h1⟩ | ⟨g', cap, cur, h0, _⟩
    · exact ⟨_, _, by rw [h0, h1]⟩
    · exact ⟨_, _, h0⟩
  have yk : X.cell? ⟨g, 1, none⟩ = some v1 := by rw [cell_of_row X _ 1 _ _ _ hb]; rfl
  have fk : X.frozen? ⟨g, 1, none⟩ = false := Lib.frozen_of_heap hb 1
  subst hvk
  have hgX : g < X.heap.size := (Array.getElem?_eq_some_iff.1 hb).1
  have hneg : (Value.slice Ak p.elems.length ck).ownBlock ≠ some g := fun e => (hne g e).1 rfl
  have HFin := Lib.hid (fun (w1 : World) (g' cap' : Nat) (hown1 : w1.ownsRow B 9 1 (.slice (some ⟨g', 0, none⟩) (p.elems.length + 1) cap') (p.elems.length + 1) (strCells p.elems ++ [.string ⟨b.toArray⟩])) (hgrow : (X.alloc (.cells #[.string ⟨b.toArray⟩] 9)).drew.grownBy w1 (Value.slice Ak p.elems.length ck).ownBlock) (hat : (Value.slice Ak p.elems.length ck).ownBlock = some g' ∨ X.heap.size ≤ g') =>
    taken_fin (i := 0) (p' := { p with elems := p.elems ++ [b] }) hok hf hge hsz hb ho rfl rfl hown1 hgrow hat (fun u => ⟨_, _, _, _, _, rfl, rfl⟩) rfl)
  obtain ⟨i0, hi, hz0, hz1, hz2⟩ := info_parts stringInfo
  have hl0 : (0 : Int) ≤ (p.elems.length : Int) := by omega
  have hszB : B ≤ X.heap.size := hsz
  clear hne ho hb
  go_wp2_with fail
  go_region_law (refine step_append_lies _ rfl (.tmp 54) (.tmp 58) 23 rfl B 9 i0 _ 1 16 Tryd.underlying23 hi hz0 hz1 hz2 rfl (by decide) (.slice Ak p.elems.length ck) p.elems.length (strCells p.elems) rfl (hown.drew.alloc _) ⟨X.heap.size, 0, none⟩ 1 1 [.string ⟨b.toArray⟩] rfl rfl (World.news_of_block (heap_alloc_new _ _)) (by simp [Value.oneCell']) (by decide) (by unfold maxLen; omega) (by omega) (by simp; omega) _ rfl ?_; intro g' cap' w1 hown1 hgrow1 hat1 hlt1; have yk1 := hgrow1.cell (a := ⟨g, 1, none⟩) (cellA yk) (fun e => hneg e.symm); have fk1 := frA yk fk hgrow1 (fun e => hneg e.symm))
  all_goals
    have hat2 : (Value.slice Ak p.elems.length ck).ownBlock = some g' ∨ X.heap.size ≤ g' := by
      rcases hat1 with h | h
      · exact .inl h
      · right; simp at h; omega
    have fin := HFin.out _ _ _ hown1 hgrow1 hat2
    go_end0
    exact ⟨rfl, fin.1, HC.out.trans fin.2 (fun k hk => .inl hk)⟩
set_option maxHeartbeats 3200000 in
set_option maxRecDepth 100000 in
theorem taken_attrs {m : Mem} (hE : EnvM m) {w : World} {B g : Nat} {p : Pol} (h : PolSt m w B g p) {v : Value} {ws : List Str} (hr : RdStrs m v ws) (hz : szW ws) (h2 : ws.length = 2) (n0 : ¬ ws[0]?.getD [] = cEpoch) (n1 : ¬ ws[0]?.getD [] = cElem) (hn : ws[0]?.getD [] = cAttr) (hl : p.attrs.length ≤ 1000000000) :
    Calls Tryd.prog 25 #[.pointer (some ⟨g, 0, none⟩), v] w fun e w' => e = .returned (.tuple #[]) ∧ PolSt m w' B g { p with attrs := p.attrs ++ [ws[1]?.getD []] } ∧ Ch (fun k => B ≤ k) w w' := by
  obtain ⟨a, b, rfl⟩ := len2 h2
  obtain ⟨A, cp, rfl⟩ := rdstrs_form hr
  have hch := (Ch.refl (fun _ => False) w).alloc (.cells #[.slice A 2 cp] 23)
  have HX := Lib.hid (h.keep hch (fun _ h => h.elim))
  have hxb := heap_alloc_new w (.cells #[.slice A 2 cp] 23)
  have hlt : g < w.heap.size := (Array.getElem?_eq_some_iff.1 h.row.choose_spec.choose_spec.choose_spec.choose_spec.choose_spec.1).1
  have hwB := h.size
  have hgB := h.ge
  have hszX : (w.alloc (.cells #[.slice A 2 cp] 23)).heap.size = w.heap.size + 1 := by simp
  clear h
  obtain ⟨bA, oA, hA, hc⟩ : ∃ b' o, A = some ⟨b', o, none⟩ ∧ ∀ k, k < 2 → (w.alloc (.cells #[.slice A 2 cp] 23)).cell? ⟨b', o + k, none⟩ = some (.string ⟨([a, b][k]?.getD []).toArray⟩) := by
    rcases (strs_cell HX.out.ok hr).2.2 with h0 | h0
    · cases h0
    · exact h0
  subst hA
  have w0 := hc 0 (by omega)
  have w1 := hc 1 (by omega)
  have hbA := World.block_lt_of_cell? _ _ w0
  rw [Nat.add_zero] at w0
  have Hr := Lib.hid hr
  have hlb := hz.2 b (by simp)
  have Hz := Lib.hid hz.2
  have e0 : (a == [101, 112, 111, 99, 104]) = false := by simpa [cEpoch] using n0
  have e1 : (a == [101, 108, 101, 109]) = false := by simpa [cElem] using n1
  have e2 : (a == [97, 116, 116, 114]) = true := by simpa [cAttr] using hn
  clear n0 n1 hn
  clear hc hr hz h2
  simp only [List.getElem?_cons_zero, List.getElem?_cons_succ, Option.getD_some, List.length_cons, List.length_nil, Nat.zero_add, Nat.reduceAdd] at *
  go_enter Tryd.func25, Tryd.ntmps25
  go_upto_region 2 with fail
  generalize hX : w.alloc _ = X at *
  clear hX
  generalize hxn : w.heap.size = xb at *
  have x0 : X.cell? ⟨xb, 0, none⟩ = some (.slice (some ⟨bA, oA, none⟩) 2 cp) := by rw [cell_of_row X _ 0 _ _ _ hxb]; rfl
  have HC := Lib.hid (hch.mono' (T := fun k => B ≤ k) (fun _ h => h.elim))
  have Hxn := Lib.hid hxn
  clear hxb hch hxn hszX
  obtain ⟨hok, hf, hge, hsz, v1, v2, v3, v4, v5, hb, ho⟩ := HX.out
  have hown := (ho.1 1 v2 p.attrs rfl rfl).1
  have hne := (ho.1 1 v2 p.attrs rfl rfl).2
  obtain ⟨Ak, ck, hvk⟩ : ∃ A c, v2 = .slice A p.attrs.length c := by
    rcases hown.2 with ⟨h0, h1⟩ | ⟨g', cap, cur, h0, _⟩
    · exact ⟨_, _, by rw [h0, h1]⟩
    · exact ⟨_, _, h0⟩
  have yk : X.cell? ⟨g, 2, none⟩ = some v2 := by rw [cell_of_row X _ 2 _ _ _ hb]; rfl
  have fk : X.frozen? ⟨g, 2, none⟩ = false := Lib.frozen_of_heap hb 2
  subst hvk
  have hgX : g < X.heap.size := (Array.getElem?_eq_some_iff.1 hb).1
  have hneg : (Value.slice Ak p.attrs.length ck).ownBlock ≠ some g := fun e => (hne g e).1 rfl
  have HFin := Lib.hid (fun (w1 : World) (g' cap' : Nat) (hown1 : w1.ownsRow B 9 1 (.slice (some ⟨g', 0, none⟩) (p.attrs.length + 1) cap') (p.attrs.length + 1) (strCells p.attrs ++ [.string ⟨b.toArray⟩])) (hgrow : (X.alloc (.cells #[.string ⟨b.toArray⟩] 9)).drew.grownBy w1 (Value.slice Ak p.attrs.length ck).ownBlock) (hat : (Value.slice Ak p.attrs.length ck).ownBlock = some g' ∨ X.heap.size ≤ g') =>
    taken_fin (i := 1) (p' := { p with attrs := p.attrs ++ [b] }) hok hf hge hsz hb ho rfl rfl hown1 hgrow hat (fun u => ⟨_, _, _, _, _, rfl, rfl⟩) rfl)
  obtain ⟨i0, hi, hz0, hz1, hz2⟩ := info_parts stringInfo
  have hl0 : (0 : Int) ≤ (p.attrs.length : Int) := by omega
  have hszB : B ≤ X.heap.size := hsz
  clear hne ho hb
  go_wp2_with fail
  go_region_law (refine step_append_lies _ rfl (.tmp 71) (.tmp 75) 23 rfl B 9 i0 _ 1 16 Tryd.underlying23 hi hz0 hz1 hz2 rfl (by decide) (.slice Ak p.attrs.length ck) p.attrs.length (strCells p.attrs) rfl (hown.drew.alloc _) ⟨X.heap.size, 0, none⟩ 1 1 [.string ⟨b.toArray⟩] rfl rfl (World.news_of_block (heap_alloc_new _ _)) (by simp [Value.oneCell']) (by decide) (by unfold maxLen; omega) (by omega) (by simp; omega) _ rfl ?_; intro g' cap' w1 hown1 hgrow1 hat1 hlt1; have yk1 := hgrow1.cell (a := ⟨g, 2, none⟩) (cellA yk) (fun e => hneg e.symm); have fk1 := frA yk fk hgrow1 (fun e => hneg e.symm))
  all_goals
    have hat2 : (Value.slice Ak p.attrs.length ck).ownBlock = some g' ∨ X.heap.size ≤ g' := by
      rcases hat1 with h | h
      · exact .inl h
      · right; simp at h; omega
    have fin := HFin.out _ _ _ hown1 hgrow1 hat2
    go_end0
    exact ⟨rfl, fin.1, HC.out.trans fin.2 (fun k hk => .inl hk)⟩
set_option maxHeartbeats 3200000 in
set_option maxRecDepth 100000 in
theorem taken_schemes {m : Mem} (hE : EnvM m) {w : World} {B g : Nat} {p : Pol} (h : PolSt m w B g p) {v : Value} {ws : List Str} (hr : RdStrs m v ws) (hz : szW ws) (h2 : ws.length = 2) (n0 : ¬ ws[0]?.getD [] = cEpoch) (n1 : ¬ ws[0]?.getD [] = cElem) (n2 : ¬ ws[0]?.getD [] = cAttr) (hn : ws[0]?.getD [] = cScheme) (hl : p.schemes.length ≤ 1000000000) :
    Calls Tryd.prog 25 #[.pointer (some ⟨g, 0, none⟩), v] w fun e w' => e = .returned (.tuple #[]) ∧ PolSt m w' B g { p with schemes := p.schemes ++ [ws[1]?.getD []] } ∧ Ch (fun k => B ≤ k) w w' := by
  obtain ⟨a, b, rfl⟩ := len2 h2
  obtain ⟨A, cp, rfl⟩ := rdstrs_form hr
  have hch := (Ch.refl (fun _ => False) w).alloc (.cells #[.slice A 2 cp] 23)
  have HX := Lib.hid (h.keep hch (fun _ h => h.elim))
  have hxb := heap_alloc_new w (.cells #[.slice A 2 cp] 23)
  have hlt : g < w.heap.size := (Array.getElem?_eq_some_iff.1 h.row.choose_spec.choose_spec.choose_spec.choose_spec.choose_spec.1).1
  have hwB := h.size
  have hgB := h.ge
  have hszX : (w.alloc (.cells #[.slice A 2 cp] 23)).heap.size = w.heap.size + 1 := by simp
  clear h
  obtain ⟨bA, oA, hA, hc⟩ : ∃ b' o, A = some ⟨b', o, none⟩ ∧ ∀ k, k < 2 → (w.alloc (.cells #[.slice A 2 cp] 23)).cell? ⟨b', o + k, none⟩ = some (.string ⟨([a, b][k]?.getD []).toArray⟩) := by
    rcases (strs_cell HX.out.ok hr).2.2 with h0 | h0
    · cases h0
    · exact h0
  subst hA
  have w0 := hc 0 (by omega)
  have w1 := hc 1 (by omega)
  have hbA := World.block_lt_of_cell? _ _ w0
  rw [Nat.add_zero] at w0
  have Hr := Lib.hid hr
  have hlb := hz.2 b (by simp)
  have Hz := Lib.hid hz.2
  have e0 : (a == [101, 112, 111, 99, 104]) = false := by simpa [cEpoch] using n0
  have e1 : (a == [101, 108, 101, 109]) = false := by simpa [cElem] using n1
  have e2 : (a == [97, 116, 116, 114]) = false := by simpa [cAttr] using n2
  have e3 : (a == [115, 99, 104, 101, 109, 101]) = true := by simpa [cScheme] using hn
  clear n0 n1 n2 hn
  clear hc hr hz h2
  simp only [List.getElem?_cons_zero, List.getElem?_cons_succ, Option.getD_some, List.length_cons, List.length_nil, Nat.zero_add, Nat.reduceAdd] at *
  go_enter Tryd.func25, Tryd.ntmps25
  go_upto_region 2 with fail
  generalize hX : w.alloc _ = X at *
  clear hX
  generalize hxn : w.heap.size = xb at *
  have x0 : X.cell? ⟨xb, 0, none⟩ = some (.slice (some ⟨bA, oA, none⟩) 2 cp) := by rw [cell_of_row X _ 0 _ _ _ hxb]; rfl
  have HC := Lib.hid (hch.mono' (T := fun k => B ≤ k) (fun _ h => h.elim))
  have Hxn := Lib.hid hxn
  clear hxb hch hxn hszX
  obtain ⟨hok, hf, hge, hsz, v1, v2, v3, v4, v5, hb, ho⟩ := HX.out
  have hown := (ho.1 2 v3 p.schemes rfl rfl).1
  have hne := (ho.1 2 v3 p.schemes rfl rfl).2
  obtain ⟨Ak, ck, hvk⟩ : ∃ A c, v3 = .slice A p.schemes.length c := by
    rcases hown.2 with ⟨h0, h1⟩ | ⟨g', cap, cur, h0, _⟩
    · exact ⟨_, _, by rw [h0, h1]⟩
    · exact ⟨_, _, h0⟩
  have yk : X.cell? ⟨g, 3, none⟩ = some v3 := by rw [cell_of_row X _ 3 _ _ _ hb]; rfl
  have fk : X.frozen? ⟨g, 3, none⟩ = false := Lib.frozen_of_heap hb 3
  subst hvk
  have hgX : g < X.heap.size := (Array.getElem?_eq_some_iff.1 hb).1
  have hneg : (Value.slice Ak p.schemes.length ck).ownBlock ≠ some g := fun e => (hne g e).1 rfl
  have HFin := Lib.hid (fun (w1 : World) (g' cap' : Nat) (hown1 : w1.ownsRow B 9 1 (.slice (some ⟨g', 0, none⟩) (p.schemes.length + 1) cap') (p.schemes.length + 1) (strCells p.schemes ++ [.string ⟨b.toArray⟩])) (hgrow : (X.alloc (.cells #[.string ⟨b.toArray⟩] 9)).drew.grownBy w1 (Value.slice Ak p.schemes.length ck).ownBlock) (hat : (Value.slice Ak p.schemes.length ck).ownBlock = some g' ∨ X.heap.size ≤ g') =>
    taken_fin (i := 2) (p' := { p with schemes := p.schemes ++ [b] }) hok hf hge hsz hb ho rfl rfl hown1 hgrow hat (fun u => ⟨_, _, _, _, _, rfl, rfl⟩) rfl)
  obtain ⟨i0, hi, hz0, hz1, hz2⟩ := info_parts stringInfo
  have hl0 : (0 : Int) ≤ (p.schemes.length : Int) := by omega
  have hszB : B ≤ X.heap.size := hsz
  clear hne ho hb
  go_wp2_with fail
  go_region_law (refine step_append_lies _ rfl (.tmp 88) (.tmp 92) 23 rfl B 9 i0 _ 1 16 Tryd.underlying23 hi hz0 hz1 hz2 rfl (by decide) (.slice Ak p.schemes.length ck) p.schemes.length (strCells p.schemes) rfl (hown.drew.alloc _) ⟨X.heap.size, 0, none⟩ 1 1 [.string ⟨b.toArray⟩] rfl rfl (World.news_of_block (heap_alloc_new _ _)) (by simp [Value.oneCell']) (by decide) (by unfold maxLen; omega) (by omega) (by simp; omega) _ rfl ?_; intro g' cap' w1 hown1 hgrow1 hat1 hlt1; have yk1 := hgrow1.cell (a := ⟨g, 3, none⟩) (cellA yk) (fun e => hneg e.symm); have fk1 := frA yk fk hgrow1 (fun e => hneg e.symm))
  all_goals
    have hat2 : (Value.slice Ak p.schemes.length ck).ownBlock = some g' ∨ X.heap.size ≤ g' := by
      rcases hat1 with h | h
      · exact .inl h
      · right; simp at h; omega
    have fin := HFin.out _ _ _ hown1 hgrow1 hat2
    go_end0
    exact ⟨rfl, fin.1, HC.out.trans fin.2 (fun k hk => .inl hk)⟩
set_option maxHeartbeats 3200000 in
set_option maxRecDepth 100000 in
theorem taken_classes {m : Mem} (hE : EnvM m) {w : World} {B g : Nat} {p : Pol} (h : PolSt m w B g p) {v : Value} {ws : List Str} (hr : RdStrs m v ws) (hz : szW ws) (h2 : ws.length = 2) (n0 : ¬ ws[0]?.getD [] = cEpoch) (n1 : ¬ ws[0]?.getD [] = cElem) (n2 : ¬ ws[0]?.getD [] = cAttr) (n3 : ¬ ws[0]?.getD [] = cScheme) (hn : ws[0]?.getD [] = cClass) (hl : p.classes.length ≤ 1000000000) :
    Calls Tryd.prog 25 #[.pointer (some ⟨g, 0, none⟩), v] w fun e w' => e = .returned (.tuple #[]) ∧ PolSt m w' B g { p with classes := p.classes ++ [ws[1]?.getD []] } ∧ Ch (fun k => B ≤ k) w w' := by
  obtain ⟨a, b, rfl⟩ := len2 h2
  obtain ⟨A, cp, rfl⟩ := rdstrs_form hr
  have hch := (Ch.refl (fun _ => False) w).alloc (.cells #[.slice A 2 cp] 23)
  have HX := Lib.hid (h.keep hch (fun _ h => h.elim))
  have hxb := heap_alloc_new w (.cells #[.slice A 2 cp] 23)
  have hlt : g < w.heap.size := (Array.getElem?_eq_some_iff.1 h.row.choose_spec.choose_spec.choose_spec.choose_spec.choose_spec.1).1
  have hwB := h.size
  have hgB := h.ge
  have hszX : (w.alloc (.cells #[.slice A 2 cp] 23)).heap.size = w.heap.size + 1 := by simp
  clear h
  obtain ⟨bA, oA, hA, hc⟩ : ∃ b' o, A = some ⟨b', o, none⟩ ∧ ∀ k, k < 2 → (w.alloc (.cells #[.slice A 2 cp] 23)).cell? ⟨b', o + k, none⟩ = some (.string ⟨([a, b][k]?.getD []).toArray⟩) := by
    rcases (strs_cell HX.out.ok hr).2.2 with h0 | h0
    · cases h0
    · exact h0
  subst hA
  have w0 := hc 0 (by omega)
  have w1 := hc 1 (by omega)
  have hbA := World.block_lt_of_cell? _ _ w0
  rw [Nat.add_zero] at w0
  have Hr := Lib.hid hr
  have hlb := hz.2 b (by simp)
  have Hz := Lib.hid hz.2
  have e0 : (a == [101, 112, 111, 99, 104]) = false := by simpa [cEpoch] using n0
  have e1 : (a == [101, 108, 101, 109]) = false := by simpa [cElem] using n1
  have e2 : (a == [97, 116, 116, 114]) = false := by simpa [cAttr] using n2
  have e3 : (a == [115, 99, 104, 101, 109, 101]) = false := by simpa [cScheme] using n3
  have e4 : (a == [99, 108, 97, 115, 115]) = true := by simpa [cClass] using hn
  clear n0 n1 n2 n3 hn
  clear hc hr hz h2
  simp only [List.getElem?_cons_zero, List.getElem?_cons_succ, Option.getD_some, List.length_cons, List.length_nil, Nat.zero_add, Nat.reduceAdd] at *
  go_enter Tryd.func25, Tryd.ntmps25
  go_upto_region 2 with fail
  generalize hX : w.alloc _ = X at *
  clear hX
  generalize hxn : w.heap.size = xb at *
  have x0 : X.cell? ⟨xb, 0, none⟩ = some (.slice (some ⟨bA, oA, none⟩) 2 cp) := by rw [cell_of_row X _ 0 _ _ _ hxb]; rfl
  have HC := Lib.hid (hch.mono' (T := fun k => B ≤ k) (fun _ h => h.elim))
  have Hxn := Lib.hid hxn
  clear hxb hch hxn hszX
  obtain ⟨hok, hf, hge, hsz, v1, v2, v3, v4, v5, hb, ho⟩ := HX.out
  have hown := (ho.1 3 v4 p.classes rfl rfl).1
  have hne := (ho.1 3 v4 p.classes rfl rfl).2
  obtain ⟨Ak, ck, hvk⟩ : ∃ A c, v4 = .slice A p.classes.length c := by
    rcases hown.2 with ⟨h0, h1⟩ | ⟨g', cap, cur, h0, _⟩
    · exact ⟨_, _, by rw [h0, h1]⟩
    · exact ⟨_, _, h0⟩
  have yk : X.cell? ⟨g, 4, none⟩ = some v4 := by rw [cell_of_row X _ 4 _ _ _ hb]; rfl
  have fk : X.frozen? ⟨g, 4, none⟩ = false := Lib.frozen_of_heap hb 4
  subst hvk
  have hgX : g < X.heap.size := (Array.getElem?_eq_some_iff.1 hb).1
  have hneg : (Value.slice Ak p.classes.length ck).ownBlock ≠ some g := fun e => (hne g e).1 rfl
  have HFin := Lib.hid (fun (w1 : World) (g' cap' : Nat) (hown1 : w1.ownsRow B 9 1 (.slice (some ⟨g', 0, none⟩) (p.classes.length + 1) cap') (p.classes.length + 1) (strCells p.classes ++ [.string ⟨b.toArray⟩])) (hgrow : (X.alloc (.cells #[.string ⟨b.toArray⟩] 9)).drew.grownBy w1 (Value.slice Ak p.classes.length ck).ownBlock) (hat : (Value.slice Ak p.classes.length ck).ownBlock = some g' ∨ X.heap.size ≤ g') =>
    taken_fin (i := 3) (p' := { p with classes := p.classes ++ [b] }) hok hf hge hsz hb ho rfl rfl hown1 hgrow hat (fun u => ⟨_, _, _, _, _, rfl, rfl⟩) rfl)
  obtain ⟨i0, hi, hz0, hz1, hz2⟩ := info_parts stringInfo
  have hl0 : (0 : Int) ≤ (p.classes.length : Int) := by omega
  have hszB : B ≤ X.heap.size := hsz
  clear hne ho hb
  go_wp2_with fail
  go_region_law (refine step_append_lies _ rfl (.tmp 105) (.tmp 109) 23 rfl B 9 i0 _ 1 16 Tryd.underlying23 hi hz0 hz1 hz2 rfl (by decide) (.slice Ak p.classes.length ck) p.classes.length (strCells p.classes) rfl (hown.drew.alloc _) ⟨X.heap.size, 0, none⟩ 1 1 [.string ⟨b.toArray⟩] rfl rfl (World.news_of_block (heap_alloc_new _ _)) (by simp [Value.oneCell']) (by decide) (by unfold maxLen; omega) (by omega) (by simp; omega) _ rfl ?_; intro g' cap' w1 hown1 hgrow1 hat1 hlt1; have yk1 := hgrow1.cell (a := ⟨g, 4, none⟩) (cellA yk) (fun e => hneg e.symm); have fk1 := frA yk fk hgrow1 (fun e => hneg e.symm))
  all_goals
    have hat2 : (Value.slice Ak p.classes.length ck).ownBlock = some g' ∨ X.heap.size ≤ g' := by
      rcases hat1 with h | h
      · exact .inl h
      · right; simp at h; omega
    have fin := HFin.out _ _ _ hown1 hgrow1 hat2
    go_end0
    exact ⟨rfl, fin.1, HC.out.trans fin.2 (fun k hk => .inl hk)⟩
set_option maxHeartbeats 3200000 in
set_option maxRecDepth 100000 in
theorem taken_props {m : Mem} (hE : EnvM m) {w : World} {B g : Nat} {p : Pol} (h : PolSt m w B g p) {v : Value} {ws : List Str} (hr : RdStrs m v ws) (hz : szW ws) (h2 : ws.length = 2) (n0 : ¬ ws[0]?.getD [] = cEpoch) (n1 : ¬ ws[0]?.getD [] = cElem) (n2 : ¬ ws[0]?.getD [] = cAttr) (n3 : ¬ ws[0]?.getD [] = cScheme) (n4 : ¬ ws[0]?.getD [] = cClass) (hn : ws[0]?.getD [] = cProp) (hl : p.props.length ≤ 1000000000) :
    Calls Tryd.prog 25 #[.pointer (some ⟨g, 0, none⟩), v] w fun e w' => e = .returned (.tuple #[]) ∧ PolSt m w' B g { p with props := p.props ++ [ws[1]?.getD []] } ∧ Ch (fun k => B ≤ k) w w' := by
  obtain ⟨a, b, rfl⟩ := len2 h2
  obtain ⟨A, cp, rfl⟩ := rdstrs_form hr
  have hch := (Ch.refl (fun _ => False) w).alloc (.cells #[.slice A 2 cp] 23)
  have HX := Lib.hid (h.keep hch (fun _ h => h.elim))
  have hxb := heap_alloc_new w (.cells #[.slice A 2 cp] 23)
  have hlt : g < w.heap.size := (Array.getElem?_eq_some_iff.1 h.row.choose_spec.choose_spec.choose_spec.choose_spec.choose_spec.1).1
  have hwB := h.size
  have hgB := h.ge
  have hszX : (w.alloc (.cells #[.slice A 2 cp] 23)).heap.size = w.heap.size + 1 := by simp
  clear h
  obtain ⟨bA, oA, hA, hc⟩ : ∃ b' o, A = some ⟨b', o, none⟩ ∧ ∀ k, k < 2 → (w.alloc (.cells #[.slice A 2 cp] 23)).cell? ⟨b', o + k, none⟩ = some (.string ⟨([a, b][k]?.getD []).toArray⟩) := by
    rcases (strs_cell HX.out.ok hr).2.2 with h0 | h0
    · cases h0
    · exact h0
  subst hA
  have w0 := hc 0 (by omega)
  have w1 := hc 1 (by omega)
  have hbA := World.block_lt_of_cell? _ _ w0
  rw [Nat.add_zero] at w0
  have Hr := Lib.hid hr
  have hlb := hz.2 b (by simp)
  have Hz := Lib.hid hz.2
  have e0 : (a == [101, 112, 111, 99, 104]) = false := by simpa [cEpoch] using n0
  have e1 : (a == [101, 108, 101, 109]) = false := by simpa [cElem] using n1
  have e2 : (a == [97, 116, 116, 114]) = false := by simpa [cAttr] using n2
  have e3 : (a == [115, 99, 104, 101, 109, 101]) = false := by simpa [cScheme] using n3
  have e4 : (a == [99, 108, 97, 115, 115]) = false := by simpa [cClass] using n4
  have e5 : (a == [112, 114, 111, 112]) = true := by simpa [cProp] using hn
  clear n0 n1 n2 n3 n4 hn
  clear hc hr hz h2
  simp only [List.getElem?_cons_zero, List.getElem?_cons_succ, Option.getD_some, List.length_cons, List.length_nil, Nat.zero_add, Nat.reduceAdd] at *
  go_enter Tryd.func25, Tryd.ntmps25
  go_upto_region 2 with fail
  generalize hX : w.alloc _ = X at *
  clear hX
  generalize hxn : w.heap.size = xb at *
  have x0 : X.cell? ⟨xb, 0, none⟩ = some (.slice (some ⟨bA, oA, none⟩) 2 cp) := by rw [cell_of_row X _ 0 _ _ _ hxb]; rfl
  have HC := Lib.hid (hch.mono' (T := fun k => B ≤ k) (fun _ h => h.elim))
  have Hxn := Lib.hid hxn
  clear hxb hch hxn hszX
  obtain ⟨hok, hf, hge, hsz, v1, v2, v3, v4, v5, hb, ho⟩ := HX.out
  have hown := (ho.1 4 v5 p.props rfl rfl).1
  have hne := (ho.1 4 v5 p.props rfl rfl).2
  obtain ⟨Ak, ck, hvk⟩ : ∃ A c, v5 = .slice A p.props.length c := by
    rcases hown.2 with ⟨h0, h1⟩ | ⟨g', cap, cur, h0, _⟩
    · exact ⟨_, _, by rw [h0, h1]⟩
    · exact ⟨_, _, h0⟩
  have yk : X.cell? ⟨g, 5, none⟩ = some v5 := by rw [cell_of_row X _ 5 _ _ _ hb]; rfl
  have fk : X.frozen? ⟨g, 5, none⟩ = false := Lib.frozen_of_heap hb 5
  subst hvk
  have hgX : g < X.heap.size := (Array.getElem?_eq_some_iff.1 hb).1
  have hneg : (Value.slice Ak p.props.length ck).ownBlock ≠ some g := fun e => (hne g e).1 rfl
  have HFin := Lib.hid (fun (w1 : World) (g' cap' : Nat) (hown1 : w1.ownsRow B 9 1 (.slice (some ⟨g', 0, none⟩) (p.props.length + 1) cap') (p.props.length + 1) (strCells p.props ++ [.string ⟨b.toArray⟩])) (hgrow : (X.alloc (.cells #[.string ⟨b.toArray⟩] 9)).drew.grownBy w1 (Value.slice Ak p.props.length ck).ownBlock) (hat : (Value.slice Ak p.props.length ck).ownBlock = some g' ∨ X.heap.size ≤ g') =>
    taken_fin (i := 4) (p' := { p with props := p.props ++ [b] }) hok hf hge hsz hb ho rfl rfl hown1 hgrow hat (fun u => ⟨_, _, _, _, _, rfl, rfl⟩) rfl)
  obtain ⟨i0, hi, hz0, hz1, hz2⟩ := info_parts stringInfo
  have hl0 : (0 : Int) ≤ (p.props.length : Int) := by omega
  have hszB : B ≤ X.heap.size := hsz
  clear hne ho hb
  go_wp2_with fail
  go_region_law (refine step_append_lies _ rfl (.tmp 122) (.tmp 126) 23 rfl B 9 i0 _ 1 16 Tryd.underlying23 hi hz0 hz1 hz2 rfl (by decide) (.slice Ak p.props.length ck) p.props.length (strCells p.props) rfl (hown.drew.alloc _) ⟨X.heap.size, 0, none⟩ 1 1 [.string ⟨b.toArray⟩] rfl rfl (World.news_of_block (heap_alloc_new _ _)) (by simp [Value.oneCell']) (by decide) (by unfold maxLen; omega) (by omega) (by simp; omega) _ rfl ?_; intro g' cap' w1 hown1 hgrow1 hat1 hlt1; have yk1 := hgrow1.cell (a := ⟨g, 5, none⟩) (cellA yk) (fun e => hneg e.symm); have fk1 := frA yk fk hgrow1 (fun e => hneg e.symm))
  all_goals
    have hat2 : (Value.slice Ak p.props.length ck).ownBlock = some g' ∨ X.heap.size ≤ g' := by
      rcases hat1 with h | h
      · exact .inl h
      · right; simp at h; omega
    have fin := HFin.out _ _ _ hown1 hgrow1 hat2
    go_end0
    exact ⟨rfl, fin.1, HC.out.trans fin.2 (fun k hk => .inl hk)⟩
end Go.Proofs.YtlfimcpceiemnaaDoor

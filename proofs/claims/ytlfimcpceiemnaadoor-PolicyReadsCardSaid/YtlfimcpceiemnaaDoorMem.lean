/- A memory that lasts: a partial map of cells that every later world still holds; what has been written there is read the same for ever. Plain words, no program in sight. -/
import Derived.WalkKit
import Derived.WalkSmall
import Derived.KernelRfl
import Derived.Lib.LaidTab
import Derived.Lib.ItoaNum
import Derived.Test.YtlfimcpceiemnaaDoorProg
set_option linter.unusedVariables false
namespace Go.Proofs.YtlfimcpceiemnaaDoor
open Go Go.RowKit

/-- Cells that last: block, offset, value. -/
abbrev Mem := Nat → Nat → Option Value
structure Mem.ok (m : Mem) (w : World) : Prop where
  cells : ∀ b o v, m b o = some v → w.cell? ⟨b, o, none⟩ = some v
  tab : Lib.TabIs Tryd.prog w "internal/strconv.uint64pow10" .u64 Lib.pow10Tab
instance {m : Mem} {w : World} : CoeFun (m.ok w) fun _ => ∀ b o v, m b o = some v → w.cell? ⟨b, o, none⟩ = some v := ⟨Mem.ok.cells⟩
theorem powG : Tryd.prog.globalNamed "internal/strconv.uint64pow10" = some 3 := by kernel_rfl
def Mem.le (m m' : Mem) : Prop := ∀ b o v, m b o = some v → m' b o = some v
theorem Mem.le_refl (m : Mem) : m.le m := fun _ _ _ h => h
theorem Mem.le_trans {a b c : Mem} (h : a.le b) (k : b.le c) : a.le c := fun x y v e => k _ _ _ (h _ _ _ e)
/-- Block b is no part of it. -/
structure Mem.free (m : Mem) (b : Nat) : Prop where
  none : ∀ o, m b o = .none
  out : b ≠ 3
instance {m : Mem} {b : Nat} : CoeFun (m.free b) fun _ => ∀ o, m b o = none := ⟨Mem.free.none⟩

/-- What a call may have changed: the blocks of S, and new ones. -/
structure Ch (S : Nat → Prop) (w w' : World) : Prop where
  os : w'.os = w.os
  tape : w'.tape = w.tape
  output : w'.output = w.output
  size : w.heap.size ≤ w'.heap.size
  block : ∀ k, k < w.heap.size → ¬ S k → w'.heap[k]? = w.heap[k]?
theorem Ch.refl (S : Nat → Prop) (w : World) : Ch S w w := ⟨rfl, rfl, rfl, Nat.le_refl _, fun _ _ _ => rfl⟩
theorem Ch.trans {S T : Nat → Prop} {a b c : World} (h : Ch S a b) (k : Ch T b c) (hT : ∀ x, T x → S x ∨ a.heap.size ≤ x) : Ch S a c :=
  ⟨k.os.trans h.os, k.tape.trans h.tape, k.output.trans h.output, Nat.le_trans h.size k.size, fun x hx hs =>
    (k.block x (Nat.lt_of_lt_of_le hx h.size) (fun ht => by rcases hT x ht with h1 | h1; exact hs h1; omega)).trans (h.block x hx hs)⟩
theorem Ch.mono {S T : Nat → Prop} {a b : World} (h : Ch S a b) (hS : ∀ x, S x → T x) : Ch T a b := ⟨h.os, h.tape, h.output, h.size, fun x hx ht => h.block x hx (fun hs => ht (hS x hs))⟩
theorem Ch.mono' {S T : Nat → Prop} {a b : World} (h : Ch S a b) (hS : ∀ x, S x → T x ∨ a.heap.size ≤ x) : Ch T a b :=
  ⟨h.os, h.tape, h.output, h.size, fun x hx ht => h.block x hx (fun hs => by rcases hS x hs with h1 | h1; exact ht h1; omega)⟩
theorem Ch.of_below {w w' : World} (h : Below w.heap.size w w') (S : Nat → Prop) : Ch S w w' := ⟨h.os, h.tape, h.output, h.size, fun k hk _ => h.block k hk⟩
theorem Ch.of_grown {w w' : World} {row : Option Nat} (h : w.grownBy w' row) {S : Nat → Prop} (hS : ∀ k, row = some k → S k) : Ch S w w' := ⟨h.os, h.tape, h.output, h.size, fun k hk hs => h.block k hk (fun e => hs (hS k e.symm))⟩
theorem Ch.below {S : Nat → Prop} {w w' : World} {B : Nat} (h : Ch S w w') (hB : B ≤ w.heap.size) (hS : ∀ k, S k → B ≤ k) : Below B w w' :=
  ⟨h.os, h.tape, h.output, h.size, fun k hk => h.block k (Nat.lt_of_lt_of_le hk hB) (fun hs => by have := hS k hs; omega)⟩
theorem Ch.drewN {S : Nat → Prop} {a b : World} (h : Ch S a b) (n : Nat) : Ch S a (b.drewN n) := ⟨h.os, h.tape, h.output, h.size, h.block⟩
theorem Ch.drew {S : Nat → Prop} {a b : World} (h : Ch S a b) : Ch S a b.drew := ⟨h.os, h.tape, h.output, h.size, h.block⟩
theorem Ch.alloc {S : Nat → Prop} {a b : World} (h : Ch S a b) (o : Obj) : Ch S a (b.alloc o) :=
  ⟨h.os, h.tape, h.output, by have := h.size; simp; omega, fun k hk hs => (Below.heap_alloc b o k (Nat.lt_of_lt_of_le hk h.size)).trans (h.block k hk hs)⟩
theorem Ch.setCell {S : Nat → Prop} {a b : World} (h : Ch S a b) {p : Addr} (hp : S p.block ∨ a.heap.size ≤ p.block) (u : Value) : Ch S a (b.setCell p u) := by
  have hb := Below.setCell (B := 0) (Below.refl 0 b) (p := p) (Nat.zero_le _) u
  exact ⟨hb.os.trans h.os, hb.tape.trans h.tape, hb.output.trans h.output, Nat.le_trans h.size hb.size, fun k hk hs =>
    (Below.heap_setCell b p u k (fun e => by subst e; rcases hp with h1 | h1; exact hs h1; omega)).trans (h.block k hk hs)⟩
theorem Ch.cell {S : Nat → Prop} {w w' : World} (h : Ch S w w') {p : Addr} {v : Value} (hc : w.cell? p = some v) (hS : ¬ S p.block) : w'.cell? p = some v :=
  (World.cell?_of_block (h.block p.block (World.block_lt_of_cell? w p hc) hS)).trans hc
theorem Ch.heap {S : Nat → Prop} {w w' : World} (h : Ch S w w') {k : Nat} {o : Obj} (hc : w.heap[k]? = some o) (hS : ¬ S k) : w'.heap[k]? = some o :=
  (h.block k (Array.getElem?_eq_some_iff.1 hc).1 hS).trans hc
theorem Ch.grown {S : Nat → Prop} {a b c : World} {row : Option Nat} (h : Ch S a b) (hg : b.grownBy c row) (hr : ∀ k, row = some k → S k ∨ a.heap.size ≤ k) : Ch S a c :=
  ⟨hg.os.trans h.os, hg.tape.trans h.tape, hg.output.trans h.output, Nat.le_trans h.size hg.size, fun k hk hs =>
    (hg.block k (Nat.lt_of_lt_of_le hk h.size) (fun e => by rcases hr k e.symm with h1 | h1; exact hs h1; omega)).trans (h.block k hk hs)⟩
theorem Ch.own {S : Nat → Prop} {w w' : World} (h : Ch S w w') {base : Nat} {e : TypeId} {size n : Nat} {v : Value} {xs : List Value} (ho : w.ownsRow base e size v n xs)
    (hS : ∀ k, v.ownBlock = some k → ¬ S k) : w'.ownsRow base e size v n xs := by
  obtain ⟨h1, h2⟩ := ho
  refine ⟨h1, ?_⟩
  rcases h2 with h2 | ⟨g, cap, cur, rfl, hg, hh, r⟩
  · exact .inl h2
  · exact .inr ⟨g, cap, cur, rfl, hg, h.heap hh (hS g (by simp [Value.ownBlock])), r⟩

theorem Mem.ok.lt {m : Mem} {w : World} (h : m.ok w) {b o : Nat} {v : Value} (hm : m b o = some v) : b < w.heap.size := World.block_lt_of_cell? w _ (h b o v hm)
theorem Mem.ok.powlt {m : Mem} {w : World} (h : m.ok w) : 3 < w.heap.size := by
  have h := h.tab
  unfold Lib.TabIs World.var? at h
  rw [powG, Option.bind_some] at h
  cases hw : w.heap[(3 : Nat)]? with
  | none => rw [hw] at h; cases h
  | some o => exact (Array.getElem?_eq_some_iff.1 hw).1
theorem Mem.ok.ch {m : Mem} {S : Nat → Prop} {w w' : World} (h : m.ok w) (hc : Ch S w w') (hS : ∀ k, S k → m.free k) : m.ok w' :=
  ⟨fun b o v hm => hc.cell (h b o v hm) (fun hs => by have := hS b hs o; rw [this] at hm; cases hm), by
    have hb := hc.block _ h.powlt (fun hs => (hS _ hs).out rfl)
    have h := h.tab
    unfold Lib.TabIs World.var? at *
    rw [powG, Option.bind_some] at *
    rw [hb]; exact h⟩
theorem Mem.ok.heap {m : Mem} {w w' : World} (h : m.ok w) (e : w'.heap = w.heap) : m.ok w' :=
  ⟨fun b o v hv => (World.cell?_of_block (by rw [e])).trans (h b o v hv), (by have h := h.tab; unfold Lib.TabIs World.var? at *; rw [e]; exact h)⟩
theorem Mem.ok.drewN {m : Mem} {w : World} (h : m.ok w) (n : Nat) : m.ok (w.drewN n) := h.ch ((Ch.refl (fun _ => False) w).drewN n) (fun _ hk => hk.elim)
theorem Mem.ok.drew {m : Mem} {w : World} (h : m.ok w) : m.ok w.drew := h.ch (Ch.refl (fun _ => False) w).drew (fun _ hk => hk.elim)
theorem Mem.ok.below {m : Mem} {w w' : World} (h : m.ok w) (hb : Below w.heap.size w w') : m.ok w' := h.ch (Ch.of_below hb (fun _ => False)) (fun _ hk => hk.elim)
theorem Mem.ok.new {m : Mem} {w : World} (h : m.ok w) {k : Nat} (hk : w.heap.size ≤ k) : m.free k := ⟨fun o => by
  cases hm : m k o with
  | none => rfl
  | some v => exact absurd (h.lt hm) (by omega), fun e => by have := h.powlt; omega⟩

/-- The memory with block g's row. -/
def Mem.with (m : Mem) (g : Nat) (cs : List Value) : Mem := fun b o => if b = g then cs[o]? else m b o
theorem Mem.le_with {m : Mem} {g : Nat} (cs : List Value) (hf : m.free g) : m.le (m.with g cs) := fun b o v h => by
  unfold Mem.with
  split
  · subst b; rw [hf o] at h; cases h
  · exact h
theorem Mem.with_at (m : Mem) (g : Nat) (cs : List Value) (o : Nat) : m.with g cs g o = cs[o]? := by simp [Mem.with]
theorem Mem.with_ne (m : Mem) {g b : Nat} (cs : List Value) (h : b ≠ g) (o : Nat) : m.with g cs b o = m b o := by simp [Mem.with, h]
theorem Mem.with_free {m : Mem} {g b : Nat} (cs : List Value) (h : b ≠ g) (hf : m.free b) : (m.with g cs).free b := ⟨fun o => by rw [Mem.with_ne m cs h]; exact hf o, hf.out⟩

/-- A row of cells that lasts. -/
def RowAt (m : Mem) (b o : Nat) (cs : List Value) : Prop := ∀ i v, cs[i]? = some v → m b (o + i) = some v
theorem RowAt.le {m m' : Mem} {b o : Nat} {cs : List Value} (h : RowAt m b o cs) (hm : m.le m') : RowAt m' b o cs := fun i v hv => hm _ _ _ (h i v hv)
/-- A slice value of n elements of sz cells, which last. -/
def SlV (m : Mem) (sz : Nat) (v : Value) (n : Nat) (cs : List Value) : Prop :=
  cs.length = n * sz ∧ ∃ A c, v = .slice A n c ∧ (n ≤ c ∧ c ≤ 9223372036854775807) ∧ (0 < n → ∃ b o, A = some ⟨b, o, none⟩ ∧ RowAt m b o cs)
theorem SlV.le {m m' : Mem} {sz n : Nat} {v : Value} {cs : List Value} (h : SlV m sz v n cs) (hm : m.le m') : SlV m' sz v n cs := by
  obtain ⟨h1, A, c, h2, h3, h4⟩ := h
  exact ⟨h1, A, c, h2, h3, fun hn => by obtain ⟨b, o, e, r⟩ := h4 hn; exact ⟨b, o, e, r.le hm⟩⟩
theorem SlV.nil (m : Mem) (sz : Nat) : SlV m sz (.slice none 0 0) 0 [] := ⟨by simp, none, 0, rfl, ⟨Nat.le_refl _, by omega⟩, fun h => absurd h (by omega)⟩
theorem SlV.max {m : Mem} {sz n : Nat} {v : Value} {cs : List Value} (h : SlV m sz v n cs) : n ≤ 9223372036854775807 := by
  obtain ⟨_, A, c, _, hc, _⟩ := h; omega
/-- In a world that holds the memory: the slice's cells. -/
theorem SlV.cells {m : Mem} {w : World} (hw : m.ok w) {sz n : Nat} {v : Value} {cs : List Value} (h : SlV m sz v n cs) (hn : 0 < n) :
    ∃ b o c, v = .slice (some ⟨b, o, none⟩) n c ∧ n ≤ c ∧ ∀ i u, cs[i]? = some u → w.cell? ⟨b, o + i, none⟩ = some u := by
  obtain ⟨h1, A, c, h2, h3, h4⟩ := h
  obtain ⟨b, o, rfl, r⟩ := h4 hn
  exact ⟨b, o, c, h2, h3.1, fun i u hu => hw _ _ _ (r i u hu)⟩

/-- A row of one's own lasts from now on. -/
theorem freeze {m : Mem} {w : World} {base : Nat} {e : TypeId} {sz n : Nat} {v : Value} {cs : List Value} (hw : m.ok w) (ho : w.ownsRow base e sz v n cs)
    (hf : ∀ k, v.ownBlock = some k → m.free k) :
    ∃ m', m.le m' ∧ m'.ok w ∧ SlV m' sz v n cs ∧ ∀ k, m.free k → v.ownBlock ≠ some k → m'.free k := by
  obtain ⟨h1, h2⟩ := ho
  rcases h2 with ⟨rfl, rfl⟩ | ⟨g, cap, cur, rfl, hg, hh, hn, hcap, hcur, htake⟩
  · have : cs = [] := List.eq_nil_of_length_eq_zero (by simpa using h1)
    subst this
    exact ⟨m, Mem.le_refl m, hw, SlV.nil m sz, fun _ h _ => h⟩
  · have hg' : m.free g := hf g (by simp [Value.ownBlock])
    refine ⟨m.with g cs, Mem.le_with cs hg', ?_, ⟨h1, _, _, rfl, ⟨hn, by unfold maxLen at hcap; exact hcap⟩, fun _ => ⟨g, 0, rfl, fun i u hu => by rw [Mem.with_at]; simpa using hu⟩⟩, fun k hk hne => Mem.with_free cs (fun e => hne (by simp [Value.ownBlock, e])) hk⟩
    refine ⟨?_, hw.tab⟩
    intro b o u hu
    by_cases hb : b = g
    · subst hb
      rw [Mem.with_at] at hu
      rw [cell_of_row w b o cur e (0, 0) hh]
      rw [← htake] at hu
      rw [List.getElem?_take] at hu
      split at hu
      · simpa using hu
      · cases hu
    · rw [Mem.with_ne m cs hb] at hu
      exact hw _ _ _ hu

/-- Two stores into two blocks, in either order. -/
theorem setCell_comm (w : World) {p q : Addr} (h : p.block ≠ q.block) (u v : Value) : (w.setCell p u).setCell q v = (w.setCell q v).setCell p u := by
  have e : ((w.setCell p u).setCell q v).heap = ((w.setCell q v).setCell p u).heap := by
    unfold World.setCell
    apply Array.ext_getElem?
    intro i
    simp only [Array.getElem?_modify]
    by_cases h1 : q.block = i
    · by_cases h2 : p.block = i
      · exact absurd (h2.trans h1.symm) h
      · simp [h1, h2]
    · simp [h1]
  have hw : ∀ {a b : World}, a.heap = b.heap → a.tape = b.tape → a.drawn = b.drawn → a.os = b.os → a.output = b.output → a = b := by
    intro a b h1 h2 h3 h4 h5; cases a; cases b; simp_all
  exact hw e rfl rfl rfl rfl
theorem setCell4_comm (w : World) {b i g j0 j1 j2 j3 : Nat} (h : ¬ g = b) (u v0 v1 v2 v3 : Value) :
    ((((w.setCell ⟨b, i, none⟩ u).setCell ⟨g, j0, none⟩ v0).setCell ⟨g, j1, none⟩ v1).setCell ⟨g, j2, none⟩ v2).setCell ⟨g, j3, none⟩ v3 = ((((w.setCell ⟨g, j0, none⟩ v0).setCell ⟨g, j1, none⟩ v1).setCell ⟨g, j2, none⟩ v2).setCell ⟨g, j3, none⟩ v3).setCell ⟨b, i, none⟩ u := by
  have h' : b ≠ g := fun e => h e.symm
  rw [setCell_comm w (p := ⟨b, i, none⟩) (q := ⟨g, j0, none⟩) h', setCell_comm (w.setCell ⟨g, j0, none⟩ v0) (p := ⟨b, i, none⟩) (q := ⟨g, j1, none⟩) h', setCell_comm ((w.setCell ⟨g, j0, none⟩ v0).setCell ⟨g, j1, none⟩ v1) (p := ⟨b, i, none⟩) (q := ⟨g, j2, none⟩) h', setCell_comm (((w.setCell ⟨g, j0, none⟩ v0).setCell ⟨g, j1, none⟩ v1).setCell ⟨g, j2, none⟩ v2) (p := ⟨b, i, none⟩) (q := ⟨g, j3, none⟩) h']

end Go.Proofs.YtlfimcpceiemnaaDoor

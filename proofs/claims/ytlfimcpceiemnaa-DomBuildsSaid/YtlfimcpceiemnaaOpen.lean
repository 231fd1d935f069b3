/- A reading of tokens, as the memory's. -/
import Derived.Test.YtlfimcpceiemnaaRep
import Derived.Test.YtlfimcpceiemnaaProg
import Derived.Deep.Slices
import Derived.ProofKit
set_option linter.unusedVariables false
namespace Go.Proofs.Ytlfimcpceiemnaa
open Go Go.RowKit Go.ChangeShapes Go.WideShapes Go.Deep

def memAll (w : World) : Mem := fun b o => w.cell? ⟨b, o, none⟩
theorem memAll_ok (w : World) : (memAll w).ok w := fun _ _ _ h => h
/-- Rows one behind the other. -/
theorem gather {α : Type} (R : α → List Value → Prop) (w : World) (sz b o : Nat) : ∀ n : Nat,
    (∀ i, i < n → ∃ x row, R x row ∧ row.length = sz ∧ ∀ k, k < sz → w.cell? ⟨b, o + (i * sz + k), none⟩ = row[k]?) →
    ∃ l : List (α × List Value), l.length = n ∧ (∀ p ∈ l, R p.1 p.2) ∧ (l.flatMap (·.2)).length = n * sz ∧ RowAt (memAll w) b o (l.flatMap (·.2))
  | 0, _ => ⟨[], rfl, by simp, by simp, fun i v h => by simp at h⟩
  | n + 1, h => by
    obtain ⟨l, h1, h2, h3, h4⟩ := gather R w sz b o n (fun i hi => h i (by omega))
    obtain ⟨x, row, hR, hl, hc⟩ := h n (by omega)
    refine ⟨l ++ [(x, row)], by simp [h1], ?_, ?_, ?_⟩
    · intro p hp
      rcases List.mem_append.1 hp with hp | hp
      · exact h2 p hp
      · rw [List.mem_singleton] at hp; subst hp; exact hR
    · rw [List.flatMap_append, List.length_append, h3]; simp [hl, Nat.add_mul]
    · intro i v hv
      rw [List.flatMap_append] at hv
      by_cases hi : i < n * sz
      · rw [List.getElem?_append_left (by omega)] at hv
        exact h4 i v hv
      · rw [List.getElem?_append_right (by omega), h3] at hv
        have hv' : row[i - n * sz]? = some v := by simpa using hv
        have hk : i - n * sz < sz := by
          have := (List.getElem?_eq_some_iff.1 hv').1
          omega
        have := hc (i - n * sz) hk
        rw [show n * sz + (i - n * sz) = i by omega] at this
        show w.cell? ⟨b, o + i, none⟩ = some v
        rw [this]; exact hv'
section
variable {H : Type} {enc : TypeId × Value → H} {P : Program} {w : World} {base : Nat} {spare : Nat → Bool} {held : Bool}
/-- A slice's rows, each read as an R. -/
theorem read_rows {α : Type} (R : α → List Value → Prop) {t e : TypeId} {fuel sz : Nat} {cs : List Value} {x : DataW H × List MemPlace} (ht : P.underlying t = some (.slice e)) (hc : P.cellsOf e = sz) (hz : 0 < sz)
    (h : DataW.trod enc P w base spare held fuel t cs = some x) (hR : ∀ n row y, DataW.trod enc P w base spare held n e row = some y → ∃ z, R z row) :
    ∃ (v : Value) (l : List (α × List Value)), cs = [v] ∧ (∀ p ∈ l, R p.1 p.2) ∧ SlV (memAll w) sz v l.length (l.flatMap (·.2)) := by
  rcases open_slice ht h with ⟨rfl, _⟩ | ⟨a, len, cap, m, n, D, Pl, rfl, hb, hl, hm, hmm, _, hE⟩
  · exact ⟨_, [], rfl, by simp, SlV.nil _ _⟩
  · have hle : len ≤ m := by rw [hmm]; split <;> omega
    have hmax : cap ≤ 9223372036854775807 := hm
    rcases Nat.eq_zero_or_pos len with h0 | h0
    · subst h0
      exact ⟨_, [], rfl, by simp, by simp, some a, cap, rfl, ⟨by simp, hmax⟩, fun h => absurd h (by simp)⟩
    · obtain ⟨b, o, spot⟩ := a
      have hspot : spot = none := by
        obtain ⟨cs', k1, _⟩ := hE 0 (by omega)
        obtain ⟨_, k2, k3⟩ := World.cells?_some k1
        have k4 := k3 0 (by omega)
        obtain ⟨c0, hc0⟩ : ∃ c0, cs'[0]? = some c0 := ⟨_, List.getElem?_eq_getElem (by omega)⟩
        rw [hc0] at k4
        simpa [Addr.add] using World.cell?_spot k4
      subst hspot
      obtain ⟨l, l1, l2, l3, l4⟩ := gather R w sz b o len (fun i hi => by
        obtain ⟨cs', k1, k2⟩ := hE i (by omega)
        obtain ⟨_, k3, k4⟩ := World.cells?_some k1
        obtain ⟨z, hz2⟩ := hR _ _ _ k2
        refine ⟨z, cs', hz2, by omega, fun k hk => ?_⟩
        have := k4 k (by omega)
        rw [add_plain, add_plain, hc, Nat.add_assoc] at this
        exact this)
      subst l1
      exact ⟨_, l, rfl, l2, l3, some ⟨b, o, none⟩, cap, rfl, ⟨hl, hmax⟩, fun _ => ⟨b, o, rfl, l4⟩⟩
/-- A struct's fields. -/
theorem read_fields {t : TypeId} {fs : List (TypeId × Nat)} {fuel : Nat} {cs : List Value} {x : DataW H × List MemPlace} (ht : ((P.underlying t).map fun u => match u with | .struct fs => fs.toList.map (fun f => (f.type, f.offset)) | _ => []) = some fs) (hne : fs ≠ [])
    (h : DataW.trod enc P w base spare held fuel t cs = some x) :
    cs.length = P.cellsOf t ∧ ∃ n, ∀ (i : Nat) (f : TypeId × Nat), fs[i]? = some f → ∃ y, DataW.trod enc P w base spare held n f.1 ((cs.drop f.2).take (P.cellsOf f.1)) = some y := by
  cases hu : P.underlying t with
  | none => rw [hu] at ht; simp at ht
  | some u =>
    rw [hu] at ht
    cases u with
    | struct gs =>
      simp only [Option.map_some, Option.some.injEq] at ht
      obtain ⟨xs, n, _, _, hl, hxl, hf⟩ := DataW.trod_struct hu h
      refine ⟨hl, n, fun i f hi => ?_⟩
      rw [← ht, List.getElem?_map] at hi
      obtain ⟨g, hg, rfl⟩ := Option.map_eq_some_iff.1 hi
      have hg' : gs[i]? = some g := by simpa using hg
      have hlt : i < xs.length := by rw [hxl]; exact (Array.getElem?_eq_some_iff.1 hg').1
      exact ⟨xs[i], by rw [hf i g hg', List.getElem?_eq_getElem hlt]⟩
    | _ => simp at ht; exact absurd ht.symm (by simpa using hne)
end
theorem attrT : ((Try.prog.underlying 59).map fun u => match u with | .struct fs => fs.toList.map (fun f => (f.type, f.offset)) | _ => []) = some [(9, 0), (9, 1)] := by kernel_rfl
theorem tokT : ((Try.prog.underlying 32).map fun u => match u with | .struct fs => fs.toList.map (fun f => (f.type, f.offset)) | _ => []) = some [(3, 0), (9, 1), (30, 2), (4, 3), (9, 4)] := by kernel_rfl
theorem attrsT : Try.prog.underlying 30 = some (.slice 59) := by kernel_rfl
theorem toksT : Try.prog.underlying 22 = some (.slice 32) := by kernel_rfl
theorem strT : Try.prog.underlying 9 = some .string := by kernel_rfl
theorem intT : Try.prog.underlying 3 = some (.int .i64) := by kernel_rfl
theorem boolT : Try.prog.underlying 4 = some .bool := by kernel_rfl
theorem attrC : Try.prog.cellsOf 59 = 2 := by kernel_rfl
theorem tokC : Try.prog.cellsOf 32 = 5 := by kernel_rfl
theorem strC : Try.prog.cellsOf 9 = 1 := by kernel_rfl
theorem intC : Try.prog.cellsOf 3 = 1 := by kernel_rfl
theorem boolC : Try.prog.cellsOf 4 = 1 := by kernel_rfl
theorem attrsC : Try.prog.cellsOf 30 = 1 := by kernel_rfl
section
variable {H : Type} {enc : TypeId × Value → H} {w : World} {base : Nat} {spare : Nat → Bool} {held : Bool}
theorem str_list (s : ByteArray) : (⟨s.data.toList.toArray⟩ : ByteArray) = s := by cases s; simp
theorem read_attrs {fuel : Nat} {cs : List Value} {x : DataW H × List MemPlace} (h : DataW.trod enc Try.prog w base spare held fuel 30 cs = some x) : ∃ v xs, cs = [v] ∧ RdAttrs (memAll w) v xs := by
  obtain ⟨v, l, rfl, hl, hs⟩ := read_rows (fun (a : Attr) row => row = [.string ⟨a.name.toArray⟩, .string ⟨a.value.toArray⟩]) attrsT attrC (by decide) h (fun n row y hy => by
    obtain ⟨k1, n, k2⟩ := read_fields attrT (by simp) hy
    rw [attrC] at k1
    match row, k1 with
    | [c0, c1], _ =>
      obtain ⟨_, y0⟩ := k2 0 _ rfl
      obtain ⟨_, y1⟩ := k2 1 _ rfl
      simp only [strC] at y0 y1
      obtain ⟨s0, e0, _, _⟩ := DataW.trod_string strT y0
      obtain ⟨s1, e1, _, _⟩ := DataW.trod_string strT y1
      simp at e0 e1
      subst e0 e1
      exact ⟨⟨s0.data.toList, s1.data.toList⟩, by simp only [str_list]⟩)
  refine ⟨v, l.map (·.1), rfl, ?_⟩
  have : attrCells (l.map (·.1)) = l.flatMap (·.2) := by
    rw [attrCells, List.flatMap_map]
    clear hs
    induction l with
    | nil => rfl
    | cons p l ih =>
      rw [List.flatMap_cons, List.flatMap_cons, ih (fun q hq => hl q (by simp [hq])), hl p (by simp)]
  rw [RdAttrs, this, List.length_map]
  exact hs
theorem read_toks {fuel : Nat} {cs : List Value} {x : DataW H × List MemPlace} (h : DataW.trod enc Try.prog w base spare held fuel 22 cs = some x) : ∃ v xs, cs = [v] ∧ RdToks (memAll w) v xs := by
  obtain ⟨v, l, rfl, hl, hs⟩ := read_rows (fun (t : Token) row => ∃ va, RdAttrs (memAll w) va t.attrs ∧ row = [.int .i64 t.kind, .string ⟨t.name.toArray⟩, va, .bool t.closed, .string ⟨t.text.toArray⟩]) toksT tokC (by decide) h (fun n row y hy => by
    obtain ⟨k1, n, k2⟩ := read_fields tokT (by simp) hy
    rw [tokC] at k1
    match row, k1 with
    | [c0, c1, c2, c3, c4], _ =>
      obtain ⟨_, y0⟩ := k2 0 _ rfl
      obtain ⟨_, y1⟩ := k2 1 _ rfl
      obtain ⟨_, y2⟩ := k2 2 _ rfl
      obtain ⟨_, y3⟩ := k2 3 _ rfl
      obtain ⟨_, y4⟩ := k2 4 _ rfl
      simp only [strC, intC, boolC, attrsC] at y0 y1 y2 y3 y4
      obtain ⟨n0, e0, _, _⟩ := DataW.trod_int intT y0
      obtain ⟨s1, e1, _, _⟩ := DataW.trod_string strT y1
      obtain ⟨va, xs, e2, ra⟩ := read_attrs y2
      obtain ⟨b3, e3, _⟩ := DataW.trod_bool boolT y3
      obtain ⟨s4, e4, _, _⟩ := DataW.trod_string strT y4
      simp at e0 e1 e2 e3 e4
      subst e0 e1 e2 e3 e4
      exact ⟨⟨n0, s1.data.toList, xs, b3, s4.data.toList⟩, c2, ra, by simp only [str_list]⟩)
  refine ⟨v, l.map (·.1), rfl, l.flatMap (·.2), by rw [List.length_map]; exact hs, ?_⟩
  clear hs
  induction l with
  | nil => exact .nil
  | cons p l ih =>
    obtain ⟨va, ra, e⟩ := hl p (by simp)
    rw [List.flatMap_cons, e]
    exact .cons ra (ih (fun q hq => hl q (by simp [hq])))
end
end Go.Proofs.Ytlfimcpceiemnaa

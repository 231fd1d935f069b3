/- dom.Build, walked. -/
import Derived.Test.YtlfimcpceiemnaaDomGood
set_option linter.unusedVariables false
namespace Go.Proofs.Ytlfimcpceiemnaa
open Go Go.RowKit

/-- All texts of tokens. -/
def tokText (l : List Token) : Nat := (l.map fun t => t.text.length).sum
def runT (s : BS) : List Token → BS
  | [] => s
  | t :: ts => runT (s.take t) ts
theorem runT_snoc (t : Token) : ∀ (l : List Token) (s : BS), runT s (l ++ [t]) = (runT s l).take t
  | [], s => rfl
  | a :: l, s => runT_snoc t l (s.take a)
/-- None has been too many so far. -/
def fineT (s : BS) : List Token → Prop
  | [] => True
  | t :: ts => (s.take t).over = false ∧ fineT (s.take t) ts
theorem run_fine : ∀ (l : List Token) (s : BS), fineT s l → s.run l = some (runT s l)
  | [], s, _ => rfl
  | t :: ts, s, h => by rw [BS.run, h.1]; simpa [runT] using run_fine ts _ h.2
theorem fine_snoc (t : Token) : ∀ (l : List Token) (s : BS), fineT s (l ++ [t]) ↔ fineT s l ∧ ((runT s l).take t).over = false
  | [], s => by simp [fineT, runT]
  | a :: l, s => by simp [fineT, runT, fine_snoc t l, and_assoc]
theorem run_over : ∀ (l : List Token) (s : BS) (t : Token) (r : List Token), fineT s l → ((runT s l).take t).over = true → s.run (l ++ t :: r) = none
  | [], s, t, r, _, h => by simp only [runT] at h; simp [BS.run, h]
  | a :: l, s, t, r, hf, h => by
    rw [List.cons_append, BS.run, hf.1]
    simpa using run_over l _ t r hf.2 h
theorem run_good : ∀ (l : List Token) (s : BS) (T : Nat), Good s T → Good (runT s l) (T + tokText l)
  | [], s, T, h => by simpa [tokText, runT] using h
  | t :: l, s, T, h => by
    have := run_good l _ _ (h.take t).1
    simp only [runT, tokText, List.map_cons, List.sum_cons] at this ⊢
    rwa [← Nat.add_assoc]
theorem run_many : ∀ (l : List Token) (s : BS) (T : Nat), Good s T → (runT s l).many ≤ s.many + l.length
  | [], s, T, h => by simp [runT]
  | t :: l, s, T, h => by
    have h1 := h.take t
    have := run_many l _ _ h1.1
    simp only [runT, List.length_cons] at this ⊢
    omega
theorem over_many : ∀ (s : BS), s.over = true → (s.count).over = true := fun s h => by simp [BS.count, h]
/-- A tree, newly made. -/
def NewNodes (m : Mem) (w : World) (xs : List Node) (err : Int) (e : Ending) (w' : World) : Prop :=
  ∃ v m', e = .returned (.tuple #[v, .int .i64 err]) ∧ m.le m' ∧ m'.ok w' ∧ RdNodes m' v xs ∧ Ch (fun _ => False) w w' ∧ ∀ k, k < w.heap.size → m.free k → m'.free k

theorem build_start {m : Mem} {w : World} (hw : m.ok w) :
    IsB m ((w.alloc (.cells #[.string ⟨#[]⟩, .slice none 0 0, .string ⟨#[]⟩, .slice none 0 0, .string ⟨#[]⟩] 38)).alloc (.cells #[.slice (some ⟨w.heap.size, 0, none⟩) 1 1, .int .i64 0, .bool false] 41)) w.heap.size (w.heap.size + 1)
      [rootNode] 0 false (.slice (some ⟨w.heap.size, 0, none⟩) 1 1) [.string ⟨#[]⟩, .slice none 0 0, .string ⟨#[]⟩, .slice none 0 0, .string ⟨#[]⟩] [⟨.slice none 0 0, 0, []⟩] where
  hm := hw.ch (((Ch.refl (fun _ => False) w).alloc _).alloc _) (fun _ h => h.elim)
  obj := by
    have := heap_alloc_new (w.alloc (.cells #[.string ⟨#[]⟩, .slice none 0 0, .string ⟨#[]⟩, .slice none 0 0, .string ⟨#[]⟩] 38)) (.cells #[.slice (some ⟨w.heap.size, 0, none⟩) 1 1, .int .i64 0, .bool false] 41)
    simpa using this
  row := by
    refine World.ownsRow.alloc ?_ _
    exact ⟨rfl, .inr ⟨w.heap.size, 1, #[.string ⟨#[]⟩, .slice none 0 0, .string ⟨#[]⟩, .slice none 0 0, .string ⟨#[]⟩], rfl, Nat.le_refl _, heap_alloc_new w _, Nat.le_refl _, by decide, rfl, rfl⟩⟩
  els := ElCells.one (k := ⟨.slice none 0 0, 0, []⟩) (SlV.nil m 2) rfl .nil
  rows := fun k hk => by simp at hk; subst hk; exact World.ownsRow_nil _ _ _ _
  nd := by simp [fpB, Value.ownBlock]
  fr := fun k hk => by
    simp [fpB, Value.ownBlock] at hk
    rcases hk with rfl | rfl
    · exact hw.new (by omega)
    · exact hw.new (by omega)
  bs := by omega

/-- Only the whole tree is left: its kids' row lasts from now on. -/
theorem final_nodes {m : Mem} {w : World} {base g : Nat} {r : Node} {many : Int} {over : Bool} {vo : Value} {oc : List Value} {ks : List KRow} (h : IsB m w base g [r] many over vo oc ks) :
    ∃ b cap v m', vo = .slice (some ⟨b, 0, none⟩) 1 cap ∧ w.cell? ⟨b, 3, none⟩ = some v ∧ m.le m' ∧ m'.ok w ∧ RdNodes m' v r.kids ∧ ∀ k, m.free k → k < base → m'.free k := by
  obtain ⟨ks', cs', k, va, rfl, rfl, hE, hA, hkn, hkc, htx⟩ := (show ElCells m ([] ++ [r]) ks oc from h.els).snoc
  cases hE
  obtain ⟨b, cap, hv, _, _, _, hcells, _⟩ := own_cells h.row (by simp)
  have hrow := h.rows k (by simp)
  obtain ⟨m', l1, ok1, sl1, fr1⟩ := freeze h.hm hrow (fun x hx => h.fr x (by simp [fpB, hx]))
  exact ⟨b, cap, k.v, m', hv, hcells 3 _ rfl, l1, ok1, ⟨k.cs, hkn ▸ sl1, hkc.le l1⟩, fun x hx hlt => fr1 x hx (fun e => by have := (hrow.lt x e).1; omega)⟩
theorem shutN_one (t : List Node) (h : t ≠ []) : ∃ r, shutN (t.length - 1) t = [r] := by
  have := length_shutN (t.length - 1) t (by have := List.length_pos_iff.2 h; omega)
  have hl := List.length_pos_iff.2 h
  match hs : shutN (t.length - 1) t with
  | [] => rw [hs] at this; simp at this; omega
  | [r] => exact ⟨r, rfl⟩
  | a :: b :: c => rw [hs] at this; simp at this; omega

/-- What holds at the head of each round. -/
def BuildRel (m : Mem) (base g : Nat) (w0 : World) (vo : Value) (ks : List KRow) (s : BS) (wr : World) : Prop := BPost m base g w0 vo ks s.st.reverse s.many s.over wr

end Go.Proofs.Ytlfimcpceiemnaa

/- The library's words for strings (index, cut, split) at a separator of one byte. -/
import Derived.Test.YtlfimcpceiemnaaDoorPolText
import Derived.Lib.SplitLaws
set_option linter.unusedVariables false
namespace Go.Proofs.YtlfimcpceiemnaaDoor
open Go Go.RowKit

theorem index_one (c : UInt8) : ∀ s : Str, ((∀ x ∈ s, x ≠ c) ∧ Lib.index s [c] = -1) ∨ ∃ a b, s = a ++ c :: b ∧ (∀ x ∈ a, x ≠ c) ∧ Lib.index s [c] = a.length
  | [] => .inl ⟨by simp, by simp [Lib.index]⟩
  | x :: s => by
    by_cases h : x = c
    · subst h
      exact .inr ⟨[], s, rfl, by simp, by simp [Lib.index, List.isPrefixOf]⟩
    · have h' : [c].isPrefixOf (x :: s) = false := by simpa [List.isPrefixOf] using fun e => h e.symm
      rcases index_one c s with ⟨h1, h2⟩ | ⟨a, b, h1, h2, h3⟩
      · refine .inl ⟨fun y hy => ?_, by rw [Lib.index, h', h2]; rfl⟩
        rcases List.mem_cons.1 hy with rfl | hy
        · exact h
        · exact h1 y hy
      · refine .inr ⟨x :: a, b, by rw [h1]; rfl, fun y hy => ?_, ?_⟩
        · rcases List.mem_cons.1 hy with rfl | hy
          · exact h
          · exact h2 y hy
        · rw [Lib.index, h', h3, if_neg (by simp), if_neg (by simp)]; rfl
theorem cut_one (c : UInt8) (s : Str) : ((∀ x ∈ s, x ≠ c) ∧ Lib.cut s [c] = (s, [], false)) ∨ ∃ a b, s = a ++ c :: b ∧ (∀ x ∈ a, x ≠ c) ∧ Lib.cut s [c] = (a, b, true) := by
  rcases index_one c s with ⟨h1, h2⟩ | ⟨a, b, h1, h2, h3⟩
  · exact .inl ⟨h1, by rw [Lib.cut, h2]; rfl⟩
  · refine .inr ⟨a, b, h1, h2, ?_⟩
    rw [Lib.cut, h3, if_pos (by omega), h1]
    simp
theorem splitK_one (c : UInt8) : ∀ (k : Nat) (s : Str), Lib.count s [c] = k → Lib.splitK [c] 0 k s = splitF c s
  | 0, s, hk => by
    rcases index_one c s with ⟨h1, h2⟩ | ⟨a, b, h1, h2, h3⟩
    · rw [Lib.splitK, splitF_one s h1]
    · have := Lib.countB_hit ⟨s.toArray⟩ ⟨#[c]⟩ a.length (Nat.le_refl 1) (by simpa [Lib.indexB] using h3)
      simp only [Lib.countB] at this
      omega
  | k + 1, s, hk => by
    rcases index_one c s with ⟨h1, h2⟩ | ⟨a, b, h1, h2, h3⟩
    · have := Lib.countB_miss ⟨s.toArray⟩ ⟨#[c]⟩ (by simpa [Lib.indexB] using h2)
      simp only [Lib.countB] at this
      omega
    · have := Lib.countB_hit ⟨s.toArray⟩ ⟨#[c]⟩ a.length (Nat.le_refl 1) (by simpa [Lib.indexB] using h3)
      simp only [Lib.countB, Lib.extract_to_end] at this
      have e3 : (⟨#[c]⟩ : ByteArray).size = 1 := rfl
      rw [e3, hk] at this
      have hs : s.drop (a.length + 1) = b := by rw [h1]; simp
      rw [Lib.splitK, h3, if_neg (by simp)]
      have e5 : ((a.length : Int)).toNat = a.length := by simp
      rw [e5, show [c].length = 1 from rfl, hs] 
      rw [hs] at this
      rw [splitK_one c k b (by omega), h1, splitF_app a b h2]
      simp
theorem split_one (c : UInt8) (s : Str) : (Lib.splitB ⟨#[c]⟩ 0 (Lib.countB ⟨s.toArray⟩ ⟨#[c]⟩) ⟨s.toArray⟩).map (·.data.toList) = splitF c s := by
  rw [Lib.splitB_data]
  have e2 : (⟨s.toArray⟩ : ByteArray).data.toList = s := by simp
  rw [e2]
  exact splitK_one c _ s (by simp [Lib.countB])
theorem split_cells (c : UInt8) (s : Str) : (Lib.splitB ⟨#[c]⟩ 0 (Lib.countB ⟨s.toArray⟩ ⟨#[c]⟩) ⟨s.toArray⟩).map Value.string = strCells (splitF c s) := by
  rw [← split_one, strCells, List.map_map]
  apply List.map_congr_left
  intro x _
  simp
theorem split_count (c : UInt8) (s : Str) : Lib.countB ⟨s.toArray⟩ ⟨#[c]⟩ + 1 = (splitF c s).length := by
  rw [← split_one, List.length_map, Lib.splitB_all ⟨#[c]⟩ (Nat.le_refl 1) 0 _ _ rfl]
end Go.Proofs.YtlfimcpceiemnaaDoor

/- versolaw04.awake. -/
import Derived.Test.YtlfimcpceiemnaaDomLaw2
import Derived.Test.YtlfimcpceiemnaaOpen
set_option linter.unusedVariables false
namespace Go.Proofs.Ytlfimcpceiemnaa
open Go Go.RowKit

def awakeToks : List Token := [⟨2, [112], [], false, []⟩, ⟨1, [], [], false, [97]⟩, ⟨2, [100, 105, 118], [], false, []⟩, ⟨1, [], [], false, [98]⟩]
def awakeTree : List Node := [.mk [112] [] [] [.mk [] [] [97] []], .mk [100, 105, 118] [] [] [.mk [] [] [98] []]]
theorem awake_build : buildF awakeToks = (awakeTree, 0) := by rfl
theorem awake_text : fullL awakeTree = [97, 98] := by rfl
def awakeCells : Array Value := #[.int .i64 2, .string ⟨#[112]⟩, .slice none 0 0, .bool false, .string ⟨#[]⟩, .int .i64 1, .string ⟨#[]⟩, .slice none 0 0, .bool false, .string ⟨#[97]⟩,
  .int .i64 2, .string ⟨#[100, 105, 118]⟩, .slice none 0 0, .bool false, .string ⟨#[]⟩, .int .i64 1, .string ⟨#[]⟩, .slice none 0 0, .bool false, .string ⟨#[98]⟩]
theorem awake_toks (w : World) : RdToks (memAll (w.alloc (.cells awakeCells 32))) (.slice (some ⟨w.heap.size, 0, none⟩) 4 4) awakeToks := by
  refine ⟨awakeCells.toList, ⟨rfl, _, 4, rfl, ⟨by decide, by decide⟩, fun _ => ⟨w.heap.size, 0, rfl, ?_⟩⟩, ?_⟩
  · intro i u hi
    show (w.alloc (.cells awakeCells 32)).cell? ⟨w.heap.size, 0 + i, none⟩ = some u
    rw [cell_of_row _ _ _ _ _ _ (heap_alloc_new w (.cells awakeCells 32)), Nat.zero_add]
    simpa using hi
  · have h0 : ∀ m, RdAttrs m (.slice none 0 0) [] := fun m => SlV.nil m 2
    exact .cons (t := ⟨2, [112], [], false, []⟩) (h0 _) (.cons (t := ⟨1, [], [], false, [97]⟩) (h0 _) (.cons (t := ⟨2, [100, 105, 118], [], false, []⟩) (h0 _) (.cons (t := ⟨1, [], [], false, [98]⟩) (h0 _) .nil)))
set_option maxHeartbeats 3200000 in
theorem awake_calls (w : World) : Calls Try.prog 4 #[] w fun e w' => e = .returned (.bool true) ∧ Ch (fun _ => False) w w' := by
  have HB := Lib.hid (build_calls (memAll_ok (w.alloc (.cells awakeCells 32))) (awake_toks w) (by decide) (by decide) (by decide))
  have hch := (Ch.refl (fun _ => False) w).alloc (.cells awakeCells 32)
  go_enter Try.func4, Try.ntmps4
  go_wp2_with fail
  refine HB.out.mono ?_
  rintro e w1 ⟨v, m1, rfl, hle, hok, hrd, hc1, hfr⟩
  rw [awake_build] at *
  have hch1 := hch.trans hc1 (fun _ hk => .inl hk)
  obtain ⟨A, c, rfl⟩ : ∃ A c, v = .slice A awakeTree.length c := by obtain ⟨_, ⟨_, A, c, h, _⟩, _⟩ := hrd; exact ⟨A, c, h⟩
  have HT := Lib.hid (domtext_calls (SizeOf.sizeOf awakeTree) m1 w1 _ awakeTree hok hrd (Nat.le_refl _) (by decide))
  obtain ⟨_, hmax, hA⟩ := node_cells hok hrd
  rcases hA with h0 | ⟨b, o, rfl, hA⟩
  · exact absurd h0 (by simp [awakeTree])
  · obtain ⟨x, Aa, ca, Ak, ck, e1, a0, a1, a2, a3, ra, rk⟩ := hA 0 (by decide)
    obtain ⟨y, Ba, da, Bk, dk, e2, b0, b1, b2, b3, rb, rl⟩ := hA 1 (by decide)
    injection e1 with e1
    injection e2 with e2
    subst e1 e2
    clear hA ra rk rb rl hrd HB
    have k1 : awakeTree.length = 2 := rfl
    rw [k1] at *
    have z1 : w1.cell? ⟨b, o + 3, none⟩ = some (.slice Ak 1 ck) := by simpa [Node.kids] using a3
    have z2 : w1.cell? ⟨b, o + 4, none⟩ = some (.string ⟨#[100, 105, 118]⟩) := by simpa [Node.name] using b0
    clear a0 a1 a2 a3 b0 b1 b2 b3
    go_wp2_with fail
    refine HT.out.mono ?_
    rintro e w2 ⟨rfl, hc2⟩
    rw [awake_text]
    go_wp2
    go_ret
    exact ⟨rfl, hch1.trans hc2 (fun _ hk => .inl hk)⟩
end Go.Proofs.Ytlfimcpceiemnaa

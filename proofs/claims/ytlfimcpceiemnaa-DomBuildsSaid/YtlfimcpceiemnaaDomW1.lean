/- dom's builder, walked: last, put. -/
import Derived.Test.YtlfimcpceiemnaaDomSt
import Derived.Test.YtlfimcpceiemnaaProg
import Derived.WalkLawsBesides
import Derived.Outline
import Derived.Deep.QuietTactic
import Derived.BigQuiet
import Derived.BigRegion
import Derived.Deep.RegionLaw
import Derived.Deep.AppendLies
import Derived.KernelRfl
import Derived.Lib.Hide
set_option linter.unusedVariables false
namespace Go.Proofs.Ytlfimcpceiemnaa
open Go Go.RowKit

theorem Try.infoNode : (Try.prog.info? 34).map (fun i => (i.zero, i.size, i.bytes)) = some (some (.agg #[.string ⟨#[]⟩, .slice none 0 0, .string ⟨#[]⟩, .slice none 0 0]), 4, 80) := by kernel_rfl
theorem Try.infoEl : (Try.prog.info? 38).map (fun i => (i.zero, i.size, i.bytes)) = some (some (.agg #[.string ⟨#[]⟩, .slice none 0 0, .string ⟨#[]⟩, .slice none 0 0, .string ⟨#[]⟩]), 5, 96) := by kernel_rfl

/-- A row that is not empty: its block, its cells. -/
theorem own_cells {w : World} {base : Nat} {e : TypeId} {size n : Nat} {v : Value} {xs : List Value} (h : w.ownsRow base e size v n xs) (hn : 0 < n) :
    ∃ g cap, v = .slice (some ⟨g, 0, none⟩) n cap ∧ n ≤ cap ∧ v.ownBlock = some g ∧ base ≤ g ∧ (∀ j u, xs[j]? = some u → w.cell? ⟨g, j, none⟩ = some u) ∧ ∀ j, w.frozen? ⟨g, j, none⟩ = false := by
  rcases h.2 with ⟨rfl, h0⟩ | ⟨g, cap, cur, rfl, hb, hh, hc, _, _, ht⟩
  · omega
  · refine ⟨g, cap, rfl, hc, rfl, hb, fun j u hu => ?_, fun j => by simp [World.frozen?, hh]⟩
    rw [cell_of_row w g j cur e (0, 0) hh]
    rw [← ht, List.getElem?_take] at hu
    split at hu
    · simpa using hu
    · cases hu

/-- What last hands back. -/
def LastPost (w : World) (vo : Value) (n : Nat) (e : Ending) (w' : World) : Prop := ∃ h k, vo.ownBlock = some h ∧ e = .returned (.pointer (some ⟨h, (n - 1) * 5, none⟩)) ∧ w' = w.drewN k
set_option maxHeartbeats 400000 in
theorem last_calls {m : Mem} {w : World} {base g : Nat} {st : List Node} {many : Int} {over : Bool} {vo : Value} {oc : List Value} {ks : List KRow} (h : IsB m w base g st many over vo oc ks) (hn : 0 < st.length) :
    Calls Try.prog 18 #[.pointer (some ⟨g, 0, none⟩)] w (LastPost w vo st.length) := by
  obtain ⟨b, cap, hv, hcap, hob, hbb, hcells, _⟩ := own_cells h.row hn
  have hg0 : w.cell? ⟨g, 0, none⟩ = some vo := by rw [cell_of_row w g 0 _ _ _ h.obj]; rfl
  rw [hv] at hg0
  have hmax : st.length ≤ 9223372036854775807 := by
    rcases h.row.2 with ⟨_, h0⟩ | ⟨_, _, _, he, _, _, h1, h2, _⟩
    · omega
    · unfold maxLen at h2; omega
  have hob' := hob
  have Hob := Lib.hid hob'
  clear hob hob' hv h
  generalize st.length = n at *
  have h1 : (0:Int) ≤ (n:Int) - 1 := by omega
  have h2 : (n:Int) - 1 < n := by omega
  go_enter Try.func18, Try.ntmps18
  go_wp2
  go_quiet (fail)
  go_wp2
  go_ret
  exact ⟨b, _, Hob.out, rfl, rfl⟩

end Go.Proofs.Ytlfimcpceiemnaa

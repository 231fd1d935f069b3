/- For every slice of tokens versolaw04.DomBuilds returns true, and the tokens read afterwards as they read before. No condition. -/
import Derived.Test.YtlfimcpceiemnaaRows
import Derived.Test.YtlfimcpceiemnaaDomLaw4
import Derived.ProofKit
import Derived.Carry
set_option linter.unusedVariables false
namespace Go.Proofs.Ytlfimcpceiemnaa
open Go.ChangeShapes Go.WideShapes Go.ChangeAt Go.RowKit

theorem ownP : ownKnob Try.prog.godebug = none := by kernel_rfl
theorem laidP : laidOutB Try.prog = true := by kernel_rfl
set_option maxRecDepth 100000 in
theorem domBuilds_lifted (os : Os) (started : os.Started) (H : Type) (enc : TypeId × Value → H) :
    ReturnsInHanded {} Try.checked os 3 .any (Rows.domBuildsSpec.pre6 enc Try.prog Try.f3 Rows.domBuildsRow.domain false) (Rows.domBuildsSpec.post enc Try.prog Try.f3 false true false false) := by
  refine returnsInHanded_of_change (C := Try.checked) ownP started (by kernel_rfl) Try.func3
    (ChangeSpec.witness6 (enc := enc) (C := Try.checked) false ⟨#[], #[.slice none 0 0], []⟩ 8 (by kernel_rfl) (by kernel_rfl) (by kernel_rfl) (by kernel_rfl)) ?_
  intro W base args ds gs before hval0 hW hcnd _
  have hval : ∀ (j : Nat) t v, Try.f3.params[j]? = some t → args[j]? = some v → Value.okWide Try.prog W .any base t v := hval0
  have hW' := hW
  obtain ⟨p, q, hA0, hV, rfl, hfz, hnd⟩ := hW
  have hA : DataW.TrodAll enc Try.prog W 0 (fun _ => true) true Try.f3.params.toList args.toList ds p := hA0
  rw [Try.params3] at hA hval
  obtain ⟨v0, d0, hv0, rfl, h0⟩ := trodAll_one hA
  obtain ⟨rfl, rfl⟩ := trodVars_none hV
  subst hv0
  obtain ⟨a0, len, cap, rfl⟩ := okWide_slice toksT (hval 0 22 v0 rfl rfl)
  have h0k := h0
  obtain ⟨fuel, hf⟩ := h0
  obtain ⟨v1, xs, hcs, hr⟩ := read_toks hf
  have hv1 : v1 = .slice a0 len cap := by simpa [Value.cells] using hcs.symm
  subst hv1
  clear hA0 hval0
  simp only [List.append_nil] at hW'
  have hlt : ∀ x ∈ p, x.block < W.heap.size := fun x hx => by simpa using hW'.lt x hx
  refine (law_calls (memAll_ok W) hr).mono fun e W' ⟨he, hc⟩ => ?_
  subst he
  have hb : Below W.heap.size W W' := hc.below (Nat.le_refl _) (fun _ h => h.elim)
  refine ⟨_, rfl, _, _, _, [], p, [], hW', ?_, ?_, rfl, hb.frame _, fun h => by cases h⟩
  · exact trodAll_mk1 (shut_bool boolT true)
  · exact trodAll_mk1 (Below.trod laidP (by kernel_rfl) (of_decide_eq_true (by kernel_rfl)) h0k hb hlt)

theorem domBuilds_holds : Rows.DomBuildsSaid :=
  OpenClaim.holds_of_wide 3 Try.f3 rfl rfl rfl rfl rfl rfl rfl ⟨rfl, rfl, rfl, rfl, rfl⟩ rfl rfl rfl rfl rfl (by kernel_rfl) Try.func3 (by kernel_rfl)
    (of_decide_eq_true (by kernel_rfl)) (by unfold Func.isWrapper; first | (rw [if_pos (by decide +kernel)]; kernel_rfl) | (rw [if_neg (by decide +kernel)]; exact ⟨rfl, rfl⟩))
    (fun os started H enc _ => domBuilds_lifted os started H enc)
#print axioms domBuilds_holds
end Go.Proofs.Ytlfimcpceiemnaa

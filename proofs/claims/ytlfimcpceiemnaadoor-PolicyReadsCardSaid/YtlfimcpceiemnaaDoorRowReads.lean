/- For every string versolaw08.PolicyReads returns true, and its argument reads afterwards as it read before. The listed variables of the library hold what the row lists. -/
import Derived.Test.YtlfimcpceiemnaaDoorOpenP
import Derived.Test.YtlfimcpceiemnaaDoorPolReads
import Derived.Test.YtlfimcpceiemnaaDoorCards
import Derived.Test.YtlfimcpceiemnaaDoorTie
import Derived.ProofKit
import Derived.Carry
import Derived.OpenShut
import Derived.SizedLaws
import Derived.LaidMore
import Derived.Lay
import Derived.SevenTiedAt
import Derived.Stop.Joined
import Derived.ChangeMaps5
set_option linter.unusedVariables false
namespace Go.Proofs.YtlfimcpceiemnaaDoor
open Go.ChangeShapes Go.WideShapes Go.ChangeAt Go.RowKit Go.ChangeMaps

theorem ownP : ownKnob Tryd.prog.godebug = none := by kernel_rfl
theorem laidP : laidOutB Tryd.prog = true := by kernel_rfl
set_option maxRecDepth 100000 in
theorem policyReads_lifted (os : Os) (started : os.Started) (H : Type) (enc : TypeId × Value → H) :
    ReturnsInHanded {} Tryd.checked os 3 .any (fun w args => (Rows.policyReadsSpec.pre enc Tryd.prog Tryd.f3 Rows.policyReadsRow.domain false w args ∧ laidMetH Tryd.prog laidL w) ∧ sizedMet enc Tryd.prog Tryd.f3 (OpenSpec.ofChange Rows.policyReadsSpec) false w args)
      (Rows.policyReadsSpec.post enc Tryd.prog Tryd.f3 false true false false) := by
  refine returnsInHanded_laid (C := Tryd.checked) (X := fun w _ => laidMetH Tryd.prog laidL w) (fun _ _ _ hh h => h.of_heap hh) ownP started (by kernel_rfl) Tryd.func3
    (ChangeSpec.witness_shaped (enc := enc) (C := Tryd.checked) (os := os) (X := fun w _ => laidMetH Tryd.prog laidL w) false (World.laidAll Tryd.prog os laidL) #[.string ⟨#[]⟩] 8 (World.laidAll_os _ _ _)
      (World.shaped_of_ZipB (by kernel_rfl) (by kernel_rfl)) (by kernel_rfl) (by kernel_rfl) (by kernel_rfl)
      (by rw [MakeChecks.laidMetH_plain _ _ _ laid_plain]; exact laidMet_laidAll _ (by kernel_rfl) (by kernel_rfl))) ?_
  intro W base args ds gs before hval0 hW hcnd hsz hL hsh
  have hval : ∀ (j : Nat) t v, Tryd.f3.params[j]? = some t → args[j]? = some v → Value.okWide Tryd.prog W .any base t v := hval0
  obtain ⟨hok, hE⟩ := env_of hL hsh
  have hW' := hW
  obtain ⟨p, q, hA0, hV, rfl, hfz, hnd⟩ := hW
  have hA : DataW.TrodAll enc Tryd.prog W 0 (fun _ => true) true Tryd.f3.params.toList args.toList ds p := hA0
  rw [Tryd.params3] at hA hval
  obtain ⟨u0, d0, hu0, rfl, h0⟩ := trodAll_one hA
  obtain ⟨rfl, rfl⟩ := trodVars_none hV
  subst hu0
  obtain ⟨s, rfl, rfl, rfl, hs⟩ := open_string strT (hval 0 9 u0 rfl rfl) h0
  have hsl : s.data.toList.length ≤ 140737488351232 := sized_string hsz (j := 0) (t := 9) (by rw [Tryd.params3]; rfl) rfl
  clear hA0 hval0
  simp only [List.append_nil] at hW'
  have hcall := polReads_calls hE W hok s.data.toList hsl
  rw [str_list] at hcall
  refine hcall.mono fun e W' ⟨he, hc⟩ => ?_
  subst he
  have hb : Below W.heap.size W W' := hc.below (Nat.le_refl _) (fun _ h => h.elim)
  refine ⟨_, rfl, _, _, _, [], [], [], hW', ?_, ?_, rfl, hb.frame _, fun h => by cases h⟩
  · exact trodAll_mk1 (shut_bool boolT true)
  · exact trodAll_mk1 (shut_string (enc := enc) (w := W') (base := 0) (sp := fun b => decide (b < W.heap.size)) (held := true) strT hs)

theorem policyReads_holds : Rows.PolicyReadsSaid :=
  OpenClaim.holds_of_wide 3 Tryd.f3 rfl rfl rfl rfl rfl rfl rfl ⟨rfl, rfl, rfl, rfl, rfl⟩ rfl rfl rfl rfl rfl (by kernel_rfl) Tryd.func3 (by kernel_rfl)
    (of_decide_eq_true (by kernel_rfl)) (by unfold Func.isWrapper; first | (rw [if_pos (by decide +kernel)]; kernel_rfl) | (rw [if_neg (by decide +kernel)]; exact ⟨rfl, rfl⟩))
    (fun os started H enc _ => policyReads_lifted os started H enc)
theorem policyReads_card : Rows.PolicyReadsCardSaid :=
  Claim7.holds_tied_plain_at .later [] [.data, .data, .data, .data, .sentinel, .sentinel, .pinned] true (true, "97178d3b52e4f5f70f90b8360ba57fba9014c6e3a44c344de8c4324c8d6eb401") true policyReads_holds (fun _ h => by cases h) (by kernel_rfl) (fun _ h => by cases h) policyReads_row_tie rfl ⟨rfl, rfl⟩ (by kernel_rfl) rfl
    (fun f fn hf hfn => by
      obtain rfl : f = 3 := Option.some.inj ((show Tryd.prog.funcNamed "verso/versolaw08.PolicyReads" = some 3 by kernel_rfl).symm.trans hf) |>.symm
      obtain rfl : fn = Tryd.f3 := (Option.some.inj (Tryd.func3.symm.trans hfn)).symm
      exact ⟨by kernel_rfl, fun j t ht => by
        rw [Tryd.params3] at ht
        have hm : t ∈ [9] := by simpa using Array.mem_of_getElem? ht
        have hall : ([9].all fun u => !Tryd.prog.wantsStandIn u) = true := by kernel_rfl
        exact (show Tryd.prog.wantsStandIn t = false by simpa using List.all_eq_true.1 hall t hm)⟩)
    (by kernel_rfl)
#print axioms policyReads_holds
#print axioms policyReads_card
end Go.Proofs.YtlfimcpceiemnaaDoor

/- For every policy and every string versolaw08.PolicyBack returns true, and its arguments read afterwards as they read before. The listed variables of the library hold what the row lists. -/
import Derived.Test.YtlfimcpceiemnaaDoorOpenP
import Derived.Test.YtlfimcpceiemnaaDoorPolBack
import Derived.Test.YtlfimcpceiemnaaDoorCards
import Derived.Test.YtlfimcpceiemnaaDoorTie
import Derived.ProofKit
import Derived.Carry
import Derived.OpenShut
import Derived.SizedLaws
import Derived.LaidMore
import Derived.Lay
import Derived.SevenTiedAt
import Derived.Stop.Joined
import Derived.ChangeMaps5
set_option linter.unusedVariables false
namespace Go.Proofs.YtlfimcpceiemnaaDoor
open Go.ChangeShapes Go.WideShapes Go.ChangeAt Go.RowKit Go.ChangeMaps

theorem ownP : ownKnob Tryd.prog.godebug = none := by kernel_rfl
theorem laidP : laidOutB Tryd.prog = true := by kernel_rfl
set_option maxRecDepth 100000 in
theorem policyBack_lifted (os : Os) (started : os.Started) (H : Type) (enc : TypeId × Value → H) :
    ReturnsInHanded {} Tryd.checked os 4 .any (fun w args => (Rows.policyBackSpec.pre enc Tryd.prog Tryd.f4 Rows.policyBackRow.domain false w args ∧ laidMetH Tryd.prog laidL w) ∧ sizedMet enc Tryd.prog Tryd.f4 (OpenSpec.ofChange Rows.policyBackSpec) false w args)
      (Rows.policyBackSpec.post enc Tryd.prog Tryd.f4 false true false false) := by
  refine returnsInHanded_laid (C := Tryd.checked) (X := fun w _ => laidMetH Tryd.prog laidL w) (fun _ _ _ hh h => h.of_heap hh) ownP started (by kernel_rfl) Tryd.func4
    (ChangeSpec.witness_shaped (enc := enc) (C := Tryd.checked) (os := os) (X := fun w _ => laidMetH Tryd.prog laidL w) false (World.laidAll Tryd.prog os laidL) #[.agg #[.int .i64 0, .slice none 0 0, .slice none 0 0, .slice none 0 0, .slice none 0 0, .slice none 0 0, .int .i64 0, .int .i64 0, .int .i64 0], .string ⟨#[]⟩] 8 (World.laidAll_os _ _ _)
      (World.shaped_of_ZipB (by kernel_rfl) (by kernel_rfl)) (by kernel_rfl) (by kernel_rfl) (by kernel_rfl)
      (by rw [MakeChecks.laidMetH_plain _ _ _ laid_plain]; exact laidMet_laidAll _ (by kernel_rfl) (by kernel_rfl))) ?_
  intro W base args ds gs before hval0 hW hcnd hsz hL hsh
  have hval : ∀ (j : Nat) t v, Tryd.f4.params[j]? = some t → args[j]? = some v → Value.okWide Tryd.prog W .any base t v := hval0
  obtain ⟨hok, hE⟩ := env_of hL hsh
  have hW' := hW
  obtain ⟨p, q, hA0, hV, rfl, hfz, hnd⟩ := hW
  have hA : DataW.TrodAll enc Tryd.prog W 0 (fun _ => true) true Tryd.f4.params.toList args.toList ds p := hA0
  rw [Tryd.params4] at hA hval
  obtain ⟨u0, u1, d0, d1, p0, p1, rfl, rfl, rfl, h0, h1⟩ := trodAll_two hA
  obtain ⟨rfl, rfl⟩ := trodVars_none hV
  obtain ⟨fsP, hfsP⟩ := struct_ex (P := Tryd.prog) (t := 25) (by kernel_rfl)
  obtain ⟨cs, rfl, hcs⟩ := okWide_struct hfsP (hval 0 25 u0 rfl rfl)
  obtain ⟨s, rfl, rfl, rfl, hs⟩ := open_string strT (hval 1 9 u1 rfl rfl) h1
  have hsl : s.data.toList.length ≤ 140737488351232 := sized_string hsz (j := 1) (t := 9) (by rw [Tryd.params4]; rfl) rfl
  have h0k := h0
  obtain ⟨fuel, hf⟩ := h0
  obtain ⟨P, v1, v2, v3, v4, v5, hcs2, hr⟩ := read_pol hf
  have hcs3 : cs = polCells P v1 v2 v3 v4 v5 := by
    have : cs.toList = (polCells P v1 v2 v3 v4 v5).toList := by simpa [Value.cells] using hcs2
    exact Array.toList_inj.1 this
  subst hcs3
  clear hA0 hval0
  simp only [List.append_nil] at hW'
  have hlt : ∀ x ∈ p0, x.block < W.heap.size := fun x hx => by simpa using hW'.lt x (by simp [hx])
  have hcall := polBack_calls hE W hok hr s.data.toList hsl
  rw [str_list] at hcall
  refine hcall.mono fun e W' ⟨he, hc⟩ => ?_
  subst he
  have hb : Below W.heap.size W W' := hc.below (Nat.le_refl _) (fun _ h => h.elim)
  refine ⟨_, rfl, _, _, _, [], p0, [], hW', ?_, ?_, rfl, hb.frame _, fun h => by cases h⟩
  · exact trodAll_mk1 (shut_bool boolT true)
  · have := trodAll_mk2 (Below.trod laidP (by kernel_rfl) (of_decide_eq_true (by kernel_rfl)) h0k hb hlt) (shut_string (enc := enc) (w := W') (base := 0) (sp := fun b => decide (b < W.heap.size)) (held := true) strT hs)
    rw [List.append_nil] at this
    exact this

theorem policyBack_holds : Rows.PolicyBackSaid :=
  OpenClaim.holds_of_wide 4 Tryd.f4 rfl rfl rfl rfl rfl rfl rfl ⟨rfl, rfl, rfl, rfl, rfl⟩ rfl rfl rfl rfl rfl (by kernel_rfl) Tryd.func4 (by kernel_rfl)
    (of_decide_eq_true (by kernel_rfl)) (by unfold Func.isWrapper; first | (rw [if_pos (by decide +kernel)]; kernel_rfl) | (rw [if_neg (by decide +kernel)]; exact ⟨rfl, rfl⟩))
    (fun os started H enc _ => policyBack_lifted os started H enc)
theorem policyBack_card : Rows.PolicyBackCardSaid :=
  Claim7.holds_tied_plain_at .later [] [.data, .data, .data, .data, .sentinel, .sentinel, .pinned] true (true, "97178d3b52e4f5f70f90b8360ba57fba9014c6e3a44c344de8c4324c8d6eb401") true policyBack_holds (fun _ h => by cases h) (by kernel_rfl) (fun _ h => by cases h) policyBack_row_tie rfl ⟨rfl, rfl⟩ (by kernel_rfl) rfl
    (fun f fn hf hfn => by
      obtain rfl : f = 4 := Option.some.inj ((show Tryd.prog.funcNamed "verso/versolaw08.PolicyBack" = some 4 by kernel_rfl).symm.trans hf) |>.symm
      obtain rfl : fn = Tryd.f4 := (Option.some.inj (Tryd.func4.symm.trans hfn)).symm
      exact ⟨by kernel_rfl, fun j t ht => by
        rw [Tryd.params4] at ht
        have hm : t ∈ [25, 9] := by simpa using Array.mem_of_getElem? ht
        have hall : ([25, 9].all fun u => !Tryd.prog.wantsStandIn u) = true := by kernel_rfl
        exact (show Tryd.prog.wantsStandIn t = false by simpa using List.all_eq_true.1 hall t hm)⟩)
    (by kernel_rfl)
#print axioms policyBack_holds
#print axioms policyBack_card
end Go.Proofs.YtlfimcpceiemnaaDoor

/-
  DERIVED. GIVEN WITH THE SEED: THE CARDS: each row of YtlfimcpceiemnaaDoorRows.lean that lists a variable, with what it lists TIED to the program's text (the seventh form; the later family's looks); each row that meets fmt, with fmt's text TOLD by the authors' own Lean function (tested against real Go, not proved from fmt's source: count such statements apart). THE CARD IS WHAT COUNTS. Prove the row's statement (the work); the ties are given (YtlfimcpceiemnaaDoorTie.lean); close each card by the builder's one call (the guide's Derived/Test/ToyasCard.lean, 'card_holds'). Laid BY PROGRAM, IN A SANDBOX (cutbox-door.mjs). By AI agents, Wed Nov 11 2026. No macro, syntax, notation, axiom, sorry.
-/
import Derived.Test.YtlfimcpceiemnaaDoorRows
import GoSem.ClaimSeven
namespace Go.Proofs.YtlfimcpceiemnaaDoor
namespace Rows

/-- THE TIED CARD OF 'versolaw08.PolicyReads'. -/
def policyReadsCard : Claim7 := { stood := { row := policyReadsRow, standIns := [], harness := (true, "97178d3b52e4f5f70f90b8360ba57fba9014c6e3a44c344de8c4324c8d6eb401"), looks := true }, kinds := [], alts := [], laidByText := true, laidKinds := [.data, .data, .data, .data, .sentinel, .sentinel, .pinned], laidTests := true, laidLooks := .later }
def PolicyReadsCardSaid : Prop := Claim7.holds Tryd.pinned (.plain (OpenSpec.ofChange policyReadsSpec)) policyReadsCard

/-- THE TIED CARD OF 'versolaw08.PolicyBack'. -/
def policyBackCard : Claim7 := { stood := { row := policyBackRow, standIns := [], harness := (true, "97178d3b52e4f5f70f90b8360ba57fba9014c6e3a44c344de8c4324c8d6eb401"), looks := true }, kinds := [], alts := [], laidByText := true, laidKinds := [.data, .data, .data, .data, .sentinel, .sentinel, .pinned], laidTests := true, laidLooks := .later }
def PolicyBackCardSaid : Prop := Claim7.holds Tryd.pinned (.plain (OpenSpec.ofChange policyBackSpec)) policyBackCard

/-- THE TIED CARD OF 'versolaw15.MsgBack'. -/
def msgBackCard : Claim7 := { stood := { row := msgBackRow, standIns := [], harness := (true, "97178d3b52e4f5f70f90b8360ba57fba9014c6e3a44c344de8c4324c8d6eb401"), looks := true }, kinds := [], alts := [], laidByText := true, laidKinds := [.data, .data, .data, .data, .sentinel, .sentinel, .pinned], laidTests := true, laidLooks := .later }
def MsgBackCardSaid : Prop := Claim7.holds Tryd.pinned (.plain (OpenSpec.ofChange msgBackSpec)) msgBackCard

/-- THE TIED CARD OF 'versolaw15.MsgCut'. -/
def msgCutCard : Claim7 := { stood := { row := msgCutRow, standIns := [], harness := (true, "97178d3b52e4f5f70f90b8360ba57fba9014c6e3a44c344de8c4324c8d6eb401"), looks := true }, kinds := [], alts := [], laidByText := true, laidKinds := [.data, .data, .data, .data, .sentinel, .sentinel, .pinned], laidTests := true, laidLooks := .later }
def MsgCutCardSaid : Prop := Claim7.holds Tryd.pinned (.plain (OpenSpec.ofChange msgCutSpec)) msgCutCard

/-- THE TIED CARD OF 'versolaw15.MsgUnlike'. -/
def msgUnlikeCard : Claim7 := { stood := { row := msgUnlikeRow, standIns := [], harness := (true, "97178d3b52e4f5f70f90b8360ba57fba9014c6e3a44c344de8c4324c8d6eb401"), looks := true }, kinds := [], alts := [], laidByText := true, laidKinds := [.data, .data, .data, .data, .sentinel, .sentinel, .pinned], laidTests := true, laidLooks := .later }
def MsgUnlikeCardSaid : Prop := Claim7.holds Tryd.pinned (.plain (OpenSpec.ofChange msgUnlikeSpec)) msgUnlikeCard

/-- THE TIED CARD OF 'versolaw15.MsgAcks'. -/
def msgAcksCard : Claim7 := { stood := { row := msgAcksRow, standIns := [], harness := (true, "97178d3b52e4f5f70f90b8360ba57fba9014c6e3a44c344de8c4324c8d6eb401"), looks := true }, kinds := [], alts := [], laidByText := true, laidKinds := [.data, .data, .data, .data, .sentinel, .sentinel, .pinned], laidTests := true, laidLooks := .later }
def MsgAcksCardSaid : Prop := Claim7.holds Tryd.pinned (.plain (OpenSpec.ofChange msgAcksSpec)) msgAcksCard

/-- THE TIED CARD OF 'versolaw15.MsgPosts'. -/
def msgPostsCard : Claim7 := { stood := { row := msgPostsRow, standIns := [], harness := (true, "97178d3b52e4f5f70f90b8360ba57fba9014c6e3a44c344de8c4324c8d6eb401"), looks := true }, kinds := [], alts := [], laidByText := true, laidKinds := [.data, .data, .data, .data, .sentinel, .sentinel, .pinned], laidTests := true, laidLooks := .later }
def MsgPostsCardSaid : Prop := Claim7.holds Tryd.pinned (.plain (OpenSpec.ofChange msgPostsSpec)) msgPostsCard

/-- THE SECOND FORM's CARD OF 'versolaw08.PolicyReads'. -/
def policyReadsUptoCard : Claim7 := { stood := { row := policyReadsUptoRow, standIns := [], harness := (true, "97178d3b52e4f5f70f90b8360ba57fba9014c6e3a44c344de8c4324c8d6eb401"), looks := true }, kinds := [], alts := [], laidByText := true, laidKinds := [.data, .data, .data, .data, .sentinel, .sentinel, .pinned], laidTests := true, laidLooks := .later }
def PolicyReadsUptoCardSaid : Prop := Claim7.holds Tryd.pinned (.plain (OpenSpec.upto policyReadsSpec)) policyReadsUptoCard

/-- THE SECOND FORM's CARD OF 'versolaw08.PolicyBack'. -/
def policyBackUptoCard : Claim7 := { stood := { row := policyBackUptoRow, standIns := [], harness := (true, "97178d3b52e4f5f70f90b8360ba57fba9014c6e3a44c344de8c4324c8d6eb401"), looks := true }, kinds := [], alts := [], laidByText := true, laidKinds := [.data, .data, .data, .data, .sentinel, .sentinel, .pinned], laidTests := true, laidLooks := .later }
def PolicyBackUptoCardSaid : Prop := Claim7.holds Tryd.pinned (.plain (OpenSpec.upto policyBackSpec)) policyBackUptoCard

/-- THE SECOND FORM's CARD OF 'versolaw15.MsgBack'. -/
def msgBackUptoCard : Claim7 := { stood := { row := msgBackUptoRow, standIns := [], harness := (true, "97178d3b52e4f5f70f90b8360ba57fba9014c6e3a44c344de8c4324c8d6eb401"), looks := true }, kinds := [], alts := [], laidByText := true, laidKinds := [.data, .data, .data, .data, .sentinel, .sentinel, .pinned], laidTests := true, laidLooks := .later }
def MsgBackUptoCardSaid : Prop := Claim7.holds Tryd.pinned (.plain (OpenSpec.upto msgBackSpec)) msgBackUptoCard

/-- THE SECOND FORM's CARD OF 'versolaw15.MsgCut'. -/
def msgCutUptoCard : Claim7 := { stood := { row := msgCutUptoRow, standIns := [], harness := (true, "97178d3b52e4f5f70f90b8360ba57fba9014c6e3a44c344de8c4324c8d6eb401"), looks := true }, kinds := [], alts := [], laidByText := true, laidKinds := [.data, .data, .data, .data, .sentinel, .sentinel, .pinned], laidTests := true, laidLooks := .later }
def MsgCutUptoCardSaid : Prop := Claim7.holds Tryd.pinned (.plain (OpenSpec.upto msgCutSpec)) msgCutUptoCard

/-- THE SECOND FORM's CARD OF 'versolaw15.MsgUnlike'. -/
def msgUnlikeUptoCard : Claim7 := { stood := { row := msgUnlikeUptoRow, standIns := [], harness := (true, "97178d3b52e4f5f70f90b8360ba57fba9014c6e3a44c344de8c4324c8d6eb401"), looks := true }, kinds := [], alts := [], laidByText := true, laidKinds := [.data, .data, .data, .data, .sentinel, .sentinel, .pinned], laidTests := true, laidLooks := .later }
def MsgUnlikeUptoCardSaid : Prop := Claim7.holds Tryd.pinned (.plain (OpenSpec.upto msgUnlikeSpec)) msgUnlikeUptoCard

/-- THE SECOND FORM's CARD OF 'versolaw15.MsgAcks'. -/
def msgAcksUptoCard : Claim7 := { stood := { row := msgAcksUptoRow, standIns := [], harness := (true, "97178d3b52e4f5f70f90b8360ba57fba9014c6e3a44c344de8c4324c8d6eb401"), looks := true }, kinds := [], alts := [], laidByText := true, laidKinds := [.data, .data, .data, .data, .sentinel, .sentinel, .pinned], laidTests := true, laidLooks := .later }
def MsgAcksUptoCardSaid : Prop := Claim7.holds Tryd.pinned (.plain (OpenSpec.upto msgAcksSpec)) msgAcksUptoCard

/-- THE SECOND FORM's CARD OF 'versolaw15.MsgPosts'. -/
def msgPostsUptoCard : Claim7 := { stood := { row := msgPostsUptoRow, standIns := [], harness := (true, "97178d3b52e4f5f70f90b8360ba57fba9014c6e3a44c344de8c4324c8d6eb401"), looks := true }, kinds := [], alts := [], laidByText := true, laidKinds := [.data, .data, .data, .data, .sentinel, .sentinel, .pinned], laidTests := true, laidLooks := .later }
def MsgPostsUptoCardSaid : Prop := Claim7.holds Tryd.pinned (.plain (OpenSpec.upto msgPostsSpec)) msgPostsUptoCard
end Rows
end Go.Proofs.YtlfimcpceiemnaaDoor

/-
  DERIVED. GIVEN WITH THE SEED: THE CARDS: each row of YtaponnbchaekbaaGreatDoorRows.lean that lists a variable, with what it lists TIED to the program's text (the seventh form; the later family's looks); each row that meets fmt, with fmt's text TOLD by the authors' own Lean function (tested against real Go, not proved from fmt's source: count such statements apart). THE CARD IS WHAT COUNTS. Prove the row's statement (the work); the ties are given (YtaponnbchaekbaaGreatDoorTie.lean); close each card by the builder's one call (the guide's Derived/Test/ToyasCard.lean, 'card_holds'). Laid BY PROGRAM, IN A SANDBOX (cutbox-door.mjs). By AI agents, Wed Nov 11 2026. No macro, syntax, notation, axiom, sorry.
-/
import Derived.Test.YtaponnbchaekbaaGreatDoorRows
import GoSem.ClaimSeven
namespace Go.Proofs.YtaponnbchaekbaaGreatDoor
namespace Rows

/-- THE TIED CARD OF 'bulletinlaw39.ModerationNew'. -/
def moderationNewCard : Claim7 := { stood := { row := moderationNewRow, standIns := [], harness := (true, "7e8a32a85b7e56759ac67ee933eba566b2dc2e05cfd11d30b36d5126a977802c"), looks := true }, kinds := [], alts := [], laidByText := true, laidKinds := [.data, .pinned], laidTests := true, laidLooks := .later }
def ModerationNewCardSaid : Prop := Claim7.holds Tryz.pinned (.plain (OpenSpec.ofChange moderationNewSpec)) moderationNewCard

/-- THE TIED CARD OF 'bulletinlaw39.ModerationRoom'. -/
def moderationRoomCard : Claim7 := { stood := { row := moderationRoomRow, standIns := [], harness := (true, "7e8a32a85b7e56759ac67ee933eba566b2dc2e05cfd11d30b36d5126a977802c"), looks := true }, kinds := [], alts := [], laidByText := true, laidKinds := [.data, .pinned], laidTests := true, laidLooks := .later }
def ModerationRoomCardSaid : Prop := Claim7.holds Tryz.pinned (.plain (OpenSpec.ofChange moderationRoomSpec)) moderationRoomCard

/-- THE TIED CARD OF 'bulletinlaw39.ModerationDecisions'. -/
def moderationDecisionsCard : Claim7 := { stood := { row := moderationDecisionsRow, standIns := [], harness := (true, "7e8a32a85b7e56759ac67ee933eba566b2dc2e05cfd11d30b36d5126a977802c"), looks := true }, kinds := [], alts := [], laidByText := true, laidKinds := [.data, .pinned], laidTests := true, laidLooks := .later }
def ModerationDecisionsCardSaid : Prop := Claim7.holds Tryz.pinned (.plain (OpenSpec.ofChange moderationDecisionsSpec)) moderationDecisionsCard

/-- THE TIED CARD OF 'bulletinlaw39.ModerationNil'. -/
def moderationNilCard : Claim7 := { stood := { row := moderationNilRow, standIns := [], harness := (true, "7e8a32a85b7e56759ac67ee933eba566b2dc2e05cfd11d30b36d5126a977802c"), looks := true }, kinds := [], alts := [], laidByText := true, laidKinds := [.data, .pinned], laidTests := true, laidLooks := .later }
def ModerationNilCardSaid : Prop := Claim7.holds Tryz.pinned (.plain (OpenSpec.ofChange moderationNilSpec)) moderationNilCard

/-- THE SECOND FORM's CARD OF 'bulletinlaw39.ModerationNew'. -/
def moderationNewUptoCard : Claim7 := { stood := { row := moderationNewUptoRow, standIns := [], harness := (true, "7e8a32a85b7e56759ac67ee933eba566b2dc2e05cfd11d30b36d5126a977802c"), looks := true }, kinds := [], alts := [], laidByText := true, laidKinds := [.data, .pinned], laidTests := true, laidLooks := .later }
def ModerationNewUptoCardSaid : Prop := Claim7.holds Tryz.pinned (.plain (OpenSpec.upto moderationNewSpec)) moderationNewUptoCard

/-- THE SECOND FORM's CARD OF 'bulletinlaw39.ModerationRoom'. -/
def moderationRoomUptoCard : Claim7 := { stood := { row := moderationRoomUptoRow, standIns := [], harness := (true, "7e8a32a85b7e56759ac67ee933eba566b2dc2e05cfd11d30b36d5126a977802c"), looks := true }, kinds := [], alts := [], laidByText := true, laidKinds := [.data, .pinned], laidTests := true, laidLooks := .later }
def ModerationRoomUptoCardSaid : Prop := Claim7.holds Tryz.pinned (.plain (OpenSpec.upto moderationRoomSpec)) moderationRoomUptoCard

/-- THE SECOND FORM's CARD OF 'bulletinlaw39.ModerationDecisions'. -/
def moderationDecisionsUptoCard : Claim7 := { stood := { row := moderationDecisionsUptoRow, standIns := [], harness := (true, "7e8a32a85b7e56759ac67ee933eba566b2dc2e05cfd11d30b36d5126a977802c"), looks := true }, kinds := [], alts := [], laidByText := true, laidKinds := [.data, .pinned], laidTests := true, laidLooks := .later }
def ModerationDecisionsUptoCardSaid : Prop := Claim7.holds Tryz.pinned (.plain (OpenSpec.upto moderationDecisionsSpec)) moderationDecisionsUptoCard

/-- THE SECOND FORM's CARD OF 'bulletinlaw39.ModerationNil'. -/
def moderationNilUptoCard : Claim7 := { stood := { row := moderationNilUptoRow, standIns := [], harness := (true, "7e8a32a85b7e56759ac67ee933eba566b2dc2e05cfd11d30b36d5126a977802c"), looks := true }, kinds := [], alts := [], laidByText := true, laidKinds := [.data, .pinned], laidTests := true, laidLooks := .later }
def ModerationNilUptoCardSaid : Prop := Claim7.holds Tryz.pinned (.plain (OpenSpec.upto moderationNilSpec)) moderationNilUptoCard
end Rows
end Go.Proofs.YtaponnbchaekbaaGreatDoor

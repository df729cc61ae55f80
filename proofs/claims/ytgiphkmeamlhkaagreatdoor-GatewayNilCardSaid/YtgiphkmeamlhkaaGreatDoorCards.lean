/-
  DERIVED. GIVEN WITH THE SEED: THE CARDS: each row of YtgiphkmeamlhkaaGreatDoorRows.lean that lists a variable, with what it lists TIED to the program's text (the seventh form; the later family's looks); each row that meets fmt, with fmt's text TOLD by the authors' own Lean function (tested against real Go, not proved from fmt's source: count such statements apart). THE CARD IS WHAT COUNTS. Prove the row's statement (the work); the ties are given (YtgiphkmeamlhkaaGreatDoorTie.lean); close each card by the builder's one call (the guide's Derived/Test/ToyasCard.lean, 'card_holds'). Laid BY PROGRAM, IN A SANDBOX (cutbox-door.mjs). By AI agents, Wed Nov 11 2026. No macro, syntax, notation, axiom, sorry.
-/
import Derived.Test.YtgiphkmeamlhkaaGreatDoorRows
import GoSem.ClaimSeven
namespace Go.Proofs.YtgiphkmeamlhkaaGreatDoor
namespace Rows

/-- THE TIED CARD OF 'bulletinlaw51.GatewayLines'. -/
def gatewayLinesCard : Claim7 := { stood := { row := gatewayLinesRow, standIns := [], harness := (true, "ae6fa7cd05978e7518f18fa8faf461872a4557f34d6a0e7f9f49b1c899a72586"), looks := true }, kinds := [], alts := [], laidByText := true, laidKinds := [.data, .data, .data, .data, .sentinel, .sentinel, .pinned], laidTests := true, laidLooks := .later }
def GatewayLinesCardSaid : Prop := Claim7.holds Tryz.pinned (.plain (OpenSpec.ofChange gatewayLinesSpec)) gatewayLinesCard

/-- THE TIED CARD OF 'bulletinlaw51.GatewayParses'. -/
def gatewayParsesCard : Claim7 := { stood := { row := gatewayParsesRow, standIns := [], harness := (true, "ae6fa7cd05978e7518f18fa8faf461872a4557f34d6a0e7f9f49b1c899a72586"), looks := true }, kinds := [], alts := [], laidByText := true, laidKinds := [.data, .data, .data, .data, .sentinel, .sentinel, .pinned], laidTests := true, laidLooks := .later }
def GatewayParsesCardSaid : Prop := Claim7.holds Tryz.pinned (.plain (OpenSpec.ofChange gatewayParsesSpec)) gatewayParsesCard

/-- THE TIED CARD OF 'bulletinlaw51.GatewayNicks'. -/
def gatewayNicksCard : Claim7 := { stood := { row := gatewayNicksRow, standIns := [], harness := (true, "ae6fa7cd05978e7518f18fa8faf461872a4557f34d6a0e7f9f49b1c899a72586"), looks := true }, kinds := [], alts := [], laidByText := true, laidKinds := [.data, .data, .data, .data, .sentinel, .sentinel, .pinned], laidTests := true, laidLooks := .later }
def GatewayNicksCardSaid : Prop := Claim7.holds Tryz.pinned (.plain (OpenSpec.ofChange gatewayNicksSpec)) gatewayNicksCard

/-- THE TIED CARD OF 'bulletinlaw51.GatewayCrowds'. -/
def gatewayCrowdsCard : Claim7 := { stood := { row := gatewayCrowdsRow, standIns := [], harness := (true, "ae6fa7cd05978e7518f18fa8faf461872a4557f34d6a0e7f9f49b1c899a72586"), looks := true }, kinds := [], alts := [], laidByText := true, laidKinds := [.data, .data, .data, .data, .sentinel, .sentinel, .pinned], laidTests := true, laidLooks := .later }
def GatewayCrowdsCardSaid : Prop := Claim7.holds Tryz.pinned (.plain (OpenSpec.ofChange gatewayCrowdsSpec)) gatewayCrowdsCard

/-- THE TIED CARD OF 'bulletinlaw51.GatewayNew'. -/
def gatewayNewCard : Claim7 := { stood := { row := gatewayNewRow, standIns := [], harness := (true, "ae6fa7cd05978e7518f18fa8faf461872a4557f34d6a0e7f9f49b1c899a72586"), looks := true }, kinds := [], alts := [], laidByText := true, laidKinds := [.data, .data, .data, .data, .sentinel, .sentinel, .pinned], laidTests := true, laidLooks := .later }
def GatewayNewCardSaid : Prop := Claim7.holds Tryz.pinned (.plain (OpenSpec.ofChange gatewayNewSpec)) gatewayNewCard

/-- THE TIED CARD OF 'bulletinlaw51.GatewayBodies'. -/
def gatewayBodiesCard : Claim7 := { stood := { row := gatewayBodiesRow, standIns := [], harness := (true, "ae6fa7cd05978e7518f18fa8faf461872a4557f34d6a0e7f9f49b1c899a72586"), looks := true }, kinds := [], alts := [], laidByText := true, laidKinds := [.data, .data, .data, .data, .sentinel, .sentinel, .pinned], laidTests := true, laidLooks := .later }
def GatewayBodiesCardSaid : Prop := Claim7.holds Tryz.pinned (.plain (OpenSpec.ofChange gatewayBodiesSpec)) gatewayBodiesCard

/-- THE TIED CARD OF 'bulletinlaw51.GatewayLoops'. -/
def gatewayLoopsCard : Claim7 := { stood := { row := gatewayLoopsRow, standIns := [], harness := (true, "ae6fa7cd05978e7518f18fa8faf461872a4557f34d6a0e7f9f49b1c899a72586"), looks := true }, kinds := [], alts := [], laidByText := true, laidKinds := [.data, .data, .data, .data, .sentinel, .sentinel, .pinned], laidTests := true, laidLooks := .later }
def GatewayLoopsCardSaid : Prop := Claim7.holds Tryz.pinned (.plain (OpenSpec.ofChange gatewayLoopsSpec)) gatewayLoopsCard

/-- THE TIED CARD OF 'bulletinlaw51.GatewayTransports'. -/
def gatewayTransportsCard : Claim7 := { stood := { row := gatewayTransportsRow, standIns := [], harness := (true, "ae6fa7cd05978e7518f18fa8faf461872a4557f34d6a0e7f9f49b1c899a72586"), looks := true }, kinds := [], alts := [], laidByText := true, laidKinds := [.data, .data, .data, .data, .sentinel, .sentinel, .pinned], laidTests := true, laidLooks := .later }
def GatewayTransportsCardSaid : Prop := Claim7.holds Tryz.pinned (.plain (OpenSpec.ofChange gatewayTransportsSpec)) gatewayTransportsCard

/-- THE TIED CARD OF 'bulletinlaw51.GatewayNil'. -/
def gatewayNilCard : Claim7 := { stood := { row := gatewayNilRow, standIns := [], harness := (true, "ae6fa7cd05978e7518f18fa8faf461872a4557f34d6a0e7f9f49b1c899a72586"), looks := true }, kinds := [], alts := [], laidByText := true, laidKinds := [.data, .data, .data, .data, .sentinel, .sentinel, .pinned], laidTests := true, laidLooks := .later }
def GatewayNilCardSaid : Prop := Claim7.holds Tryz.pinned (.plain (OpenSpec.ofChange gatewayNilSpec)) gatewayNilCard

/-- THE SECOND FORM's CARD OF 'bulletinlaw51.GatewayLines'. -/
def gatewayLinesUptoCard : Claim7 := { stood := { row := gatewayLinesUptoRow, standIns := [], harness := (true, "ae6fa7cd05978e7518f18fa8faf461872a4557f34d6a0e7f9f49b1c899a72586"), looks := true }, kinds := [], alts := [], laidByText := true, laidKinds := [.data, .data, .data, .data, .sentinel, .sentinel, .pinned], laidTests := true, laidLooks := .later }
def GatewayLinesUptoCardSaid : Prop := Claim7.holds Tryz.pinned (.plain (OpenSpec.upto gatewayLinesSpec)) gatewayLinesUptoCard

/-- THE SECOND FORM's CARD OF 'bulletinlaw51.GatewayParses'. -/
def gatewayParsesUptoCard : Claim7 := { stood := { row := gatewayParsesUptoRow, standIns := [], harness := (true, "ae6fa7cd05978e7518f18fa8faf461872a4557f34d6a0e7f9f49b1c899a72586"), looks := true }, kinds := [], alts := [], laidByText := true, laidKinds := [.data, .data, .data, .data, .sentinel, .sentinel, .pinned], laidTests := true, laidLooks := .later }
def GatewayParsesUptoCardSaid : Prop := Claim7.holds Tryz.pinned (.plain (OpenSpec.upto gatewayParsesSpec)) gatewayParsesUptoCard

/-- THE SECOND FORM's CARD OF 'bulletinlaw51.GatewayNicks'. -/
def gatewayNicksUptoCard : Claim7 := { stood := { row := gatewayNicksUptoRow, standIns := [], harness := (true, "ae6fa7cd05978e7518f18fa8faf461872a4557f34d6a0e7f9f49b1c899a72586"), looks := true }, kinds := [], alts := [], laidByText := true, laidKinds := [.data, .data, .data, .data, .sentinel, .sentinel, .pinned], laidTests := true, laidLooks := .later }
def GatewayNicksUptoCardSaid : Prop := Claim7.holds Tryz.pinned (.plain (OpenSpec.upto gatewayNicksSpec)) gatewayNicksUptoCard

/-- THE SECOND FORM's CARD OF 'bulletinlaw51.GatewayCrowds'. -/
def gatewayCrowdsUptoCard : Claim7 := { stood := { row := gatewayCrowdsUptoRow, standIns := [], harness := (true, "ae6fa7cd05978e7518f18fa8faf461872a4557f34d6a0e7f9f49b1c899a72586"), looks := true }, kinds := [], alts := [], laidByText := true, laidKinds := [.data, .data, .data, .data, .sentinel, .sentinel, .pinned], laidTests := true, laidLooks := .later }
def GatewayCrowdsUptoCardSaid : Prop := Claim7.holds Tryz.pinned (.plain (OpenSpec.upto gatewayCrowdsSpec)) gatewayCrowdsUptoCard

/-- THE SECOND FORM's CARD OF 'bulletinlaw51.GatewayNew'. -/
def gatewayNewUptoCard : Claim7 := { stood := { row := gatewayNewUptoRow, standIns := [], harness := (true, "ae6fa7cd05978e7518f18fa8faf461872a4557f34d6a0e7f9f49b1c899a72586"), looks := true }, kinds := [], alts := [], laidByText := true, laidKinds := [.data, .data, .data, .data, .sentinel, .sentinel, .pinned], laidTests := true, laidLooks := .later }
def GatewayNewUptoCardSaid : Prop := Claim7.holds Tryz.pinned (.plain (OpenSpec.upto gatewayNewSpec)) gatewayNewUptoCard

/-- THE SECOND FORM's CARD OF 'bulletinlaw51.GatewayBodies'. -/
def gatewayBodiesUptoCard : Claim7 := { stood := { row := gatewayBodiesUptoRow, standIns := [], harness := (true, "ae6fa7cd05978e7518f18fa8faf461872a4557f34d6a0e7f9f49b1c899a72586"), looks := true }, kinds := [], alts := [], laidByText := true, laidKinds := [.data, .data, .data, .data, .sentinel, .sentinel, .pinned], laidTests := true, laidLooks := .later }
def GatewayBodiesUptoCardSaid : Prop := Claim7.holds Tryz.pinned (.plain (OpenSpec.upto gatewayBodiesSpec)) gatewayBodiesUptoCard

/-- THE SECOND FORM's CARD OF 'bulletinlaw51.GatewayLoops'. -/
def gatewayLoopsUptoCard : Claim7 := { stood := { row := gatewayLoopsUptoRow, standIns := [], harness := (true, "ae6fa7cd05978e7518f18fa8faf461872a4557f34d6a0e7f9f49b1c899a72586"), looks := true }, kinds := [], alts := [], laidByText := true, laidKinds := [.data, .data, .data, .data, .sentinel, .sentinel, .pinned], laidTests := true, laidLooks := .later }
def GatewayLoopsUptoCardSaid : Prop := Claim7.holds Tryz.pinned (.plain (OpenSpec.upto gatewayLoopsSpec)) gatewayLoopsUptoCard

/-- THE SECOND FORM's CARD OF 'bulletinlaw51.GatewayTransports'. -/
def gatewayTransportsUptoCard : Claim7 := { stood := { row := gatewayTransportsUptoRow, standIns := [], harness := (true, "ae6fa7cd05978e7518f18fa8faf461872a4557f34d6a0e7f9f49b1c899a72586"), looks := true }, kinds := [], alts := [], laidByText := true, laidKinds := [.data, .data, .data, .data, .sentinel, .sentinel, .pinned], laidTests := true, laidLooks := .later }
def GatewayTransportsUptoCardSaid : Prop := Claim7.holds Tryz.pinned (.plain (OpenSpec.upto gatewayTransportsSpec)) gatewayTransportsUptoCard

/-- THE SECOND FORM's CARD OF 'bulletinlaw51.GatewayNil'. -/
def gatewayNilUptoCard : Claim7 := { stood := { row := gatewayNilUptoRow, standIns := [], harness := (true, "ae6fa7cd05978e7518f18fa8faf461872a4557f34d6a0e7f9f49b1c899a72586"), looks := true }, kinds := [], alts := [], laidByText := true, laidKinds := [.data, .data, .data, .data, .sentinel, .sentinel, .pinned], laidTests := true, laidLooks := .later }
def GatewayNilUptoCardSaid : Prop := Claim7.holds Tryz.pinned (.plain (OpenSpec.upto gatewayNilSpec)) gatewayNilUptoCard
end Rows
end Go.Proofs.YtgiphkmeamlhkaaGreatDoor

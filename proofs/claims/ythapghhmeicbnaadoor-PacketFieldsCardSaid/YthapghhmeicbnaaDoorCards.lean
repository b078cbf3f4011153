/-
  DERIVED. GIVEN WITH THE SEED: THE CARDS: each row of YthapghhmeicbnaaDoorRows.lean that lists a variable, with what it lists TIED to the program's text (the seventh form; the later family's looks); each row that meets fmt, with fmt's text TOLD by the authors' own Lean function (tested against real Go, not proved from fmt's source: count such statements apart). THE CARD IS WHAT COUNTS. Prove the row's statement (the work); the ties are given (YthapghhmeicbnaaDoorTie.lean); close each card by the builder's one call (the guide's Derived/Test/ToyasCard.lean, 'card_holds'). Laid BY PROGRAM, IN A SANDBOX (cutbox-door.mjs). By AI agents, Wed Nov 11 2026. No macro, syntax, notation, axiom, sorry.
-/
import Derived.Test.YthapghhmeicbnaaDoorRows
import GoSem.ClaimSeven
namespace Go.Proofs.YthapghhmeicbnaaDoor
namespace Rows

/-- THE TIED CARD OF 'congresslaw05.PacketEncodes'. -/
def packetEncodesCard : Claim7 := { stood := { row := packetEncodesRow, standIns := [], harness := (true, "b782be7b8442dcc6893a7a64467db518dbafd8c183f901528dd6723ac6b17b5a"), looks := false }, kinds := [], alts := [], laidByText := true, laidKinds := [.data, .pinned], laidTests := true, laidLooks := .later }
def PacketEncodesCardSaid : Prop := Claim7.holds Tryd.pinned (.plain (OpenSpec.ofChange packetEncodesSpec)) packetEncodesCard

/-- THE TIED CARD OF 'congresslaw05.PacketDecodes'. -/
def packetDecodesCard : Claim7 := { stood := { row := packetDecodesRow, standIns := [], harness := (true, "b782be7b8442dcc6893a7a64467db518dbafd8c183f901528dd6723ac6b17b5a"), looks := false }, kinds := [], alts := [], laidByText := true, laidKinds := [.data, .pinned], laidTests := true, laidLooks := .later }
def PacketDecodesCardSaid : Prop := Claim7.holds Tryd.pinned (.plain (OpenSpec.ofChange packetDecodesSpec)) packetDecodesCard

/-- THE TIED CARD OF 'congresslaw05.PacketBack'. -/
def packetBackCard : Claim7 := { stood := { row := packetBackRow, standIns := [], harness := (true, "b782be7b8442dcc6893a7a64467db518dbafd8c183f901528dd6723ac6b17b5a"), looks := false }, kinds := [], alts := [], laidByText := true, laidKinds := [.data, .pinned], laidTests := true, laidLooks := .later }
def PacketBackCardSaid : Prop := Claim7.holds Tryd.pinned (.plain (OpenSpec.ofChange packetBackSpec)) packetBackCard

/-- THE TIED CARD OF 'congresslaw05.PacketTurned'. -/
def packetTurnedCard : Claim7 := { stood := { row := packetTurnedRow, standIns := [], harness := (true, "b782be7b8442dcc6893a7a64467db518dbafd8c183f901528dd6723ac6b17b5a"), looks := false }, kinds := [], alts := [], laidByText := true, laidKinds := [.data, .pinned], laidTests := true, laidLooks := .later }
def PacketTurnedCardSaid : Prop := Claim7.holds Tryd.pinned (.plain (OpenSpec.ofChange packetTurnedSpec)) packetTurnedCard

/-- THE TIED CARD OF 'congresslaw05.PacketApart'. -/
def packetApartCard : Claim7 := { stood := { row := packetApartRow, standIns := [], harness := (true, "b782be7b8442dcc6893a7a64467db518dbafd8c183f901528dd6723ac6b17b5a"), looks := false }, kinds := [], alts := [], laidByText := true, laidKinds := [.data, .pinned], laidTests := true, laidLooks := .later }
def PacketApartCardSaid : Prop := Claim7.holds Tryd.pinned (.plain (OpenSpec.ofChange packetApartSpec)) packetApartCard

/-- THE TIED CARD OF 'congresslaw05.PacketFields'. -/
def packetFieldsCard : Claim7 := { stood := { row := packetFieldsRow, standIns := [], harness := (true, "b782be7b8442dcc6893a7a64467db518dbafd8c183f901528dd6723ac6b17b5a"), looks := false }, kinds := [], alts := [], laidByText := true, laidKinds := [.data, .pinned], laidTests := true, laidLooks := .later }
def PacketFieldsCardSaid : Prop := Claim7.holds Tryd.pinned (.plain (OpenSpec.ofChange packetFieldsSpec)) packetFieldsCard

/-- THE SECOND FORM's CARD OF 'congresslaw05.PacketEncodes'. -/
def packetEncodesUptoCard : Claim7 := { stood := { row := packetEncodesUptoRow, standIns := [], harness := (true, "b782be7b8442dcc6893a7a64467db518dbafd8c183f901528dd6723ac6b17b5a"), looks := false }, kinds := [], alts := [], laidByText := true, laidKinds := [.data, .pinned], laidTests := true, laidLooks := .later }
def PacketEncodesUptoCardSaid : Prop := Claim7.holds Tryd.pinned (.plain (OpenSpec.upto packetEncodesSpec)) packetEncodesUptoCard

/-- THE SECOND FORM's CARD OF 'congresslaw05.PacketDecodes'. -/
def packetDecodesUptoCard : Claim7 := { stood := { row := packetDecodesUptoRow, standIns := [], harness := (true, "b782be7b8442dcc6893a7a64467db518dbafd8c183f901528dd6723ac6b17b5a"), looks := false }, kinds := [], alts := [], laidByText := true, laidKinds := [.data, .pinned], laidTests := true, laidLooks := .later }
def PacketDecodesUptoCardSaid : Prop := Claim7.holds Tryd.pinned (.plain (OpenSpec.upto packetDecodesSpec)) packetDecodesUptoCard

/-- THE SECOND FORM's CARD OF 'congresslaw05.PacketBack'. -/
def packetBackUptoCard : Claim7 := { stood := { row := packetBackUptoRow, standIns := [], harness := (true, "b782be7b8442dcc6893a7a64467db518dbafd8c183f901528dd6723ac6b17b5a"), looks := false }, kinds := [], alts := [], laidByText := true, laidKinds := [.data, .pinned], laidTests := true, laidLooks := .later }
def PacketBackUptoCardSaid : Prop := Claim7.holds Tryd.pinned (.plain (OpenSpec.upto packetBackSpec)) packetBackUptoCard

/-- THE SECOND FORM's CARD OF 'congresslaw05.PacketTurned'. -/
def packetTurnedUptoCard : Claim7 := { stood := { row := packetTurnedUptoRow, standIns := [], harness := (true, "b782be7b8442dcc6893a7a64467db518dbafd8c183f901528dd6723ac6b17b5a"), looks := false }, kinds := [], alts := [], laidByText := true, laidKinds := [.data, .pinned], laidTests := true, laidLooks := .later }
def PacketTurnedUptoCardSaid : Prop := Claim7.holds Tryd.pinned (.plain (OpenSpec.upto packetTurnedSpec)) packetTurnedUptoCard

/-- THE SECOND FORM's CARD OF 'congresslaw05.PacketApart'. -/
def packetApartUptoCard : Claim7 := { stood := { row := packetApartUptoRow, standIns := [], harness := (true, "b782be7b8442dcc6893a7a64467db518dbafd8c183f901528dd6723ac6b17b5a"), looks := false }, kinds := [], alts := [], laidByText := true, laidKinds := [.data, .pinned], laidTests := true, laidLooks := .later }
def PacketApartUptoCardSaid : Prop := Claim7.holds Tryd.pinned (.plain (OpenSpec.upto packetApartSpec)) packetApartUptoCard

/-- THE SECOND FORM's CARD OF 'congresslaw05.PacketFields'. -/
def packetFieldsUptoCard : Claim7 := { stood := { row := packetFieldsUptoRow, standIns := [], harness := (true, "b782be7b8442dcc6893a7a64467db518dbafd8c183f901528dd6723ac6b17b5a"), looks := false }, kinds := [], alts := [], laidByText := true, laidKinds := [.data, .pinned], laidTests := true, laidLooks := .later }
def PacketFieldsUptoCardSaid : Prop := Claim7.holds Tryd.pinned (.plain (OpenSpec.upto packetFieldsSpec)) packetFieldsUptoCard
end Rows
end Go.Proofs.YthapghhmeicbnaaDoor

/-
  DERIVED. GIVEN WITH THE SEED: THE CARDS: each row of YtglfdihomfhmmaaGreatDoorRows.lean that lists a variable, with what it lists TIED to the program's text (the seventh form; the later family's looks); each row that meets fmt, with fmt's text TOLD by the authors' own Lean function (tested against real Go, not proved from fmt's source: count such statements apart). THE CARD IS WHAT COUNTS. Prove the row's statement (the work); the ties are given (YtglfdihomfhmmaaGreatDoorTie.lean); close each card by the builder's one call (the guide's Derived/Test/ToyasCard.lean, 'card_holds'). Laid BY PROGRAM, IN A SANDBOX (cutbox-door.mjs). By AI agents, Wed Nov 11 2026. No macro, syntax, notation, axiom, sorry.
-/
import Derived.Test.YtglfdihomfhmmaaGreatDoorRows
import GoSem.ClaimSeven
namespace Go.Proofs.YtglfdihomfhmmaaGreatDoor
namespace Rows

/-- THE TIED CARD OF 'congresslaw23.LaneCalls'. -/
def laneCallsCard : Claim7 := { stood := { row := laneCallsRow, standIns := [], harness := (true, "99f8e3c6eb45a76a9f304e40888ae3629f1279c59da0efdd25cdbecd7dd2b8ef"), looks := true }, kinds := [], alts := [], laidByText := true, laidKinds := [.data, .data, .data, .sentinel, .sentinel], laidTests := true, laidLooks := .later }
def LaneCallsCardSaid : Prop := Claim7.holds Tryz.pinned (.plain (OpenSpec.ofChange laneCallsSpec)) laneCallsCard

/-- THE TIED CARD OF 'congresslaw23.LaneRights'. -/
def laneRightsCard : Claim7 := { stood := { row := laneRightsRow, standIns := [], harness := (true, "99f8e3c6eb45a76a9f304e40888ae3629f1279c59da0efdd25cdbecd7dd2b8ef"), looks := true }, kinds := [], alts := [], laidByText := true, laidKinds := [.data, .data, .data, .sentinel, .sentinel], laidTests := true, laidLooks := .later }
def LaneRightsCardSaid : Prop := Claim7.holds Tryz.pinned (.plain (OpenSpec.ofChange laneRightsSpec)) laneRightsCard

/-- THE TIED CARD OF 'congresslaw23.LaneTakes'. -/
def laneTakesCard : Claim7 := { stood := { row := laneTakesRow, standIns := [], harness := (true, "99f8e3c6eb45a76a9f304e40888ae3629f1279c59da0efdd25cdbecd7dd2b8ef"), looks := true }, kinds := [], alts := [], laidByText := true, laidKinds := [.data, .data, .data, .sentinel, .sentinel], laidTests := true, laidLooks := .later }
def LaneTakesCardSaid : Prop := Claim7.holds Tryz.pinned (.plain (OpenSpec.ofChange laneTakesSpec)) laneTakesCard

/-- THE TIED CARD OF 'congresslaw23.LaneQuotas'. -/
def laneQuotasCard : Claim7 := { stood := { row := laneQuotasRow, standIns := [], harness := (true, "99f8e3c6eb45a76a9f304e40888ae3629f1279c59da0efdd25cdbecd7dd2b8ef"), looks := true }, kinds := [], alts := [], laidByText := true, laidKinds := [.data, .data, .data, .sentinel, .sentinel], laidTests := true, laidLooks := .later }
def LaneQuotasCardSaid : Prop := Claim7.holds Tryz.pinned (.plain (OpenSpec.ofChange laneQuotasSpec)) laneQuotasCard

/-- THE SECOND FORM's CARD OF 'congresslaw23.LaneCalls'. -/
def laneCallsUptoCard : Claim7 := { stood := { row := laneCallsUptoRow, standIns := [], harness := (true, "99f8e3c6eb45a76a9f304e40888ae3629f1279c59da0efdd25cdbecd7dd2b8ef"), looks := true }, kinds := [], alts := [], laidByText := true, laidKinds := [.data, .data, .data, .sentinel, .sentinel], laidTests := true, laidLooks := .later }
def LaneCallsUptoCardSaid : Prop := Claim7.holds Tryz.pinned (.plain (OpenSpec.upto laneCallsSpec)) laneCallsUptoCard

/-- THE SECOND FORM's CARD OF 'congresslaw23.LaneRights'. -/
def laneRightsUptoCard : Claim7 := { stood := { row := laneRightsUptoRow, standIns := [], harness := (true, "99f8e3c6eb45a76a9f304e40888ae3629f1279c59da0efdd25cdbecd7dd2b8ef"), looks := true }, kinds := [], alts := [], laidByText := true, laidKinds := [.data, .data, .data, .sentinel, .sentinel], laidTests := true, laidLooks := .later }
def LaneRightsUptoCardSaid : Prop := Claim7.holds Tryz.pinned (.plain (OpenSpec.upto laneRightsSpec)) laneRightsUptoCard

/-- THE SECOND FORM's CARD OF 'congresslaw23.LaneTakes'. -/
def laneTakesUptoCard : Claim7 := { stood := { row := laneTakesUptoRow, standIns := [], harness := (true, "99f8e3c6eb45a76a9f304e40888ae3629f1279c59da0efdd25cdbecd7dd2b8ef"), looks := true }, kinds := [], alts := [], laidByText := true, laidKinds := [.data, .data, .data, .sentinel, .sentinel], laidTests := true, laidLooks := .later }
def LaneTakesUptoCardSaid : Prop := Claim7.holds Tryz.pinned (.plain (OpenSpec.upto laneTakesSpec)) laneTakesUptoCard

/-- THE SECOND FORM's CARD OF 'congresslaw23.LaneQuotas'. -/
def laneQuotasUptoCard : Claim7 := { stood := { row := laneQuotasUptoRow, standIns := [], harness := (true, "99f8e3c6eb45a76a9f304e40888ae3629f1279c59da0efdd25cdbecd7dd2b8ef"), looks := true }, kinds := [], alts := [], laidByText := true, laidKinds := [.data, .data, .data, .sentinel, .sentinel], laidTests := true, laidLooks := .later }
def LaneQuotasUptoCardSaid : Prop := Claim7.holds Tryz.pinned (.plain (OpenSpec.upto laneQuotasSpec)) laneQuotasUptoCard
end Rows
end Go.Proofs.YtglfdihomfhmmaaGreatDoor

/-
  DERIVED. GIVEN WITH THE SEED: THE CARDS: each row of YtadjnbjeaeoobaaDoorRows.lean that lists a variable, with what it lists TIED to the program's text (the seventh form; the later family's looks); each row that meets fmt, with fmt's text TOLD by the authors' own Lean function (tested against real Go, not proved from fmt's source: count such statements apart). THE CARD IS WHAT COUNTS. Prove the row's statement (the work); the ties are given (YtadjnbjeaeoobaaDoorTie.lean); close each card by the builder's one call (the guide's Derived/Test/ToyasCard.lean, 'card_holds'). Laid BY PROGRAM, IN A SANDBOX (cutbox-door.mjs). By AI agents, Wed Nov 11 2026. No macro, syntax, notation, axiom, sorry.
-/
import Derived.Test.YtadjnbjeaeoobaaDoorRows
import GoSem.ClaimSeven
namespace Go.Proofs.YtadjnbjeaeoobaaDoor
namespace Rows

/-- THE TIED CARD OF 'congresslaw04.FrameLanes'. -/
def frameLanesCard : Claim7 := { stood := { row := frameLanesRow, standIns := [], harness := (true, "bad86ad9f6d6d4695e35f64a587028b0bcf312d38e2ece4b285cd7b9c2206612"), looks := false }, kinds := [], alts := [], laidByText := true, laidKinds := [.data, .pinned], laidTests := true, laidLooks := .later }
def FrameLanesCardSaid : Prop := Claim7.holds Tryd.pinned (.plain (OpenSpec.ofChange frameLanesSpec)) frameLanesCard

/-- THE TIED CARD OF 'congresslaw04.FrameBack'. -/
def frameBackCard : Claim7 := { stood := { row := frameBackRow, standIns := [], harness := (true, "bad86ad9f6d6d4695e35f64a587028b0bcf312d38e2ece4b285cd7b9c2206612"), looks := false }, kinds := [], alts := [], laidByText := true, laidKinds := [.data, .pinned], laidTests := true, laidLooks := .later }
def FrameBackCardSaid : Prop := Claim7.holds Tryd.pinned (.plain (OpenSpec.ofChange frameBackSpec)) frameBackCard

/-- THE TIED CARD OF 'congresslaw04.FrameApart'. -/
def frameApartCard : Claim7 := { stood := { row := frameApartRow, standIns := [], harness := (true, "bad86ad9f6d6d4695e35f64a587028b0bcf312d38e2ece4b285cd7b9c2206612"), looks := false }, kinds := [], alts := [], laidByText := true, laidKinds := [.data, .pinned], laidTests := true, laidLooks := .later }
def FrameApartCardSaid : Prop := Claim7.holds Tryd.pinned (.plain (OpenSpec.ofChange frameApartSpec)) frameApartCard

/-- THE TIED CARD OF 'congresslaw04.FrameLoads'. -/
def frameLoadsCard : Claim7 := { stood := { row := frameLoadsRow, standIns := [], harness := (true, "bad86ad9f6d6d4695e35f64a587028b0bcf312d38e2ece4b285cd7b9c2206612"), looks := false }, kinds := [], alts := [], laidByText := true, laidKinds := [.data, .pinned], laidTests := true, laidLooks := .later }
def FrameLoadsCardSaid : Prop := Claim7.holds Tryd.pinned (.plain (OpenSpec.ofChange frameLoadsSpec)) frameLoadsCard

/-- THE TIED CARD OF 'congresslaw04.FrameEncodes'. -/
def frameEncodesCard : Claim7 := { stood := { row := frameEncodesRow, standIns := [], harness := (true, "bad86ad9f6d6d4695e35f64a587028b0bcf312d38e2ece4b285cd7b9c2206612"), looks := false }, kinds := [], alts := [], laidByText := true, laidKinds := [.data, .pinned], laidTests := true, laidLooks := .later }
def FrameEncodesCardSaid : Prop := Claim7.holds Tryd.pinned (.plain (OpenSpec.ofChange frameEncodesSpec)) frameEncodesCard

/-- THE SECOND FORM's CARD OF 'congresslaw04.FrameLanes'. -/
def frameLanesUptoCard : Claim7 := { stood := { row := frameLanesUptoRow, standIns := [], harness := (true, "bad86ad9f6d6d4695e35f64a587028b0bcf312d38e2ece4b285cd7b9c2206612"), looks := false }, kinds := [], alts := [], laidByText := true, laidKinds := [.data, .pinned], laidTests := true, laidLooks := .later }
def FrameLanesUptoCardSaid : Prop := Claim7.holds Tryd.pinned (.plain (OpenSpec.upto frameLanesSpec)) frameLanesUptoCard

/-- THE SECOND FORM's CARD OF 'congresslaw04.FrameBack'. -/
def frameBackUptoCard : Claim7 := { stood := { row := frameBackUptoRow, standIns := [], harness := (true, "bad86ad9f6d6d4695e35f64a587028b0bcf312d38e2ece4b285cd7b9c2206612"), looks := false }, kinds := [], alts := [], laidByText := true, laidKinds := [.data, .pinned], laidTests := true, laidLooks := .later }
def FrameBackUptoCardSaid : Prop := Claim7.holds Tryd.pinned (.plain (OpenSpec.upto frameBackSpec)) frameBackUptoCard

/-- THE SECOND FORM's CARD OF 'congresslaw04.FrameApart'. -/
def frameApartUptoCard : Claim7 := { stood := { row := frameApartUptoRow, standIns := [], harness := (true, "bad86ad9f6d6d4695e35f64a587028b0bcf312d38e2ece4b285cd7b9c2206612"), looks := false }, kinds := [], alts := [], laidByText := true, laidKinds := [.data, .pinned], laidTests := true, laidLooks := .later }
def FrameApartUptoCardSaid : Prop := Claim7.holds Tryd.pinned (.plain (OpenSpec.upto frameApartSpec)) frameApartUptoCard

/-- THE SECOND FORM's CARD OF 'congresslaw04.FrameLoads'. -/
def frameLoadsUptoCard : Claim7 := { stood := { row := frameLoadsUptoRow, standIns := [], harness := (true, "bad86ad9f6d6d4695e35f64a587028b0bcf312d38e2ece4b285cd7b9c2206612"), looks := false }, kinds := [], alts := [], laidByText := true, laidKinds := [.data, .pinned], laidTests := true, laidLooks := .later }
def FrameLoadsUptoCardSaid : Prop := Claim7.holds Tryd.pinned (.plain (OpenSpec.upto frameLoadsSpec)) frameLoadsUptoCard

/-- THE SECOND FORM's CARD OF 'congresslaw04.FrameEncodes'. -/
def frameEncodesUptoCard : Claim7 := { stood := { row := frameEncodesUptoRow, standIns := [], harness := (true, "bad86ad9f6d6d4695e35f64a587028b0bcf312d38e2ece4b285cd7b9c2206612"), looks := false }, kinds := [], alts := [], laidByText := true, laidKinds := [.data, .pinned], laidTests := true, laidLooks := .later }
def FrameEncodesUptoCardSaid : Prop := Claim7.holds Tryd.pinned (.plain (OpenSpec.upto frameEncodesSpec)) frameEncodesUptoCard
end Rows
end Go.Proofs.YtadjnbjeaeoobaaDoor

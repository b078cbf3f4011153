/-
  DERIVED. GIVEN WITH THE SEED: THE CARDS: each row of YtjcbamenfaoffaaGreatDoorRows.lean that lists a variable, with what it lists TIED to the program's text (the seventh form; the later family's looks); each row that meets fmt, with fmt's text TOLD by the authors' own Lean function (tested against real Go, not proved from fmt's source: count such statements apart). THE CARD IS WHAT COUNTS. Prove the row's statement (the work); the ties are given (YtjcbamenfaoffaaGreatDoorTie.lean); close each card by the builder's one call (the guide's Derived/Test/ToyasCard.lean, 'card_holds'). Laid BY PROGRAM, IN A SANDBOX (cutbox-door.mjs). By AI agents, Wed Nov 11 2026. No macro, syntax, notation, axiom, sorry.
-/
import Derived.Test.YtjcbamenfaoffaaGreatDoorRows
import GoSem.ClaimSeven
namespace Go.Proofs.YtjcbamenfaoffaaGreatDoor
namespace Rows

/-- THE TIED CARD OF 'congresslaw15.ClusterViews'. -/
def clusterViewsCard : Claim7 := { stood := { row := clusterViewsRow, standIns := [], harness := (true, "8eafbd691ebef9aebbec26d8d010caf105061b2438f54ca1d222269706ed479d"), looks := false }, kinds := [], alts := [], laidByText := true, laidKinds := [.data, .pinned], laidTests := true, laidLooks := .later }
def ClusterViewsCardSaid : Prop := Claim7.holds Tryz.pinned (.plain (OpenSpec.ofChange clusterViewsSpec)) clusterViewsCard

/-- THE TIED CARD OF 'congresslaw15.ClusterSends'. -/
def clusterSendsCard : Claim7 := { stood := { row := clusterSendsRow, standIns := [], harness := (true, "8eafbd691ebef9aebbec26d8d010caf105061b2438f54ca1d222269706ed479d"), looks := false }, kinds := [], alts := [], laidByText := true, laidKinds := [.data, .pinned], laidTests := true, laidLooks := .later }
def ClusterSendsCardSaid : Prop := Claim7.holds Tryz.pinned (.plain (OpenSpec.ofChange clusterSendsSpec)) clusterSendsCard

/-- THE TIED CARD OF 'congresslaw15.ClusterSame'. -/
def clusterSameCard : Claim7 := { stood := { row := clusterSameRow, standIns := [], harness := (true, "8eafbd691ebef9aebbec26d8d010caf105061b2438f54ca1d222269706ed479d"), looks := false }, kinds := [], alts := [], laidByText := true, laidKinds := [.data, .pinned], laidTests := true, laidLooks := .later }
def ClusterSameCardSaid : Prop := Claim7.holds Tryz.pinned (.plain (OpenSpec.ofChange clusterSameSpec)) clusterSameCard

/-- THE TIED CARD OF 'congresslaw15.ClusterSafe'. -/
def clusterSafeCard : Claim7 := { stood := { row := clusterSafeRow, standIns := [], harness := (true, "8eafbd691ebef9aebbec26d8d010caf105061b2438f54ca1d222269706ed479d"), looks := false }, kinds := [], alts := [], laidByText := true, laidKinds := [.data, .pinned], laidTests := true, laidLooks := .later }
def ClusterSafeCardSaid : Prop := Claim7.holds Tryz.pinned (.plain (OpenSpec.ofChange clusterSafeSpec)) clusterSafeCard

/-- THE TIED CARD OF 'congresslaw15.ClusterSteps'. -/
def clusterStepsCard : Claim7 := { stood := { row := clusterStepsRow, standIns := [], harness := (true, "8eafbd691ebef9aebbec26d8d010caf105061b2438f54ca1d222269706ed479d"), looks := false }, kinds := [], alts := [], laidByText := true, laidKinds := [.data, .pinned], laidTests := true, laidLooks := .later }
def ClusterStepsCardSaid : Prop := Claim7.holds Tryz.pinned (.plain (OpenSpec.ofChange clusterStepsSpec)) clusterStepsCard

/-- THE TIED CARD OF 'congresslaw15.ClusterBlind'. -/
def clusterBlindCard : Claim7 := { stood := { row := clusterBlindRow, standIns := [], harness := (true, "8eafbd691ebef9aebbec26d8d010caf105061b2438f54ca1d222269706ed479d"), looks := false }, kinds := [], alts := [], laidByText := true, laidKinds := [.data, .pinned], laidTests := true, laidLooks := .later }
def ClusterBlindCardSaid : Prop := Claim7.holds Tryz.pinned (.plain (OpenSpec.ofChange clusterBlindSpec)) clusterBlindCard

/-- THE TIED CARD OF 'congresslaw15.ClusterLives'. -/
def clusterLivesCard : Claim7 := { stood := { row := clusterLivesRow, standIns := [], harness := (true, "8eafbd691ebef9aebbec26d8d010caf105061b2438f54ca1d222269706ed479d"), looks := false }, kinds := [], alts := [], laidByText := true, laidKinds := [.data, .pinned], laidTests := true, laidLooks := .later }
def ClusterLivesCardSaid : Prop := Claim7.holds Tryz.pinned (.plain (OpenSpec.ofChange clusterLivesSpec)) clusterLivesCard

/-- THE SECOND FORM's CARD OF 'congresslaw15.ClusterViews'. -/
def clusterViewsUptoCard : Claim7 := { stood := { row := clusterViewsUptoRow, standIns := [], harness := (true, "8eafbd691ebef9aebbec26d8d010caf105061b2438f54ca1d222269706ed479d"), looks := false }, kinds := [], alts := [], laidByText := true, laidKinds := [.data, .pinned], laidTests := true, laidLooks := .later }
def ClusterViewsUptoCardSaid : Prop := Claim7.holds Tryz.pinned (.plain (OpenSpec.upto clusterViewsSpec)) clusterViewsUptoCard

/-- THE SECOND FORM's CARD OF 'congresslaw15.ClusterSends'. -/
def clusterSendsUptoCard : Claim7 := { stood := { row := clusterSendsUptoRow, standIns := [], harness := (true, "8eafbd691ebef9aebbec26d8d010caf105061b2438f54ca1d222269706ed479d"), looks := false }, kinds := [], alts := [], laidByText := true, laidKinds := [.data, .pinned], laidTests := true, laidLooks := .later }
def ClusterSendsUptoCardSaid : Prop := Claim7.holds Tryz.pinned (.plain (OpenSpec.upto clusterSendsSpec)) clusterSendsUptoCard

/-- THE SECOND FORM's CARD OF 'congresslaw15.ClusterSame'. -/
def clusterSameUptoCard : Claim7 := { stood := { row := clusterSameUptoRow, standIns := [], harness := (true, "8eafbd691ebef9aebbec26d8d010caf105061b2438f54ca1d222269706ed479d"), looks := false }, kinds := [], alts := [], laidByText := true, laidKinds := [.data, .pinned], laidTests := true, laidLooks := .later }
def ClusterSameUptoCardSaid : Prop := Claim7.holds Tryz.pinned (.plain (OpenSpec.upto clusterSameSpec)) clusterSameUptoCard

/-- THE SECOND FORM's CARD OF 'congresslaw15.ClusterSafe'. -/
def clusterSafeUptoCard : Claim7 := { stood := { row := clusterSafeUptoRow, standIns := [], harness := (true, "8eafbd691ebef9aebbec26d8d010caf105061b2438f54ca1d222269706ed479d"), looks := false }, kinds := [], alts := [], laidByText := true, laidKinds := [.data, .pinned], laidTests := true, laidLooks := .later }
def ClusterSafeUptoCardSaid : Prop := Claim7.holds Tryz.pinned (.plain (OpenSpec.upto clusterSafeSpec)) clusterSafeUptoCard

/-- THE SECOND FORM's CARD OF 'congresslaw15.ClusterSteps'. -/
def clusterStepsUptoCard : Claim7 := { stood := { row := clusterStepsUptoRow, standIns := [], harness := (true, "8eafbd691ebef9aebbec26d8d010caf105061b2438f54ca1d222269706ed479d"), looks := false }, kinds := [], alts := [], laidByText := true, laidKinds := [.data, .pinned], laidTests := true, laidLooks := .later }
def ClusterStepsUptoCardSaid : Prop := Claim7.holds Tryz.pinned (.plain (OpenSpec.upto clusterStepsSpec)) clusterStepsUptoCard

/-- THE SECOND FORM's CARD OF 'congresslaw15.ClusterBlind'. -/
def clusterBlindUptoCard : Claim7 := { stood := { row := clusterBlindUptoRow, standIns := [], harness := (true, "8eafbd691ebef9aebbec26d8d010caf105061b2438f54ca1d222269706ed479d"), looks := false }, kinds := [], alts := [], laidByText := true, laidKinds := [.data, .pinned], laidTests := true, laidLooks := .later }
def ClusterBlindUptoCardSaid : Prop := Claim7.holds Tryz.pinned (.plain (OpenSpec.upto clusterBlindSpec)) clusterBlindUptoCard

/-- THE SECOND FORM's CARD OF 'congresslaw15.ClusterLives'. -/
def clusterLivesUptoCard : Claim7 := { stood := { row := clusterLivesUptoRow, standIns := [], harness := (true, "8eafbd691ebef9aebbec26d8d010caf105061b2438f54ca1d222269706ed479d"), looks := false }, kinds := [], alts := [], laidByText := true, laidKinds := [.data, .pinned], laidTests := true, laidLooks := .later }
def ClusterLivesUptoCardSaid : Prop := Claim7.holds Tryz.pinned (.plain (OpenSpec.upto clusterLivesSpec)) clusterLivesUptoCard
end Rows
end Go.Proofs.YtjcbamenfaoffaaGreatDoor

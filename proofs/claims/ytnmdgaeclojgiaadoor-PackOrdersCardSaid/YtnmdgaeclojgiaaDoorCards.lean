/-
  DERIVED. GIVEN WITH THE SEED: THE CARDS: each row of YtnmdgaeclojgiaaDoorRows.lean that lists a variable, with what it lists TIED to the program's text (the seventh form; the later family's looks); each row that meets fmt, with fmt's text TOLD by the authors' own Lean function (tested against real Go, not proved from fmt's source: count such statements apart). THE CARD IS WHAT COUNTS. Prove the row's statement (the work); the ties are given (YtnmdgaeclojgiaaDoorTie.lean); close each card by the builder's one call (the guide's Derived/Test/ToyasCard.lean, 'card_holds'). Laid BY PROGRAM, IN A SANDBOX (cutbox-door.mjs). By AI agents, Wed Nov 11 2026. No macro, syntax, notation, axiom, sorry.
-/
import Derived.Test.YtnmdgaeclojgiaaDoorRows
import GoSem.ClaimSeven
namespace Go.Proofs.YtnmdgaeclojgiaaDoor
namespace Rows

/-- THE TIED CARD OF 'congresslaw02.PackNumbers'. -/
def packNumbersCard : Claim7 := { stood := { row := packNumbersRow, standIns := [], harness := (true, "80473db782afd3528b9cbb7d48c6a1301f7a86f51d5001ecabaaff3ac2ea3fd0"), looks := false }, kinds := [], alts := [], laidByText := true, laidKinds := [.data, .pinned], laidTests := true, laidLooks := .later }
def PackNumbersCardSaid : Prop := Claim7.holds Tryd.pinned (.plain (OpenSpec.ofChange packNumbersSpec)) packNumbersCard

/-- THE TIED CARD OF 'congresslaw02.PackTexts'. -/
def packTextsCard : Claim7 := { stood := { row := packTextsRow, standIns := [], harness := (true, "80473db782afd3528b9cbb7d48c6a1301f7a86f51d5001ecabaaff3ac2ea3fd0"), looks := false }, kinds := [], alts := [], laidByText := true, laidKinds := [.data, .pinned], laidTests := true, laidLooks := .later }
def PackTextsCardSaid : Prop := Claim7.holds Tryd.pinned (.plain (OpenSpec.ofChange packTextsSpec)) packTextsCard

/-- THE TIED CARD OF 'congresslaw02.PackBack'. -/
def packBackCard : Claim7 := { stood := { row := packBackRow, standIns := [], harness := (true, "80473db782afd3528b9cbb7d48c6a1301f7a86f51d5001ecabaaff3ac2ea3fd0"), looks := false }, kinds := [], alts := [], laidByText := true, laidKinds := [.data, .pinned], laidTests := true, laidLooks := .later }
def PackBackCardSaid : Prop := Claim7.holds Tryd.pinned (.plain (OpenSpec.ofChange packBackSpec)) packBackCard

/-- THE TIED CARD OF 'congresslaw02.PackOnce'. -/
def packOnceCard : Claim7 := { stood := { row := packOnceRow, standIns := [], harness := (true, "80473db782afd3528b9cbb7d48c6a1301f7a86f51d5001ecabaaff3ac2ea3fd0"), looks := false }, kinds := [], alts := [], laidByText := true, laidKinds := [.data, .pinned], laidTests := true, laidLooks := .later }
def PackOnceCardSaid : Prop := Claim7.holds Tryd.pinned (.plain (OpenSpec.ofChange packOnceSpec)) packOnceCard

/-- THE TIED CARD OF 'congresslaw02.PackOrders'. -/
def packOrdersCard : Claim7 := { stood := { row := packOrdersRow, standIns := [], harness := (true, "80473db782afd3528b9cbb7d48c6a1301f7a86f51d5001ecabaaff3ac2ea3fd0"), looks := false }, kinds := [], alts := [], laidByText := true, laidKinds := [.data, .pinned], laidTests := true, laidLooks := .later }
def PackOrdersCardSaid : Prop := Claim7.holds Tryd.pinned (.plain (OpenSpec.ofChange packOrdersSpec)) packOrdersCard

/-- THE SECOND FORM's CARD OF 'congresslaw02.PackNumbers'. -/
def packNumbersUptoCard : Claim7 := { stood := { row := packNumbersUptoRow, standIns := [], harness := (true, "80473db782afd3528b9cbb7d48c6a1301f7a86f51d5001ecabaaff3ac2ea3fd0"), looks := false }, kinds := [], alts := [], laidByText := true, laidKinds := [.data, .pinned], laidTests := true, laidLooks := .later }
def PackNumbersUptoCardSaid : Prop := Claim7.holds Tryd.pinned (.plain (OpenSpec.upto packNumbersSpec)) packNumbersUptoCard

/-- THE SECOND FORM's CARD OF 'congresslaw02.PackTexts'. -/
def packTextsUptoCard : Claim7 := { stood := { row := packTextsUptoRow, standIns := [], harness := (true, "80473db782afd3528b9cbb7d48c6a1301f7a86f51d5001ecabaaff3ac2ea3fd0"), looks := false }, kinds := [], alts := [], laidByText := true, laidKinds := [.data, .pinned], laidTests := true, laidLooks := .later }
def PackTextsUptoCardSaid : Prop := Claim7.holds Tryd.pinned (.plain (OpenSpec.upto packTextsSpec)) packTextsUptoCard

/-- THE SECOND FORM's CARD OF 'congresslaw02.PackBack'. -/
def packBackUptoCard : Claim7 := { stood := { row := packBackUptoRow, standIns := [], harness := (true, "80473db782afd3528b9cbb7d48c6a1301f7a86f51d5001ecabaaff3ac2ea3fd0"), looks := false }, kinds := [], alts := [], laidByText := true, laidKinds := [.data, .pinned], laidTests := true, laidLooks := .later }
def PackBackUptoCardSaid : Prop := Claim7.holds Tryd.pinned (.plain (OpenSpec.upto packBackSpec)) packBackUptoCard

/-- THE SECOND FORM's CARD OF 'congresslaw02.PackOnce'. -/
def packOnceUptoCard : Claim7 := { stood := { row := packOnceUptoRow, standIns := [], harness := (true, "80473db782afd3528b9cbb7d48c6a1301f7a86f51d5001ecabaaff3ac2ea3fd0"), looks := false }, kinds := [], alts := [], laidByText := true, laidKinds := [.data, .pinned], laidTests := true, laidLooks := .later }
def PackOnceUptoCardSaid : Prop := Claim7.holds Tryd.pinned (.plain (OpenSpec.upto packOnceSpec)) packOnceUptoCard

/-- THE SECOND FORM's CARD OF 'congresslaw02.PackOrders'. -/
def packOrdersUptoCard : Claim7 := { stood := { row := packOrdersUptoRow, standIns := [], harness := (true, "80473db782afd3528b9cbb7d48c6a1301f7a86f51d5001ecabaaff3ac2ea3fd0"), looks := false }, kinds := [], alts := [], laidByText := true, laidKinds := [.data, .pinned], laidTests := true, laidLooks := .later }
def PackOrdersUptoCardSaid : Prop := Claim7.holds Tryd.pinned (.plain (OpenSpec.upto packOrdersSpec)) packOrdersUptoCard
end Rows
end Go.Proofs.YtnmdgaeclojgiaaDoor

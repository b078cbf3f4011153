/-
  DERIVED. GIVEN WITH THE SEED: THE CARDS: each row of YtlhbekiplnmolaaDoorRows.lean that lists a variable, with what it lists TIED to the program's text (the seventh form; the later family's looks); each row that meets fmt, with fmt's text TOLD by the authors' own Lean function (tested against real Go, not proved from fmt's source: count such statements apart). THE CARD IS WHAT COUNTS. Prove the row's statement (the work); the ties are given (YtlhbekiplnmolaaDoorTie.lean); close each card by the builder's one call (the guide's Derived/Test/ToyasCard.lean, 'card_holds'). Laid BY PROGRAM, IN A SANDBOX (cutbox-door.mjs). By AI agents, Wed Nov 11 2026. No macro, syntax, notation, axiom, sorry.
-/
import Derived.Test.YtlhbekiplnmolaaDoorRows
import GoSem.ClaimSeven
namespace Go.Proofs.YtlhbekiplnmolaaDoor
namespace Rows

/-- THE TIED CARD OF 'congresslaw26.TraceTexts'. -/
def traceTextsCard : Claim7 := { stood := { row := traceTextsRow, standIns := [], harness := (true, "1ebaf6c45a39668cd8885f972d5764a7dfe72fbe70193aed6ad9ef14ecb811db"), looks := false }, kinds := [], alts := [], laidByText := true, laidKinds := [.data, .data, .data], laidTests := true, laidLooks := .later }
def TraceTextsCardSaid : Prop := Claim7.holds Tryd.pinned (.plain (OpenSpec.ofChange traceTextsSpec)) traceTextsCard

/-- THE TIED CARD OF 'congresslaw26.TraceChecks'. -/
def traceChecksCard : Claim7 := { stood := { row := traceChecksRow, standIns := [], harness := (true, "1ebaf6c45a39668cd8885f972d5764a7dfe72fbe70193aed6ad9ef14ecb811db"), looks := false }, kinds := [], alts := [], laidByText := true, laidKinds := [.data, .data, .data], laidTests := true, laidLooks := .later }
def TraceChecksCardSaid : Prop := Claim7.holds Tryd.pinned (.plain (OpenSpec.ofChange traceChecksSpec)) traceChecksCard

/-- THE TIED CARD OF 'congresslaw26.TraceBegins'. -/
def traceBeginsCard : Claim7 := { stood := { row := traceBeginsRow, standIns := [], harness := (true, "1ebaf6c45a39668cd8885f972d5764a7dfe72fbe70193aed6ad9ef14ecb811db"), looks := false }, kinds := [], alts := [], laidByText := true, laidKinds := [.data, .data, .data], laidTests := true, laidLooks := .later }
def TraceBeginsCardSaid : Prop := Claim7.holds Tryd.pinned (.plain (OpenSpec.ofChange traceBeginsSpec)) traceBeginsCard

/-- THE TIED CARD OF 'congresslaw26.TraceParts'. -/
def tracePartsCard : Claim7 := { stood := { row := tracePartsRow, standIns := [], harness := (true, "1ebaf6c45a39668cd8885f972d5764a7dfe72fbe70193aed6ad9ef14ecb811db"), looks := false }, kinds := [], alts := [], laidByText := true, laidKinds := [.data, .data, .data], laidTests := true, laidLooks := .later }
def TracePartsCardSaid : Prop := Claim7.holds Tryd.pinned (.plain (OpenSpec.ofChange tracePartsSpec)) tracePartsCard

/-- THE SECOND FORM's CARD OF 'congresslaw26.TraceTexts'. -/
def traceTextsUptoCard : Claim7 := { stood := { row := traceTextsUptoRow, standIns := [], harness := (true, "1ebaf6c45a39668cd8885f972d5764a7dfe72fbe70193aed6ad9ef14ecb811db"), looks := false }, kinds := [], alts := [], laidByText := true, laidKinds := [.data, .data, .data], laidTests := true, laidLooks := .later }
def TraceTextsUptoCardSaid : Prop := Claim7.holds Tryd.pinned (.plain (OpenSpec.upto traceTextsSpec)) traceTextsUptoCard

/-- THE SECOND FORM's CARD OF 'congresslaw26.TraceChecks'. -/
def traceChecksUptoCard : Claim7 := { stood := { row := traceChecksUptoRow, standIns := [], harness := (true, "1ebaf6c45a39668cd8885f972d5764a7dfe72fbe70193aed6ad9ef14ecb811db"), looks := false }, kinds := [], alts := [], laidByText := true, laidKinds := [.data, .data, .data], laidTests := true, laidLooks := .later }
def TraceChecksUptoCardSaid : Prop := Claim7.holds Tryd.pinned (.plain (OpenSpec.upto traceChecksSpec)) traceChecksUptoCard

/-- THE SECOND FORM's CARD OF 'congresslaw26.TraceBegins'. -/
def traceBeginsUptoCard : Claim7 := { stood := { row := traceBeginsUptoRow, standIns := [], harness := (true, "1ebaf6c45a39668cd8885f972d5764a7dfe72fbe70193aed6ad9ef14ecb811db"), looks := false }, kinds := [], alts := [], laidByText := true, laidKinds := [.data, .data, .data], laidTests := true, laidLooks := .later }
def TraceBeginsUptoCardSaid : Prop := Claim7.holds Tryd.pinned (.plain (OpenSpec.upto traceBeginsSpec)) traceBeginsUptoCard

/-- THE SECOND FORM's CARD OF 'congresslaw26.TraceParts'. -/
def tracePartsUptoCard : Claim7 := { stood := { row := tracePartsUptoRow, standIns := [], harness := (true, "1ebaf6c45a39668cd8885f972d5764a7dfe72fbe70193aed6ad9ef14ecb811db"), looks := false }, kinds := [], alts := [], laidByText := true, laidKinds := [.data, .data, .data], laidTests := true, laidLooks := .later }
def TracePartsUptoCardSaid : Prop := Claim7.holds Tryd.pinned (.plain (OpenSpec.upto tracePartsSpec)) tracePartsUptoCard
end Rows
end Go.Proofs.YtlhbekiplnmolaaDoor

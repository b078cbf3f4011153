/-
  DERIVED. GIVEN WITH THE SEED: THE CARDS: each row of YtmiinihbbpoicaaDoorRows.lean that lists a variable, with what it lists TIED to the program's text (the seventh form; the later family's looks); each row that meets fmt, with fmt's text TOLD by the authors' own Lean function (tested against real Go, not proved from fmt's source: count such statements apart). THE CARD IS WHAT COUNTS. Prove the row's statement (the work); the ties are given (YtmiinihbbpoicaaDoorTie.lean); close each card by the builder's one call (the guide's Derived/Test/ToyasCard.lean, 'card_holds'). Laid BY PROGRAM, IN A SANDBOX (cutbox-door.mjs). By AI agents, Wed Nov 11 2026. No macro, syntax, notation, axiom, sorry.
-/
import Derived.Test.YtmiinihbbpoicaaDoorRows
import GoSem.ClaimSeven
namespace Go.Proofs.YtmiinihbbpoicaaDoor
namespace Rows

/-- THE TIED CARD OF 'congresslaw03.EntryEncodes'. -/
def entryEncodesCard : Claim7 := { stood := { row := entryEncodesRow, standIns := [], harness := (true, "8a0dd1415de36c9641e4cae580f89b4d7a6fcb38db122104b571088364b00440"), looks := false }, kinds := [], alts := [], laidByText := true, laidKinds := [.data, .pinned], laidTests := true, laidLooks := .later }
def EntryEncodesCardSaid : Prop := Claim7.holds Tryd.pinned (.plain (OpenSpec.ofChange entryEncodesSpec)) entryEncodesCard

/-- THE TIED CARD OF 'congresslaw03.EntryDecodes'. -/
def entryDecodesCard : Claim7 := { stood := { row := entryDecodesRow, standIns := [], harness := (true, "8a0dd1415de36c9641e4cae580f89b4d7a6fcb38db122104b571088364b00440"), looks := false }, kinds := [], alts := [], laidByText := true, laidKinds := [.data, .pinned], laidTests := true, laidLooks := .later }
def EntryDecodesCardSaid : Prop := Claim7.holds Tryd.pinned (.plain (OpenSpec.ofChange entryDecodesSpec)) entryDecodesCard

/-- THE TIED CARD OF 'congresslaw03.EntryBack'. -/
def entryBackCard : Claim7 := { stood := { row := entryBackRow, standIns := [], harness := (true, "8a0dd1415de36c9641e4cae580f89b4d7a6fcb38db122104b571088364b00440"), looks := false }, kinds := [], alts := [], laidByText := true, laidKinds := [.data, .pinned], laidTests := true, laidLooks := .later }
def EntryBackCardSaid : Prop := Claim7.holds Tryd.pinned (.plain (OpenSpec.ofChange entryBackSpec)) entryBackCard

/-- THE TIED CARD OF 'congresslaw03.EntryOnce'. -/
def entryOnceCard : Claim7 := { stood := { row := entryOnceRow, standIns := [], harness := (true, "8a0dd1415de36c9641e4cae580f89b4d7a6fcb38db122104b571088364b00440"), looks := false }, kinds := [], alts := [], laidByText := true, laidKinds := [.data, .pinned], laidTests := true, laidLooks := .later }
def EntryOnceCardSaid : Prop := Claim7.holds Tryd.pinned (.plain (OpenSpec.ofChange entryOnceSpec)) entryOnceCard

/-- THE TIED CARD OF 'congresslaw03.EntryFields'. -/
def entryFieldsCard : Claim7 := { stood := { row := entryFieldsRow, standIns := [], harness := (true, "8a0dd1415de36c9641e4cae580f89b4d7a6fcb38db122104b571088364b00440"), looks := false }, kinds := [], alts := [], laidByText := true, laidKinds := [.data, .pinned], laidTests := true, laidLooks := .later }
def EntryFieldsCardSaid : Prop := Claim7.holds Tryd.pinned (.plain (OpenSpec.ofChange entryFieldsSpec)) entryFieldsCard

/-- THE SECOND FORM's CARD OF 'congresslaw03.EntryEncodes'. -/
def entryEncodesUptoCard : Claim7 := { stood := { row := entryEncodesUptoRow, standIns := [], harness := (true, "8a0dd1415de36c9641e4cae580f89b4d7a6fcb38db122104b571088364b00440"), looks := false }, kinds := [], alts := [], laidByText := true, laidKinds := [.data, .pinned], laidTests := true, laidLooks := .later }
def EntryEncodesUptoCardSaid : Prop := Claim7.holds Tryd.pinned (.plain (OpenSpec.upto entryEncodesSpec)) entryEncodesUptoCard

/-- THE SECOND FORM's CARD OF 'congresslaw03.EntryDecodes'. -/
def entryDecodesUptoCard : Claim7 := { stood := { row := entryDecodesUptoRow, standIns := [], harness := (true, "8a0dd1415de36c9641e4cae580f89b4d7a6fcb38db122104b571088364b00440"), looks := false }, kinds := [], alts := [], laidByText := true, laidKinds := [.data, .pinned], laidTests := true, laidLooks := .later }
def EntryDecodesUptoCardSaid : Prop := Claim7.holds Tryd.pinned (.plain (OpenSpec.upto entryDecodesSpec)) entryDecodesUptoCard

/-- THE SECOND FORM's CARD OF 'congresslaw03.EntryBack'. -/
def entryBackUptoCard : Claim7 := { stood := { row := entryBackUptoRow, standIns := [], harness := (true, "8a0dd1415de36c9641e4cae580f89b4d7a6fcb38db122104b571088364b00440"), looks := false }, kinds := [], alts := [], laidByText := true, laidKinds := [.data, .pinned], laidTests := true, laidLooks := .later }
def EntryBackUptoCardSaid : Prop := Claim7.holds Tryd.pinned (.plain (OpenSpec.upto entryBackSpec)) entryBackUptoCard

/-- THE SECOND FORM's CARD OF 'congresslaw03.EntryOnce'. -/
def entryOnceUptoCard : Claim7 := { stood := { row := entryOnceUptoRow, standIns := [], harness := (true, "8a0dd1415de36c9641e4cae580f89b4d7a6fcb38db122104b571088364b00440"), looks := false }, kinds := [], alts := [], laidByText := true, laidKinds := [.data, .pinned], laidTests := true, laidLooks := .later }
def EntryOnceUptoCardSaid : Prop := Claim7.holds Tryd.pinned (.plain (OpenSpec.upto entryOnceSpec)) entryOnceUptoCard

/-- THE SECOND FORM's CARD OF 'congresslaw03.EntryFields'. -/
def entryFieldsUptoCard : Claim7 := { stood := { row := entryFieldsUptoRow, standIns := [], harness := (true, "8a0dd1415de36c9641e4cae580f89b4d7a6fcb38db122104b571088364b00440"), looks := false }, kinds := [], alts := [], laidByText := true, laidKinds := [.data, .pinned], laidTests := true, laidLooks := .later }
def EntryFieldsUptoCardSaid : Prop := Claim7.holds Tryd.pinned (.plain (OpenSpec.upto entryFieldsSpec)) entryFieldsUptoCard
end Rows
end Go.Proofs.YtmiinihbbpoicaaDoor

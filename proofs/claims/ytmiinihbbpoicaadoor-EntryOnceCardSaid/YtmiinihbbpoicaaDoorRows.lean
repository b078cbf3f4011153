/-
  NARROWER THAN 'FOR EVERY INPUT', by the rows' own cells (each row's printed sentence says how): EntryEncodes: laid · EntryDecodes: laid · EntryBack: laid · EntryOnce: laid · EntryFields: laid.
  DERIVED. THE GIVEN ROWS OF THIS SEAT. 5 by the template 'for every input the law returns true; each argument reads behind the call as it read before'; 0 by the template 'total and deterministic' (their statements: YtmiinihbbpoicaaDoorTotals.lean).
  GIVEN WITH THE SEED: the statements are not yours to turn. If you find one false, say at which input.
  Laid BY PROGRAM, IN A SANDBOX (cutbox-rows.mjs): the forced cells as the released guide's own fill.sh prints them over the translation aa11a7280c262fb8… (all of the seat's roots in one cut). By AI agents, Wed Nov 11 2026. No macro, syntax, notation, axiom, sorry.
-/
import Derived.Test.YtmiinihbbpoicaaDoorChecked
import GoSem.PinnedTables
import GoSem.Claim
import GoSem.ClaimJoined
import GoSem.ClaimMapViews
import Derived.JoinedTies
import Derived.KernelRfl
namespace Go.Proofs.YtmiinihbbpoicaaDoor
/- THE CELL 'sum', in the pinned program and in every row, IS THE sha256 OF THE DUMP (.gsa) THAT YtmiinihbbpoicaaDoorProg.lean LOADS. Nothing in Lean hashes anything: it is a label: what it is worth is what the hold of that sum in a sandbox is worth. -/
noncomputable def Tryd.pinned : Pinned := { name := "ytmiinihbbpoicaadoor", sum := "aa11a7280c262fb86439e6ccb1a6f448cf0d91c841504923432885204e7642ef", checked := Tryd.checked }
namespace Rows
def none {H : Type} : Left H := { results := [], args := [] }

/- WHAT THE LISTED PACKAGE-LEVEL VARIABLES READ AS WHEN THE CALL BEGINS. Each datum BY PROGRAM (the guide's laid-datum.mjs) off the statement by which the dump's own 'gosem.cut.vars' lays the variable. In a bare row this is a premise. The card (YtmiinihbbpoicaaDoorCards.lean) ties it to the program's text. -/
def laid_unicode_utf8_acceptRanges {H : Type} : DataW H := .agg [.agg [.lit (.int .u8 128), .lit (.int .u8 191)], .agg [.lit (.int .u8 160), .lit (.int .u8 191)], .agg [.lit (.int .u8 128), .lit (.int .u8 159)], .agg [.lit (.int .u8 144), .lit (.int .u8 191)], .agg [.lit (.int .u8 128), .lit (.int .u8 143)], .agg [.lit (.int .u8 0), .lit (.int .u8 0)], .agg [.lit (.int .u8 0), .lit (.int .u8 0)], .agg [.lit (.int .u8 0), .lit (.int .u8 0)], .agg [.lit (.int .u8 0), .lit (.int .u8 0)], .agg [.lit (.int .u8 0), .lit (.int .u8 0)], .agg [.lit (.int .u8 0), .lit (.int .u8 0)], .agg [.lit (.int .u8 0), .lit (.int .u8 0)], .agg [.lit (.int .u8 0), .lit (.int .u8 0)], .agg [.lit (.int .u8 0), .lit (.int .u8 0)], .agg [.lit (.int .u8 0), .lit (.int .u8 0)], .agg [.lit (.int .u8 0), .lit (.int .u8 0)]]
/-- One of Go's own tables, pinned by name: the form's constant. -/
def laid_unicode_utf8_first : DataW Unit := Go.Pinned.utf8First

/-- 'congresslaw03.EntryEncodes': WHATEVER THE INPUT: true; the input reads as it did. -/
def entryEncodesSpec : ChangeSpec := { name := "entryEncodes", fn := fun _ => fun
  | [d] => { results := [.lit (.bool true)], args := [d] }
  | _ => none }
def entryEncodesRow : OpenClaim := { program := "ytmiinihbbpoicaadoor", sum := "aa11a7280c262fb86439e6ccb1a6f448cf0d91c841504923432885204e7642ef", func := "congress/congresslaw03.EntryEncodes", spec := "entryEncodes", inPlace := ["internal/abi.NoEscape", "internal/bytealg.MakeNoZero", "internal/bytealg.IndexByteString", "internal/bytealg.IndexString"], named := ["unicode/utf8.first", "unicode/utf8.acceptRanges", "internal/bytealg.MaxLen"], apart := false, laid := [("unicode/utf8.acceptRanges", laid_unicode_utf8_acceptRanges), ("unicode/utf8.first", laid_unicode_utf8_first)] }
def EntryEncodesSaid : Prop := entryEncodesRow.holds Tryd.pinned (OpenSpec.ofChange entryEncodesSpec)

/-- ITS FALSE NEIGHBOUR: 'it returns false'. Refute it at one input. -/
def entryEncodesWrong : ChangeSpec := { name := "entryEncodes", fn := fun _ => fun
  | [d] => { results := [.lit (.bool false)], args := [d] }
  | _ => none }
def EntryEncodesWrongFalsely : Prop := entryEncodesRow.holds Tryd.pinned (OpenSpec.ofChange entryEncodesWrong)

/-- 'congresslaw03.EntryDecodes': WHATEVER THE INPUT: true; the input reads as it did. -/
def entryDecodesSpec : ChangeSpec := { name := "entryDecodes", fn := fun _ => fun
  | [d] => { results := [.lit (.bool true)], args := [d] }
  | _ => none }
def entryDecodesRow : OpenClaim := { program := "ytmiinihbbpoicaadoor", sum := "aa11a7280c262fb86439e6ccb1a6f448cf0d91c841504923432885204e7642ef", func := "congress/congresslaw03.EntryDecodes", spec := "entryDecodes", inPlace := ["internal/bytealg.IndexByteString", "internal/bytealg.IndexString", "internal/abi.NoEscape", "internal/bytealg.MakeNoZero"], named := ["unicode/utf8.first", "unicode/utf8.acceptRanges", "internal/bytealg.MaxLen"], apart := false, laid := [("unicode/utf8.acceptRanges", laid_unicode_utf8_acceptRanges), ("unicode/utf8.first", laid_unicode_utf8_first)] }
def EntryDecodesSaid : Prop := entryDecodesRow.holds Tryd.pinned (OpenSpec.ofChange entryDecodesSpec)

/-- ITS FALSE NEIGHBOUR: 'it returns false'. Refute it at one input. -/
def entryDecodesWrong : ChangeSpec := { name := "entryDecodes", fn := fun _ => fun
  | [d] => { results := [.lit (.bool false)], args := [d] }
  | _ => none }
def EntryDecodesWrongFalsely : Prop := entryDecodesRow.holds Tryd.pinned (OpenSpec.ofChange entryDecodesWrong)

/-- 'congresslaw03.EntryBack': WHATEVER THE INPUT: true; the input reads as it did. -/
def entryBackSpec : ChangeSpec := { name := "entryBack", fn := fun _ => fun
  | [d1, d2] => { results := [.lit (.bool true)], args := [d1, d2] }
  | _ => none }
def entryBackRow : OpenClaim := { program := "ytmiinihbbpoicaadoor", sum := "aa11a7280c262fb86439e6ccb1a6f448cf0d91c841504923432885204e7642ef", func := "congress/congresslaw03.EntryBack", spec := "entryBack", inPlace := ["internal/abi.NoEscape", "internal/bytealg.MakeNoZero", "internal/bytealg.IndexByteString", "internal/bytealg.IndexString"], named := ["unicode/utf8.first", "unicode/utf8.acceptRanges", "internal/bytealg.MaxLen"], apart := false, laid := [("unicode/utf8.acceptRanges", laid_unicode_utf8_acceptRanges), ("unicode/utf8.first", laid_unicode_utf8_first)] }
def EntryBackSaid : Prop := entryBackRow.holds Tryd.pinned (OpenSpec.ofChange entryBackSpec)

/-- ITS FALSE NEIGHBOUR: 'it returns false'. Refute it at one input. -/
def entryBackWrong : ChangeSpec := { name := "entryBack", fn := fun _ => fun
  | [d1, d2] => { results := [.lit (.bool false)], args := [d1, d2] }
  | _ => none }
def EntryBackWrongFalsely : Prop := entryBackRow.holds Tryd.pinned (OpenSpec.ofChange entryBackWrong)

/-- 'congresslaw03.EntryOnce': WHATEVER THE INPUT: true; the input reads as it did. -/
def entryOnceSpec : ChangeSpec := { name := "entryOnce", fn := fun _ => fun
  | [d1, d2, d3] => { results := [.lit (.bool true)], args := [d1, d2, d3] }
  | _ => none }
def entryOnceRow : OpenClaim := { program := "ytmiinihbbpoicaadoor", sum := "aa11a7280c262fb86439e6ccb1a6f448cf0d91c841504923432885204e7642ef", func := "congress/congresslaw03.EntryOnce", spec := "entryOnce", inPlace := ["internal/bytealg.IndexByteString", "internal/bytealg.IndexString", "internal/abi.NoEscape", "internal/bytealg.MakeNoZero"], named := ["unicode/utf8.first", "unicode/utf8.acceptRanges", "internal/bytealg.MaxLen"], apart := false, laid := [("unicode/utf8.acceptRanges", laid_unicode_utf8_acceptRanges), ("unicode/utf8.first", laid_unicode_utf8_first)] }
def EntryOnceSaid : Prop := entryOnceRow.holds Tryd.pinned (OpenSpec.ofChange entryOnceSpec)

/-- ITS FALSE NEIGHBOUR: 'it returns false'. Refute it at one input. -/
def entryOnceWrong : ChangeSpec := { name := "entryOnce", fn := fun _ => fun
  | [d1, d2, d3] => { results := [.lit (.bool false)], args := [d1, d2, d3] }
  | _ => none }
def EntryOnceWrongFalsely : Prop := entryOnceRow.holds Tryd.pinned (OpenSpec.ofChange entryOnceWrong)

/-- 'congresslaw03.EntryFields': WHATEVER THE INPUT: true; the input reads as it did. -/
def entryFieldsSpec : ChangeSpec := { name := "entryFields", fn := fun _ => fun
  | [d1, d2, d3] => { results := [.lit (.bool true)], args := [d1, d2, d3] }
  | _ => none }
def entryFieldsRow : OpenClaim := { program := "ytmiinihbbpoicaadoor", sum := "aa11a7280c262fb86439e6ccb1a6f448cf0d91c841504923432885204e7642ef", func := "congress/congresslaw03.EntryFields", spec := "entryFields", inPlace := ["internal/abi.NoEscape", "internal/bytealg.MakeNoZero", "internal/bytealg.IndexByteString", "internal/bytealg.IndexString"], named := ["unicode/utf8.first", "unicode/utf8.acceptRanges", "internal/bytealg.MaxLen"], apart := false, laid := [("unicode/utf8.acceptRanges", laid_unicode_utf8_acceptRanges), ("unicode/utf8.first", laid_unicode_utf8_first)] }
def EntryFieldsSaid : Prop := entryFieldsRow.holds Tryd.pinned (OpenSpec.ofChange entryFieldsSpec)

/-- ITS FALSE NEIGHBOUR: 'it returns false'. Refute it at one input. -/
def entryFieldsWrong : ChangeSpec := { name := "entryFields", fn := fun _ => fun
  | [d1, d2, d3] => { results := [.lit (.bool false)], args := [d1, d2, d3] }
  | _ => none }
def EntryFieldsWrongFalsely : Prop := entryFieldsRow.holds Tryd.pinned (OpenSpec.ofChange entryFieldsWrong)

/- THE SECOND FORM. 'bulk': how many values and letters a reading holds, each counted each time it is reached (what is shared counts as often as it is met; a slice's spare places count too). A statement '..UptoSaid' is the law's where the arguments, and the package variables that the reading takes, are together of bulk at most 1048576: NARROWER than '..Said'. Prove '..Said' where nothing that the law and all that it calls make is longer than what came in: it says more and counts as full. Else prove '..UptoSaid'. A law counts once. -/
mutual
def uptoBulk {H : Type} : DataW H → Nat
  | .lit (.string bytes) => bytes.length + 1
  | .lit _ => 1
  | .nil => 1
  | .ptr d => uptoBulk d + 1
  | .slice elems spare => uptoBulkAll elems + uptoBulkAll spare + 1
  | .agg parts => uptoBulkAll parts + 1
  | .iface _ d => uptoBulk d + 1
  | .map entries => uptoBulkEntries entries + 1
  | .held _ => 1
def uptoBulkAll {H : Type} : List (DataW H) → Nat
  | [] => 0
  | d :: r => uptoBulk d + uptoBulkAll r
def uptoBulkEntries {H : Type} : List (Lit × DataW H) → Nat
  | [] => 0
  | x :: r => uptoBulkEntry x + uptoBulkEntries r
def uptoBulkEntry {H : Type} : Lit × DataW H → Nat
  | (.string bytes, d) => bytes.length + uptoBulk d + 1
  | (_, d) => uptoBulk d + 1
 end
def uptoSmall : (H : Type) → List (DataW H) → Bool := fun _ ds => decide (uptoBulkAll ds ≤ 1048576)
def OpenSpec.upto (s : _root_.Go.ChangeSpec) : _root_.Go.OpenSpec := { _root_.Go.OpenSpec.ofChange s with cond := some uptoSmall }

/-- 'congresslaw03.EntryEncodes', WHERE WHAT IT READS IS OF BULK AT MOST 1048576: true; the input reads as it did. -/
def entryEncodesUptoRow : OpenClaim := { program := "ytmiinihbbpoicaadoor", sum := "aa11a7280c262fb86439e6ccb1a6f448cf0d91c841504923432885204e7642ef", func := "congress/congresslaw03.EntryEncodes", spec := "entryEncodes", inPlace := ["internal/abi.NoEscape", "internal/bytealg.MakeNoZero", "internal/bytealg.IndexByteString", "internal/bytealg.IndexString"], named := ["unicode/utf8.first", "unicode/utf8.acceptRanges", "internal/bytealg.MaxLen"], apart := false, laid := [("unicode/utf8.acceptRanges", laid_unicode_utf8_acceptRanges), ("unicode/utf8.first", laid_unicode_utf8_first)], narrowed := true }
def EntryEncodesUptoSaid : Prop := entryEncodesUptoRow.holds Tryd.pinned (OpenSpec.upto entryEncodesSpec)

/-- 'congresslaw03.EntryDecodes', WHERE WHAT IT READS IS OF BULK AT MOST 1048576: true; the input reads as it did. -/
def entryDecodesUptoRow : OpenClaim := { program := "ytmiinihbbpoicaadoor", sum := "aa11a7280c262fb86439e6ccb1a6f448cf0d91c841504923432885204e7642ef", func := "congress/congresslaw03.EntryDecodes", spec := "entryDecodes", inPlace := ["internal/bytealg.IndexByteString", "internal/bytealg.IndexString", "internal/abi.NoEscape", "internal/bytealg.MakeNoZero"], named := ["unicode/utf8.first", "unicode/utf8.acceptRanges", "internal/bytealg.MaxLen"], apart := false, laid := [("unicode/utf8.acceptRanges", laid_unicode_utf8_acceptRanges), ("unicode/utf8.first", laid_unicode_utf8_first)], narrowed := true }
def EntryDecodesUptoSaid : Prop := entryDecodesUptoRow.holds Tryd.pinned (OpenSpec.upto entryDecodesSpec)

/-- 'congresslaw03.EntryBack', WHERE WHAT IT READS IS OF BULK AT MOST 1048576: true; the input reads as it did. -/
def entryBackUptoRow : OpenClaim := { program := "ytmiinihbbpoicaadoor", sum := "aa11a7280c262fb86439e6ccb1a6f448cf0d91c841504923432885204e7642ef", func := "congress/congresslaw03.EntryBack", spec := "entryBack", inPlace := ["internal/abi.NoEscape", "internal/bytealg.MakeNoZero", "internal/bytealg.IndexByteString", "internal/bytealg.IndexString"], named := ["unicode/utf8.first", "unicode/utf8.acceptRanges", "internal/bytealg.MaxLen"], apart := false, laid := [("unicode/utf8.acceptRanges", laid_unicode_utf8_acceptRanges), ("unicode/utf8.first", laid_unicode_utf8_first)], narrowed := true }
def EntryBackUptoSaid : Prop := entryBackUptoRow.holds Tryd.pinned (OpenSpec.upto entryBackSpec)

/-- 'congresslaw03.EntryOnce', WHERE WHAT IT READS IS OF BULK AT MOST 1048576: true; the input reads as it did. -/
def entryOnceUptoRow : OpenClaim := { program := "ytmiinihbbpoicaadoor", sum := "aa11a7280c262fb86439e6ccb1a6f448cf0d91c841504923432885204e7642ef", func := "congress/congresslaw03.EntryOnce", spec := "entryOnce", inPlace := ["internal/bytealg.IndexByteString", "internal/bytealg.IndexString", "internal/abi.NoEscape", "internal/bytealg.MakeNoZero"], named := ["unicode/utf8.first", "unicode/utf8.acceptRanges", "internal/bytealg.MaxLen"], apart := false, laid := [("unicode/utf8.acceptRanges", laid_unicode_utf8_acceptRanges), ("unicode/utf8.first", laid_unicode_utf8_first)], narrowed := true }
def EntryOnceUptoSaid : Prop := entryOnceUptoRow.holds Tryd.pinned (OpenSpec.upto entryOnceSpec)

/-- 'congresslaw03.EntryFields', WHERE WHAT IT READS IS OF BULK AT MOST 1048576: true; the input reads as it did. -/
def entryFieldsUptoRow : OpenClaim := { program := "ytmiinihbbpoicaadoor", sum := "aa11a7280c262fb86439e6ccb1a6f448cf0d91c841504923432885204e7642ef", func := "congress/congresslaw03.EntryFields", spec := "entryFields", inPlace := ["internal/abi.NoEscape", "internal/bytealg.MakeNoZero", "internal/bytealg.IndexByteString", "internal/bytealg.IndexString"], named := ["unicode/utf8.first", "unicode/utf8.acceptRanges", "internal/bytealg.MaxLen"], apart := false, laid := [("unicode/utf8.acceptRanges", laid_unicode_utf8_acceptRanges), ("unicode/utf8.first", laid_unicode_utf8_first)], narrowed := true }
def EntryFieldsUptoSaid : Prop := entryFieldsUptoRow.holds Tryd.pinned (OpenSpec.upto entryFieldsSpec)

end Rows
end Go.Proofs.YtmiinihbbpoicaaDoor

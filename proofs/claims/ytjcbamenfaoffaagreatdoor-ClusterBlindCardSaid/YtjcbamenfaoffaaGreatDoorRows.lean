/-
  NARROWER THAN 'FOR EVERY INPUT', by the rows' own cells (each row's printed sentence says how): ClusterViews: laid · ClusterSends: laid · ClusterSame: laid · ClusterSafe: laid · ClusterSteps: laid · ClusterBlind: laid · ClusterLives: laid.
  DERIVED. THE GIVEN ROWS OF THIS SEAT. 7 by the template 'for every input the law returns true; each argument reads behind the call as it read before'; 0 by the template 'total and deterministic' (their statements: YtjcbamenfaoffaaGreatDoorTotals.lean).
  GIVEN WITH THE SEED: the statements are not yours to turn. If you find one false, say at which input.
  Laid BY PROGRAM, IN A SANDBOX (cutbox-rows.mjs): the forced cells as the released guide's own fill.sh prints them over the translation 78c22aaafc13c7cf… (all of the seat's roots in one cut). By AI agents, Wed Nov 11 2026. No macro, syntax, notation, axiom, sorry.
-/
import Derived.Test.YtjcbamenfaoffaaGreatDoorChecked
import GoSem.PinnedTables
import GoSem.Claim
import GoSem.ClaimJoined
import GoSem.ClaimMapViews
import Derived.JoinedTies
import Derived.KernelRfl
namespace Go.Proofs.YtjcbamenfaoffaaGreatDoor
/- THE CELL 'sum', in the pinned program and in every row, IS THE sha256 OF THE DUMP (.gsa) THAT YtjcbamenfaoffaaGreatDoorProg.lean LOADS. Nothing in Lean hashes anything: it is a label: what it is worth is what the hold of that sum in a sandbox is worth. -/
noncomputable def Tryz.pinned : Pinned := { name := "ytjcbamenfaoffaagreatdoor", sum := "78c22aaafc13c7cf3d883229f9ed59868a8d8365544b3eeb2e7e3cb31ac9897c", checked := Tryz.checked }
namespace Rows
def none {H : Type} : Left H := { results := [], args := [] }

/- WHAT THE LISTED PACKAGE-LEVEL VARIABLES READ AS WHEN THE CALL BEGINS. Each datum BY PROGRAM (the guide's laid-datum.mjs) off the statement by which the dump's own 'gosem.cut.vars' lays the variable. In a bare row this is a premise. The card (YtjcbamenfaoffaaGreatDoorCards.lean) ties it to the program's text. -/
def laid_unicode_utf8_acceptRanges {H : Type} : DataW H := .agg [.agg [.lit (.int .u8 128), .lit (.int .u8 191)], .agg [.lit (.int .u8 160), .lit (.int .u8 191)], .agg [.lit (.int .u8 128), .lit (.int .u8 159)], .agg [.lit (.int .u8 144), .lit (.int .u8 191)], .agg [.lit (.int .u8 128), .lit (.int .u8 143)], .agg [.lit (.int .u8 0), .lit (.int .u8 0)], .agg [.lit (.int .u8 0), .lit (.int .u8 0)], .agg [.lit (.int .u8 0), .lit (.int .u8 0)], .agg [.lit (.int .u8 0), .lit (.int .u8 0)], .agg [.lit (.int .u8 0), .lit (.int .u8 0)], .agg [.lit (.int .u8 0), .lit (.int .u8 0)], .agg [.lit (.int .u8 0), .lit (.int .u8 0)], .agg [.lit (.int .u8 0), .lit (.int .u8 0)], .agg [.lit (.int .u8 0), .lit (.int .u8 0)], .agg [.lit (.int .u8 0), .lit (.int .u8 0)], .agg [.lit (.int .u8 0), .lit (.int .u8 0)]]
/-- One of Go's own tables, pinned by name: the form's constant. -/
def laid_unicode_utf8_first : DataW Unit := Go.Pinned.utf8First

/-- 'congresslaw15.ClusterViews': WHATEVER THE INPUT: true; the input reads as it did. -/
def clusterViewsSpec : ChangeSpec := { name := "clusterViews", fn := fun _ => fun
  | [d] => { results := [.lit (.bool true)], args := [d] }
  | _ => none }
def clusterViewsRow : OpenClaim := { program := "ytjcbamenfaoffaagreatdoor", sum := "78c22aaafc13c7cf3d883229f9ed59868a8d8365544b3eeb2e7e3cb31ac9897c", func := "congress/congresslaw15.ClusterViews", spec := "clusterViews", inPlace := ["internal/abi.NoEscape", "internal/bytealg.MakeNoZero", "internal/bytealg.IndexByteString", "internal/bytealg.IndexString"], unfollowed := true, recurses := true, named := ["unicode/utf8.first", "unicode/utf8.acceptRanges", "internal/bytealg.MaxLen"], apart := false, laid := [("unicode/utf8.acceptRanges", laid_unicode_utf8_acceptRanges), ("unicode/utf8.first", laid_unicode_utf8_first)] }
def ClusterViewsSaid : Prop := clusterViewsRow.holds Tryz.pinned (OpenSpec.ofChange clusterViewsSpec)

/-- ITS FALSE NEIGHBOUR: 'it returns false'. Refute it at one input. -/
def clusterViewsWrong : ChangeSpec := { name := "clusterViews", fn := fun _ => fun
  | [d] => { results := [.lit (.bool false)], args := [d] }
  | _ => none }
def ClusterViewsWrongFalsely : Prop := clusterViewsRow.holds Tryz.pinned (OpenSpec.ofChange clusterViewsWrong)

/-- 'congresslaw15.ClusterSends': WHATEVER THE INPUT: true; the input reads as it did. -/
def clusterSendsSpec : ChangeSpec := { name := "clusterSends", fn := fun _ => fun
  | [d] => { results := [.lit (.bool true)], args := [d] }
  | _ => none }
def clusterSendsRow : OpenClaim := { program := "ytjcbamenfaoffaagreatdoor", sum := "78c22aaafc13c7cf3d883229f9ed59868a8d8365544b3eeb2e7e3cb31ac9897c", func := "congress/congresslaw15.ClusterSends", spec := "clusterSends", inPlace := ["internal/abi.NoEscape", "internal/bytealg.MakeNoZero", "internal/bytealg.IndexByteString", "internal/bytealg.IndexString"], unfollowed := true, recurses := true, named := ["unicode/utf8.first", "unicode/utf8.acceptRanges", "internal/bytealg.MaxLen"], apart := false, laid := [("unicode/utf8.acceptRanges", laid_unicode_utf8_acceptRanges), ("unicode/utf8.first", laid_unicode_utf8_first)] }
def ClusterSendsSaid : Prop := clusterSendsRow.holds Tryz.pinned (OpenSpec.ofChange clusterSendsSpec)

/-- ITS FALSE NEIGHBOUR: 'it returns false'. Refute it at one input. -/
def clusterSendsWrong : ChangeSpec := { name := "clusterSends", fn := fun _ => fun
  | [d] => { results := [.lit (.bool false)], args := [d] }
  | _ => none }
def ClusterSendsWrongFalsely : Prop := clusterSendsRow.holds Tryz.pinned (OpenSpec.ofChange clusterSendsWrong)

/-- 'congresslaw15.ClusterSame': WHATEVER THE INPUT: true; the input reads as it did. -/
def clusterSameSpec : ChangeSpec := { name := "clusterSame", fn := fun _ => fun
  | [d] => { results := [.lit (.bool true)], args := [d] }
  | _ => none }
def clusterSameRow : OpenClaim := { program := "ytjcbamenfaoffaagreatdoor", sum := "78c22aaafc13c7cf3d883229f9ed59868a8d8365544b3eeb2e7e3cb31ac9897c", func := "congress/congresslaw15.ClusterSame", spec := "clusterSame", inPlace := ["internal/abi.NoEscape", "internal/bytealg.MakeNoZero", "internal/bytealg.IndexByteString", "internal/bytealg.IndexString"], unfollowed := true, recurses := true, named := ["unicode/utf8.first", "unicode/utf8.acceptRanges", "internal/bytealg.MaxLen"], apart := false, laid := [("unicode/utf8.acceptRanges", laid_unicode_utf8_acceptRanges), ("unicode/utf8.first", laid_unicode_utf8_first)] }
def ClusterSameSaid : Prop := clusterSameRow.holds Tryz.pinned (OpenSpec.ofChange clusterSameSpec)

/-- ITS FALSE NEIGHBOUR: 'it returns false'. Refute it at one input. -/
def clusterSameWrong : ChangeSpec := { name := "clusterSame", fn := fun _ => fun
  | [d] => { results := [.lit (.bool false)], args := [d] }
  | _ => none }
def ClusterSameWrongFalsely : Prop := clusterSameRow.holds Tryz.pinned (OpenSpec.ofChange clusterSameWrong)

/-- 'congresslaw15.ClusterSafe': WHATEVER THE INPUT: true; the input reads as it did. -/
def clusterSafeSpec : ChangeSpec := { name := "clusterSafe", fn := fun _ => fun
  | [d] => { results := [.lit (.bool true)], args := [d] }
  | _ => none }
def clusterSafeRow : OpenClaim := { program := "ytjcbamenfaoffaagreatdoor", sum := "78c22aaafc13c7cf3d883229f9ed59868a8d8365544b3eeb2e7e3cb31ac9897c", func := "congress/congresslaw15.ClusterSafe", spec := "clusterSafe", inPlace := ["internal/abi.NoEscape", "internal/bytealg.MakeNoZero", "internal/bytealg.IndexByteString", "internal/bytealg.IndexString"], unfollowed := true, recurses := true, named := ["unicode/utf8.first", "unicode/utf8.acceptRanges", "internal/bytealg.MaxLen"], apart := false, laid := [("unicode/utf8.acceptRanges", laid_unicode_utf8_acceptRanges), ("unicode/utf8.first", laid_unicode_utf8_first)] }
def ClusterSafeSaid : Prop := clusterSafeRow.holds Tryz.pinned (OpenSpec.ofChange clusterSafeSpec)

/-- ITS FALSE NEIGHBOUR: 'it returns false'. Refute it at one input. -/
def clusterSafeWrong : ChangeSpec := { name := "clusterSafe", fn := fun _ => fun
  | [d] => { results := [.lit (.bool false)], args := [d] }
  | _ => none }
def ClusterSafeWrongFalsely : Prop := clusterSafeRow.holds Tryz.pinned (OpenSpec.ofChange clusterSafeWrong)

/-- 'congresslaw15.ClusterSteps': WHATEVER THE INPUT: true; the input reads as it did. -/
def clusterStepsSpec : ChangeSpec := { name := "clusterSteps", fn := fun _ => fun
  | [d] => { results := [.lit (.bool true)], args := [d] }
  | _ => none }
def clusterStepsRow : OpenClaim := { program := "ytjcbamenfaoffaagreatdoor", sum := "78c22aaafc13c7cf3d883229f9ed59868a8d8365544b3eeb2e7e3cb31ac9897c", func := "congress/congresslaw15.ClusterSteps", spec := "clusterSteps", inPlace := ["internal/abi.NoEscape", "internal/bytealg.MakeNoZero", "internal/bytealg.IndexByteString", "internal/bytealg.IndexString"], unfollowed := true, recurses := true, named := ["unicode/utf8.first", "unicode/utf8.acceptRanges", "internal/bytealg.MaxLen"], apart := false, laid := [("unicode/utf8.acceptRanges", laid_unicode_utf8_acceptRanges), ("unicode/utf8.first", laid_unicode_utf8_first)] }
def ClusterStepsSaid : Prop := clusterStepsRow.holds Tryz.pinned (OpenSpec.ofChange clusterStepsSpec)

/-- ITS FALSE NEIGHBOUR: 'it returns false'. Refute it at one input. -/
def clusterStepsWrong : ChangeSpec := { name := "clusterSteps", fn := fun _ => fun
  | [d] => { results := [.lit (.bool false)], args := [d] }
  | _ => none }
def ClusterStepsWrongFalsely : Prop := clusterStepsRow.holds Tryz.pinned (OpenSpec.ofChange clusterStepsWrong)

/-- 'congresslaw15.ClusterBlind': WHATEVER THE INPUT: true; the input reads as it did. -/
def clusterBlindSpec : ChangeSpec := { name := "clusterBlind", fn := fun _ => fun
  | [d1, d2] => { results := [.lit (.bool true)], args := [d1, d2] }
  | _ => none }
def clusterBlindRow : OpenClaim := { program := "ytjcbamenfaoffaagreatdoor", sum := "78c22aaafc13c7cf3d883229f9ed59868a8d8365544b3eeb2e7e3cb31ac9897c", func := "congress/congresslaw15.ClusterBlind", spec := "clusterBlind", inPlace := ["internal/abi.NoEscape", "internal/bytealg.MakeNoZero", "internal/bytealg.IndexByteString", "internal/bytealg.IndexString"], unfollowed := true, recurses := true, named := ["unicode/utf8.first", "unicode/utf8.acceptRanges", "internal/bytealg.MaxLen"], apart := false, laid := [("unicode/utf8.acceptRanges", laid_unicode_utf8_acceptRanges), ("unicode/utf8.first", laid_unicode_utf8_first)] }
def ClusterBlindSaid : Prop := clusterBlindRow.holds Tryz.pinned (OpenSpec.ofChange clusterBlindSpec)

/-- ITS FALSE NEIGHBOUR: 'it returns false'. Refute it at one input. -/
def clusterBlindWrong : ChangeSpec := { name := "clusterBlind", fn := fun _ => fun
  | [d1, d2] => { results := [.lit (.bool false)], args := [d1, d2] }
  | _ => none }
def ClusterBlindWrongFalsely : Prop := clusterBlindRow.holds Tryz.pinned (OpenSpec.ofChange clusterBlindWrong)

/-- 'congresslaw15.ClusterLives': WHATEVER THE INPUT: true; the input reads as it did. -/
def clusterLivesSpec : ChangeSpec := { name := "clusterLives", fn := fun _ => fun
  | [d] => { results := [.lit (.bool true)], args := [d] }
  | _ => none }
def clusterLivesRow : OpenClaim := { program := "ytjcbamenfaoffaagreatdoor", sum := "78c22aaafc13c7cf3d883229f9ed59868a8d8365544b3eeb2e7e3cb31ac9897c", func := "congress/congresslaw15.ClusterLives", spec := "clusterLives", inPlace := ["internal/abi.NoEscape", "internal/bytealg.MakeNoZero", "internal/bytealg.IndexByteString", "internal/bytealg.IndexString"], unfollowed := true, recurses := true, named := ["unicode/utf8.first", "unicode/utf8.acceptRanges", "internal/bytealg.MaxLen"], apart := false, laid := [("unicode/utf8.acceptRanges", laid_unicode_utf8_acceptRanges), ("unicode/utf8.first", laid_unicode_utf8_first)] }
def ClusterLivesSaid : Prop := clusterLivesRow.holds Tryz.pinned (OpenSpec.ofChange clusterLivesSpec)

/-- ITS FALSE NEIGHBOUR: 'it returns false'. Refute it at one input. -/
def clusterLivesWrong : ChangeSpec := { name := "clusterLives", fn := fun _ => fun
  | [d] => { results := [.lit (.bool false)], args := [d] }
  | _ => none }
def ClusterLivesWrongFalsely : Prop := clusterLivesRow.holds Tryz.pinned (OpenSpec.ofChange clusterLivesWrong)

/- THE SECOND FORM. 'bulk': how many values and letters a reading holds, each counted each time it is reached (what is shared counts as often as it is met; a slice's spare places count too). A statement '..UptoSaid' is the law's where the arguments, and the package variables that the reading takes, are together of bulk at most 1048576: NARROWER than '..Said'. Prove '..Said' where nothing that the law and all that it calls make is longer than what came in: it says more and counts as full. Else prove '..UptoSaid'. A law counts once. -/
mutual
def uptoBulk {H : Type} : DataW H → Nat
  | .lit (.string bytes) => bytes.length + 1
  | .lit _ => 1
  | .nil => 1
  | .ptr d => uptoBulk d + 1
  | .slice elems spare => uptoBulkAll elems + uptoBulkAll spare + 1
  | .agg parts => uptoBulkAll parts + 1
  | .iface _ d => uptoBulk d + 1
  | .map entries => uptoBulkEntries entries + 1
  | .held _ => 1
def uptoBulkAll {H : Type} : List (DataW H) → Nat
  | [] => 0
  | d :: r => uptoBulk d + uptoBulkAll r
def uptoBulkEntries {H : Type} : List (Lit × DataW H) → Nat
  | [] => 0
  | x :: r => uptoBulkEntry x + uptoBulkEntries r
def uptoBulkEntry {H : Type} : Lit × DataW H → Nat
  | (.string bytes, d) => bytes.length + uptoBulk d + 1
  | (_, d) => uptoBulk d + 1
 end
def uptoSmall : (H : Type) → List (DataW H) → Bool := fun _ ds => decide (uptoBulkAll ds ≤ 1048576)
def OpenSpec.upto (s : _root_.Go.ChangeSpec) : _root_.Go.OpenSpec := { _root_.Go.OpenSpec.ofChange s with cond := some uptoSmall }

/-- 'congresslaw15.ClusterViews', WHERE WHAT IT READS IS OF BULK AT MOST 1048576: true; the input reads as it did. -/
def clusterViewsUptoRow : OpenClaim := { program := "ytjcbamenfaoffaagreatdoor", sum := "78c22aaafc13c7cf3d883229f9ed59868a8d8365544b3eeb2e7e3cb31ac9897c", func := "congress/congresslaw15.ClusterViews", spec := "clusterViews", inPlace := ["internal/abi.NoEscape", "internal/bytealg.MakeNoZero", "internal/bytealg.IndexByteString", "internal/bytealg.IndexString"], unfollowed := true, recurses := true, named := ["unicode/utf8.first", "unicode/utf8.acceptRanges", "internal/bytealg.MaxLen"], apart := false, laid := [("unicode/utf8.acceptRanges", laid_unicode_utf8_acceptRanges), ("unicode/utf8.first", laid_unicode_utf8_first)], narrowed := true }
def ClusterViewsUptoSaid : Prop := clusterViewsUptoRow.holds Tryz.pinned (OpenSpec.upto clusterViewsSpec)

/-- 'congresslaw15.ClusterSends', WHERE WHAT IT READS IS OF BULK AT MOST 1048576: true; the input reads as it did. -/
def clusterSendsUptoRow : OpenClaim := { program := "ytjcbamenfaoffaagreatdoor", sum := "78c22aaafc13c7cf3d883229f9ed59868a8d8365544b3eeb2e7e3cb31ac9897c", func := "congress/congresslaw15.ClusterSends", spec := "clusterSends", inPlace := ["internal/abi.NoEscape", "internal/bytealg.MakeNoZero", "internal/bytealg.IndexByteString", "internal/bytealg.IndexString"], unfollowed := true, recurses := true, named := ["unicode/utf8.first", "unicode/utf8.acceptRanges", "internal/bytealg.MaxLen"], apart := false, laid := [("unicode/utf8.acceptRanges", laid_unicode_utf8_acceptRanges), ("unicode/utf8.first", laid_unicode_utf8_first)], narrowed := true }
def ClusterSendsUptoSaid : Prop := clusterSendsUptoRow.holds Tryz.pinned (OpenSpec.upto clusterSendsSpec)

/-- 'congresslaw15.ClusterSame', WHERE WHAT IT READS IS OF BULK AT MOST 1048576: true; the input reads as it did. -/
def clusterSameUptoRow : OpenClaim := { program := "ytjcbamenfaoffaagreatdoor", sum := "78c22aaafc13c7cf3d883229f9ed59868a8d8365544b3eeb2e7e3cb31ac9897c", func := "congress/congresslaw15.ClusterSame", spec := "clusterSame", inPlace := ["internal/abi.NoEscape", "internal/bytealg.MakeNoZero", "internal/bytealg.IndexByteString", "internal/bytealg.IndexString"], unfollowed := true, recurses := true, named := ["unicode/utf8.first", "unicode/utf8.acceptRanges", "internal/bytealg.MaxLen"], apart := false, laid := [("unicode/utf8.acceptRanges", laid_unicode_utf8_acceptRanges), ("unicode/utf8.first", laid_unicode_utf8_first)], narrowed := true }
def ClusterSameUptoSaid : Prop := clusterSameUptoRow.holds Tryz.pinned (OpenSpec.upto clusterSameSpec)

/-- 'congresslaw15.ClusterSafe', WHERE WHAT IT READS IS OF BULK AT MOST 1048576: true; the input reads as it did. -/
def clusterSafeUptoRow : OpenClaim := { program := "ytjcbamenfaoffaagreatdoor", sum := "78c22aaafc13c7cf3d883229f9ed59868a8d8365544b3eeb2e7e3cb31ac9897c", func := "congress/congresslaw15.ClusterSafe", spec := "clusterSafe", inPlace := ["internal/abi.NoEscape", "internal/bytealg.MakeNoZero", "internal/bytealg.IndexByteString", "internal/bytealg.IndexString"], unfollowed := true, recurses := true, named := ["unicode/utf8.first", "unicode/utf8.acceptRanges", "internal/bytealg.MaxLen"], apart := false, laid := [("unicode/utf8.acceptRanges", laid_unicode_utf8_acceptRanges), ("unicode/utf8.first", laid_unicode_utf8_first)], narrowed := true }
def ClusterSafeUptoSaid : Prop := clusterSafeUptoRow.holds Tryz.pinned (OpenSpec.upto clusterSafeSpec)

/-- 'congresslaw15.ClusterSteps', WHERE WHAT IT READS IS OF BULK AT MOST 1048576: true; the input reads as it did. -/
def clusterStepsUptoRow : OpenClaim := { program := "ytjcbamenfaoffaagreatdoor", sum := "78c22aaafc13c7cf3d883229f9ed59868a8d8365544b3eeb2e7e3cb31ac9897c", func := "congress/congresslaw15.ClusterSteps", spec := "clusterSteps", inPlace := ["internal/abi.NoEscape", "internal/bytealg.MakeNoZero", "internal/bytealg.IndexByteString", "internal/bytealg.IndexString"], unfollowed := true, recurses := true, named := ["unicode/utf8.first", "unicode/utf8.acceptRanges", "internal/bytealg.MaxLen"], apart := false, laid := [("unicode/utf8.acceptRanges", laid_unicode_utf8_acceptRanges), ("unicode/utf8.first", laid_unicode_utf8_first)], narrowed := true }
def ClusterStepsUptoSaid : Prop := clusterStepsUptoRow.holds Tryz.pinned (OpenSpec.upto clusterStepsSpec)

/-- 'congresslaw15.ClusterBlind', WHERE WHAT IT READS IS OF BULK AT MOST 1048576: true; the input reads as it did. -/
def clusterBlindUptoRow : OpenClaim := { program := "ytjcbamenfaoffaagreatdoor", sum := "78c22aaafc13c7cf3d883229f9ed59868a8d8365544b3eeb2e7e3cb31ac9897c", func := "congress/congresslaw15.ClusterBlind", spec := "clusterBlind", inPlace := ["internal/abi.NoEscape", "internal/bytealg.MakeNoZero", "internal/bytealg.IndexByteString", "internal/bytealg.IndexString"], unfollowed := true, recurses := true, named := ["unicode/utf8.first", "unicode/utf8.acceptRanges", "internal/bytealg.MaxLen"], apart := false, laid := [("unicode/utf8.acceptRanges", laid_unicode_utf8_acceptRanges), ("unicode/utf8.first", laid_unicode_utf8_first)], narrowed := true }
def ClusterBlindUptoSaid : Prop := clusterBlindUptoRow.holds Tryz.pinned (OpenSpec.upto clusterBlindSpec)

/-- 'congresslaw15.ClusterLives', WHERE WHAT IT READS IS OF BULK AT MOST 1048576: true; the input reads as it did. -/
def clusterLivesUptoRow : OpenClaim := { program := "ytjcbamenfaoffaagreatdoor", sum := "78c22aaafc13c7cf3d883229f9ed59868a8d8365544b3eeb2e7e3cb31ac9897c", func := "congress/congresslaw15.ClusterLives", spec := "clusterLives", inPlace := ["internal/abi.NoEscape", "internal/bytealg.MakeNoZero", "internal/bytealg.IndexByteString", "internal/bytealg.IndexString"], unfollowed := true, recurses := true, named := ["unicode/utf8.first", "unicode/utf8.acceptRanges", "internal/bytealg.MaxLen"], apart := false, laid := [("unicode/utf8.acceptRanges", laid_unicode_utf8_acceptRanges), ("unicode/utf8.first", laid_unicode_utf8_first)], narrowed := true }
def ClusterLivesUptoSaid : Prop := clusterLivesUptoRow.holds Tryz.pinned (OpenSpec.upto clusterLivesSpec)

end Rows
end Go.Proofs.YtjcbamenfaoffaaGreatDoor

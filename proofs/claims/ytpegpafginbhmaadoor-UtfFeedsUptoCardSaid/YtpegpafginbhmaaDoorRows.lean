/-
  NARROWER THAN 'FOR EVERY INPUT', by the rows' own cells (each row's printed sentence says how): UtfAscii: laid · UtfRunes: laid · UtfBack: laid · UtfFeeds: laid · UtfPieces: laid · UtfKnown: laid.
  DERIVED. THE GIVEN ROWS OF THIS SEAT. 6 by the template 'for every input the law returns true; each argument reads behind the call as it read before'; 0 by the template 'total and deterministic' (their statements: YtpegpafginbhmaaDoorTotals.lean).
  GIVEN WITH THE SEED: the statements are not yours to turn. If you find one false, say at which input.
  Laid BY PROGRAM, IN A SANDBOX (cutbox-rows.mjs): the forced cells as the released guide's own fill.sh prints them over the translation 2de18faf90122d0c… (all of the seat's roots in one cut). By AI agents, Wed Nov 11 2026. No macro, syntax, notation, axiom, sorry.
-/
import Derived.Test.YtpegpafginbhmaaDoorChecked
import GoSem.PinnedTables
import GoSem.Claim
import GoSem.ClaimJoined
import GoSem.ClaimMapViews
import Derived.JoinedTies
import Derived.KernelRfl
namespace Go.Proofs.YtpegpafginbhmaaDoor
/- THE CELL 'sum', in the pinned program and in every row, IS THE sha256 OF THE DUMP (.gsa) THAT YtpegpafginbhmaaDoorProg.lean LOADS. Nothing in Lean hashes anything: it is a label: what it is worth is what the hold of that sum in a sandbox is worth. -/
noncomputable def Tryd.pinned : Pinned := { name := "ytpegpafginbhmaadoor", sum := "2de18faf90122d0cfd04ddc9faabf9548b1ab8c6cf8ae10236eeea2fd5038ae8", checked := Tryd.checked }
namespace Rows
def none {H : Type} : Left H := { results := [], args := [] }

/- WHAT THE LISTED PACKAGE-LEVEL VARIABLES READ AS WHEN THE CALL BEGINS. Each datum BY PROGRAM (the guide's laid-datum.mjs) off the statement by which the dump's own 'gosem.cut.vars' lays the variable. In a bare row this is a premise. The card (YtpegpafginbhmaaDoorCards.lean) ties it to the program's text. -/
def laid_unicode_utf8_acceptRanges {H : Type} : DataW H := .agg [.agg [.lit (.int .u8 128), .lit (.int .u8 191)], .agg [.lit (.int .u8 160), .lit (.int .u8 191)], .agg [.lit (.int .u8 128), .lit (.int .u8 159)], .agg [.lit (.int .u8 144), .lit (.int .u8 191)], .agg [.lit (.int .u8 128), .lit (.int .u8 143)], .agg [.lit (.int .u8 0), .lit (.int .u8 0)], .agg [.lit (.int .u8 0), .lit (.int .u8 0)], .agg [.lit (.int .u8 0), .lit (.int .u8 0)], .agg [.lit (.int .u8 0), .lit (.int .u8 0)], .agg [.lit (.int .u8 0), .lit (.int .u8 0)], .agg [.lit (.int .u8 0), .lit (.int .u8 0)], .agg [.lit (.int .u8 0), .lit (.int .u8 0)], .agg [.lit (.int .u8 0), .lit (.int .u8 0)], .agg [.lit (.int .u8 0), .lit (.int .u8 0)], .agg [.lit (.int .u8 0), .lit (.int .u8 0)], .agg [.lit (.int .u8 0), .lit (.int .u8 0)]]
/-- One of Go's own tables, pinned by name: the form's constant. -/
def laid_unicode_utf8_first : DataW Unit := Go.Pinned.utf8First

/-- 'portholelaw19.UtfAscii': WHATEVER THE INPUT: true; the input reads as it did. -/
def utfAsciiSpec : ChangeSpec := { name := "utfAscii", fn := fun _ => fun
  | [d] => { results := [.lit (.bool true)], args := [d] }
  | _ => none }
def utfAsciiRow : OpenClaim := { program := "ytpegpafginbhmaadoor", sum := "2de18faf90122d0cfd04ddc9faabf9548b1ab8c6cf8ae10236eeea2fd5038ae8", func := "porthole/portholelaw19.UtfAscii", spec := "utfAscii", named := ["unicode/utf8.first", "unicode/utf8.acceptRanges"], apart := false, laid := [("unicode/utf8.acceptRanges", laid_unicode_utf8_acceptRanges), ("unicode/utf8.first", laid_unicode_utf8_first)] }
def UtfAsciiSaid : Prop := utfAsciiRow.holds Tryd.pinned (OpenSpec.ofChange utfAsciiSpec)

/-- ITS FALSE NEIGHBOUR: 'it returns false'. Refute it at one input. -/
def utfAsciiWrong : ChangeSpec := { name := "utfAscii", fn := fun _ => fun
  | [d] => { results := [.lit (.bool false)], args := [d] }
  | _ => none }
def UtfAsciiWrongFalsely : Prop := utfAsciiRow.holds Tryd.pinned (OpenSpec.ofChange utfAsciiWrong)

/-- 'portholelaw19.UtfRunes': WHATEVER THE INPUT: true; the input reads as it did. -/
def utfRunesSpec : ChangeSpec := { name := "utfRunes", fn := fun _ => fun
  | [d1, d2, d3, d4, d5] => { results := [.lit (.bool true)], args := [d1, d2, d3, d4, d5] }
  | _ => none }
def utfRunesRow : OpenClaim := { program := "ytpegpafginbhmaadoor", sum := "2de18faf90122d0cfd04ddc9faabf9548b1ab8c6cf8ae10236eeea2fd5038ae8", func := "porthole/portholelaw19.UtfRunes", spec := "utfRunes", named := ["unicode/utf8.first", "unicode/utf8.acceptRanges"], apart := false, laid := [("unicode/utf8.acceptRanges", laid_unicode_utf8_acceptRanges), ("unicode/utf8.first", laid_unicode_utf8_first)] }
def UtfRunesSaid : Prop := utfRunesRow.holds Tryd.pinned (OpenSpec.ofChange utfRunesSpec)

/-- ITS FALSE NEIGHBOUR: 'it returns false'. Refute it at one input. -/
def utfRunesWrong : ChangeSpec := { name := "utfRunes", fn := fun _ => fun
  | [d1, d2, d3, d4, d5] => { results := [.lit (.bool false)], args := [d1, d2, d3, d4, d5] }
  | _ => none }
def UtfRunesWrongFalsely : Prop := utfRunesRow.holds Tryd.pinned (OpenSpec.ofChange utfRunesWrong)

/-- 'portholelaw19.UtfBack': WHATEVER THE INPUT: true; the input reads as it did. -/
def utfBackSpec : ChangeSpec := { name := "utfBack", fn := fun _ => fun
  | [d] => { results := [.lit (.bool true)], args := [d] }
  | _ => none }
def utfBackRow : OpenClaim := { program := "ytpegpafginbhmaadoor", sum := "2de18faf90122d0cfd04ddc9faabf9548b1ab8c6cf8ae10236eeea2fd5038ae8", func := "porthole/portholelaw19.UtfBack", spec := "utfBack", named := ["unicode/utf8.first", "unicode/utf8.acceptRanges"], apart := false, laid := [("unicode/utf8.acceptRanges", laid_unicode_utf8_acceptRanges), ("unicode/utf8.first", laid_unicode_utf8_first)] }
def UtfBackSaid : Prop := utfBackRow.holds Tryd.pinned (OpenSpec.ofChange utfBackSpec)

/-- ITS FALSE NEIGHBOUR: 'it returns false'. Refute it at one input. -/
def utfBackWrong : ChangeSpec := { name := "utfBack", fn := fun _ => fun
  | [d] => { results := [.lit (.bool false)], args := [d] }
  | _ => none }
def UtfBackWrongFalsely : Prop := utfBackRow.holds Tryd.pinned (OpenSpec.ofChange utfBackWrong)

/-- 'portholelaw19.UtfFeeds': WHATEVER THE INPUT: true; the input reads as it did. -/
def utfFeedsSpec : ChangeSpec := { name := "utfFeeds", fn := fun _ => fun
  | [d1, d2, d3, d4, d5] => { results := [.lit (.bool true)], args := [d1, d2, d3, d4, d5] }
  | _ => none }
def utfFeedsRow : OpenClaim := { program := "ytpegpafginbhmaadoor", sum := "2de18faf90122d0cfd04ddc9faabf9548b1ab8c6cf8ae10236eeea2fd5038ae8", func := "porthole/portholelaw19.UtfFeeds", spec := "utfFeeds", named := ["unicode/utf8.first", "unicode/utf8.acceptRanges"], apart := false, laid := [("unicode/utf8.acceptRanges", laid_unicode_utf8_acceptRanges), ("unicode/utf8.first", laid_unicode_utf8_first)] }
def UtfFeedsSaid : Prop := utfFeedsRow.holds Tryd.pinned (OpenSpec.ofChange utfFeedsSpec)

/-- ITS FALSE NEIGHBOUR: 'it returns false'. Refute it at one input. -/
def utfFeedsWrong : ChangeSpec := { name := "utfFeeds", fn := fun _ => fun
  | [d1, d2, d3, d4, d5] => { results := [.lit (.bool false)], args := [d1, d2, d3, d4, d5] }
  | _ => none }
def UtfFeedsWrongFalsely : Prop := utfFeedsRow.holds Tryd.pinned (OpenSpec.ofChange utfFeedsWrong)

/-- 'portholelaw19.UtfPieces': WHATEVER THE INPUT: true; the input reads as it did. -/
def utfPiecesSpec : ChangeSpec := { name := "utfPieces", fn := fun _ => fun
  | [d1, d2, d3, d4] => { results := [.lit (.bool true)], args := [d1, d2, d3, d4] }
  | _ => none }
def utfPiecesRow : OpenClaim := { program := "ytpegpafginbhmaadoor", sum := "2de18faf90122d0cfd04ddc9faabf9548b1ab8c6cf8ae10236eeea2fd5038ae8", func := "porthole/portholelaw19.UtfPieces", spec := "utfPieces", named := ["unicode/utf8.first", "unicode/utf8.acceptRanges"], apart := false, laid := [("unicode/utf8.acceptRanges", laid_unicode_utf8_acceptRanges), ("unicode/utf8.first", laid_unicode_utf8_first)] }
def UtfPiecesSaid : Prop := utfPiecesRow.holds Tryd.pinned (OpenSpec.ofChange utfPiecesSpec)

/-- ITS FALSE NEIGHBOUR: 'it returns false'. Refute it at one input. -/
def utfPiecesWrong : ChangeSpec := { name := "utfPieces", fn := fun _ => fun
  | [d1, d2, d3, d4] => { results := [.lit (.bool false)], args := [d1, d2, d3, d4] }
  | _ => none }
def UtfPiecesWrongFalsely : Prop := utfPiecesRow.holds Tryd.pinned (OpenSpec.ofChange utfPiecesWrong)

/-- 'portholelaw19.UtfKnown': WHATEVER THE INPUT: true; the input reads as it did. -/
def utfKnownSpec : ChangeSpec := { name := "utfKnown", fn := fun _ => fun
  | [] => { results := [.lit (.bool true)], args := [] }
  | _ => none }
def utfKnownRow : OpenClaim := { program := "ytpegpafginbhmaadoor", sum := "2de18faf90122d0cfd04ddc9faabf9548b1ab8c6cf8ae10236eeea2fd5038ae8", func := "porthole/portholelaw19.UtfKnown", spec := "utfKnown", named := ["unicode/utf8.first", "unicode/utf8.acceptRanges"], apart := false, laid := [("unicode/utf8.acceptRanges", laid_unicode_utf8_acceptRanges), ("unicode/utf8.first", laid_unicode_utf8_first)] }
def UtfKnownSaid : Prop := utfKnownRow.holds Tryd.pinned (OpenSpec.ofChange utfKnownSpec)

/-- ITS FALSE NEIGHBOUR: 'it returns false'. Refute it at one input. -/
def utfKnownWrong : ChangeSpec := { name := "utfKnown", fn := fun _ => fun
  | [] => { results := [.lit (.bool false)], args := [] }
  | _ => none }
def UtfKnownWrongFalsely : Prop := utfKnownRow.holds Tryd.pinned (OpenSpec.ofChange utfKnownWrong)

/- THE SECOND FORM. 'bulk': how many values and letters a reading holds, each counted each time it is reached (what is shared counts as often as it is met; a slice's spare places count too). A statement '..UptoSaid' is the law's where the arguments, and the package variables that the reading takes, are together of bulk at most 1048576: NARROWER than '..Said'. Prove '..Said' where nothing that the law and all that it calls make is longer than what came in: it says more and counts as full. Else prove '..UptoSaid'. A law counts once. -/
mutual
def uptoBulk {H : Type} : DataW H → Nat
  | .lit (.string bytes) => bytes.length + 1
  | .lit _ => 1
  | .nil => 1
  | .ptr d => uptoBulk d + 1
  | .slice elems spare => uptoBulkAll elems + uptoBulkAll spare + 1
  | .agg parts => uptoBulkAll parts + 1
  | .iface _ d => uptoBulk d + 1
  | .map entries => uptoBulkEntries entries + 1
  | .held _ => 1
def uptoBulkAll {H : Type} : List (DataW H) → Nat
  | [] => 0
  | d :: r => uptoBulk d + uptoBulkAll r
def uptoBulkEntries {H : Type} : List (Lit × DataW H) → Nat
  | [] => 0
  | x :: r => uptoBulkEntry x + uptoBulkEntries r
def uptoBulkEntry {H : Type} : Lit × DataW H → Nat
  | (.string bytes, d) => bytes.length + uptoBulk d + 1
  | (_, d) => uptoBulk d + 1
 end
def uptoSmall : (H : Type) → List (DataW H) → Bool := fun _ ds => decide (uptoBulkAll ds ≤ 1048576)
def OpenSpec.upto (s : _root_.Go.ChangeSpec) : _root_.Go.OpenSpec := { _root_.Go.OpenSpec.ofChange s with cond := some uptoSmall }

/-- 'portholelaw19.UtfAscii', WHERE WHAT IT READS IS OF BULK AT MOST 1048576: true; the input reads as it did. -/
def utfAsciiUptoRow : OpenClaim := { program := "ytpegpafginbhmaadoor", sum := "2de18faf90122d0cfd04ddc9faabf9548b1ab8c6cf8ae10236eeea2fd5038ae8", func := "porthole/portholelaw19.UtfAscii", spec := "utfAscii", named := ["unicode/utf8.first", "unicode/utf8.acceptRanges"], apart := false, laid := [("unicode/utf8.acceptRanges", laid_unicode_utf8_acceptRanges), ("unicode/utf8.first", laid_unicode_utf8_first)], narrowed := true }
def UtfAsciiUptoSaid : Prop := utfAsciiUptoRow.holds Tryd.pinned (OpenSpec.upto utfAsciiSpec)

/-- 'portholelaw19.UtfRunes', WHERE WHAT IT READS IS OF BULK AT MOST 1048576: true; the input reads as it did. -/
def utfRunesUptoRow : OpenClaim := { program := "ytpegpafginbhmaadoor", sum := "2de18faf90122d0cfd04ddc9faabf9548b1ab8c6cf8ae10236eeea2fd5038ae8", func := "porthole/portholelaw19.UtfRunes", spec := "utfRunes", named := ["unicode/utf8.first", "unicode/utf8.acceptRanges"], apart := false, laid := [("unicode/utf8.acceptRanges", laid_unicode_utf8_acceptRanges), ("unicode/utf8.first", laid_unicode_utf8_first)], narrowed := true }
def UtfRunesUptoSaid : Prop := utfRunesUptoRow.holds Tryd.pinned (OpenSpec.upto utfRunesSpec)

/-- 'portholelaw19.UtfBack', WHERE WHAT IT READS IS OF BULK AT MOST 1048576: true; the input reads as it did. -/
def utfBackUptoRow : OpenClaim := { program := "ytpegpafginbhmaadoor", sum := "2de18faf90122d0cfd04ddc9faabf9548b1ab8c6cf8ae10236eeea2fd5038ae8", func := "porthole/portholelaw19.UtfBack", spec := "utfBack", named := ["unicode/utf8.first", "unicode/utf8.acceptRanges"], apart := false, laid := [("unicode/utf8.acceptRanges", laid_unicode_utf8_acceptRanges), ("unicode/utf8.first", laid_unicode_utf8_first)], narrowed := true }
def UtfBackUptoSaid : Prop := utfBackUptoRow.holds Tryd.pinned (OpenSpec.upto utfBackSpec)

/-- 'portholelaw19.UtfFeeds', WHERE WHAT IT READS IS OF BULK AT MOST 1048576: true; the input reads as it did. -/
def utfFeedsUptoRow : OpenClaim := { program := "ytpegpafginbhmaadoor", sum := "2de18faf90122d0cfd04ddc9faabf9548b1ab8c6cf8ae10236eeea2fd5038ae8", func := "porthole/portholelaw19.UtfFeeds", spec := "utfFeeds", named := ["unicode/utf8.first", "unicode/utf8.acceptRanges"], apart := false, laid := [("unicode/utf8.acceptRanges", laid_unicode_utf8_acceptRanges), ("unicode/utf8.first", laid_unicode_utf8_first)], narrowed := true }
def UtfFeedsUptoSaid : Prop := utfFeedsUptoRow.holds Tryd.pinned (OpenSpec.upto utfFeedsSpec)

/-- 'portholelaw19.UtfPieces', WHERE WHAT IT READS IS OF BULK AT MOST 1048576: true; the input reads as it did. -/
def utfPiecesUptoRow : OpenClaim := { program := "ytpegpafginbhmaadoor", sum := "2de18faf90122d0cfd04ddc9faabf9548b1ab8c6cf8ae10236eeea2fd5038ae8", func := "porthole/portholelaw19.UtfPieces", spec := "utfPieces", named := ["unicode/utf8.first", "unicode/utf8.acceptRanges"], apart := false, laid := [("unicode/utf8.acceptRanges", laid_unicode_utf8_acceptRanges), ("unicode/utf8.first", laid_unicode_utf8_first)], narrowed := true }
def UtfPiecesUptoSaid : Prop := utfPiecesUptoRow.holds Tryd.pinned (OpenSpec.upto utfPiecesSpec)

/-- 'portholelaw19.UtfKnown', WHERE WHAT IT READS IS OF BULK AT MOST 1048576: true; the input reads as it did. -/
def utfKnownUptoRow : OpenClaim := { program := "ytpegpafginbhmaadoor", sum := "2de18faf90122d0cfd04ddc9faabf9548b1ab8c6cf8ae10236eeea2fd5038ae8", func := "porthole/portholelaw19.UtfKnown", spec := "utfKnown", named := ["unicode/utf8.first", "unicode/utf8.acceptRanges"], apart := false, laid := [("unicode/utf8.acceptRanges", laid_unicode_utf8_acceptRanges), ("unicode/utf8.first", laid_unicode_utf8_first)], narrowed := true }
def UtfKnownUptoSaid : Prop := utfKnownUptoRow.holds Tryd.pinned (OpenSpec.upto utfKnownSpec)

end Rows
end Go.Proofs.YtpegpafginbhmaaDoor

/-
  NARROWER THAN 'FOR EVERY INPUT', by the rows' own cells (each row's printed sentence says how): VtKnown: laid · VtFeeds: laid · VtRunes: laid · VtPieces: laid · VtPlain: laid · VtParams: laid · VtStrings: laid.
  DERIVED. THE GIVEN ROWS OF THIS SEAT. 7 by the template 'for every input the law returns true; each argument reads behind the call as it read before'; 0 by the template 'total and deterministic' (their statements: YthfbefjmenddkaaDoorTotals.lean).
  GIVEN WITH THE SEED: the statements are not yours to turn. If you find one false, say at which input.
  Laid BY PROGRAM, IN A SANDBOX (cutbox-rows.mjs): the forced cells as the released guide's own fill.sh prints them over the translation 208939cbd7432896… (all of the seat's roots in one cut). By AI agents, Wed Nov 11 2026. No macro, syntax, notation, axiom, sorry.
-/
import Derived.Test.YthfbefjmenddkaaDoorChecked
import GoSem.PinnedTables
import GoSem.Claim
import GoSem.ClaimJoined
import GoSem.ClaimMapViews
import Derived.JoinedTies
import Derived.KernelRfl
namespace Go.Proofs.YthfbefjmenddkaaDoor
/- THE CELL 'sum', in the pinned program and in every row, IS THE sha256 OF THE DUMP (.gsa) THAT YthfbefjmenddkaaDoorProg.lean LOADS. Nothing in Lean hashes anything: it is a label: what it is worth is what the hold of that sum in a sandbox is worth. -/
noncomputable def Tryd.pinned : Pinned := { name := "ythfbefjmenddkaadoor", sum := "208939cbd743289655b5ff4cf993fac47b774330ecf11edaa1eb6b8b320c8b8a", checked := Tryd.checked }
namespace Rows
def none {H : Type} : Left H := { results := [], args := [] }

/- WHAT THE LISTED PACKAGE-LEVEL VARIABLES READ AS WHEN THE CALL BEGINS. Each datum BY PROGRAM (the guide's laid-datum.mjs) off the statement by which the dump's own 'gosem.cut.vars' lays the variable. In a bare row this is a premise. The card (YthfbefjmenddkaaDoorCards.lean) ties it to the program's text. -/
def laid_unicode_utf8_acceptRanges {H : Type} : DataW H := .agg [.agg [.lit (.int .u8 128), .lit (.int .u8 191)], .agg [.lit (.int .u8 160), .lit (.int .u8 191)], .agg [.lit (.int .u8 128), .lit (.int .u8 159)], .agg [.lit (.int .u8 144), .lit (.int .u8 191)], .agg [.lit (.int .u8 128), .lit (.int .u8 143)], .agg [.lit (.int .u8 0), .lit (.int .u8 0)], .agg [.lit (.int .u8 0), .lit (.int .u8 0)], .agg [.lit (.int .u8 0), .lit (.int .u8 0)], .agg [.lit (.int .u8 0), .lit (.int .u8 0)], .agg [.lit (.int .u8 0), .lit (.int .u8 0)], .agg [.lit (.int .u8 0), .lit (.int .u8 0)], .agg [.lit (.int .u8 0), .lit (.int .u8 0)], .agg [.lit (.int .u8 0), .lit (.int .u8 0)], .agg [.lit (.int .u8 0), .lit (.int .u8 0)], .agg [.lit (.int .u8 0), .lit (.int .u8 0)], .agg [.lit (.int .u8 0), .lit (.int .u8 0)]]
/-- One of Go's own tables, pinned by name: the form's constant. -/
def laid_unicode_utf8_first : DataW Unit := Go.Pinned.utf8First
def laid_porthole_portholehand_parts {H : Type} : DataW H := .agg [.lit (.string [97]), .lit (.string [66, 99]), .lit (.string [120, 121, 122]), .lit (.string [195, 169]), .lit (.string [226, 130, 172]), .lit (.string [13, 10]), .lit (.string [10]), .lit (.string [13]), .lit (.string [8]), .lit (.string [9]), .lit (.string [27, 91, 65]), .lit (.string [27, 91, 50, 66]), .lit (.string [27, 91, 51, 67]), .lit (.string [27, 91, 68]), .lit (.string [27, 91, 72]), .lit (.string [27, 91, 50, 59, 51, 72]), .lit (.string [27, 91, 74]), .lit (.string [27, 91, 49, 74]), .lit (.string [27, 91, 50, 74]), .lit (.string [27, 91, 75]), .lit (.string [27, 91, 49, 75]), .lit (.string [27, 91, 76]), .lit (.string [27, 91, 77]), .lit (.string [27, 91, 50, 64]), .lit (.string [27, 91, 80]), .lit (.string [27, 91, 88]), .lit (.string [27, 91, 83]), .lit (.string [27, 91, 84]), .lit (.string [27, 91, 49, 59, 51, 49, 109]), .lit (.string [27, 91, 48, 109]), .lit (.string [27, 77]), .lit (.string [27, 55]), .lit (.string [27, 56]), .lit (.string [27, 91, 63, 49, 48, 52, 57, 104])]
def laid_porthole_portholehand_more {H : Type} : DataW H := .agg [.lit (.string [27, 91, 63, 49, 48, 52, 57, 108]), .lit (.string [27, 91, 63, 55, 108]), .lit (.string [27, 91, 63, 55, 104]), .lit (.string [27, 91, 63, 50, 53, 108]), .lit (.string [27, 91, 63, 50, 53, 104]), .lit (.string [27, 91, 52, 104]), .lit (.string [27, 91, 52, 108]), .lit (.string [27, 72]), .lit (.string [27, 91, 103]), .lit (.string [27, 91, 51, 103]), .lit (.string [27, 99]), .lit (.string [27, 68]), .lit (.string [27, 69]), .lit (.string [27, 93, 48, 59, 116, 7]), .lit (.string [27, 40, 66]), .lit (.string [27, 91, 57, 57, 59, 57, 57, 72]), .lit (.string [27, 91, 51, 74]), .lit (.string [27, 91, 55, 59, 52, 50, 109]), .lit (.string [27, 91, 51, 57, 59, 52, 57, 109]), .lit (.string [255]), .lit (.string [226, 130]), .lit (.string [27, 91, 53, 71])]

/-- 'portholelaw20.VtKnown': WHATEVER THE INPUT: true; the input reads as it did. -/
def vtKnownSpec : ChangeSpec := { name := "vtKnown", fn := fun _ => fun
  | [] => { results := [.lit (.bool true)], args := [] }
  | _ => none }
def vtKnownRow : OpenClaim := { program := "ythfbefjmenddkaadoor", sum := "208939cbd743289655b5ff4cf993fac47b774330ecf11edaa1eb6b8b320c8b8a", func := "porthole/portholelaw20.VtKnown", spec := "vtKnown", named := ["unicode/utf8.first", "unicode/utf8.acceptRanges"], apart := false, laid := [("unicode/utf8.acceptRanges", laid_unicode_utf8_acceptRanges), ("unicode/utf8.first", laid_unicode_utf8_first)] }
def VtKnownSaid : Prop := vtKnownRow.holds Tryd.pinned (OpenSpec.ofChange vtKnownSpec)

/-- ITS FALSE NEIGHBOUR: 'it returns false'. Refute it at one input. -/
def vtKnownWrong : ChangeSpec := { name := "vtKnown", fn := fun _ => fun
  | [] => { results := [.lit (.bool false)], args := [] }
  | _ => none }
def VtKnownWrongFalsely : Prop := vtKnownRow.holds Tryd.pinned (OpenSpec.ofChange vtKnownWrong)

/-- 'portholelaw20.VtFeeds': WHATEVER THE INPUT: true; the input reads as it did. -/
def vtFeedsSpec : ChangeSpec := { name := "vtFeeds", fn := fun _ => fun
  | [d1, d2, d3, d4, d5] => { results := [.lit (.bool true)], args := [d1, d2, d3, d4, d5] }
  | _ => none }
def vtFeedsRow : OpenClaim := { program := "ythfbefjmenddkaadoor", sum := "208939cbd743289655b5ff4cf993fac47b774330ecf11edaa1eb6b8b320c8b8a", func := "porthole/portholelaw20.VtFeeds", spec := "vtFeeds", recurses := true, named := ["porthole/portholehand.parts", "porthole/portholehand.more", "unicode/utf8.first", "unicode/utf8.acceptRanges"], apart := false, laid := [("unicode/utf8.acceptRanges", laid_unicode_utf8_acceptRanges), ("porthole/portholehand.parts", laid_porthole_portholehand_parts), ("porthole/portholehand.more", laid_porthole_portholehand_more), ("unicode/utf8.first", laid_unicode_utf8_first)] }
def VtFeedsSaid : Prop := vtFeedsRow.holds Tryd.pinned (OpenSpec.ofChange vtFeedsSpec)

/-- ITS FALSE NEIGHBOUR: 'it returns false'. Refute it at one input. -/
def vtFeedsWrong : ChangeSpec := { name := "vtFeeds", fn := fun _ => fun
  | [d1, d2, d3, d4, d5] => { results := [.lit (.bool false)], args := [d1, d2, d3, d4, d5] }
  | _ => none }
def VtFeedsWrongFalsely : Prop := vtFeedsRow.holds Tryd.pinned (OpenSpec.ofChange vtFeedsWrong)

/-- 'portholelaw20.VtRunes': WHATEVER THE INPUT: true; the input reads as it did. -/
def vtRunesSpec : ChangeSpec := { name := "vtRunes", fn := fun _ => fun
  | [d1, d2, d3, d4, d5] => { results := [.lit (.bool true)], args := [d1, d2, d3, d4, d5] }
  | _ => none }
def vtRunesRow : OpenClaim := { program := "ythfbefjmenddkaadoor", sum := "208939cbd743289655b5ff4cf993fac47b774330ecf11edaa1eb6b8b320c8b8a", func := "porthole/portholelaw20.VtRunes", spec := "vtRunes", named := ["unicode/utf8.first", "unicode/utf8.acceptRanges"], apart := false, laid := [("unicode/utf8.acceptRanges", laid_unicode_utf8_acceptRanges), ("unicode/utf8.first", laid_unicode_utf8_first)] }
def VtRunesSaid : Prop := vtRunesRow.holds Tryd.pinned (OpenSpec.ofChange vtRunesSpec)

/-- ITS FALSE NEIGHBOUR: 'it returns false'. Refute it at one input. -/
def vtRunesWrong : ChangeSpec := { name := "vtRunes", fn := fun _ => fun
  | [d1, d2, d3, d4, d5] => { results := [.lit (.bool false)], args := [d1, d2, d3, d4, d5] }
  | _ => none }
def VtRunesWrongFalsely : Prop := vtRunesRow.holds Tryd.pinned (OpenSpec.ofChange vtRunesWrong)

/-- 'portholelaw20.VtPieces': WHATEVER THE INPUT: true; the input reads as it did. -/
def vtPiecesSpec : ChangeSpec := { name := "vtPieces", fn := fun _ => fun
  | [d1, d2, d3, d4] => { results := [.lit (.bool true)], args := [d1, d2, d3, d4] }
  | _ => none }
def vtPiecesRow : OpenClaim := { program := "ythfbefjmenddkaadoor", sum := "208939cbd743289655b5ff4cf993fac47b774330ecf11edaa1eb6b8b320c8b8a", func := "porthole/portholelaw20.VtPieces", spec := "vtPieces", recurses := true, named := ["porthole/portholehand.parts", "porthole/portholehand.more", "unicode/utf8.first", "unicode/utf8.acceptRanges"], apart := false, laid := [("unicode/utf8.acceptRanges", laid_unicode_utf8_acceptRanges), ("porthole/portholehand.parts", laid_porthole_portholehand_parts), ("porthole/portholehand.more", laid_porthole_portholehand_more), ("unicode/utf8.first", laid_unicode_utf8_first)] }
def VtPiecesSaid : Prop := vtPiecesRow.holds Tryd.pinned (OpenSpec.ofChange vtPiecesSpec)

/-- ITS FALSE NEIGHBOUR: 'it returns false'. Refute it at one input. -/
def vtPiecesWrong : ChangeSpec := { name := "vtPieces", fn := fun _ => fun
  | [d1, d2, d3, d4] => { results := [.lit (.bool false)], args := [d1, d2, d3, d4] }
  | _ => none }
def VtPiecesWrongFalsely : Prop := vtPiecesRow.holds Tryd.pinned (OpenSpec.ofChange vtPiecesWrong)

/-- 'portholelaw20.VtPlain': WHATEVER THE INPUT: true; the input reads as it did. -/
def vtPlainSpec : ChangeSpec := { name := "vtPlain", fn := fun _ => fun
  | [d] => { results := [.lit (.bool true)], args := [d] }
  | _ => none }
def vtPlainRow : OpenClaim := { program := "ythfbefjmenddkaadoor", sum := "208939cbd743289655b5ff4cf993fac47b774330ecf11edaa1eb6b8b320c8b8a", func := "porthole/portholelaw20.VtPlain", spec := "vtPlain", named := ["unicode/utf8.first", "unicode/utf8.acceptRanges"], apart := false, laid := [("unicode/utf8.acceptRanges", laid_unicode_utf8_acceptRanges), ("unicode/utf8.first", laid_unicode_utf8_first)] }
def VtPlainSaid : Prop := vtPlainRow.holds Tryd.pinned (OpenSpec.ofChange vtPlainSpec)

/-- ITS FALSE NEIGHBOUR: 'it returns false'. Refute it at one input. -/
def vtPlainWrong : ChangeSpec := { name := "vtPlain", fn := fun _ => fun
  | [d] => { results := [.lit (.bool false)], args := [d] }
  | _ => none }
def VtPlainWrongFalsely : Prop := vtPlainRow.holds Tryd.pinned (OpenSpec.ofChange vtPlainWrong)

/-- 'portholelaw20.VtParams': WHATEVER THE INPUT: true; the input reads as it did. -/
def vtParamsSpec : ChangeSpec := { name := "vtParams", fn := fun _ => fun
  | [d1, d2, d3] => { results := [.lit (.bool true)], args := [d1, d2, d3] }
  | _ => none }
def vtParamsRow : OpenClaim := { program := "ythfbefjmenddkaadoor", sum := "208939cbd743289655b5ff4cf993fac47b774330ecf11edaa1eb6b8b320c8b8a", func := "porthole/portholelaw20.VtParams", spec := "vtParams", recurses := true, named := ["unicode/utf8.first", "unicode/utf8.acceptRanges"], apart := false, laid := [("unicode/utf8.acceptRanges", laid_unicode_utf8_acceptRanges), ("unicode/utf8.first", laid_unicode_utf8_first)] }
def VtParamsSaid : Prop := vtParamsRow.holds Tryd.pinned (OpenSpec.ofChange vtParamsSpec)

/-- ITS FALSE NEIGHBOUR: 'it returns false'. Refute it at one input. -/
def vtParamsWrong : ChangeSpec := { name := "vtParams", fn := fun _ => fun
  | [d1, d2, d3] => { results := [.lit (.bool false)], args := [d1, d2, d3] }
  | _ => none }
def VtParamsWrongFalsely : Prop := vtParamsRow.holds Tryd.pinned (OpenSpec.ofChange vtParamsWrong)

/-- 'portholelaw20.VtStrings': WHATEVER THE INPUT: true; the input reads as it did. -/
def vtStringsSpec : ChangeSpec := { name := "vtStrings", fn := fun _ => fun
  | [d1, d2, d3] => { results := [.lit (.bool true)], args := [d1, d2, d3] }
  | _ => none }
def vtStringsRow : OpenClaim := { program := "ythfbefjmenddkaadoor", sum := "208939cbd743289655b5ff4cf993fac47b774330ecf11edaa1eb6b8b320c8b8a", func := "porthole/portholelaw20.VtStrings", spec := "vtStrings", named := ["unicode/utf8.first", "unicode/utf8.acceptRanges"], apart := false, laid := [("unicode/utf8.acceptRanges", laid_unicode_utf8_acceptRanges), ("unicode/utf8.first", laid_unicode_utf8_first)] }
def VtStringsSaid : Prop := vtStringsRow.holds Tryd.pinned (OpenSpec.ofChange vtStringsSpec)

/-- ITS FALSE NEIGHBOUR: 'it returns false'. Refute it at one input. -/
def vtStringsWrong : ChangeSpec := { name := "vtStrings", fn := fun _ => fun
  | [d1, d2, d3] => { results := [.lit (.bool false)], args := [d1, d2, d3] }
  | _ => none }
def VtStringsWrongFalsely : Prop := vtStringsRow.holds Tryd.pinned (OpenSpec.ofChange vtStringsWrong)

/- THE SECOND FORM. 'bulk': how many values and letters a reading holds, each counted each time it is reached (what is shared counts as often as it is met; a slice's spare places count too). A statement '..UptoSaid' is the law's where the arguments, and the package variables that the reading takes, are together of bulk at most 1048576: NARROWER than '..Said'. Prove '..Said' where nothing that the law and all that it calls make is longer than what came in: it says more and counts as full. Else prove '..UptoSaid'. A law counts once. -/
mutual
def uptoBulk {H : Type} : DataW H → Nat
  | .lit (.string bytes) => bytes.length + 1
  | .lit _ => 1
  | .nil => 1
  | .ptr d => uptoBulk d + 1
  | .slice elems spare => uptoBulkAll elems + uptoBulkAll spare + 1
  | .agg parts => uptoBulkAll parts + 1
  | .iface _ d => uptoBulk d + 1
  | .map entries => uptoBulkEntries entries + 1
  | .held _ => 1
def uptoBulkAll {H : Type} : List (DataW H) → Nat
  | [] => 0
  | d :: r => uptoBulk d + uptoBulkAll r
def uptoBulkEntries {H : Type} : List (Lit × DataW H) → Nat
  | [] => 0
  | x :: r => uptoBulkEntry x + uptoBulkEntries r
def uptoBulkEntry {H : Type} : Lit × DataW H → Nat
  | (.string bytes, d) => bytes.length + uptoBulk d + 1
  | (_, d) => uptoBulk d + 1
 end
def uptoSmall : (H : Type) → List (DataW H) → Bool := fun _ ds => decide (uptoBulkAll ds ≤ 1048576)
def OpenSpec.upto (s : _root_.Go.ChangeSpec) : _root_.Go.OpenSpec := { _root_.Go.OpenSpec.ofChange s with cond := some uptoSmall }

/-- 'portholelaw20.VtKnown', WHERE WHAT IT READS IS OF BULK AT MOST 1048576: true; the input reads as it did. -/
def vtKnownUptoRow : OpenClaim := { program := "ythfbefjmenddkaadoor", sum := "208939cbd743289655b5ff4cf993fac47b774330ecf11edaa1eb6b8b320c8b8a", func := "porthole/portholelaw20.VtKnown", spec := "vtKnown", named := ["unicode/utf8.first", "unicode/utf8.acceptRanges"], apart := false, laid := [("unicode/utf8.acceptRanges", laid_unicode_utf8_acceptRanges), ("unicode/utf8.first", laid_unicode_utf8_first)], narrowed := true }
def VtKnownUptoSaid : Prop := vtKnownUptoRow.holds Tryd.pinned (OpenSpec.upto vtKnownSpec)

/-- 'portholelaw20.VtFeeds', WHERE WHAT IT READS IS OF BULK AT MOST 1048576: true; the input reads as it did. -/
def vtFeedsUptoRow : OpenClaim := { program := "ythfbefjmenddkaadoor", sum := "208939cbd743289655b5ff4cf993fac47b774330ecf11edaa1eb6b8b320c8b8a", func := "porthole/portholelaw20.VtFeeds", spec := "vtFeeds", recurses := true, named := ["porthole/portholehand.parts", "porthole/portholehand.more", "unicode/utf8.first", "unicode/utf8.acceptRanges"], apart := false, laid := [("unicode/utf8.acceptRanges", laid_unicode_utf8_acceptRanges), ("porthole/portholehand.parts", laid_porthole_portholehand_parts), ("porthole/portholehand.more", laid_porthole_portholehand_more), ("unicode/utf8.first", laid_unicode_utf8_first)], narrowed := true }
def VtFeedsUptoSaid : Prop := vtFeedsUptoRow.holds Tryd.pinned (OpenSpec.upto vtFeedsSpec)

/-- 'portholelaw20.VtRunes', WHERE WHAT IT READS IS OF BULK AT MOST 1048576: true; the input reads as it did. -/
def vtRunesUptoRow : OpenClaim := { program := "ythfbefjmenddkaadoor", sum := "208939cbd743289655b5ff4cf993fac47b774330ecf11edaa1eb6b8b320c8b8a", func := "porthole/portholelaw20.VtRunes", spec := "vtRunes", named := ["unicode/utf8.first", "unicode/utf8.acceptRanges"], apart := false, laid := [("unicode/utf8.acceptRanges", laid_unicode_utf8_acceptRanges), ("unicode/utf8.first", laid_unicode_utf8_first)], narrowed := true }
def VtRunesUptoSaid : Prop := vtRunesUptoRow.holds Tryd.pinned (OpenSpec.upto vtRunesSpec)

/-- 'portholelaw20.VtPieces', WHERE WHAT IT READS IS OF BULK AT MOST 1048576: true; the input reads as it did. -/
def vtPiecesUptoRow : OpenClaim := { program := "ythfbefjmenddkaadoor", sum := "208939cbd743289655b5ff4cf993fac47b774330ecf11edaa1eb6b8b320c8b8a", func := "porthole/portholelaw20.VtPieces", spec := "vtPieces", recurses := true, named := ["porthole/portholehand.parts", "porthole/portholehand.more", "unicode/utf8.first", "unicode/utf8.acceptRanges"], apart := false, laid := [("unicode/utf8.acceptRanges", laid_unicode_utf8_acceptRanges), ("porthole/portholehand.parts", laid_porthole_portholehand_parts), ("porthole/portholehand.more", laid_porthole_portholehand_more), ("unicode/utf8.first", laid_unicode_utf8_first)], narrowed := true }
def VtPiecesUptoSaid : Prop := vtPiecesUptoRow.holds Tryd.pinned (OpenSpec.upto vtPiecesSpec)

/-- 'portholelaw20.VtPlain', WHERE WHAT IT READS IS OF BULK AT MOST 1048576: true; the input reads as it did. -/
def vtPlainUptoRow : OpenClaim := { program := "ythfbefjmenddkaadoor", sum := "208939cbd743289655b5ff4cf993fac47b774330ecf11edaa1eb6b8b320c8b8a", func := "porthole/portholelaw20.VtPlain", spec := "vtPlain", named := ["unicode/utf8.first", "unicode/utf8.acceptRanges"], apart := false, laid := [("unicode/utf8.acceptRanges", laid_unicode_utf8_acceptRanges), ("unicode/utf8.first", laid_unicode_utf8_first)], narrowed := true }
def VtPlainUptoSaid : Prop := vtPlainUptoRow.holds Tryd.pinned (OpenSpec.upto vtPlainSpec)

/-- 'portholelaw20.VtParams', WHERE WHAT IT READS IS OF BULK AT MOST 1048576: true; the input reads as it did. -/
def vtParamsUptoRow : OpenClaim := { program := "ythfbefjmenddkaadoor", sum := "208939cbd743289655b5ff4cf993fac47b774330ecf11edaa1eb6b8b320c8b8a", func := "porthole/portholelaw20.VtParams", spec := "vtParams", recurses := true, named := ["unicode/utf8.first", "unicode/utf8.acceptRanges"], apart := false, laid := [("unicode/utf8.acceptRanges", laid_unicode_utf8_acceptRanges), ("unicode/utf8.first", laid_unicode_utf8_first)], narrowed := true }
def VtParamsUptoSaid : Prop := vtParamsUptoRow.holds Tryd.pinned (OpenSpec.upto vtParamsSpec)

/-- 'portholelaw20.VtStrings', WHERE WHAT IT READS IS OF BULK AT MOST 1048576: true; the input reads as it did. -/
def vtStringsUptoRow : OpenClaim := { program := "ythfbefjmenddkaadoor", sum := "208939cbd743289655b5ff4cf993fac47b774330ecf11edaa1eb6b8b320c8b8a", func := "porthole/portholelaw20.VtStrings", spec := "vtStrings", named := ["unicode/utf8.first", "unicode/utf8.acceptRanges"], apart := false, laid := [("unicode/utf8.acceptRanges", laid_unicode_utf8_acceptRanges), ("unicode/utf8.first", laid_unicode_utf8_first)], narrowed := true }
def VtStringsUptoSaid : Prop := vtStringsUptoRow.holds Tryd.pinned (OpenSpec.upto vtStringsSpec)

end Rows
end Go.Proofs.YthfbefjmenddkaaDoor

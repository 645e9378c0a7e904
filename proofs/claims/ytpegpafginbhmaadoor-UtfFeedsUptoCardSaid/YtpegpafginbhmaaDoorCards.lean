/-
  DERIVED. GIVEN WITH THE SEED: THE CARDS: each row of YtpegpafginbhmaaDoorRows.lean that lists a variable, with what it lists TIED to the program's text (the seventh form; the later family's looks); each row that meets fmt, with fmt's text TOLD by the authors' own Lean function (tested against real Go, not proved from fmt's source: count such statements apart). THE CARD IS WHAT COUNTS. Prove the row's statement (the work); the ties are given (YtpegpafginbhmaaDoorTie.lean); close each card by the builder's one call (the guide's Derived/Test/ToyasCard.lean, 'card_holds'). Laid BY PROGRAM, IN A SANDBOX (cutbox-door.mjs). By AI agents, Wed Nov 11 2026. No macro, syntax, notation, axiom, sorry.
-/
import Derived.Test.YtpegpafginbhmaaDoorRows
import GoSem.ClaimSeven
namespace Go.Proofs.YtpegpafginbhmaaDoor
namespace Rows

/-- THE TIED CARD OF 'portholelaw19.UtfAscii'. -/
def utfAsciiCard : Claim7 := { stood := { row := utfAsciiRow, standIns := [], harness := (true, "40e91c500314c183849344d655699ebd80c4f1ecce9d3407b0f0b833098c2ffa"), looks := false }, kinds := [], alts := [], laidByText := true, laidKinds := [.data, .pinned], laidTests := true, laidLooks := .later }
def UtfAsciiCardSaid : Prop := Claim7.holds Tryd.pinned (.plain (OpenSpec.ofChange utfAsciiSpec)) utfAsciiCard

/-- THE TIED CARD OF 'portholelaw19.UtfRunes'. -/
def utfRunesCard : Claim7 := { stood := { row := utfRunesRow, standIns := [], harness := (true, "40e91c500314c183849344d655699ebd80c4f1ecce9d3407b0f0b833098c2ffa"), looks := false }, kinds := [], alts := [], laidByText := true, laidKinds := [.data, .pinned], laidTests := true, laidLooks := .later }
def UtfRunesCardSaid : Prop := Claim7.holds Tryd.pinned (.plain (OpenSpec.ofChange utfRunesSpec)) utfRunesCard

/-- THE TIED CARD OF 'portholelaw19.UtfBack'. -/
def utfBackCard : Claim7 := { stood := { row := utfBackRow, standIns := [], harness := (true, "40e91c500314c183849344d655699ebd80c4f1ecce9d3407b0f0b833098c2ffa"), looks := false }, kinds := [], alts := [], laidByText := true, laidKinds := [.data, .pinned], laidTests := true, laidLooks := .later }
def UtfBackCardSaid : Prop := Claim7.holds Tryd.pinned (.plain (OpenSpec.ofChange utfBackSpec)) utfBackCard

/-- THE TIED CARD OF 'portholelaw19.UtfFeeds'. -/
def utfFeedsCard : Claim7 := { stood := { row := utfFeedsRow, standIns := [], harness := (true, "40e91c500314c183849344d655699ebd80c4f1ecce9d3407b0f0b833098c2ffa"), looks := false }, kinds := [], alts := [], laidByText := true, laidKinds := [.data, .pinned], laidTests := true, laidLooks := .later }
def UtfFeedsCardSaid : Prop := Claim7.holds Tryd.pinned (.plain (OpenSpec.ofChange utfFeedsSpec)) utfFeedsCard

/-- THE TIED CARD OF 'portholelaw19.UtfPieces'. -/
def utfPiecesCard : Claim7 := { stood := { row := utfPiecesRow, standIns := [], harness := (true, "40e91c500314c183849344d655699ebd80c4f1ecce9d3407b0f0b833098c2ffa"), looks := false }, kinds := [], alts := [], laidByText := true, laidKinds := [.data, .pinned], laidTests := true, laidLooks := .later }
def UtfPiecesCardSaid : Prop := Claim7.holds Tryd.pinned (.plain (OpenSpec.ofChange utfPiecesSpec)) utfPiecesCard

/-- THE TIED CARD OF 'portholelaw19.UtfKnown'. -/
def utfKnownCard : Claim7 := { stood := { row := utfKnownRow, standIns := [], harness := (true, "40e91c500314c183849344d655699ebd80c4f1ecce9d3407b0f0b833098c2ffa"), looks := false }, kinds := [], alts := [], laidByText := true, laidKinds := [.data, .pinned], laidTests := true, laidLooks := .later }
def UtfKnownCardSaid : Prop := Claim7.holds Tryd.pinned (.plain (OpenSpec.ofChange utfKnownSpec)) utfKnownCard

/-- THE SECOND FORM's CARD OF 'portholelaw19.UtfAscii'. -/
def utfAsciiUptoCard : Claim7 := { stood := { row := utfAsciiUptoRow, standIns := [], harness := (true, "40e91c500314c183849344d655699ebd80c4f1ecce9d3407b0f0b833098c2ffa"), looks := false }, kinds := [], alts := [], laidByText := true, laidKinds := [.data, .pinned], laidTests := true, laidLooks := .later }
def UtfAsciiUptoCardSaid : Prop := Claim7.holds Tryd.pinned (.plain (OpenSpec.upto utfAsciiSpec)) utfAsciiUptoCard

/-- THE SECOND FORM's CARD OF 'portholelaw19.UtfRunes'. -/
def utfRunesUptoCard : Claim7 := { stood := { row := utfRunesUptoRow, standIns := [], harness := (true, "40e91c500314c183849344d655699ebd80c4f1ecce9d3407b0f0b833098c2ffa"), looks := false }, kinds := [], alts := [], laidByText := true, laidKinds := [.data, .pinned], laidTests := true, laidLooks := .later }
def UtfRunesUptoCardSaid : Prop := Claim7.holds Tryd.pinned (.plain (OpenSpec.upto utfRunesSpec)) utfRunesUptoCard

/-- THE SECOND FORM's CARD OF 'portholelaw19.UtfBack'. -/
def utfBackUptoCard : Claim7 := { stood := { row := utfBackUptoRow, standIns := [], harness := (true, "40e91c500314c183849344d655699ebd80c4f1ecce9d3407b0f0b833098c2ffa"), looks := false }, kinds := [], alts := [], laidByText := true, laidKinds := [.data, .pinned], laidTests := true, laidLooks := .later }
def UtfBackUptoCardSaid : Prop := Claim7.holds Tryd.pinned (.plain (OpenSpec.upto utfBackSpec)) utfBackUptoCard

/-- THE SECOND FORM's CARD OF 'portholelaw19.UtfFeeds'. -/
def utfFeedsUptoCard : Claim7 := { stood := { row := utfFeedsUptoRow, standIns := [], harness := (true, "40e91c500314c183849344d655699ebd80c4f1ecce9d3407b0f0b833098c2ffa"), looks := false }, kinds := [], alts := [], laidByText := true, laidKinds := [.data, .pinned], laidTests := true, laidLooks := .later }
def UtfFeedsUptoCardSaid : Prop := Claim7.holds Tryd.pinned (.plain (OpenSpec.upto utfFeedsSpec)) utfFeedsUptoCard

/-- THE SECOND FORM's CARD OF 'portholelaw19.UtfPieces'. -/
def utfPiecesUptoCard : Claim7 := { stood := { row := utfPiecesUptoRow, standIns := [], harness := (true, "40e91c500314c183849344d655699ebd80c4f1ecce9d3407b0f0b833098c2ffa"), looks := false }, kinds := [], alts := [], laidByText := true, laidKinds := [.data, .pinned], laidTests := true, laidLooks := .later }
def UtfPiecesUptoCardSaid : Prop := Claim7.holds Tryd.pinned (.plain (OpenSpec.upto utfPiecesSpec)) utfPiecesUptoCard

/-- THE SECOND FORM's CARD OF 'portholelaw19.UtfKnown'. -/
def utfKnownUptoCard : Claim7 := { stood := { row := utfKnownUptoRow, standIns := [], harness := (true, "40e91c500314c183849344d655699ebd80c4f1ecce9d3407b0f0b833098c2ffa"), looks := false }, kinds := [], alts := [], laidByText := true, laidKinds := [.data, .pinned], laidTests := true, laidLooks := .later }
def UtfKnownUptoCardSaid : Prop := Claim7.holds Tryd.pinned (.plain (OpenSpec.upto utfKnownSpec)) utfKnownUptoCard
end Rows
end Go.Proofs.YtpegpafginbhmaaDoor

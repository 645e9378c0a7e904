/-
  DERIVED. GIVEN WITH THE SEED: THE CARDS: each row of YthfbefjmenddkaaDoorRows.lean that lists a variable, with what it lists TIED to the program's text (the seventh form; the later family's looks); each row that meets fmt, with fmt's text TOLD by the authors' own Lean function (tested against real Go, not proved from fmt's source: count such statements apart). THE CARD IS WHAT COUNTS. Prove the row's statement (the work); the ties are given (YthfbefjmenddkaaDoorTie.lean); close each card by the builder's one call (the guide's Derived/Test/ToyasCard.lean, 'card_holds'). Laid BY PROGRAM, IN A SANDBOX (cutbox-door.mjs). By AI agents, Wed Nov 11 2026. No macro, syntax, notation, axiom, sorry.
-/
import Derived.Test.YthfbefjmenddkaaDoorRows
import GoSem.ClaimSeven
namespace Go.Proofs.YthfbefjmenddkaaDoor
namespace Rows

/-- THE TIED CARD OF 'portholelaw20.VtKnown'. -/
def vtKnownCard : Claim7 := { stood := { row := vtKnownRow, standIns := [], harness := (true, "bafad9fbbd83b174b2be4e71d1621297abcc46527dfade2f5bdfc283c2b602af"), looks := false }, kinds := [], alts := [], laidByText := true, laidKinds := [.data, .pinned], laidTests := true, laidLooks := .later }
def VtKnownCardSaid : Prop := Claim7.holds Tryd.pinned (.plain (OpenSpec.ofChange vtKnownSpec)) vtKnownCard

/-- THE TIED CARD OF 'portholelaw20.VtFeeds'. -/
def vtFeedsCard : Claim7 := { stood := { row := vtFeedsRow, standIns := [], harness := (true, "bafad9fbbd83b174b2be4e71d1621297abcc46527dfade2f5bdfc283c2b602af"), looks := false }, kinds := [], alts := [], laidByText := true, laidKinds := [.data, .data, .data, .pinned], laidTests := true, laidLooks := .later }
def VtFeedsCardSaid : Prop := Claim7.holds Tryd.pinned (.plain (OpenSpec.ofChange vtFeedsSpec)) vtFeedsCard

/-- THE TIED CARD OF 'portholelaw20.VtRunes'. -/
def vtRunesCard : Claim7 := { stood := { row := vtRunesRow, standIns := [], harness := (true, "bafad9fbbd83b174b2be4e71d1621297abcc46527dfade2f5bdfc283c2b602af"), looks := false }, kinds := [], alts := [], laidByText := true, laidKinds := [.data, .pinned], laidTests := true, laidLooks := .later }
def VtRunesCardSaid : Prop := Claim7.holds Tryd.pinned (.plain (OpenSpec.ofChange vtRunesSpec)) vtRunesCard

/-- THE TIED CARD OF 'portholelaw20.VtPieces'. -/
def vtPiecesCard : Claim7 := { stood := { row := vtPiecesRow, standIns := [], harness := (true, "bafad9fbbd83b174b2be4e71d1621297abcc46527dfade2f5bdfc283c2b602af"), looks := false }, kinds := [], alts := [], laidByText := true, laidKinds := [.data, .data, .data, .pinned], laidTests := true, laidLooks := .later }
def VtPiecesCardSaid : Prop := Claim7.holds Tryd.pinned (.plain (OpenSpec.ofChange vtPiecesSpec)) vtPiecesCard

/-- THE TIED CARD OF 'portholelaw20.VtPlain'. -/
def vtPlainCard : Claim7 := { stood := { row := vtPlainRow, standIns := [], harness := (true, "bafad9fbbd83b174b2be4e71d1621297abcc46527dfade2f5bdfc283c2b602af"), looks := false }, kinds := [], alts := [], laidByText := true, laidKinds := [.data, .pinned], laidTests := true, laidLooks := .later }
def VtPlainCardSaid : Prop := Claim7.holds Tryd.pinned (.plain (OpenSpec.ofChange vtPlainSpec)) vtPlainCard

/-- THE TIED CARD OF 'portholelaw20.VtParams'. -/
def vtParamsCard : Claim7 := { stood := { row := vtParamsRow, standIns := [], harness := (true, "bafad9fbbd83b174b2be4e71d1621297abcc46527dfade2f5bdfc283c2b602af"), looks := false }, kinds := [], alts := [], laidByText := true, laidKinds := [.data, .pinned], laidTests := true, laidLooks := .later }
def VtParamsCardSaid : Prop := Claim7.holds Tryd.pinned (.plain (OpenSpec.ofChange vtParamsSpec)) vtParamsCard

/-- THE TIED CARD OF 'portholelaw20.VtStrings'. -/
def vtStringsCard : Claim7 := { stood := { row := vtStringsRow, standIns := [], harness := (true, "bafad9fbbd83b174b2be4e71d1621297abcc46527dfade2f5bdfc283c2b602af"), looks := false }, kinds := [], alts := [], laidByText := true, laidKinds := [.data, .pinned], laidTests := true, laidLooks := .later }
def VtStringsCardSaid : Prop := Claim7.holds Tryd.pinned (.plain (OpenSpec.ofChange vtStringsSpec)) vtStringsCard

/-- THE SECOND FORM's CARD OF 'portholelaw20.VtKnown'. -/
def vtKnownUptoCard : Claim7 := { stood := { row := vtKnownUptoRow, standIns := [], harness := (true, "bafad9fbbd83b174b2be4e71d1621297abcc46527dfade2f5bdfc283c2b602af"), looks := false }, kinds := [], alts := [], laidByText := true, laidKinds := [.data, .pinned], laidTests := true, laidLooks := .later }
def VtKnownUptoCardSaid : Prop := Claim7.holds Tryd.pinned (.plain (OpenSpec.upto vtKnownSpec)) vtKnownUptoCard

/-- THE SECOND FORM's CARD OF 'portholelaw20.VtFeeds'. -/
def vtFeedsUptoCard : Claim7 := { stood := { row := vtFeedsUptoRow, standIns := [], harness := (true, "bafad9fbbd83b174b2be4e71d1621297abcc46527dfade2f5bdfc283c2b602af"), looks := false }, kinds := [], alts := [], laidByText := true, laidKinds := [.data, .data, .data, .pinned], laidTests := true, laidLooks := .later }
def VtFeedsUptoCardSaid : Prop := Claim7.holds Tryd.pinned (.plain (OpenSpec.upto vtFeedsSpec)) vtFeedsUptoCard

/-- THE SECOND FORM's CARD OF 'portholelaw20.VtRunes'. -/
def vtRunesUptoCard : Claim7 := { stood := { row := vtRunesUptoRow, standIns := [], harness := (true, "bafad9fbbd83b174b2be4e71d1621297abcc46527dfade2f5bdfc283c2b602af"), looks := false }, kinds := [], alts := [], laidByText := true, laidKinds := [.data, .pinned], laidTests := true, laidLooks := .later }
def VtRunesUptoCardSaid : Prop := Claim7.holds Tryd.pinned (.plain (OpenSpec.upto vtRunesSpec)) vtRunesUptoCard

/-- THE SECOND FORM's CARD OF 'portholelaw20.VtPieces'. -/
def vtPiecesUptoCard : Claim7 := { stood := { row := vtPiecesUptoRow, standIns := [], harness := (true, "bafad9fbbd83b174b2be4e71d1621297abcc46527dfade2f5bdfc283c2b602af"), looks := false }, kinds := [], alts := [], laidByText := true, laidKinds := [.data, .data, .data, .pinned], laidTests := true, laidLooks := .later }
def VtPiecesUptoCardSaid : Prop := Claim7.holds Tryd.pinned (.plain (OpenSpec.upto vtPiecesSpec)) vtPiecesUptoCard

/-- THE SECOND FORM's CARD OF 'portholelaw20.VtPlain'. -/
def vtPlainUptoCard : Claim7 := { stood := { row := vtPlainUptoRow, standIns := [], harness := (true, "bafad9fbbd83b174b2be4e71d1621297abcc46527dfade2f5bdfc283c2b602af"), looks := false }, kinds := [], alts := [], laidByText := true, laidKinds := [.data, .pinned], laidTests := true, laidLooks := .later }
def VtPlainUptoCardSaid : Prop := Claim7.holds Tryd.pinned (.plain (OpenSpec.upto vtPlainSpec)) vtPlainUptoCard

/-- THE SECOND FORM's CARD OF 'portholelaw20.VtParams'. -/
def vtParamsUptoCard : Claim7 := { stood := { row := vtParamsUptoRow, standIns := [], harness := (true, "bafad9fbbd83b174b2be4e71d1621297abcc46527dfade2f5bdfc283c2b602af"), looks := false }, kinds := [], alts := [], laidByText := true, laidKinds := [.data, .pinned], laidTests := true, laidLooks := .later }
def VtParamsUptoCardSaid : Prop := Claim7.holds Tryd.pinned (.plain (OpenSpec.upto vtParamsSpec)) vtParamsUptoCard

/-- THE SECOND FORM's CARD OF 'portholelaw20.VtStrings'. -/
def vtStringsUptoCard : Claim7 := { stood := { row := vtStringsUptoRow, standIns := [], harness := (true, "bafad9fbbd83b174b2be4e71d1621297abcc46527dfade2f5bdfc283c2b602af"), looks := false }, kinds := [], alts := [], laidByText := true, laidKinds := [.data, .pinned], laidTests := true, laidLooks := .later }
def VtStringsUptoCardSaid : Prop := Claim7.holds Tryd.pinned (.plain (OpenSpec.upto vtStringsSpec)) vtStringsUptoCard
end Rows
end Go.Proofs.YthfbefjmenddkaaDoor

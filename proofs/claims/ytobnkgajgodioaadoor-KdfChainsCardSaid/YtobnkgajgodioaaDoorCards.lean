/-
  DERIVED. GIVEN WITH THE SEED: THE CARDS: each row of YtobnkgajgodioaaDoorRows.lean that lists a variable, with what it lists TIED to the program's text (the seventh form; the later family's looks); each row that meets fmt, with fmt's text TOLD by the authors' own Lean function (tested against real Go, not proved from fmt's source: count such statements apart). THE CARD IS WHAT COUNTS. Prove the row's statement (the work); the ties are given (YtobnkgajgodioaaDoorTie.lean); close each card by the builder's one call (the guide's Derived/Test/ToyasCard.lean, 'card_holds'). Laid BY PROGRAM, IN A SANDBOX (cutbox-door.mjs). By AI agents, Wed Nov 11 2026. No macro, syntax, notation, axiom, sorry.
-/
import Derived.Test.YtobnkgajgodioaaDoorRows
import GoSem.ClaimSeven
namespace Go.Proofs.YtobnkgajgodioaaDoor
namespace Rows

/-- THE TIED CARD OF 'portholelaw8.KdfKnown'. -/
def kdfKnownCard : Claim7 := { stood := { row := kdfKnownRow, standIns := [], harness := (true, "d2acf0f90df152320284f289966d358899e3a12532350b81d63095143d0a38d9"), looks := false }, kinds := [], alts := [], laidByText := true, laidKinds := [.data, .data, .data], laidTests := true, laidLooks := .later }
def KdfKnownCardSaid : Prop := Claim7.holds Tryd.pinned (.plain (OpenSpec.ofChange kdfKnownSpec)) kdfKnownCard

/-- THE TIED CARD OF 'portholelaw8.KdfHmac'. -/
def kdfHmacCard : Claim7 := { stood := { row := kdfHmacRow, standIns := [], harness := (true, "d2acf0f90df152320284f289966d358899e3a12532350b81d63095143d0a38d9"), looks := false }, kinds := [], alts := [], laidByText := true, laidKinds := [.data, .data, .data], laidTests := true, laidLooks := .later }
def KdfHmacCardSaid : Prop := Claim7.holds Tryd.pinned (.plain (OpenSpec.ofChange kdfHmacSpec)) kdfHmacCard

/-- THE TIED CARD OF 'portholelaw8.KdfDerives'. -/
def kdfDerivesCard : Claim7 := { stood := { row := kdfDerivesRow, standIns := [], harness := (true, "d2acf0f90df152320284f289966d358899e3a12532350b81d63095143d0a38d9"), looks := false }, kinds := [], alts := [], laidByText := true, laidKinds := [.data, .data, .data], laidTests := true, laidLooks := .later }
def KdfDerivesCardSaid : Prop := Claim7.holds Tryd.pinned (.plain (OpenSpec.ofChange kdfDerivesSpec)) kdfDerivesCard

/-- THE TIED CARD OF 'portholelaw8.KdfChains'. -/
def kdfChainsCard : Claim7 := { stood := { row := kdfChainsRow, standIns := [], harness := (true, "d2acf0f90df152320284f289966d358899e3a12532350b81d63095143d0a38d9"), looks := false }, kinds := [], alts := [], laidByText := true, laidKinds := [.data, .data, .data], laidTests := true, laidLooks := .later }
def KdfChainsCardSaid : Prop := Claim7.holds Tryd.pinned (.plain (OpenSpec.ofChange kdfChainsSpec)) kdfChainsCard

/-- THE SECOND FORM's CARD OF 'portholelaw8.KdfKnown'. -/
def kdfKnownUptoCard : Claim7 := { stood := { row := kdfKnownUptoRow, standIns := [], harness := (true, "d2acf0f90df152320284f289966d358899e3a12532350b81d63095143d0a38d9"), looks := false }, kinds := [], alts := [], laidByText := true, laidKinds := [.data, .data, .data], laidTests := true, laidLooks := .later }
def KdfKnownUptoCardSaid : Prop := Claim7.holds Tryd.pinned (.plain (OpenSpec.upto kdfKnownSpec)) kdfKnownUptoCard

/-- THE SECOND FORM's CARD OF 'portholelaw8.KdfHmac'. -/
def kdfHmacUptoCard : Claim7 := { stood := { row := kdfHmacUptoRow, standIns := [], harness := (true, "d2acf0f90df152320284f289966d358899e3a12532350b81d63095143d0a38d9"), looks := false }, kinds := [], alts := [], laidByText := true, laidKinds := [.data, .data, .data], laidTests := true, laidLooks := .later }
def KdfHmacUptoCardSaid : Prop := Claim7.holds Tryd.pinned (.plain (OpenSpec.upto kdfHmacSpec)) kdfHmacUptoCard

/-- THE SECOND FORM's CARD OF 'portholelaw8.KdfDerives'. -/
def kdfDerivesUptoCard : Claim7 := { stood := { row := kdfDerivesUptoRow, standIns := [], harness := (true, "d2acf0f90df152320284f289966d358899e3a12532350b81d63095143d0a38d9"), looks := false }, kinds := [], alts := [], laidByText := true, laidKinds := [.data, .data, .data], laidTests := true, laidLooks := .later }
def KdfDerivesUptoCardSaid : Prop := Claim7.holds Tryd.pinned (.plain (OpenSpec.upto kdfDerivesSpec)) kdfDerivesUptoCard

/-- THE SECOND FORM's CARD OF 'portholelaw8.KdfChains'. -/
def kdfChainsUptoCard : Claim7 := { stood := { row := kdfChainsUptoRow, standIns := [], harness := (true, "d2acf0f90df152320284f289966d358899e3a12532350b81d63095143d0a38d9"), looks := false }, kinds := [], alts := [], laidByText := true, laidKinds := [.data, .data, .data], laidTests := true, laidLooks := .later }
def KdfChainsUptoCardSaid : Prop := Claim7.holds Tryd.pinned (.plain (OpenSpec.upto kdfChainsSpec)) kdfChainsUptoCard
end Rows
end Go.Proofs.YtobnkgajgodioaaDoor

/-
  DERIVED. GIVEN WITH THE SEED: THE CARDS: each row of YtjdofdokdemnkaaDoorRows.lean that lists a variable, with what it lists TIED to the program's text (the seventh form; the later family's looks); each row that meets fmt, with fmt's text TOLD by the authors' own Lean function (tested against real Go, not proved from fmt's source: count such statements apart). THE CARD IS WHAT COUNTS. Prove the row's statement (the work); the ties are given (YtjdofdokdemnkaaDoorTie.lean); close each card by the builder's one call (the guide's Derived/Test/ToyasCard.lean, 'card_holds'). Laid BY PROGRAM, IN A SANDBOX (cutbox-door.mjs). By AI agents, Wed Nov 11 2026. No macro, syntax, notation, axiom, sorry.
-/
import Derived.Test.YtjdofdokdemnkaaDoorRows
import GoSem.ClaimSeven
namespace Go.Proofs.YtjdofdokdemnkaaDoor
namespace Rows

/-- THE TIED CARD OF 'portholelaw4.ChachaBlocks'. -/
def chachaBlocksCard : Claim7 := { stood := { row := chachaBlocksRow, standIns := [], harness := (true, "3404ca433027ec62c7ced7bb017bac44c5f299d3167d9848773d51b44e53440d"), looks := false }, kinds := [], alts := [], laidByText := true, laidKinds := [.data], laidTests := true, laidLooks := .later }
def ChachaBlocksCardSaid : Prop := Claim7.holds Tryd.pinned (.plain (OpenSpec.ofChange chachaBlocksSpec)) chachaBlocksCard

/-- THE TIED CARD OF 'portholelaw4.ChachaApplies'. -/
def chachaAppliesCard : Claim7 := { stood := { row := chachaAppliesRow, standIns := [], harness := (true, "3404ca433027ec62c7ced7bb017bac44c5f299d3167d9848773d51b44e53440d"), looks := false }, kinds := [], alts := [], laidByText := true, laidKinds := [.data], laidTests := true, laidLooks := .later }
def ChachaAppliesCardSaid : Prop := Claim7.holds Tryd.pinned (.plain (OpenSpec.ofChange chachaAppliesSpec)) chachaAppliesCard

/-- THE TIED CARD OF 'portholelaw7.BlakeSums'. -/
def blakeSumsCard : Claim7 := { stood := { row := blakeSumsRow, standIns := [], harness := (true, "3404ca433027ec62c7ced7bb017bac44c5f299d3167d9848773d51b44e53440d"), looks := false }, kinds := [], alts := [], laidByText := true, laidKinds := [.data, .data, .data], laidTests := true, laidLooks := .later }
def BlakeSumsCardSaid : Prop := Claim7.holds Tryd.pinned (.plain (OpenSpec.ofChange blakeSumsSpec)) blakeSumsCard

/-- THE SECOND FORM's CARD OF 'portholelaw4.ChachaBlocks'. -/
def chachaBlocksUptoCard : Claim7 := { stood := { row := chachaBlocksUptoRow, standIns := [], harness := (true, "3404ca433027ec62c7ced7bb017bac44c5f299d3167d9848773d51b44e53440d"), looks := false }, kinds := [], alts := [], laidByText := true, laidKinds := [.data], laidTests := true, laidLooks := .later }
def ChachaBlocksUptoCardSaid : Prop := Claim7.holds Tryd.pinned (.plain (OpenSpec.upto chachaBlocksSpec)) chachaBlocksUptoCard

/-- THE SECOND FORM's CARD OF 'portholelaw4.ChachaApplies'. -/
def chachaAppliesUptoCard : Claim7 := { stood := { row := chachaAppliesUptoRow, standIns := [], harness := (true, "3404ca433027ec62c7ced7bb017bac44c5f299d3167d9848773d51b44e53440d"), looks := false }, kinds := [], alts := [], laidByText := true, laidKinds := [.data], laidTests := true, laidLooks := .later }
def ChachaAppliesUptoCardSaid : Prop := Claim7.holds Tryd.pinned (.plain (OpenSpec.upto chachaAppliesSpec)) chachaAppliesUptoCard

/-- THE SECOND FORM's CARD OF 'portholelaw7.BlakeSums'. -/
def blakeSumsUptoCard : Claim7 := { stood := { row := blakeSumsUptoRow, standIns := [], harness := (true, "3404ca433027ec62c7ced7bb017bac44c5f299d3167d9848773d51b44e53440d"), looks := false }, kinds := [], alts := [], laidByText := true, laidKinds := [.data, .data, .data], laidTests := true, laidLooks := .later }
def BlakeSumsUptoCardSaid : Prop := Claim7.holds Tryd.pinned (.plain (OpenSpec.upto blakeSumsSpec)) blakeSumsUptoCard
end Rows
end Go.Proofs.YtjdofdokdemnkaaDoor

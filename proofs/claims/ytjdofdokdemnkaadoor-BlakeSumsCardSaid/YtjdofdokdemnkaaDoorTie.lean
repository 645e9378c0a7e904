/-
  DERIVED. GIVEN WITH THE SEED: THE PROGRAM's TIES (one call each: nine closed facts by the kernel) AND EACH ROW's TIE, after the 31st guide's Derived/Test/Toyas{Tie, Card}.lean. No idea stands in it: it is a product of the set-up. Laid BY PROGRAM, IN A SANDBOX (cutbox-door.mjs). By AI agents, Wed Nov 11 2026. No macro, syntax, notation, axiom, sorry.
-/
import Derived.Test.YtjdofdokdemnkaaDoorRows
import Derived.LaidByTextLater
import Derived.SevenTiedAt
import Derived.LaidSub
import Derived.LaidOnce
namespace Go.Proofs.YtjdofdokdemnkaaDoor
open Go
set_option maxRecDepth 100000
theorem seatTie1 : Tryd.prog.laidByTextLater [("porthole/portholeref4.rows", Rows.laid_porthole_portholeref4_rows), ("porthole/portholeref4.iv", Rows.laid_porthole_portholeref4_iv), ("porthole/portholeref4.sigma", Rows.laid_porthole_portholeref4_sigma)] [.data, .data, .data] true :=
  Program.laidByTextLater_by_one 42 8 161 (by kernel_rfl) (by kernel_rfl) (by kernel_rfl) (by kernel_rfl) (by kernel_rfl) (by kernel_rfl) (fun _ _ => by kernel_rfl)
theorem noOwnUnsafe : Tryd.pinned.checked.prog.headLifts.contains "ownunsafe" = false := by kernel_rfl
theorem tie : Tryd.prog.laidByTextLater [("porthole/portholeref4.rows", Rows.laid_porthole_portholeref4_rows)] [.data] true :=
  Program.laidByTextLater.sub seatTie1 ["porthole/portholeref4.rows"] (by kernel_rfl) (by kernel_rfl)
theorem chachaBlocks_row_tie : Rows.chachaBlocksRow.laidByTextAt .later Tryd.pinned [.data] true :=
  OpenClaim.laidByTextAt_later rfl rfl tie noOwnUnsafe
theorem chachaApplies_row_tie : Rows.chachaAppliesRow.laidByTextAt .later Tryd.pinned [.data] true :=
  OpenClaim.laidByTextAt_later rfl rfl tie noOwnUnsafe
theorem tie2 : Tryd.prog.laidByTextLater [("porthole/portholeref4.rows", Rows.laid_porthole_portholeref4_rows), ("porthole/portholeref4.iv", Rows.laid_porthole_portholeref4_iv), ("porthole/portholeref4.sigma", Rows.laid_porthole_portholeref4_sigma)] [.data, .data, .data] true :=
  Program.laidByTextLater.sub seatTie1 ["porthole/portholeref4.rows", "porthole/portholeref4.iv", "porthole/portholeref4.sigma"] (by kernel_rfl) (by kernel_rfl)
theorem blakeSums_row_tie : Rows.blakeSumsRow.laidByTextAt .later Tryd.pinned [.data, .data, .data] true :=
  OpenClaim.laidByTextAt_later rfl rfl tie2 noOwnUnsafe
theorem chachaBlocksUpto_row_tie : Rows.chachaBlocksUptoRow.laidByTextAt .later Tryd.pinned [.data] true :=
  OpenClaim.laidByTextAt_later rfl rfl tie noOwnUnsafe
theorem chachaAppliesUpto_row_tie : Rows.chachaAppliesUptoRow.laidByTextAt .later Tryd.pinned [.data] true :=
  OpenClaim.laidByTextAt_later rfl rfl tie noOwnUnsafe
theorem blakeSumsUpto_row_tie : Rows.blakeSumsUptoRow.laidByTextAt .later Tryd.pinned [.data, .data, .data] true :=
  OpenClaim.laidByTextAt_later rfl rfl tie2 noOwnUnsafe
end Go.Proofs.YtjdofdokdemnkaaDoor

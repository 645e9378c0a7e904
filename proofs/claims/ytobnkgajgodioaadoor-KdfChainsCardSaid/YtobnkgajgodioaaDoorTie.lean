/-
  DERIVED. GIVEN WITH THE SEED: THE PROGRAM's TIES (one call each: nine closed facts by the kernel) AND EACH ROW's TIE, after the 31st guide's Derived/Test/Toyas{Tie, Card}.lean. No idea stands in it: it is a product of the set-up. Laid BY PROGRAM, IN A SANDBOX (cutbox-door.mjs). By AI agents, Wed Nov 11 2026. No macro, syntax, notation, axiom, sorry.
-/
import Derived.Test.YtobnkgajgodioaaDoorRows
import Derived.LaidByTextLater
import Derived.SevenTiedAt
import Derived.LaidSub
import Derived.LaidOnce
namespace Go.Proofs.YtobnkgajgodioaaDoor
open Go
set_option maxRecDepth 100000
theorem seatTie1 : Tryd.prog.laidByTextLater [("porthole/portholeref4.rows", Rows.laid_porthole_portholeref4_rows), ("porthole/portholeref4.iv", Rows.laid_porthole_portholeref4_iv), ("porthole/portholeref4.sigma", Rows.laid_porthole_portholeref4_sigma)] [.data, .data, .data] true :=
  Program.laidByTextLater_by_one 42 8 161 (by kernel_rfl) (by kernel_rfl) (by kernel_rfl) (by kernel_rfl) (by kernel_rfl) (by kernel_rfl) (fun _ _ => by kernel_rfl)
theorem noOwnUnsafe : Tryd.pinned.checked.prog.headLifts.contains "ownunsafe" = false := by kernel_rfl
theorem tie : Tryd.prog.laidByTextLater [("porthole/portholeref4.rows", Rows.laid_porthole_portholeref4_rows), ("porthole/portholeref4.iv", Rows.laid_porthole_portholeref4_iv), ("porthole/portholeref4.sigma", Rows.laid_porthole_portholeref4_sigma)] [.data, .data, .data] true :=
  Program.laidByTextLater.sub seatTie1 ["porthole/portholeref4.rows", "porthole/portholeref4.iv", "porthole/portholeref4.sigma"] (by kernel_rfl) (by kernel_rfl)
theorem kdfKnown_row_tie : Rows.kdfKnownRow.laidByTextAt .later Tryd.pinned [.data, .data, .data] true :=
  OpenClaim.laidByTextAt_later rfl rfl tie noOwnUnsafe
theorem kdfHmac_row_tie : Rows.kdfHmacRow.laidByTextAt .later Tryd.pinned [.data, .data, .data] true :=
  OpenClaim.laidByTextAt_later rfl rfl tie noOwnUnsafe
theorem kdfDerives_row_tie : Rows.kdfDerivesRow.laidByTextAt .later Tryd.pinned [.data, .data, .data] true :=
  OpenClaim.laidByTextAt_later rfl rfl tie noOwnUnsafe
theorem kdfChains_row_tie : Rows.kdfChainsRow.laidByTextAt .later Tryd.pinned [.data, .data, .data] true :=
  OpenClaim.laidByTextAt_later rfl rfl tie noOwnUnsafe
theorem kdfKnownUpto_row_tie : Rows.kdfKnownUptoRow.laidByTextAt .later Tryd.pinned [.data, .data, .data] true :=
  OpenClaim.laidByTextAt_later rfl rfl tie noOwnUnsafe
theorem kdfHmacUpto_row_tie : Rows.kdfHmacUptoRow.laidByTextAt .later Tryd.pinned [.data, .data, .data] true :=
  OpenClaim.laidByTextAt_later rfl rfl tie noOwnUnsafe
theorem kdfDerivesUpto_row_tie : Rows.kdfDerivesUptoRow.laidByTextAt .later Tryd.pinned [.data, .data, .data] true :=
  OpenClaim.laidByTextAt_later rfl rfl tie noOwnUnsafe
theorem kdfChainsUpto_row_tie : Rows.kdfChainsUptoRow.laidByTextAt .later Tryd.pinned [.data, .data, .data] true :=
  OpenClaim.laidByTextAt_later rfl rfl tie noOwnUnsafe
end Go.Proofs.YtobnkgajgodioaaDoor

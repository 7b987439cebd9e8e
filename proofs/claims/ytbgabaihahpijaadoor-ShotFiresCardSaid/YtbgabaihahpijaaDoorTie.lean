/-
  DERIVED. GIVEN WITH THE SEED: THE PROGRAM's TIES (one call each: nine closed facts by the kernel) AND EACH ROW's TIE, after the 31st guide's Derived/Test/Toyas{Tie, Card}.lean. No idea stands in it: it is a product of the set-up. Laid BY PROGRAM, IN A SANDBOX (cutbox-door.mjs). By AI agents, Wed Nov 11 2026. No macro, syntax, notation, axiom, sorry.
-/
import Derived.Test.YtbgabaihahpijaaDoorRows
import Derived.LaidByTextLater
import Derived.SevenTiedAt
import Derived.LaidSub
import Derived.LaidOnce
namespace Go.Proofs.YtbgabaihahpijaaDoor
open Go
set_option maxRecDepth 100000
theorem seatTie1 : Tryd.prog.laidByTextLater [("echelon/echelonref05.unitX", Rows.laid_echelon_echelonref05_unitX), ("echelon/echelonref05.unitY", Rows.laid_echelon_echelonref05_unitY), ("echelon/geom.units", Rows.laid_echelon_geom_units)] [.data, .data, .data] true :=
  Program.laidByTextLater_by_one 40 8 33 (by kernel_rfl) (by kernel_rfl) (by kernel_rfl) (by kernel_rfl) (by kernel_rfl) (by kernel_rfl) (fun _ _ => by kernel_rfl)
theorem noOwnUnsafe : Tryd.pinned.checked.prog.headLifts.contains "ownunsafe" = false := by kernel_rfl
theorem tie : Tryd.prog.laidByTextLater [("echelon/geom.units", Rows.laid_echelon_geom_units)] [.data] true :=
  Program.laidByTextLater.sub seatTie1 ["echelon/geom.units"] (by kernel_rfl) (by kernel_rfl)
theorem shotChecks_row_tie : Rows.shotChecksRow.laidByTextAt .later Tryd.pinned [.data] true :=
  OpenClaim.laidByTextAt_later rfl rfl tie noOwnUnsafe
theorem shotFlies_row_tie : Rows.shotFliesRow.laidByTextAt .later Tryd.pinned [.data] true :=
  OpenClaim.laidByTextAt_later rfl rfl tie noOwnUnsafe
theorem shotStraight_row_tie : Rows.shotStraightRow.laidByTextAt .later Tryd.pinned [.data] true :=
  OpenClaim.laidByTextAt_later rfl rfl tie noOwnUnsafe
theorem shotLives_row_tie : Rows.shotLivesRow.laidByTextAt .later Tryd.pinned [.data] true :=
  OpenClaim.laidByTextAt_later rfl rfl tie noOwnUnsafe
theorem tie2 : Tryd.prog.laidByTextLater [("echelon/echelonref05.unitX", Rows.laid_echelon_echelonref05_unitX), ("echelon/echelonref05.unitY", Rows.laid_echelon_echelonref05_unitY), ("echelon/geom.units", Rows.laid_echelon_geom_units)] [.data, .data, .data] true :=
  Program.laidByTextLater.sub seatTie1 ["echelon/echelonref05.unitX", "echelon/echelonref05.unitY", "echelon/geom.units"] (by kernel_rfl) (by kernel_rfl)
theorem shotFires_row_tie : Rows.shotFiresRow.laidByTextAt .later Tryd.pinned [.data, .data, .data] true :=
  OpenClaim.laidByTextAt_later rfl rfl tie2 noOwnUnsafe
theorem shotChecksUpto_row_tie : Rows.shotChecksUptoRow.laidByTextAt .later Tryd.pinned [.data] true :=
  OpenClaim.laidByTextAt_later rfl rfl tie noOwnUnsafe
theorem shotFiresUpto_row_tie : Rows.shotFiresUptoRow.laidByTextAt .later Tryd.pinned [.data, .data, .data] true :=
  OpenClaim.laidByTextAt_later rfl rfl tie2 noOwnUnsafe
theorem shotFliesUpto_row_tie : Rows.shotFliesUptoRow.laidByTextAt .later Tryd.pinned [.data] true :=
  OpenClaim.laidByTextAt_later rfl rfl tie noOwnUnsafe
theorem shotStraightUpto_row_tie : Rows.shotStraightUptoRow.laidByTextAt .later Tryd.pinned [.data] true :=
  OpenClaim.laidByTextAt_later rfl rfl tie noOwnUnsafe
theorem shotLivesUpto_row_tie : Rows.shotLivesUptoRow.laidByTextAt .later Tryd.pinned [.data] true :=
  OpenClaim.laidByTextAt_later rfl rfl tie noOwnUnsafe
end Go.Proofs.YtbgabaihahpijaaDoor

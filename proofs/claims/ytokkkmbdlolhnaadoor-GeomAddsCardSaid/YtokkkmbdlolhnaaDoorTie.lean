/-
  DERIVED. GIVEN WITH THE SEED: THE PROGRAM's TIES (one call each: nine closed facts by the kernel) AND EACH ROW's TIE, after the 31st guide's Derived/Test/Toyas{Tie, Card}.lean. No idea stands in it: it is a product of the set-up. Laid BY PROGRAM, IN A SANDBOX (cutbox-door.mjs). By AI agents, Wed Nov 11 2026. No macro, syntax, notation, axiom, sorry.
-/
import Derived.Test.YtokkkmbdlolhnaaDoorRows
import Derived.LaidByTextLater
import Derived.SevenTiedAt
import Derived.LaidSub
import Derived.LaidOnce
namespace Go.Proofs.YtokkkmbdlolhnaaDoor
open Go
set_option maxRecDepth 100000
theorem seatTie1 : Tryd.prog.laidByTextLater [("echelon/echelonref05.unitX", Rows.laid_echelon_echelonref05_unitX), ("echelon/echelonref05.unitY", Rows.laid_echelon_echelonref05_unitY), ("echelon/geom.units", Rows.laid_echelon_geom_units)] [.data, .data, .data] true :=
  Program.laidByTextLater_by_one 40 8 33 (by kernel_rfl) (by kernel_rfl) (by kernel_rfl) (by kernel_rfl) (by kernel_rfl) (by kernel_rfl) (fun _ _ => by kernel_rfl)
theorem noOwnUnsafe : Tryd.pinned.checked.prog.headLifts.contains "ownunsafe" = false := by kernel_rfl
theorem tie : Tryd.prog.laidByTextLater [("echelon/geom.units", Rows.laid_echelon_geom_units)] [.data] true :=
  Program.laidByTextLater.sub seatTie1 ["echelon/geom.units"] (by kernel_rfl) (by kernel_rfl)
theorem geomLengths_row_tie : Rows.geomLengthsRow.laidByTextAt .later Tryd.pinned [.data] true :=
  OpenClaim.laidByTextAt_later rfl rfl tie noOwnUnsafe
theorem geomBoxes_row_tie : Rows.geomBoxesRow.laidByTextAt .later Tryd.pinned [.data] true :=
  OpenClaim.laidByTextAt_later rfl rfl tie noOwnUnsafe
theorem geomTurns_row_tie : Rows.geomTurnsRow.laidByTextAt .later Tryd.pinned [.data] true :=
  OpenClaim.laidByTextAt_later rfl rfl tie noOwnUnsafe
theorem geomCaps_row_tie : Rows.geomCapsRow.laidByTextAt .later Tryd.pinned [.data] true :=
  OpenClaim.laidByTextAt_later rfl rfl tie noOwnUnsafe
theorem geomMeets_row_tie : Rows.geomMeetsRow.laidByTextAt .later Tryd.pinned [.data] true :=
  OpenClaim.laidByTextAt_later rfl rfl tie noOwnUnsafe
theorem geomWorks_row_tie : Rows.geomWorksRow.laidByTextAt .later Tryd.pinned [.data] true :=
  OpenClaim.laidByTextAt_later rfl rfl tie noOwnUnsafe
theorem geomAdds_row_tie : Rows.geomAddsRow.laidByTextAt .later Tryd.pinned [.data] true :=
  OpenClaim.laidByTextAt_later rfl rfl tie noOwnUnsafe
theorem tie2 : Tryd.prog.laidByTextLater [("echelon/echelonref05.unitX", Rows.laid_echelon_echelonref05_unitX), ("echelon/echelonref05.unitY", Rows.laid_echelon_echelonref05_unitY), ("echelon/geom.units", Rows.laid_echelon_geom_units)] [.data, .data, .data] true :=
  Program.laidByTextLater.sub seatTie1 ["echelon/echelonref05.unitX", "echelon/echelonref05.unitY", "echelon/geom.units"] (by kernel_rfl) (by kernel_rfl)
theorem geomDirections_row_tie : Rows.geomDirectionsRow.laidByTextAt .later Tryd.pinned [.data, .data, .data] true :=
  OpenClaim.laidByTextAt_later rfl rfl tie2 noOwnUnsafe
theorem geomLengthsUpto_row_tie : Rows.geomLengthsUptoRow.laidByTextAt .later Tryd.pinned [.data] true :=
  OpenClaim.laidByTextAt_later rfl rfl tie noOwnUnsafe
theorem geomDirectionsUpto_row_tie : Rows.geomDirectionsUptoRow.laidByTextAt .later Tryd.pinned [.data, .data, .data] true :=
  OpenClaim.laidByTextAt_later rfl rfl tie2 noOwnUnsafe
theorem geomBoxesUpto_row_tie : Rows.geomBoxesUptoRow.laidByTextAt .later Tryd.pinned [.data] true :=
  OpenClaim.laidByTextAt_later rfl rfl tie noOwnUnsafe
theorem geomTurnsUpto_row_tie : Rows.geomTurnsUptoRow.laidByTextAt .later Tryd.pinned [.data] true :=
  OpenClaim.laidByTextAt_later rfl rfl tie noOwnUnsafe
theorem geomCapsUpto_row_tie : Rows.geomCapsUptoRow.laidByTextAt .later Tryd.pinned [.data] true :=
  OpenClaim.laidByTextAt_later rfl rfl tie noOwnUnsafe
theorem geomMeetsUpto_row_tie : Rows.geomMeetsUptoRow.laidByTextAt .later Tryd.pinned [.data] true :=
  OpenClaim.laidByTextAt_later rfl rfl tie noOwnUnsafe
theorem geomWorksUpto_row_tie : Rows.geomWorksUptoRow.laidByTextAt .later Tryd.pinned [.data] true :=
  OpenClaim.laidByTextAt_later rfl rfl tie noOwnUnsafe
theorem geomAddsUpto_row_tie : Rows.geomAddsUptoRow.laidByTextAt .later Tryd.pinned [.data] true :=
  OpenClaim.laidByTextAt_later rfl rfl tie noOwnUnsafe
end Go.Proofs.YtokkkmbdlolhnaaDoor

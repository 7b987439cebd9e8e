/-
  DERIVED. GIVEN WITH THE SEED: THE CARDS: each row of YtbgabaihahpijaaDoorRows.lean that lists a variable, with what it lists TIED to the program's text (the seventh form; the later family's looks); each row that meets fmt, with fmt's text TOLD by the authors' own Lean function (tested against real Go, not proved from fmt's source: count such statements apart). THE CARD IS WHAT COUNTS. Prove the row's statement (the work); the ties are given (YtbgabaihahpijaaDoorTie.lean); close each card by the builder's one call (the guide's Derived/Test/ToyasCard.lean, 'card_holds'). Laid BY PROGRAM, IN A SANDBOX (cutbox-door.mjs). By AI agents, Wed Nov 11 2026. No macro, syntax, notation, axiom, sorry.
-/
import Derived.Test.YtbgabaihahpijaaDoorRows
import GoSem.ClaimSeven
namespace Go.Proofs.YtbgabaihahpijaaDoor
namespace Rows

/-- THE TIED CARD OF 'echelonlaw09.ShotChecks'. -/
def shotChecksCard : Claim7 := { stood := { row := shotChecksRow, standIns := [], harness := (true, "508d6b5e71b79e913dde8e35b3c50aeb29781894a286d4746dab5284f509bb49"), looks := false }, kinds := [], alts := [], laidByText := true, laidKinds := [.data], laidTests := true, laidLooks := .later }
def ShotChecksCardSaid : Prop := Claim7.holds Tryd.pinned (.plain (OpenSpec.ofChange shotChecksSpec)) shotChecksCard

/-- THE TIED CARD OF 'echelonlaw09.ShotFires'. -/
def shotFiresCard : Claim7 := { stood := { row := shotFiresRow, standIns := [], harness := (true, "508d6b5e71b79e913dde8e35b3c50aeb29781894a286d4746dab5284f509bb49"), looks := false }, kinds := [], alts := [], laidByText := true, laidKinds := [.data, .data, .data], laidTests := true, laidLooks := .later }
def ShotFiresCardSaid : Prop := Claim7.holds Tryd.pinned (.plain (OpenSpec.ofChange shotFiresSpec)) shotFiresCard

/-- THE TIED CARD OF 'echelonlaw09.ShotFlies'. -/
def shotFliesCard : Claim7 := { stood := { row := shotFliesRow, standIns := [], harness := (true, "508d6b5e71b79e913dde8e35b3c50aeb29781894a286d4746dab5284f509bb49"), looks := false }, kinds := [], alts := [], laidByText := true, laidKinds := [.data], laidTests := true, laidLooks := .later }
def ShotFliesCardSaid : Prop := Claim7.holds Tryd.pinned (.plain (OpenSpec.ofChange shotFliesSpec)) shotFliesCard

/-- THE TIED CARD OF 'echelonlaw09.ShotStraight'. -/
def shotStraightCard : Claim7 := { stood := { row := shotStraightRow, standIns := [], harness := (true, "508d6b5e71b79e913dde8e35b3c50aeb29781894a286d4746dab5284f509bb49"), looks := false }, kinds := [], alts := [], laidByText := true, laidKinds := [.data], laidTests := true, laidLooks := .later }
def ShotStraightCardSaid : Prop := Claim7.holds Tryd.pinned (.plain (OpenSpec.ofChange shotStraightSpec)) shotStraightCard

/-- THE TIED CARD OF 'echelonlaw09.ShotLives'. -/
def shotLivesCard : Claim7 := { stood := { row := shotLivesRow, standIns := [], harness := (true, "508d6b5e71b79e913dde8e35b3c50aeb29781894a286d4746dab5284f509bb49"), looks := false }, kinds := [], alts := [], laidByText := true, laidKinds := [.data], laidTests := true, laidLooks := .later }
def ShotLivesCardSaid : Prop := Claim7.holds Tryd.pinned (.plain (OpenSpec.ofChange shotLivesSpec)) shotLivesCard

/-- THE SECOND FORM's CARD OF 'echelonlaw09.ShotChecks'. -/
def shotChecksUptoCard : Claim7 := { stood := { row := shotChecksUptoRow, standIns := [], harness := (true, "508d6b5e71b79e913dde8e35b3c50aeb29781894a286d4746dab5284f509bb49"), looks := false }, kinds := [], alts := [], laidByText := true, laidKinds := [.data], laidTests := true, laidLooks := .later }
def ShotChecksUptoCardSaid : Prop := Claim7.holds Tryd.pinned (.plain (OpenSpec.upto shotChecksSpec)) shotChecksUptoCard

/-- THE SECOND FORM's CARD OF 'echelonlaw09.ShotFires'. -/
def shotFiresUptoCard : Claim7 := { stood := { row := shotFiresUptoRow, standIns := [], harness := (true, "508d6b5e71b79e913dde8e35b3c50aeb29781894a286d4746dab5284f509bb49"), looks := false }, kinds := [], alts := [], laidByText := true, laidKinds := [.data, .data, .data], laidTests := true, laidLooks := .later }
def ShotFiresUptoCardSaid : Prop := Claim7.holds Tryd.pinned (.plain (OpenSpec.upto shotFiresSpec)) shotFiresUptoCard

/-- THE SECOND FORM's CARD OF 'echelonlaw09.ShotFlies'. -/
def shotFliesUptoCard : Claim7 := { stood := { row := shotFliesUptoRow, standIns := [], harness := (true, "508d6b5e71b79e913dde8e35b3c50aeb29781894a286d4746dab5284f509bb49"), looks := false }, kinds := [], alts := [], laidByText := true, laidKinds := [.data], laidTests := true, laidLooks := .later }
def ShotFliesUptoCardSaid : Prop := Claim7.holds Tryd.pinned (.plain (OpenSpec.upto shotFliesSpec)) shotFliesUptoCard

/-- THE SECOND FORM's CARD OF 'echelonlaw09.ShotStraight'. -/
def shotStraightUptoCard : Claim7 := { stood := { row := shotStraightUptoRow, standIns := [], harness := (true, "508d6b5e71b79e913dde8e35b3c50aeb29781894a286d4746dab5284f509bb49"), looks := false }, kinds := [], alts := [], laidByText := true, laidKinds := [.data], laidTests := true, laidLooks := .later }
def ShotStraightUptoCardSaid : Prop := Claim7.holds Tryd.pinned (.plain (OpenSpec.upto shotStraightSpec)) shotStraightUptoCard

/-- THE SECOND FORM's CARD OF 'echelonlaw09.ShotLives'. -/
def shotLivesUptoCard : Claim7 := { stood := { row := shotLivesUptoRow, standIns := [], harness := (true, "508d6b5e71b79e913dde8e35b3c50aeb29781894a286d4746dab5284f509bb49"), looks := false }, kinds := [], alts := [], laidByText := true, laidKinds := [.data], laidTests := true, laidLooks := .later }
def ShotLivesUptoCardSaid : Prop := Claim7.holds Tryd.pinned (.plain (OpenSpec.upto shotLivesSpec)) shotLivesUptoCard
end Rows
end Go.Proofs.YtbgabaihahpijaaDoor

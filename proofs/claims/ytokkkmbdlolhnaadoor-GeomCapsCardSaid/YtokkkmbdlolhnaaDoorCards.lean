/-
  DERIVED. GIVEN WITH THE SEED: THE CARDS: each row of YtokkkmbdlolhnaaDoorRows.lean that lists a variable, with what it lists TIED to the program's text (the seventh form; the later family's looks); each row that meets fmt, with fmt's text TOLD by the authors' own Lean function (tested against real Go, not proved from fmt's source: count such statements apart). THE CARD IS WHAT COUNTS. Prove the row's statement (the work); the ties are given (YtokkkmbdlolhnaaDoorTie.lean); close each card by the builder's one call (the guide's Derived/Test/ToyasCard.lean, 'card_holds'). Laid BY PROGRAM, IN A SANDBOX (cutbox-door.mjs). By AI agents, Wed Nov 11 2026. No macro, syntax, notation, axiom, sorry.
-/
import Derived.Test.YtokkkmbdlolhnaaDoorRows
import GoSem.ClaimSeven
namespace Go.Proofs.YtokkkmbdlolhnaaDoor
namespace Rows

/-- THE TIED CARD OF 'echelonlaw05.GeomLengths'. -/
def geomLengthsCard : Claim7 := { stood := { row := geomLengthsRow, standIns := [], harness := (true, "43d1f844d35e04c3608ebcb9b9fefbdae41a90e14514e9edbb29390353311e8a"), looks := false }, kinds := [], alts := [], laidByText := true, laidKinds := [.data], laidTests := true, laidLooks := .later }
def GeomLengthsCardSaid : Prop := Claim7.holds Tryd.pinned (.plain (OpenSpec.ofChange geomLengthsSpec)) geomLengthsCard

/-- THE TIED CARD OF 'echelonlaw05.GeomDirections'. -/
def geomDirectionsCard : Claim7 := { stood := { row := geomDirectionsRow, standIns := [], harness := (true, "43d1f844d35e04c3608ebcb9b9fefbdae41a90e14514e9edbb29390353311e8a"), looks := false }, kinds := [], alts := [], laidByText := true, laidKinds := [.data, .data, .data], laidTests := true, laidLooks := .later }
def GeomDirectionsCardSaid : Prop := Claim7.holds Tryd.pinned (.plain (OpenSpec.ofChange geomDirectionsSpec)) geomDirectionsCard

/-- THE TIED CARD OF 'echelonlaw05.GeomBoxes'. -/
def geomBoxesCard : Claim7 := { stood := { row := geomBoxesRow, standIns := [], harness := (true, "43d1f844d35e04c3608ebcb9b9fefbdae41a90e14514e9edbb29390353311e8a"), looks := false }, kinds := [], alts := [], laidByText := true, laidKinds := [.data], laidTests := true, laidLooks := .later }
def GeomBoxesCardSaid : Prop := Claim7.holds Tryd.pinned (.plain (OpenSpec.ofChange geomBoxesSpec)) geomBoxesCard

/-- THE TIED CARD OF 'echelonlaw05.GeomTurns'. -/
def geomTurnsCard : Claim7 := { stood := { row := geomTurnsRow, standIns := [], harness := (true, "43d1f844d35e04c3608ebcb9b9fefbdae41a90e14514e9edbb29390353311e8a"), looks := false }, kinds := [], alts := [], laidByText := true, laidKinds := [.data], laidTests := true, laidLooks := .later }
def GeomTurnsCardSaid : Prop := Claim7.holds Tryd.pinned (.plain (OpenSpec.ofChange geomTurnsSpec)) geomTurnsCard

/-- THE TIED CARD OF 'echelonlaw05.GeomCaps'. -/
def geomCapsCard : Claim7 := { stood := { row := geomCapsRow, standIns := [], harness := (true, "43d1f844d35e04c3608ebcb9b9fefbdae41a90e14514e9edbb29390353311e8a"), looks := false }, kinds := [], alts := [], laidByText := true, laidKinds := [.data], laidTests := true, laidLooks := .later }
def GeomCapsCardSaid : Prop := Claim7.holds Tryd.pinned (.plain (OpenSpec.ofChange geomCapsSpec)) geomCapsCard

/-- THE TIED CARD OF 'echelonlaw05.GeomMeets'. -/
def geomMeetsCard : Claim7 := { stood := { row := geomMeetsRow, standIns := [], harness := (true, "43d1f844d35e04c3608ebcb9b9fefbdae41a90e14514e9edbb29390353311e8a"), looks := false }, kinds := [], alts := [], laidByText := true, laidKinds := [.data], laidTests := true, laidLooks := .later }
def GeomMeetsCardSaid : Prop := Claim7.holds Tryd.pinned (.plain (OpenSpec.ofChange geomMeetsSpec)) geomMeetsCard

/-- THE TIED CARD OF 'echelonlaw05.GeomWorks'. -/
def geomWorksCard : Claim7 := { stood := { row := geomWorksRow, standIns := [], harness := (true, "43d1f844d35e04c3608ebcb9b9fefbdae41a90e14514e9edbb29390353311e8a"), looks := false }, kinds := [], alts := [], laidByText := true, laidKinds := [.data], laidTests := true, laidLooks := .later }
def GeomWorksCardSaid : Prop := Claim7.holds Tryd.pinned (.plain (OpenSpec.ofChange geomWorksSpec)) geomWorksCard

/-- THE TIED CARD OF 'echelonlaw05.GeomAdds'. -/
def geomAddsCard : Claim7 := { stood := { row := geomAddsRow, standIns := [], harness := (true, "43d1f844d35e04c3608ebcb9b9fefbdae41a90e14514e9edbb29390353311e8a"), looks := false }, kinds := [], alts := [], laidByText := true, laidKinds := [.data], laidTests := true, laidLooks := .later }
def GeomAddsCardSaid : Prop := Claim7.holds Tryd.pinned (.plain (OpenSpec.ofChange geomAddsSpec)) geomAddsCard

/-- THE SECOND FORM's CARD OF 'echelonlaw05.GeomLengths'. -/
def geomLengthsUptoCard : Claim7 := { stood := { row := geomLengthsUptoRow, standIns := [], harness := (true, "43d1f844d35e04c3608ebcb9b9fefbdae41a90e14514e9edbb29390353311e8a"), looks := false }, kinds := [], alts := [], laidByText := true, laidKinds := [.data], laidTests := true, laidLooks := .later }
def GeomLengthsUptoCardSaid : Prop := Claim7.holds Tryd.pinned (.plain (OpenSpec.upto geomLengthsSpec)) geomLengthsUptoCard

/-- THE SECOND FORM's CARD OF 'echelonlaw05.GeomDirections'. -/
def geomDirectionsUptoCard : Claim7 := { stood := { row := geomDirectionsUptoRow, standIns := [], harness := (true, "43d1f844d35e04c3608ebcb9b9fefbdae41a90e14514e9edbb29390353311e8a"), looks := false }, kinds := [], alts := [], laidByText := true, laidKinds := [.data, .data, .data], laidTests := true, laidLooks := .later }
def GeomDirectionsUptoCardSaid : Prop := Claim7.holds Tryd.pinned (.plain (OpenSpec.upto geomDirectionsSpec)) geomDirectionsUptoCard

/-- THE SECOND FORM's CARD OF 'echelonlaw05.GeomBoxes'. -/
def geomBoxesUptoCard : Claim7 := { stood := { row := geomBoxesUptoRow, standIns := [], harness := (true, "43d1f844d35e04c3608ebcb9b9fefbdae41a90e14514e9edbb29390353311e8a"), looks := false }, kinds := [], alts := [], laidByText := true, laidKinds := [.data], laidTests := true, laidLooks := .later }
def GeomBoxesUptoCardSaid : Prop := Claim7.holds Tryd.pinned (.plain (OpenSpec.upto geomBoxesSpec)) geomBoxesUptoCard

/-- THE SECOND FORM's CARD OF 'echelonlaw05.GeomTurns'. -/
def geomTurnsUptoCard : Claim7 := { stood := { row := geomTurnsUptoRow, standIns := [], harness := (true, "43d1f844d35e04c3608ebcb9b9fefbdae41a90e14514e9edbb29390353311e8a"), looks := false }, kinds := [], alts := [], laidByText := true, laidKinds := [.data], laidTests := true, laidLooks := .later }
def GeomTurnsUptoCardSaid : Prop := Claim7.holds Tryd.pinned (.plain (OpenSpec.upto geomTurnsSpec)) geomTurnsUptoCard

/-- THE SECOND FORM's CARD OF 'echelonlaw05.GeomCaps'. -/
def geomCapsUptoCard : Claim7 := { stood := { row := geomCapsUptoRow, standIns := [], harness := (true, "43d1f844d35e04c3608ebcb9b9fefbdae41a90e14514e9edbb29390353311e8a"), looks := false }, kinds := [], alts := [], laidByText := true, laidKinds := [.data], laidTests := true, laidLooks := .later }
def GeomCapsUptoCardSaid : Prop := Claim7.holds Tryd.pinned (.plain (OpenSpec.upto geomCapsSpec)) geomCapsUptoCard

/-- THE SECOND FORM's CARD OF 'echelonlaw05.GeomMeets'. -/
def geomMeetsUptoCard : Claim7 := { stood := { row := geomMeetsUptoRow, standIns := [], harness := (true, "43d1f844d35e04c3608ebcb9b9fefbdae41a90e14514e9edbb29390353311e8a"), looks := false }, kinds := [], alts := [], laidByText := true, laidKinds := [.data], laidTests := true, laidLooks := .later }
def GeomMeetsUptoCardSaid : Prop := Claim7.holds Tryd.pinned (.plain (OpenSpec.upto geomMeetsSpec)) geomMeetsUptoCard

/-- THE SECOND FORM's CARD OF 'echelonlaw05.GeomWorks'. -/
def geomWorksUptoCard : Claim7 := { stood := { row := geomWorksUptoRow, standIns := [], harness := (true, "43d1f844d35e04c3608ebcb9b9fefbdae41a90e14514e9edbb29390353311e8a"), looks := false }, kinds := [], alts := [], laidByText := true, laidKinds := [.data], laidTests := true, laidLooks := .later }
def GeomWorksUptoCardSaid : Prop := Claim7.holds Tryd.pinned (.plain (OpenSpec.upto geomWorksSpec)) geomWorksUptoCard

/-- THE SECOND FORM's CARD OF 'echelonlaw05.GeomAdds'. -/
def geomAddsUptoCard : Claim7 := { stood := { row := geomAddsUptoRow, standIns := [], harness := (true, "43d1f844d35e04c3608ebcb9b9fefbdae41a90e14514e9edbb29390353311e8a"), looks := false }, kinds := [], alts := [], laidByText := true, laidKinds := [.data], laidTests := true, laidLooks := .later }
def GeomAddsUptoCardSaid : Prop := Claim7.holds Tryd.pinned (.plain (OpenSpec.upto geomAddsSpec)) geomAddsUptoCard
end Rows
end Go.Proofs.YtokkkmbdlolhnaaDoor

/-
  NARROWER THAN 'FOR EVERY INPUT', by the rows' own cells (each row's printed sentence says how): GeomLengths: laid · GeomDirections: laid · GeomBoxes: laid · GeomTurns: laid · GeomCaps: laid · GeomMeets: laid · GeomWorks: laid · GeomAdds: laid.
  DERIVED. THE GIVEN ROWS OF THIS SEAT. 8 by the template 'for every input the law returns true; each argument reads behind the call as it read before'; 0 by the template 'total and deterministic' (their statements: YtokkkmbdlolhnaaDoorTotals.lean).
  GIVEN WITH THE SEED: the statements are not yours to turn. If you find one false, say at which input.
  Laid BY PROGRAM, IN A SANDBOX (cutbox-rows.mjs): the forced cells as the released guide's own fill.sh prints them over the translation 251a3052c427d0a7… (all of the seat's roots in one cut). By AI agents, Wed Nov 11 2026. No macro, syntax, notation, axiom, sorry.
-/
import Derived.Test.YtokkkmbdlolhnaaDoorChecked
import GoSem.Claim
import GoSem.ClaimJoined
import GoSem.ClaimMapViews
import Derived.JoinedTies
import Derived.KernelRfl
namespace Go.Proofs.YtokkkmbdlolhnaaDoor
/- THE CELL 'sum', in the pinned program and in every row, IS THE sha256 OF THE DUMP (.gsa) THAT YtokkkmbdlolhnaaDoorProg.lean LOADS. Nothing in Lean hashes anything: it is a label: what it is worth is what the hold of that sum in a sandbox is worth. -/
noncomputable def Tryd.pinned : Pinned := { name := "ytokkkmbdlolhnaadoor", sum := "251a3052c427d0a7f33ee75415c30a979a08da4d54a93bb434104a891988d4d2", checked := Tryd.checked }
namespace Rows
def none {H : Type} : Left H := { results := [], args := [] }

/- WHAT THE LISTED PACKAGE-LEVEL VARIABLES READ AS WHEN THE CALL BEGINS. Each datum BY PROGRAM (the guide's laid-datum.mjs) off the statement by which the dump's own 'gosem.cut.vars' lays the variable. In a bare row this is a premise. The card (YtokkkmbdlolhnaaDoorCards.lean) ties it to the program's text. -/
def laid_echelon_geom_units {H : Type} : DataW H := .agg [.agg [.lit (.int .i64 256), .lit (.int .i64 0)], .agg [.lit (.int .i64 237), .lit (.int .i64 98)], .agg [.lit (.int .i64 181), .lit (.int .i64 181)], .agg [.lit (.int .i64 98), .lit (.int .i64 237)], .agg [.lit (.int .i64 0), .lit (.int .i64 256)], .agg [.lit (.int .i64 (-98)), .lit (.int .i64 237)], .agg [.lit (.int .i64 (-181)), .lit (.int .i64 181)], .agg [.lit (.int .i64 (-237)), .lit (.int .i64 98)], .agg [.lit (.int .i64 (-256)), .lit (.int .i64 0)], .agg [.lit (.int .i64 (-237)), .lit (.int .i64 (-98))], .agg [.lit (.int .i64 (-181)), .lit (.int .i64 (-181))], .agg [.lit (.int .i64 (-98)), .lit (.int .i64 (-237))], .agg [.lit (.int .i64 0), .lit (.int .i64 (-256))], .agg [.lit (.int .i64 98), .lit (.int .i64 (-237))], .agg [.lit (.int .i64 181), .lit (.int .i64 (-181))], .agg [.lit (.int .i64 237), .lit (.int .i64 (-98))]]
def laid_echelon_echelonref05_unitX {H : Type} : DataW H := .agg [.lit (.int .i64 256), .lit (.int .i64 237), .lit (.int .i64 181), .lit (.int .i64 98), .lit (.int .i64 0), .lit (.int .i64 (-98)), .lit (.int .i64 (-181)), .lit (.int .i64 (-237)), .lit (.int .i64 (-256)), .lit (.int .i64 (-237)), .lit (.int .i64 (-181)), .lit (.int .i64 (-98)), .lit (.int .i64 0), .lit (.int .i64 98), .lit (.int .i64 181), .lit (.int .i64 237)]
def laid_echelon_echelonref05_unitY {H : Type} : DataW H := .agg [.lit (.int .i64 0), .lit (.int .i64 98), .lit (.int .i64 181), .lit (.int .i64 237), .lit (.int .i64 256), .lit (.int .i64 237), .lit (.int .i64 181), .lit (.int .i64 98), .lit (.int .i64 0), .lit (.int .i64 (-98)), .lit (.int .i64 (-181)), .lit (.int .i64 (-237)), .lit (.int .i64 (-256)), .lit (.int .i64 (-237)), .lit (.int .i64 (-181)), .lit (.int .i64 (-98))]

/-- 'echelonlaw05.GeomLengths': WHATEVER THE INPUT: true; the input reads as it did. -/
def geomLengthsSpec : ChangeSpec := { name := "geomLengths", fn := fun _ => fun
  | [d1, d2] => { results := [.lit (.bool true)], args := [d1, d2] }
  | _ => none }
def geomLengthsRow : OpenClaim := { program := "ytokkkmbdlolhnaadoor", sum := "251a3052c427d0a7f33ee75415c30a979a08da4d54a93bb434104a891988d4d2", func := "echelon/echelonlaw05.GeomLengths", spec := "geomLengths", named := ["echelon/geom.units"], apart := false, laid := [("echelon/geom.units", laid_echelon_geom_units)] }
def GeomLengthsSaid : Prop := geomLengthsRow.holds Tryd.pinned (OpenSpec.ofChange geomLengthsSpec)

/-- ITS FALSE NEIGHBOUR: 'it returns false'. Refute it at one input. -/
def geomLengthsWrong : ChangeSpec := { name := "geomLengths", fn := fun _ => fun
  | [d1, d2] => { results := [.lit (.bool false)], args := [d1, d2] }
  | _ => none }
def GeomLengthsWrongFalsely : Prop := geomLengthsRow.holds Tryd.pinned (OpenSpec.ofChange geomLengthsWrong)

/-- 'echelonlaw05.GeomDirections': WHATEVER THE INPUT: true; the input reads as it did. -/
def geomDirectionsSpec : ChangeSpec := { name := "geomDirections", fn := fun _ => fun
  | [d1, d2, d3] => { results := [.lit (.bool true)], args := [d1, d2, d3] }
  | _ => none }
def geomDirectionsRow : OpenClaim := { program := "ytokkkmbdlolhnaadoor", sum := "251a3052c427d0a7f33ee75415c30a979a08da4d54a93bb434104a891988d4d2", func := "echelon/echelonlaw05.GeomDirections", spec := "geomDirections", named := ["echelon/geom.units", "echelon/echelonref05.unitX", "echelon/echelonref05.unitY"], apart := false, laid := [("echelon/echelonref05.unitX", laid_echelon_echelonref05_unitX), ("echelon/echelonref05.unitY", laid_echelon_echelonref05_unitY), ("echelon/geom.units", laid_echelon_geom_units)] }
def GeomDirectionsSaid : Prop := geomDirectionsRow.holds Tryd.pinned (OpenSpec.ofChange geomDirectionsSpec)

/-- ITS FALSE NEIGHBOUR: 'it returns false'. Refute it at one input. -/
def geomDirectionsWrong : ChangeSpec := { name := "geomDirections", fn := fun _ => fun
  | [d1, d2, d3] => { results := [.lit (.bool false)], args := [d1, d2, d3] }
  | _ => none }
def GeomDirectionsWrongFalsely : Prop := geomDirectionsRow.holds Tryd.pinned (OpenSpec.ofChange geomDirectionsWrong)

/-- 'echelonlaw05.GeomBoxes': WHATEVER THE INPUT: true; the input reads as it did. -/
def geomBoxesSpec : ChangeSpec := { name := "geomBoxes", fn := fun _ => fun
  | [d1, d2, d3, d4] => { results := [.lit (.bool true)], args := [d1, d2, d3, d4] }
  | _ => none }
def geomBoxesRow : OpenClaim := { program := "ytokkkmbdlolhnaadoor", sum := "251a3052c427d0a7f33ee75415c30a979a08da4d54a93bb434104a891988d4d2", func := "echelon/echelonlaw05.GeomBoxes", spec := "geomBoxes", named := ["echelon/geom.units"], apart := false, laid := [("echelon/geom.units", laid_echelon_geom_units)] }
def GeomBoxesSaid : Prop := geomBoxesRow.holds Tryd.pinned (OpenSpec.ofChange geomBoxesSpec)

/-- ITS FALSE NEIGHBOUR: 'it returns false'. Refute it at one input. -/
def geomBoxesWrong : ChangeSpec := { name := "geomBoxes", fn := fun _ => fun
  | [d1, d2, d3, d4] => { results := [.lit (.bool false)], args := [d1, d2, d3, d4] }
  | _ => none }
def GeomBoxesWrongFalsely : Prop := geomBoxesRow.holds Tryd.pinned (OpenSpec.ofChange geomBoxesWrong)

/-- 'echelonlaw05.GeomTurns': WHATEVER THE INPUT: true; the input reads as it did. -/
def geomTurnsSpec : ChangeSpec := { name := "geomTurns", fn := fun _ => fun
  | [d1, d2, d3] => { results := [.lit (.bool true)], args := [d1, d2, d3] }
  | _ => none }
def geomTurnsRow : OpenClaim := { program := "ytokkkmbdlolhnaadoor", sum := "251a3052c427d0a7f33ee75415c30a979a08da4d54a93bb434104a891988d4d2", func := "echelon/echelonlaw05.GeomTurns", spec := "geomTurns", named := ["echelon/geom.units"], apart := false, laid := [("echelon/geom.units", laid_echelon_geom_units)] }
def GeomTurnsSaid : Prop := geomTurnsRow.holds Tryd.pinned (OpenSpec.ofChange geomTurnsSpec)

/-- ITS FALSE NEIGHBOUR: 'it returns false'. Refute it at one input. -/
def geomTurnsWrong : ChangeSpec := { name := "geomTurns", fn := fun _ => fun
  | [d1, d2, d3] => { results := [.lit (.bool false)], args := [d1, d2, d3] }
  | _ => none }
def GeomTurnsWrongFalsely : Prop := geomTurnsRow.holds Tryd.pinned (OpenSpec.ofChange geomTurnsWrong)

/-- 'echelonlaw05.GeomCaps': WHATEVER THE INPUT: true; the input reads as it did. -/
def geomCapsSpec : ChangeSpec := { name := "geomCaps", fn := fun _ => fun
  | [d1, d2] => { results := [.lit (.bool true)], args := [d1, d2] }
  | _ => none }
def geomCapsRow : OpenClaim := { program := "ytokkkmbdlolhnaadoor", sum := "251a3052c427d0a7f33ee75415c30a979a08da4d54a93bb434104a891988d4d2", func := "echelon/echelonlaw05.GeomCaps", spec := "geomCaps", named := ["echelon/geom.units"], apart := false, laid := [("echelon/geom.units", laid_echelon_geom_units)] }
def GeomCapsSaid : Prop := geomCapsRow.holds Tryd.pinned (OpenSpec.ofChange geomCapsSpec)

/-- ITS FALSE NEIGHBOUR: 'it returns false'. Refute it at one input. -/
def geomCapsWrong : ChangeSpec := { name := "geomCaps", fn := fun _ => fun
  | [d1, d2] => { results := [.lit (.bool false)], args := [d1, d2] }
  | _ => none }
def GeomCapsWrongFalsely : Prop := geomCapsRow.holds Tryd.pinned (OpenSpec.ofChange geomCapsWrong)

/-- 'echelonlaw05.GeomMeets': WHATEVER THE INPUT: true; the input reads as it did. -/
def geomMeetsSpec : ChangeSpec := { name := "geomMeets", fn := fun _ => fun
  | [d1, d2, d3] => { results := [.lit (.bool true)], args := [d1, d2, d3] }
  | _ => none }
def geomMeetsRow : OpenClaim := { program := "ytokkkmbdlolhnaadoor", sum := "251a3052c427d0a7f33ee75415c30a979a08da4d54a93bb434104a891988d4d2", func := "echelon/echelonlaw05.GeomMeets", spec := "geomMeets", named := ["echelon/geom.units"], apart := false, laid := [("echelon/geom.units", laid_echelon_geom_units)] }
def GeomMeetsSaid : Prop := geomMeetsRow.holds Tryd.pinned (OpenSpec.ofChange geomMeetsSpec)

/-- ITS FALSE NEIGHBOUR: 'it returns false'. Refute it at one input. -/
def geomMeetsWrong : ChangeSpec := { name := "geomMeets", fn := fun _ => fun
  | [d1, d2, d3] => { results := [.lit (.bool false)], args := [d1, d2, d3] }
  | _ => none }
def GeomMeetsWrongFalsely : Prop := geomMeetsRow.holds Tryd.pinned (OpenSpec.ofChange geomMeetsWrong)

/-- 'echelonlaw05.GeomWorks': WHATEVER THE INPUT: true; the input reads as it did. -/
def geomWorksSpec : ChangeSpec := { name := "geomWorks", fn := fun _ => fun
  | [d1, d2, d3] => { results := [.lit (.bool true)], args := [d1, d2, d3] }
  | _ => none }
def geomWorksRow : OpenClaim := { program := "ytokkkmbdlolhnaadoor", sum := "251a3052c427d0a7f33ee75415c30a979a08da4d54a93bb434104a891988d4d2", func := "echelon/echelonlaw05.GeomWorks", spec := "geomWorks", recurses := true, named := ["echelon/geom.units"], apart := false, laid := [("echelon/geom.units", laid_echelon_geom_units)] }
def GeomWorksSaid : Prop := geomWorksRow.holds Tryd.pinned (OpenSpec.ofChange geomWorksSpec)

/-- ITS FALSE NEIGHBOUR: 'it returns false'. Refute it at one input. -/
def geomWorksWrong : ChangeSpec := { name := "geomWorks", fn := fun _ => fun
  | [d1, d2, d3] => { results := [.lit (.bool false)], args := [d1, d2, d3] }
  | _ => none }
def GeomWorksWrongFalsely : Prop := geomWorksRow.holds Tryd.pinned (OpenSpec.ofChange geomWorksWrong)

/-- 'echelonlaw05.GeomAdds': WHATEVER THE INPUT: true; the input reads as it did. -/
def geomAddsSpec : ChangeSpec := { name := "geomAdds", fn := fun _ => fun
  | [d1, d2] => { results := [.lit (.bool true)], args := [d1, d2] }
  | _ => none }
def geomAddsRow : OpenClaim := { program := "ytokkkmbdlolhnaadoor", sum := "251a3052c427d0a7f33ee75415c30a979a08da4d54a93bb434104a891988d4d2", func := "echelon/echelonlaw05.GeomAdds", spec := "geomAdds", named := ["echelon/geom.units"], apart := false, laid := [("echelon/geom.units", laid_echelon_geom_units)] }
def GeomAddsSaid : Prop := geomAddsRow.holds Tryd.pinned (OpenSpec.ofChange geomAddsSpec)

/-- ITS FALSE NEIGHBOUR: 'it returns false'. Refute it at one input. -/
def geomAddsWrong : ChangeSpec := { name := "geomAdds", fn := fun _ => fun
  | [d1, d2] => { results := [.lit (.bool false)], args := [d1, d2] }
  | _ => none }
def GeomAddsWrongFalsely : Prop := geomAddsRow.holds Tryd.pinned (OpenSpec.ofChange geomAddsWrong)

/- THE SECOND FORM. 'bulk': how many values and letters a reading holds, each counted each time it is reached (what is shared counts as often as it is met; a slice's spare places count too). A statement '..UptoSaid' is the law's where the arguments, and the package variables that the reading takes, are together of bulk at most 1048576: NARROWER than '..Said'. Prove '..Said' where nothing that the law and all that it calls make is longer than what came in: it says more and counts as full. Else prove '..UptoSaid'. A law counts once. -/
mutual
def uptoBulk {H : Type} : DataW H → Nat
  | .lit (.string bytes) => bytes.length + 1
  | .lit _ => 1
  | .nil => 1
  | .ptr d => uptoBulk d + 1
  | .slice elems spare => uptoBulkAll elems + uptoBulkAll spare + 1
  | .agg parts => uptoBulkAll parts + 1
  | .iface _ d => uptoBulk d + 1
  | .map entries => uptoBulkEntries entries + 1
  | .held _ => 1
def uptoBulkAll {H : Type} : List (DataW H) → Nat
  | [] => 0
  | d :: r => uptoBulk d + uptoBulkAll r
def uptoBulkEntries {H : Type} : List (Lit × DataW H) → Nat
  | [] => 0
  | x :: r => uptoBulkEntry x + uptoBulkEntries r
def uptoBulkEntry {H : Type} : Lit × DataW H → Nat
  | (.string bytes, d) => bytes.length + uptoBulk d + 1
  | (_, d) => uptoBulk d + 1
 end
def uptoSmall : (H : Type) → List (DataW H) → Bool := fun _ ds => decide (uptoBulkAll ds ≤ 1048576)
def OpenSpec.upto (s : _root_.Go.ChangeSpec) : _root_.Go.OpenSpec := { _root_.Go.OpenSpec.ofChange s with cond := some uptoSmall }

/-- 'echelonlaw05.GeomLengths', WHERE WHAT IT READS IS OF BULK AT MOST 1048576: true; the input reads as it did. -/
def geomLengthsUptoRow : OpenClaim := { program := "ytokkkmbdlolhnaadoor", sum := "251a3052c427d0a7f33ee75415c30a979a08da4d54a93bb434104a891988d4d2", func := "echelon/echelonlaw05.GeomLengths", spec := "geomLengths", named := ["echelon/geom.units"], apart := false, laid := [("echelon/geom.units", laid_echelon_geom_units)], narrowed := true }
def GeomLengthsUptoSaid : Prop := geomLengthsUptoRow.holds Tryd.pinned (OpenSpec.upto geomLengthsSpec)

/-- 'echelonlaw05.GeomDirections', WHERE WHAT IT READS IS OF BULK AT MOST 1048576: true; the input reads as it did. -/
def geomDirectionsUptoRow : OpenClaim := { program := "ytokkkmbdlolhnaadoor", sum := "251a3052c427d0a7f33ee75415c30a979a08da4d54a93bb434104a891988d4d2", func := "echelon/echelonlaw05.GeomDirections", spec := "geomDirections", named := ["echelon/geom.units", "echelon/echelonref05.unitX", "echelon/echelonref05.unitY"], apart := false, laid := [("echelon/echelonref05.unitX", laid_echelon_echelonref05_unitX), ("echelon/echelonref05.unitY", laid_echelon_echelonref05_unitY), ("echelon/geom.units", laid_echelon_geom_units)], narrowed := true }
def GeomDirectionsUptoSaid : Prop := geomDirectionsUptoRow.holds Tryd.pinned (OpenSpec.upto geomDirectionsSpec)

/-- 'echelonlaw05.GeomBoxes', WHERE WHAT IT READS IS OF BULK AT MOST 1048576: true; the input reads as it did. -/
def geomBoxesUptoRow : OpenClaim := { program := "ytokkkmbdlolhnaadoor", sum := "251a3052c427d0a7f33ee75415c30a979a08da4d54a93bb434104a891988d4d2", func := "echelon/echelonlaw05.GeomBoxes", spec := "geomBoxes", named := ["echelon/geom.units"], apart := false, laid := [("echelon/geom.units", laid_echelon_geom_units)], narrowed := true }
def GeomBoxesUptoSaid : Prop := geomBoxesUptoRow.holds Tryd.pinned (OpenSpec.upto geomBoxesSpec)

/-- 'echelonlaw05.GeomTurns', WHERE WHAT IT READS IS OF BULK AT MOST 1048576: true; the input reads as it did. -/
def geomTurnsUptoRow : OpenClaim := { program := "ytokkkmbdlolhnaadoor", sum := "251a3052c427d0a7f33ee75415c30a979a08da4d54a93bb434104a891988d4d2", func := "echelon/echelonlaw05.GeomTurns", spec := "geomTurns", named := ["echelon/geom.units"], apart := false, laid := [("echelon/geom.units", laid_echelon_geom_units)], narrowed := true }
def GeomTurnsUptoSaid : Prop := geomTurnsUptoRow.holds Tryd.pinned (OpenSpec.upto geomTurnsSpec)

/-- 'echelonlaw05.GeomCaps', WHERE WHAT IT READS IS OF BULK AT MOST 1048576: true; the input reads as it did. -/
def geomCapsUptoRow : OpenClaim := { program := "ytokkkmbdlolhnaadoor", sum := "251a3052c427d0a7f33ee75415c30a979a08da4d54a93bb434104a891988d4d2", func := "echelon/echelonlaw05.GeomCaps", spec := "geomCaps", named := ["echelon/geom.units"], apart := false, laid := [("echelon/geom.units", laid_echelon_geom_units)], narrowed := true }
def GeomCapsUptoSaid : Prop := geomCapsUptoRow.holds Tryd.pinned (OpenSpec.upto geomCapsSpec)

/-- 'echelonlaw05.GeomMeets', WHERE WHAT IT READS IS OF BULK AT MOST 1048576: true; the input reads as it did. -/
def geomMeetsUptoRow : OpenClaim := { program := "ytokkkmbdlolhnaadoor", sum := "251a3052c427d0a7f33ee75415c30a979a08da4d54a93bb434104a891988d4d2", func := "echelon/echelonlaw05.GeomMeets", spec := "geomMeets", named := ["echelon/geom.units"], apart := false, laid := [("echelon/geom.units", laid_echelon_geom_units)], narrowed := true }
def GeomMeetsUptoSaid : Prop := geomMeetsUptoRow.holds Tryd.pinned (OpenSpec.upto geomMeetsSpec)

/-- 'echelonlaw05.GeomWorks', WHERE WHAT IT READS IS OF BULK AT MOST 1048576: true; the input reads as it did. -/
def geomWorksUptoRow : OpenClaim := { program := "ytokkkmbdlolhnaadoor", sum := "251a3052c427d0a7f33ee75415c30a979a08da4d54a93bb434104a891988d4d2", func := "echelon/echelonlaw05.GeomWorks", spec := "geomWorks", recurses := true, named := ["echelon/geom.units"], apart := false, laid := [("echelon/geom.units", laid_echelon_geom_units)], narrowed := true }
def GeomWorksUptoSaid : Prop := geomWorksUptoRow.holds Tryd.pinned (OpenSpec.upto geomWorksSpec)

/-- 'echelonlaw05.GeomAdds', WHERE WHAT IT READS IS OF BULK AT MOST 1048576: true; the input reads as it did. -/
def geomAddsUptoRow : OpenClaim := { program := "ytokkkmbdlolhnaadoor", sum := "251a3052c427d0a7f33ee75415c30a979a08da4d54a93bb434104a891988d4d2", func := "echelon/echelonlaw05.GeomAdds", spec := "geomAdds", named := ["echelon/geom.units"], apart := false, laid := [("echelon/geom.units", laid_echelon_geom_units)], narrowed := true }
def GeomAddsUptoSaid : Prop := geomAddsUptoRow.holds Tryd.pinned (OpenSpec.upto geomAddsSpec)

end Rows
end Go.Proofs.YtokkkmbdlolhnaaDoor

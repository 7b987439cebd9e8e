/-
  NARROWER THAN 'FOR EVERY INPUT', by the rows' own cells (each row's printed sentence says how): ShotChecks: laid · ShotFires: laid · ShotFlies: laid · ShotStraight: laid · ShotLives: laid.
  DERIVED. THE GIVEN ROWS OF THIS SEAT. 5 by the template 'for every input the law returns true; each argument reads behind the call as it read before'; 0 by the template 'total and deterministic' (their statements: YtbgabaihahpijaaDoorTotals.lean).
  GIVEN WITH THE SEED: the statements are not yours to turn. If you find one false, say at which input.
  Laid BY PROGRAM, IN A SANDBOX (cutbox-rows.mjs): the forced cells as the released guide's own fill.sh prints them over the translation 7c00bd82fdfa09fa… (all of the seat's roots in one cut). By AI agents, Wed Nov 11 2026. No macro, syntax, notation, axiom, sorry.
-/
import Derived.Test.YtbgabaihahpijaaDoorChecked
import GoSem.Claim
import GoSem.ClaimJoined
import GoSem.ClaimMapViews
import Derived.JoinedTies
import Derived.KernelRfl
namespace Go.Proofs.YtbgabaihahpijaaDoor
/- THE CELL 'sum', in the pinned program and in every row, IS THE sha256 OF THE DUMP (.gsa) THAT YtbgabaihahpijaaDoorProg.lean LOADS. Nothing in Lean hashes anything: it is a label: what it is worth is what the hold of that sum in a sandbox is worth. -/
noncomputable def Tryd.pinned : Pinned := { name := "ytbgabaihahpijaadoor", sum := "7c00bd82fdfa09fa933c62d67879d56c951bccda4f564d05b1fd5b7dafb4efc8", checked := Tryd.checked }
namespace Rows
def none {H : Type} : Left H := { results := [], args := [] }

/- WHAT THE LISTED PACKAGE-LEVEL VARIABLES READ AS WHEN THE CALL BEGINS. Each datum BY PROGRAM (the guide's laid-datum.mjs) off the statement by which the dump's own 'gosem.cut.vars' lays the variable. In a bare row this is a premise. The card (YtbgabaihahpijaaDoorCards.lean) ties it to the program's text. -/
def laid_echelon_geom_units {H : Type} : DataW H := .agg [.agg [.lit (.int .i64 256), .lit (.int .i64 0)], .agg [.lit (.int .i64 237), .lit (.int .i64 98)], .agg [.lit (.int .i64 181), .lit (.int .i64 181)], .agg [.lit (.int .i64 98), .lit (.int .i64 237)], .agg [.lit (.int .i64 0), .lit (.int .i64 256)], .agg [.lit (.int .i64 (-98)), .lit (.int .i64 237)], .agg [.lit (.int .i64 (-181)), .lit (.int .i64 181)], .agg [.lit (.int .i64 (-237)), .lit (.int .i64 98)], .agg [.lit (.int .i64 (-256)), .lit (.int .i64 0)], .agg [.lit (.int .i64 (-237)), .lit (.int .i64 (-98))], .agg [.lit (.int .i64 (-181)), .lit (.int .i64 (-181))], .agg [.lit (.int .i64 (-98)), .lit (.int .i64 (-237))], .agg [.lit (.int .i64 0), .lit (.int .i64 (-256))], .agg [.lit (.int .i64 98), .lit (.int .i64 (-237))], .agg [.lit (.int .i64 181), .lit (.int .i64 (-181))], .agg [.lit (.int .i64 237), .lit (.int .i64 (-98))]]
def laid_echelon_echelonref05_unitX {H : Type} : DataW H := .agg [.lit (.int .i64 256), .lit (.int .i64 237), .lit (.int .i64 181), .lit (.int .i64 98), .lit (.int .i64 0), .lit (.int .i64 (-98)), .lit (.int .i64 (-181)), .lit (.int .i64 (-237)), .lit (.int .i64 (-256)), .lit (.int .i64 (-237)), .lit (.int .i64 (-181)), .lit (.int .i64 (-98)), .lit (.int .i64 0), .lit (.int .i64 98), .lit (.int .i64 181), .lit (.int .i64 237)]
def laid_echelon_echelonref05_unitY {H : Type} : DataW H := .agg [.lit (.int .i64 0), .lit (.int .i64 98), .lit (.int .i64 181), .lit (.int .i64 237), .lit (.int .i64 256), .lit (.int .i64 237), .lit (.int .i64 181), .lit (.int .i64 98), .lit (.int .i64 0), .lit (.int .i64 (-98)), .lit (.int .i64 (-181)), .lit (.int .i64 (-237)), .lit (.int .i64 (-256)), .lit (.int .i64 (-237)), .lit (.int .i64 (-181)), .lit (.int .i64 (-98))]

/-- 'echelonlaw09.ShotChecks': WHATEVER THE INPUT: true; the input reads as it did. -/
def shotChecksSpec : ChangeSpec := { name := "shotChecks", fn := fun _ => fun
  | [d1, d2] => { results := [.lit (.bool true)], args := [d1, d2] }
  | _ => none }
def shotChecksRow : OpenClaim := { program := "ytbgabaihahpijaadoor", sum := "7c00bd82fdfa09fa933c62d67879d56c951bccda4f564d05b1fd5b7dafb4efc8", func := "echelon/echelonlaw09.ShotChecks", spec := "shotChecks", named := ["echelon/geom.units"], apart := false, laid := [("echelon/geom.units", laid_echelon_geom_units)] }
def ShotChecksSaid : Prop := shotChecksRow.holds Tryd.pinned (OpenSpec.ofChange shotChecksSpec)

/-- ITS FALSE NEIGHBOUR: 'it returns false'. Refute it at one input. -/
def shotChecksWrong : ChangeSpec := { name := "shotChecks", fn := fun _ => fun
  | [d1, d2] => { results := [.lit (.bool false)], args := [d1, d2] }
  | _ => none }
def ShotChecksWrongFalsely : Prop := shotChecksRow.holds Tryd.pinned (OpenSpec.ofChange shotChecksWrong)

/-- 'echelonlaw09.ShotFires': WHATEVER THE INPUT: true; the input reads as it did. -/
def shotFiresSpec : ChangeSpec := { name := "shotFires", fn := fun _ => fun
  | [d1, d2, d3, d4] => { results := [.lit (.bool true)], args := [d1, d2, d3, d4] }
  | _ => none }
def shotFiresRow : OpenClaim := { program := "ytbgabaihahpijaadoor", sum := "7c00bd82fdfa09fa933c62d67879d56c951bccda4f564d05b1fd5b7dafb4efc8", func := "echelon/echelonlaw09.ShotFires", spec := "shotFires", recurses := true, named := ["echelon/geom.units", "echelon/echelonref05.unitX", "echelon/echelonref05.unitY"], apart := false, laid := [("echelon/echelonref05.unitX", laid_echelon_echelonref05_unitX), ("echelon/echelonref05.unitY", laid_echelon_echelonref05_unitY), ("echelon/geom.units", laid_echelon_geom_units)] }
def ShotFiresSaid : Prop := shotFiresRow.holds Tryd.pinned (OpenSpec.ofChange shotFiresSpec)

/-- ITS FALSE NEIGHBOUR: 'it returns false'. Refute it at one input. -/
def shotFiresWrong : ChangeSpec := { name := "shotFires", fn := fun _ => fun
  | [d1, d2, d3, d4] => { results := [.lit (.bool false)], args := [d1, d2, d3, d4] }
  | _ => none }
def ShotFiresWrongFalsely : Prop := shotFiresRow.holds Tryd.pinned (OpenSpec.ofChange shotFiresWrong)

/-- 'echelonlaw09.ShotFlies': WHATEVER THE INPUT: true; the input reads as it did. -/
def shotFliesSpec : ChangeSpec := { name := "shotFlies", fn := fun _ => fun
  | [d1, d2] => { results := [.lit (.bool true)], args := [d1, d2] }
  | _ => none }
def shotFliesRow : OpenClaim := { program := "ytbgabaihahpijaadoor", sum := "7c00bd82fdfa09fa933c62d67879d56c951bccda4f564d05b1fd5b7dafb4efc8", func := "echelon/echelonlaw09.ShotFlies", spec := "shotFlies", named := ["echelon/geom.units"], apart := false, laid := [("echelon/geom.units", laid_echelon_geom_units)] }
def ShotFliesSaid : Prop := shotFliesRow.holds Tryd.pinned (OpenSpec.ofChange shotFliesSpec)

/-- ITS FALSE NEIGHBOUR: 'it returns false'. Refute it at one input. -/
def shotFliesWrong : ChangeSpec := { name := "shotFlies", fn := fun _ => fun
  | [d1, d2] => { results := [.lit (.bool false)], args := [d1, d2] }
  | _ => none }
def ShotFliesWrongFalsely : Prop := shotFliesRow.holds Tryd.pinned (OpenSpec.ofChange shotFliesWrong)

/-- 'echelonlaw09.ShotStraight': WHATEVER THE INPUT: true; the input reads as it did. -/
def shotStraightSpec : ChangeSpec := { name := "shotStraight", fn := fun _ => fun
  | [d1, d2] => { results := [.lit (.bool true)], args := [d1, d2] }
  | _ => none }
def shotStraightRow : OpenClaim := { program := "ytbgabaihahpijaadoor", sum := "7c00bd82fdfa09fa933c62d67879d56c951bccda4f564d05b1fd5b7dafb4efc8", func := "echelon/echelonlaw09.ShotStraight", spec := "shotStraight", named := ["echelon/geom.units"], apart := false, laid := [("echelon/geom.units", laid_echelon_geom_units)] }
def ShotStraightSaid : Prop := shotStraightRow.holds Tryd.pinned (OpenSpec.ofChange shotStraightSpec)

/-- ITS FALSE NEIGHBOUR: 'it returns false'. Refute it at one input. -/
def shotStraightWrong : ChangeSpec := { name := "shotStraight", fn := fun _ => fun
  | [d1, d2] => { results := [.lit (.bool false)], args := [d1, d2] }
  | _ => none }
def ShotStraightWrongFalsely : Prop := shotStraightRow.holds Tryd.pinned (OpenSpec.ofChange shotStraightWrong)

/-- 'echelonlaw09.ShotLives': WHATEVER THE INPUT: true; the input reads as it did. -/
def shotLivesSpec : ChangeSpec := { name := "shotLives", fn := fun _ => fun
  | [d1, d2, d3, d4, d5] => { results := [.lit (.bool true)], args := [d1, d2, d3, d4, d5] }
  | _ => none }
def shotLivesRow : OpenClaim := { program := "ytbgabaihahpijaadoor", sum := "7c00bd82fdfa09fa933c62d67879d56c951bccda4f564d05b1fd5b7dafb4efc8", func := "echelon/echelonlaw09.ShotLives", spec := "shotLives", named := ["echelon/geom.units"], apart := false, laid := [("echelon/geom.units", laid_echelon_geom_units)] }
def ShotLivesSaid : Prop := shotLivesRow.holds Tryd.pinned (OpenSpec.ofChange shotLivesSpec)

/-- ITS FALSE NEIGHBOUR: 'it returns false'. Refute it at one input. -/
def shotLivesWrong : ChangeSpec := { name := "shotLives", fn := fun _ => fun
  | [d1, d2, d3, d4, d5] => { results := [.lit (.bool false)], args := [d1, d2, d3, d4, d5] }
  | _ => none }
def ShotLivesWrongFalsely : Prop := shotLivesRow.holds Tryd.pinned (OpenSpec.ofChange shotLivesWrong)

/- THE SECOND FORM. 'bulk': how many values and letters a reading holds, each counted each time it is reached (what is shared counts as often as it is met; a slice's spare places count too). A statement '..UptoSaid' is the law's where the arguments, and the package variables that the reading takes, are together of bulk at most 1048576: NARROWER than '..Said'. Prove '..Said' where nothing that the law and all that it calls make is longer than what came in: it says more and counts as full. Else prove '..UptoSaid'. A law counts once. -/
mutual
def uptoBulk {H : Type} : DataW H → Nat
  | .lit (.string bytes) => bytes.length + 1
  | .lit _ => 1
  | .nil => 1
  | .ptr d => uptoBulk d + 1
  | .slice elems spare => uptoBulkAll elems + uptoBulkAll spare + 1
  | .agg parts => uptoBulkAll parts + 1
  | .iface _ d => uptoBulk d + 1
  | .map entries => uptoBulkEntries entries + 1
  | .held _ => 1
def uptoBulkAll {H : Type} : List (DataW H) → Nat
  | [] => 0
  | d :: r => uptoBulk d + uptoBulkAll r
def uptoBulkEntries {H : Type} : List (Lit × DataW H) → Nat
  | [] => 0
  | x :: r => uptoBulkEntry x + uptoBulkEntries r
def uptoBulkEntry {H : Type} : Lit × DataW H → Nat
  | (.string bytes, d) => bytes.length + uptoBulk d + 1
  | (_, d) => uptoBulk d + 1
 end
def uptoSmall : (H : Type) → List (DataW H) → Bool := fun _ ds => decide (uptoBulkAll ds ≤ 1048576)
def OpenSpec.upto (s : _root_.Go.ChangeSpec) : _root_.Go.OpenSpec := { _root_.Go.OpenSpec.ofChange s with cond := some uptoSmall }

/-- 'echelonlaw09.ShotChecks', WHERE WHAT IT READS IS OF BULK AT MOST 1048576: true; the input reads as it did. -/
def shotChecksUptoRow : OpenClaim := { program := "ytbgabaihahpijaadoor", sum := "7c00bd82fdfa09fa933c62d67879d56c951bccda4f564d05b1fd5b7dafb4efc8", func := "echelon/echelonlaw09.ShotChecks", spec := "shotChecks", named := ["echelon/geom.units"], apart := false, laid := [("echelon/geom.units", laid_echelon_geom_units)], narrowed := true }
def ShotChecksUptoSaid : Prop := shotChecksUptoRow.holds Tryd.pinned (OpenSpec.upto shotChecksSpec)

/-- 'echelonlaw09.ShotFires', WHERE WHAT IT READS IS OF BULK AT MOST 1048576: true; the input reads as it did. -/
def shotFiresUptoRow : OpenClaim := { program := "ytbgabaihahpijaadoor", sum := "7c00bd82fdfa09fa933c62d67879d56c951bccda4f564d05b1fd5b7dafb4efc8", func := "echelon/echelonlaw09.ShotFires", spec := "shotFires", recurses := true, named := ["echelon/geom.units", "echelon/echelonref05.unitX", "echelon/echelonref05.unitY"], apart := false, laid := [("echelon/echelonref05.unitX", laid_echelon_echelonref05_unitX), ("echelon/echelonref05.unitY", laid_echelon_echelonref05_unitY), ("echelon/geom.units", laid_echelon_geom_units)], narrowed := true }
def ShotFiresUptoSaid : Prop := shotFiresUptoRow.holds Tryd.pinned (OpenSpec.upto shotFiresSpec)

/-- 'echelonlaw09.ShotFlies', WHERE WHAT IT READS IS OF BULK AT MOST 1048576: true; the input reads as it did. -/
def shotFliesUptoRow : OpenClaim := { program := "ytbgabaihahpijaadoor", sum := "7c00bd82fdfa09fa933c62d67879d56c951bccda4f564d05b1fd5b7dafb4efc8", func := "echelon/echelonlaw09.ShotFlies", spec := "shotFlies", named := ["echelon/geom.units"], apart := false, laid := [("echelon/geom.units", laid_echelon_geom_units)], narrowed := true }
def ShotFliesUptoSaid : Prop := shotFliesUptoRow.holds Tryd.pinned (OpenSpec.upto shotFliesSpec)

/-- 'echelonlaw09.ShotStraight', WHERE WHAT IT READS IS OF BULK AT MOST 1048576: true; the input reads as it did. -/
def shotStraightUptoRow : OpenClaim := { program := "ytbgabaihahpijaadoor", sum := "7c00bd82fdfa09fa933c62d67879d56c951bccda4f564d05b1fd5b7dafb4efc8", func := "echelon/echelonlaw09.ShotStraight", spec := "shotStraight", named := ["echelon/geom.units"], apart := false, laid := [("echelon/geom.units", laid_echelon_geom_units)], narrowed := true }
def ShotStraightUptoSaid : Prop := shotStraightUptoRow.holds Tryd.pinned (OpenSpec.upto shotStraightSpec)

/-- 'echelonlaw09.ShotLives', WHERE WHAT IT READS IS OF BULK AT MOST 1048576: true; the input reads as it did. -/
def shotLivesUptoRow : OpenClaim := { program := "ytbgabaihahpijaadoor", sum := "7c00bd82fdfa09fa933c62d67879d56c951bccda4f564d05b1fd5b7dafb4efc8", func := "echelon/echelonlaw09.ShotLives", spec := "shotLives", named := ["echelon/geom.units"], apart := false, laid := [("echelon/geom.units", laid_echelon_geom_units)], narrowed := true }
def ShotLivesUptoSaid : Prop := shotLivesUptoRow.holds Tryd.pinned (OpenSpec.upto shotLivesSpec)

end Rows
end Go.Proofs.YtbgabaihahpijaaDoor

/- Proved: the law GeomDirections returns true for every two numbers and every way. Conditions: none beyond the card's own. -/
import Derived.Test.YtokkkmbdlolhnaaDoorL5I
import Derived.Test.YtokkkmbdlolhnaaDoorCards
import Derived.Stop.LaidErr
import Derived.Test.YtokkkmbdlolhnaaDoorTie
set_option linter.unusedVariables false
set_option linter.unusedSimpArgs false
set_option maxRecDepth 100000
namespace Go.Proofs.YtokkkmbdlolhnaaDoor.geomDirections
open Go Go.Ev Go.L5 Go.ChangeShapes Go.WideShapes Go.ChangeAt Go.RowKit
theorem gX : Tryd.prog.globalNamed "echelon/echelonref05.unitX" = some 1 := by kernel_rfl
theorem gY : Tryd.prog.globalNamed "echelon/echelonref05.unitY" = some 2 := by kernel_rfl
theorem gXt : (Tryd.prog.globals[1]?).map (·.type) = some 50 := by kernel_rfl
theorem gYt : (Tryd.prog.globals[2]?).map (·.type) = some 50 := by kernel_rfl
theorem und50 : Tryd.prog.underlying 50 = some (.array 16 3) := by kernel_rfl
theorem cells50 : Tryd.prog.cellsOf 50 = 16 := by kernel_rfl
theorem selI_getD : ∀ (l : List Int) (i : Nat), selI l i = l.getD i 0
  | [], i => rfl
  | x :: l, 0 => rfl
  | x :: l, i + 1 => by simpa [selI] using selI_getD l i
theorem begin_ {W : World} (hL : laidMet Tryd.prog Rows.geomDirectionsRow.laid W) : R E5.g startMap startMap E5.Gc W W := by
  have h2 : laidMet Tryd.prog (("echelon/echelonref05.unitY", Rows.laid_echelon_echelonref05_unitY) :: [("echelon/geom.units", Rows.laid_echelon_geom_units)]) W := laidMet.tail hL
  refine start3 (rest := []) (laidMet.tail h2) (fun i hi => ?_) (fun i hi => ?_)
  · have := (Lib.tabIs_of_head (zs := [256, 237, 181, 98, 0, -98, -181, -237, -256, -237, -181, -98, 0, 98, 181, 237]) (rest := [("echelon/echelonref05.unitY", Rows.laid_echelon_echelonref05_unitY), ("echelon/geom.units", Rows.laid_echelon_geom_units)]) gX gXt und50 und3 cells3 cells50 hL).cell gX i (by exact hi)
    rw [this, ← selI_getD]; rfl
  · have := (Lib.tabIs_of_head (zs := [0, 98, 181, 237, 256, 237, 181, 98, 0, -98, -181, -237, -256, -237, -181, -98]) (rest := [("echelon/geom.units", Rows.laid_echelon_geom_units)]) gY gYt und50 und3 cells3 cells50 h2).cell gY i (by exact hi)
    rw [this, ← selI_getD]; rfl

theorem run (a b c d : Int) : runP C11 (cF E5 Tryd.f4) [.int .i64 a, .int .i64 b, .agg [.int .i64 c, .int .i64 d]] H5 =
    (.leaf (.bool (true && (ux (dir a).toNat == ux (dir a).toNat && uy (dir a).toNat == uy (dir a).toNat && (dir (a + b) == dir (a + b) && hd c d == hd c d))))) := by kernel_rfl
theorem law (a b c d : Int) : CallsA E5 4 [.int .i64 a, .int .i64 b, .agg [.int .i64 c, .int .i64 d]] E5.Gc (fun s => VW (.bool true) s.1) := by
  refine callsP ok11 Tryd.func4 (by kernel_rfl) (loops_nil (by kernel_rfl)) (Q := fun v => VW (.bool true) v) ?_
  show (runP C11 (cF E5 Tryd.f4) [.int .i64 a, .int .i64 b, .agg [.int .i64 c, .int .i64 d]] H5).holds _
  rw [run]
  exact VW.of_eq (by simp)
theorem own : ownKnob Tryd.prog.godebug = none := by kernel_rfl
theorem laidOut : laidOutB Tryd.prog = true := by kernel_rfl
theorem und4 : Tryd.prog.underlying 4 = some .bool := by kernel_rfl
theorem contract (H : Type) (enc : TypeId × Value → H) (W : World) (base : Nat) (args : Array Value) (ds gs : List (DataW H)) (before : List MemPlace)
    (hval : ∀ (j : Nat) t v, Tryd.f4.params[j]? = some t → args[j]? = some v → Value.okWide Tryd.prog W .any base t v)
    (hW : DataW.Whole enc Tryd.prog Tryd.f4.params.toList Rows.geomDirectionsSpec.vars false W args.toList ds gs before) (hL : laidMetH Tryd.prog Rows.geomDirectionsRow.laid W) :
    Calls Tryd.prog 4 args W fun e W' => ∃ v, e = .returned v ∧ Rows.geomDirectionsSpec.post enc Tryd.prog Tryd.f4 false true false false W args v W' := by
  have hW' := hW
  obtain ⟨p, q, hA0, hV, rfl, hfz, hnd⟩ := hW
  have hA : DataW.TrodAll enc Tryd.prog W 0 (fun _ => true) true Tryd.f4.params.toList args.toList ds p := hA0
  rw [Tryd.params4] at hA hval
  obtain ⟨v0, vs0, d0, ds0, p0, q0, hargs, rfl, rfl, h0, r0⟩ := trodAll_cons hA
  obtain ⟨v1, vs1, d1, ds1, p1, q1, e1, rfl, rfl, h1, r1⟩ := trodAll_cons r0
  obtain ⟨v2, vs2, d2, ds2, p2, q2, e2, rfl, rfl, h2, r2⟩ := trodAll_cons r1
  obtain ⟨rfl, rfl, rfl⟩ := trodAll_nil r2
  obtain rfl : args = #[v0, v1, v2] := by cases args; simp_all
  obtain ⟨rfl, rfl⟩ := trodVars_none hV
  obtain ⟨a, rfl, rfl, rfl, w0⟩ := open_int und3 (hval 0 3 v0 rfl rfl) h0
  obtain ⟨b, rfl, rfl, rfl, w1⟩ := open_int und3 (hval 1 3 v1 rfl rfl) h1
  obtain ⟨c, d, rfl⟩ := open_pt (hval 2 23 v2 rfl rfl) h2
  have hR := begin_ hL
  refine (lift_bool (law a b c d) hR (.cons _ _ _ _ (.int _ _) (.cons _ _ _ _ (.int _ _) (.cons _ _ _ _ (.agg _ _ (.cons _ _ _ _ (.int _ _) (.cons _ _ _ _ (.int _ _) .nil))) .nil)))).mono ?_
  rintro e W' ⟨rfl, hb⟩
  refine ⟨_, rfl, post_below (by exact laidOut) (by kernel_rfl) rfl hW' rfl rfl hb ?_⟩
  intro b sp hd
  exact trodAll_cons_mk (shut_bool und4 _) trodAll_mk0

noncomputable def laidWorld (os : Os) : World :=
  { World.holding Tryd.prog os ⟨#[], #[], []⟩ with heap := ((((World.holding Tryd.prog os ⟨#[], #[], []⟩).heap.modify 0 (fun
      | .cells _ t frozen => .cells #[.int .i64 256, .int .i64 0, .int .i64 237, .int .i64 98, .int .i64 181, .int .i64 181, .int .i64 98, .int .i64 237, .int .i64 0, .int .i64 256, .int .i64 (-98), .int .i64 237, .int .i64 (-181), .int .i64 181, .int .i64 (-237), .int .i64 98, .int .i64 (-256), .int .i64 0, .int .i64 (-237), .int .i64 (-98), .int .i64 (-181), .int .i64 (-181), .int .i64 (-98), .int .i64 (-237), .int .i64 0, .int .i64 (-256), .int .i64 98, .int .i64 (-237), .int .i64 181, .int .i64 (-181), .int .i64 237, .int .i64 (-98)] t frozen
      | o => o)).modify 1 (fun
      | .cells _ t frozen => .cells #[.int .i64 256, .int .i64 237, .int .i64 181, .int .i64 98, .int .i64 0, .int .i64 (-98), .int .i64 (-181), .int .i64 (-237), .int .i64 (-256), .int .i64 (-237), .int .i64 (-181), .int .i64 (-98), .int .i64 0, .int .i64 98, .int .i64 181, .int .i64 237] t frozen
      | o => o)).modify 2 (fun
      | .cells _ t frozen => .cells #[.int .i64 0, .int .i64 98, .int .i64 181, .int .i64 237, .int .i64 256, .int .i64 237, .int .i64 181, .int .i64 98, .int .i64 0, .int .i64 (-98), .int .i64 (-181), .int .i64 (-237), .int .i64 (-256), .int .i64 (-237), .int .i64 (-181), .int .i64 (-98)] t frozen
      | o => o)) }
theorem laid_met (os : Os) : laidMet Tryd.prog Rows.geomDirectionsRow.laid ((laidWorld os).forCall (fun _ _ => 0) ⟨#[], #[.int .i64 0, .int .i64 0, .agg #[.int .i64 0, .int .i64 0]], []⟩).memory :=
  laidMet_of_run' 8 (by kernel_rfl) (by kernel_rfl)
theorem reads (os : Os) {H : Type} (enc : TypeId × Value → H) : ∃ places, DataW.whole enc Tryd.prog ((laidWorld os).forCall (fun _ _ => 0) ⟨#[], #[.int .i64 0, .int .i64 0, .agg #[.int .i64 0, .int .i64 0]], []⟩).memory Tryd.f4.params.toList Rows.geomDirectionsSpec.vars false (#[.int .i64 0, .int .i64 0, .agg #[.int .i64 0, .int .i64 0]] : Array Value).toList 8 = some ([.lit (.int .i64 0), .lit (.int .i64 0), .agg [.lit (.int .i64 0), .lit (.int .i64 0)]], [], places) :=
  ⟨[], by kernel_rfl⟩
theorem lifted (os : Os) (started : os.Started) (H : Type) (enc : TypeId × Value → H) (F : Stop.Interp) :
    ReturnsInHanded {} Tryd.checked os 4 .any ((OpenSpec.ofChange Rows.geomDirectionsSpec).preRow enc Tryd.prog Tryd.f4 Rows.geomDirectionsRow.domain false Rows.geomDirectionsRow.laid) (((OpenSpec.ofChange Rows.geomDirectionsSpec).at F).post enc Tryd.prog Tryd.f4 false true false false) := by
  obtain ⟨places, hx⟩ := reads os enc
  refine returnsInHanded_of_row (C := Tryd.checked) (s := OpenSpec.ofChange Rows.geomDirectionsSpec) own started (by kernel_rfl) Tryd.func4
    (witness_row_at (enc := enc) (C := Tryd.checked) false (laidWorld os) #[.int .i64 0, .int .i64 0, .agg #[.int .i64 0, .int .i64 0]] rfl (by kernel_rfl) (by kernel_rfl) (by kernel_rfl)
      (OpenSpec.preRow_of_cond 8 hx (by kernel_rfl) (fun k hk => by cases hk) (by kernel_rfl) (laid_met os))) ?_
  intro W base args ds gs before hval hW _ _ _ hL _ _
  exact contract H enc W base args ds gs before hval hW hL
theorem said : Rows.GeomDirectionsSaid :=
  OpenClaim.holds_of_cond 4 Tryd.f4 rfl rfl rfl rfl rfl rfl rfl ⟨rfl, rfl, rfl, rfl, rfl⟩ rfl rfl rfl rfl rfl (by kernel_rfl) Tryd.func4 (by kernel_rfl)
    (of_decide_eq_true (by kernel_rfl)) (by unfold Func.isWrapper; first | (rw [if_pos (by decide +kernel)]; kernel_rfl) | (rw [if_neg (by decide +kernel)]; exact ⟨rfl, rfl⟩))
    (fun os started H enc _ F => by rw [OpenClaim.pre_eq_preRow]; exact lifted os started H enc F)
theorem plain (f : FuncId) (fn : Func) (hf : Tryd.pinned.checked.prog.funcNamed "echelon/echelonlaw05.GeomDirections" = some f) (hfn : Tryd.pinned.checked.prog.funcs[f]? = some fn) :
    false = Tryd.pinned.checked.prog.looks [] ∧ ∀ (j : Nat) t, fn.params[j]? = some t → Tryd.pinned.checked.prog.wantsStandIn t = false := by
  obtain rfl : f = 4 := Option.some.inj ((show Tryd.prog.funcNamed "echelon/echelonlaw05.GeomDirections" = some 4 by kernel_rfl).symm.trans hf) |>.symm
  obtain rfl : fn = Tryd.f4 := (Option.some.inj (Tryd.func4.symm.trans hfn)).symm
  refine ⟨by kernel_rfl, fun j t ht => ?_⟩
  rw [Tryd.params4] at ht
  have hm := Array.mem_of_getElem? ht
  have hall : (#[3, 3, 23] : Array Nat).all (fun t => Tryd.prog.wantsStandIn t == false) = true := by kernel_rfl
  rw [Array.all_eq_true_iff_forall_mem] at hall
  have hq := hall t hm
  simp only [beq_iff_eq] at hq
  exact hq
theorem card : Rows.GeomDirectionsCardSaid :=
  Claim7.holds_tied_plain_at .later [] _ _ _ _ said (fun _ h => by cases h) (by kernel_rfl) (fun _ h => by cases h) geomDirections_row_tie rfl ⟨rfl, rfl⟩ (by kernel_rfl) rfl plain (by kernel_rfl)
end Go.Proofs.YtokkkmbdlolhnaaDoor.geomDirections

/- Proved: the law GeomAdds returns true for every two ways. Conditions: none beyond the card's own. -/
import Derived.Test.YtokkkmbdlolhnaaDoorL5pI
import Derived.Test.YtokkkmbdlolhnaaDoorCaps
import Derived.Test.YtokkkmbdlolhnaaDoorCards
import Derived.Test.YtokkkmbdlolhnaaDoorTie
set_option linter.unusedVariables false
set_option linter.unusedSimpArgs false
set_option maxRecDepth 100000
namespace Go.Proofs.YtokkkmbdlolhnaaDoor.geomAdds
open Go Go.Ev Go.L5 Go.L5p Go.ChangeShapes Go.WideShapes Go.ChangeAt Go.RowKit

theorem run (a b c d : Int) : runP C11 (cF E5 Tryd.f10) [.agg [.int .i64 a, .int .i64 b], .agg [.int .i64 c, .int .i64 d]] H5 =
    (.case (decide (bd a > 1073741823) || (decide (bd a < IntKind.i64.wrap (0 - 1073741823)) || (decide (bd b > 1073741823) || (decide (bd b < IntKind.i64.wrap (0 - 1073741823)) || (decide (bd c > 1073741823) || (decide (bd c < IntKind.i64.wrap (0 - 1073741823)) || (decide (bd d > 1073741823) || decide (bd d < IntKind.i64.wrap (0 - 1073741823))))))))) (.leaf (.bool (true))) (.leaf (.bool (true && (sb (ad (bd a) (bd c)) (bd c) == bd a && sb (ad (bd b) (bd d)) (bd d) == bd b && (sb (ad (bd a) (bd c)) (bd a) == bd c && sb (ad (bd b) (bd d)) (bd b) == bd d && (ad (bd a) (bd c) == ad (bd c) (bd a) && ad (bd b) (bd d) == ad (bd d) (bd b))) && ((decide (bd (far (bd a) (bd b)) ≥ 0) && bif bd (far (ad (bd a) (bd c)) (ad (bd b) (bd d))) == 2147483647 then bd (far (IntKind.i64.wrap (0 - bd a)) (bd b)) == bd (far (bd a) (bd b)) && bd (far (bd b) (bd a)) == bd (far (bd a) (bd b)) else decide (bd (far (ad (bd a) (bd c)) (ad (bd b) (bd d))) ≤ IntKind.i64.wrap (IntKind.i64.wrap (bd (far (bd a) (bd b)) + bd (far (bd c) (bd d))) + 2)) && (bd (far (IntKind.i64.wrap (0 - bd a)) (bd b)) == bd (far (bd a) (bd b)) && bd (far (bd b) (bd a)) == bd (far (bd a) (bd b)))) && (ml (bd a) 256 == bd a && ml (bd b) 256 == bd b))))))) := by kernel_rfl
theorem law (a b c d : Int) : CallsA E5 10 [.agg [.int .i64 a, .int .i64 b], .agg [.int .i64 c, .int .i64 d]] E5.Gc (fun s => VW (.bool true) s.1) := by
  refine callsP ok11 Tryd.func10 (by kernel_rfl) (loops_nil (by kernel_rfl)) (Q := fun v => VW (.bool true) v) ?_
  show (runP C11 (cF E5 Tryd.f10) [.agg [.int .i64 a, .int .i64 b], .agg [.int .i64 c, .int .i64 d]] H5).holds _
  rw [run]
  simp only [GT.holds]
  refine ⟨fun _ => VW.refl _, fun h => VW.of_eq ?_⟩
  have w : IntKind.i64.wrap (0 - 1073741823) = -1073741823 := by decide
  rw [w] at h
  simp only [Bool.or_eq_false_iff, decide_eq_false_iff_not, Int.not_lt, gt_iff_lt] at h
  rw [Bool.true_and, adds (bd a) (bd b) (bd c) (bd d) (by omega) (by omega) (by omega) (by omega)]
theorem own : ownKnob Tryd.prog.godebug = none := by kernel_rfl
theorem laidOut : laidOutB Tryd.prog = true := by kernel_rfl
theorem und4 : Tryd.prog.underlying 4 = some .bool := by kernel_rfl
theorem contract (H : Type) (enc : TypeId × Value → H) (W : World) (base : Nat) (args : Array Value) (ds gs : List (DataW H)) (before : List MemPlace)
    (hval : ∀ (j : Nat) t v, Tryd.f10.params[j]? = some t → args[j]? = some v → Value.okWide Tryd.prog W .any base t v)
    (hW : DataW.Whole enc Tryd.prog Tryd.f10.params.toList Rows.geomAddsSpec.vars false W args.toList ds gs before) (hL : laidMetH Tryd.prog Rows.geomAddsRow.laid W) :
    Calls Tryd.prog 10 args W fun e W' => ∃ v, e = .returned v ∧ Rows.geomAddsSpec.post enc Tryd.prog Tryd.f10 false true false false W args v W' := by
  have hW' := hW
  obtain ⟨p, q, hA0, hV, rfl, hfz, hnd⟩ := hW
  have hA : DataW.TrodAll enc Tryd.prog W 0 (fun _ => true) true Tryd.f10.params.toList args.toList ds p := hA0
  rw [Tryd.params10] at hA hval
  obtain ⟨v0, vs0, d0, ds0, p0, q0, hargs, rfl, rfl, h0, r0⟩ := trodAll_cons hA
  obtain ⟨v1, vs1, d1, ds1, p1, q1, e1, rfl, rfl, h1, r1⟩ := trodAll_cons r0
  obtain ⟨rfl, rfl, rfl⟩ := trodAll_nil r1
  obtain rfl : args = #[v0, v1] := by cases args; simp_all
  obtain ⟨rfl, rfl⟩ := trodVars_none hV
  obtain ⟨a, b, rfl⟩ := open_pt (hval 0 23 v0 rfl rfl) h0
  obtain ⟨c, d, rfl⟩ := open_pt (hval 1 23 v1 rfl rfl) h1
  have hR := Go.L5p.start (rest := []) hL
  refine (lift_bool (law a b c d) hR (.cons _ _ _ _ (.agg _ _ (.cons _ _ _ _ (.int _ _) (.cons _ _ _ _ (.int _ _) .nil))) (.cons _ _ _ _ (.agg _ _ (.cons _ _ _ _ (.int _ _) (.cons _ _ _ _ (.int _ _) .nil))) .nil))).mono ?_
  rintro e W' ⟨rfl, hb⟩
  refine ⟨_, rfl, post_below (by exact laidOut) (by kernel_rfl) rfl hW' rfl rfl hb ?_⟩
  intro b sp hd
  exact trodAll_cons_mk (shut_bool und4 _) trodAll_mk0

noncomputable def laidWorld (os : Os) : World :=
  { World.holding Tryd.prog os ⟨#[], #[], []⟩ with heap := (World.holding Tryd.prog os ⟨#[], #[], []⟩).heap.modify 0 fun
      | .cells _ t frozen => .cells #[.int .i64 256, .int .i64 0, .int .i64 237, .int .i64 98, .int .i64 181, .int .i64 181, .int .i64 98, .int .i64 237, .int .i64 0, .int .i64 256, .int .i64 (-98), .int .i64 237, .int .i64 (-181), .int .i64 181, .int .i64 (-237), .int .i64 98, .int .i64 (-256), .int .i64 0, .int .i64 (-237), .int .i64 (-98), .int .i64 (-181), .int .i64 (-181), .int .i64 (-98), .int .i64 (-237), .int .i64 0, .int .i64 (-256), .int .i64 98, .int .i64 (-237), .int .i64 181, .int .i64 (-181), .int .i64 237, .int .i64 (-98)] t frozen
      | o => o }
theorem laid_met (os : Os) : laidMet Tryd.prog Rows.geomAddsRow.laid ((laidWorld os).forCall (fun _ _ => 0) ⟨#[], #[.agg #[.int .i64 0, .int .i64 0], .agg #[.int .i64 0, .int .i64 0]], []⟩).memory :=
  laidMet_of_run' 8 (by kernel_rfl) (by kernel_rfl)
theorem reads (os : Os) {H : Type} (enc : TypeId × Value → H) : ∃ places, DataW.whole enc Tryd.prog ((laidWorld os).forCall (fun _ _ => 0) ⟨#[], #[.agg #[.int .i64 0, .int .i64 0], .agg #[.int .i64 0, .int .i64 0]], []⟩).memory Tryd.f10.params.toList Rows.geomAddsSpec.vars false (#[.agg #[.int .i64 0, .int .i64 0], .agg #[.int .i64 0, .int .i64 0]] : Array Value).toList 8 = some ([.agg [.lit (.int .i64 0), .lit (.int .i64 0)], .agg [.lit (.int .i64 0), .lit (.int .i64 0)]], [], places) :=
  ⟨[], by kernel_rfl⟩
theorem lifted (os : Os) (started : os.Started) (H : Type) (enc : TypeId × Value → H) (F : Stop.Interp) :
    ReturnsInHanded {} Tryd.checked os 10 .any ((OpenSpec.ofChange Rows.geomAddsSpec).preRow enc Tryd.prog Tryd.f10 Rows.geomAddsRow.domain false Rows.geomAddsRow.laid) (((OpenSpec.ofChange Rows.geomAddsSpec).at F).post enc Tryd.prog Tryd.f10 false true false false) := by
  obtain ⟨places, hx⟩ := reads os enc
  refine returnsInHanded_of_row (C := Tryd.checked) (s := OpenSpec.ofChange Rows.geomAddsSpec) own started (by kernel_rfl) Tryd.func10
    (witness_row_at (enc := enc) (C := Tryd.checked) false (laidWorld os) #[.agg #[.int .i64 0, .int .i64 0], .agg #[.int .i64 0, .int .i64 0]] rfl (by kernel_rfl) (by kernel_rfl) (by kernel_rfl)
      (OpenSpec.preRow_of_cond 8 hx (by kernel_rfl) (fun k hk => by cases hk) (by kernel_rfl) (laid_met os))) ?_
  intro W base args ds gs before hval hW _ _ _ hL _ _
  exact contract H enc W base args ds gs before hval hW hL
theorem said : Rows.GeomAddsSaid :=
  OpenClaim.holds_of_cond 10 Tryd.f10 rfl rfl rfl rfl rfl rfl rfl ⟨rfl, rfl, rfl, rfl, rfl⟩ rfl rfl rfl rfl rfl (by kernel_rfl) Tryd.func10 (by kernel_rfl)
    (of_decide_eq_true (by kernel_rfl)) (by unfold Func.isWrapper; first | (rw [if_pos (by decide +kernel)]; kernel_rfl) | (rw [if_neg (by decide +kernel)]; exact ⟨rfl, rfl⟩))
    (fun os started H enc _ F => by rw [OpenClaim.pre_eq_preRow]; exact lifted os started H enc F)
theorem plain (f : FuncId) (fn : Func) (hf : Tryd.pinned.checked.prog.funcNamed "echelon/echelonlaw05.GeomAdds" = some f) (hfn : Tryd.pinned.checked.prog.funcs[f]? = some fn) :
    false = Tryd.pinned.checked.prog.looks [] ∧ ∀ (j : Nat) t, fn.params[j]? = some t → Tryd.pinned.checked.prog.wantsStandIn t = false := by
  obtain rfl : f = 10 := Option.some.inj ((show Tryd.prog.funcNamed "echelon/echelonlaw05.GeomAdds" = some 10 by kernel_rfl).symm.trans hf) |>.symm
  obtain rfl : fn = Tryd.f10 := (Option.some.inj (Tryd.func10.symm.trans hfn)).symm
  refine ⟨by kernel_rfl, fun j t ht => ?_⟩
  rw [Tryd.params10] at ht
  have hm := Array.mem_of_getElem? ht
  have hall : (#[23, 23] : Array Nat).all (fun t => Tryd.prog.wantsStandIn t == false) = true := by kernel_rfl
  rw [Array.all_eq_true_iff_forall_mem] at hall
  have hq := hall t hm
  simp only [beq_iff_eq] at hq
  exact hq
theorem card : Rows.GeomAddsCardSaid :=
  Claim7.holds_tied_plain_at .later [] _ _ _ _ said (fun _ h => by cases h) (by kernel_rfl) (fun _ h => by cases h) geomAdds_row_tie rfl ⟨rfl, rfl⟩ (by kernel_rfl) rfl plain (by kernel_rfl)
end Go.Proofs.YtokkkmbdlolhnaaDoor.geomAdds

/- Proved: the law GeomCaps returns true for every way and every cap. Conditions: none beyond the card's own. -/
import Derived.Test.YtokkkmbdlolhnaaDoorL5pI
import Derived.Test.YtokkkmbdlolhnaaDoorCaps
import Derived.Test.YtokkkmbdlolhnaaDoorCards
import Derived.Test.YtokkkmbdlolhnaaDoorTie
set_option linter.unusedVariables false
set_option linter.unusedSimpArgs false
set_option maxRecDepth 100000
namespace Go.Proofs.YtokkkmbdlolhnaaDoor.geomCaps
open Go Go.Ev Go.L5 Go.L5p Go.ChangeShapes Go.WideShapes Go.ChangeAt Go.RowKit
theorem capx_sign' (a b x : Int) : (capx (bd a) (bd b) x == 0 || decide (capx (bd a) (bd b) x > 0) == decide (bd a > 0) && bd a != 0) = true := by
  have := capx_sign (bd a) (bd b) x; rw [bd_bd] at this; exact this
theorem capy_sign' (a b x : Int) : (capy (bd a) (bd b) x == 0 || decide (capy (bd a) (bd b) x > 0) == decide (bd b > 0) && bd b != 0) = true := by
  have := capy_sign (bd a) (bd b) x; rw [bd_bd] at this; exact this

theorem run (a b x : Int) : runP C11 (cF E5 Tryd.f7) [.agg [.int .i64 a, .int .i64 b], .int .i64 x] H5 =
    (.leaf (.bool (true && (decide (bd (far (capx (bd a) (bd b) x) (capy (bd a) (bd b) x)) ≤ cl x 0 2147483647) && ((capx (bd a) (bd b) x == 0 || decide (capx (bd a) (bd b) x > 0) == decide (bd a > 0) && bd a != 0) && ((capy (bd a) (bd b) x == 0 || decide (capy (bd a) (bd b) x > 0) == decide (bd b > 0) && bd b != 0) && (capx (bd a) (bd b) 2147483646 == capx (capx (bd a) (bd b) 2147483646) (capy (bd a) (bd b) 2147483646) 2147483646 && capy (bd a) (bd b) 2147483646 == capy (capx (bd a) (bd b) 2147483646) (capy (bd a) (bd b) 2147483646) 2147483646))))))) := by kernel_rfl
theorem law (a b x : Int) : CallsA E5 7 [.agg [.int .i64 a, .int .i64 b], .int .i64 x] E5.Gc (fun s => VW (.bool true) s.1) := by
  refine callsP ok11 Tryd.func7 (by kernel_rfl) (loops_nil (by kernel_rfl)) (Q := fun v => VW (.bool true) v) ?_
  show (runP C11 (cF E5 Tryd.f7) [.agg [.int .i64 a, .int .i64 b], .int .i64 x] H5).holds _
  rw [run]
  exact VW.of_eq (by
    rw [capx_sign' a b x, capy_sign' a b x, (cap_again (bd a) (bd b) 2147483646).1, (cap_again (bd a) (bd b) 2147483646).2]
    have := bd_le (cap_far (bd a) (bd b) x) (cl0_rng x).1
    simp [this])
theorem own : ownKnob Tryd.prog.godebug = none := by kernel_rfl
theorem laidOut : laidOutB Tryd.prog = true := by kernel_rfl
theorem und4 : Tryd.prog.underlying 4 = some .bool := by kernel_rfl
theorem contract (H : Type) (enc : TypeId × Value → H) (W : World) (base : Nat) (args : Array Value) (ds gs : List (DataW H)) (before : List MemPlace)
    (hval : ∀ (j : Nat) t v, Tryd.f7.params[j]? = some t → args[j]? = some v → Value.okWide Tryd.prog W .any base t v)
    (hW : DataW.Whole enc Tryd.prog Tryd.f7.params.toList Rows.geomCapsSpec.vars false W args.toList ds gs before) (hL : laidMetH Tryd.prog Rows.geomCapsRow.laid W) :
    Calls Tryd.prog 7 args W fun e W' => ∃ v, e = .returned v ∧ Rows.geomCapsSpec.post enc Tryd.prog Tryd.f7 false true false false W args v W' := by
  have hW' := hW
  obtain ⟨p, q, hA0, hV, rfl, hfz, hnd⟩ := hW
  have hA : DataW.TrodAll enc Tryd.prog W 0 (fun _ => true) true Tryd.f7.params.toList args.toList ds p := hA0
  rw [Tryd.params7] at hA hval
  obtain ⟨v0, vs0, d0, ds0, p0, q0, hargs, rfl, rfl, h0, r0⟩ := trodAll_cons hA
  obtain ⟨v1, vs1, d1, ds1, p1, q1, e1, rfl, rfl, h1, r1⟩ := trodAll_cons r0
  obtain ⟨rfl, rfl, rfl⟩ := trodAll_nil r1
  obtain rfl : args = #[v0, v1] := by cases args; simp_all
  obtain ⟨rfl, rfl⟩ := trodVars_none hV
  obtain ⟨a, b, rfl⟩ := open_pt (hval 0 23 v0 rfl rfl) h0
  obtain ⟨x, rfl, rfl, rfl, w1⟩ := open_int und3 (hval 1 3 v1 rfl rfl) h1
  have hR := Go.L5p.start (rest := []) hL
  refine (lift_bool (law a b x) hR (.cons _ _ _ _ (.agg _ _ (.cons _ _ _ _ (.int _ _) (.cons _ _ _ _ (.int _ _) .nil))) (.cons _ _ _ _ (.int _ _) .nil))).mono ?_
  rintro e W' ⟨rfl, hb⟩
  refine ⟨_, rfl, post_below (by exact laidOut) (by kernel_rfl) rfl hW' rfl rfl hb ?_⟩
  intro b sp hd
  exact trodAll_cons_mk (shut_bool und4 _) trodAll_mk0

noncomputable def laidWorld (os : Os) : World :=
  { World.holding Tryd.prog os ⟨#[], #[], []⟩ with heap := (World.holding Tryd.prog os ⟨#[], #[], []⟩).heap.modify 0 fun
      | .cells _ t frozen => .cells #[.int .i64 256, .int .i64 0, .int .i64 237, .int .i64 98, .int .i64 181, .int .i64 181, .int .i64 98, .int .i64 237, .int .i64 0, .int .i64 256, .int .i64 (-98), .int .i64 237, .int .i64 (-181), .int .i64 181, .int .i64 (-237), .int .i64 98, .int .i64 (-256), .int .i64 0, .int .i64 (-237), .int .i64 (-98), .int .i64 (-181), .int .i64 (-181), .int .i64 (-98), .int .i64 (-237), .int .i64 0, .int .i64 (-256), .int .i64 98, .int .i64 (-237), .int .i64 181, .int .i64 (-181), .int .i64 237, .int .i64 (-98)] t frozen
      | o => o }
theorem laid_met (os : Os) : laidMet Tryd.prog Rows.geomCapsRow.laid ((laidWorld os).forCall (fun _ _ => 0) ⟨#[], #[.agg #[.int .i64 0, .int .i64 0], .int .i64 0], []⟩).memory :=
  laidMet_of_run' 8 (by kernel_rfl) (by kernel_rfl)
theorem reads (os : Os) {H : Type} (enc : TypeId × Value → H) : ∃ places, DataW.whole enc Tryd.prog ((laidWorld os).forCall (fun _ _ => 0) ⟨#[], #[.agg #[.int .i64 0, .int .i64 0], .int .i64 0], []⟩).memory Tryd.f7.params.toList Rows.geomCapsSpec.vars false (#[.agg #[.int .i64 0, .int .i64 0], .int .i64 0] : Array Value).toList 8 = some ([.agg [.lit (.int .i64 0), .lit (.int .i64 0)], .lit (.int .i64 0)], [], places) :=
  ⟨[], by kernel_rfl⟩
theorem lifted (os : Os) (started : os.Started) (H : Type) (enc : TypeId × Value → H) (F : Stop.Interp) :
    ReturnsInHanded {} Tryd.checked os 7 .any ((OpenSpec.ofChange Rows.geomCapsSpec).preRow enc Tryd.prog Tryd.f7 Rows.geomCapsRow.domain false Rows.geomCapsRow.laid) (((OpenSpec.ofChange Rows.geomCapsSpec).at F).post enc Tryd.prog Tryd.f7 false true false false) := by
  obtain ⟨places, hx⟩ := reads os enc
  refine returnsInHanded_of_row (C := Tryd.checked) (s := OpenSpec.ofChange Rows.geomCapsSpec) own started (by kernel_rfl) Tryd.func7
    (witness_row_at (enc := enc) (C := Tryd.checked) false (laidWorld os) #[.agg #[.int .i64 0, .int .i64 0], .int .i64 0] rfl (by kernel_rfl) (by kernel_rfl) (by kernel_rfl)
      (OpenSpec.preRow_of_cond 8 hx (by kernel_rfl) (fun k hk => by cases hk) (by kernel_rfl) (laid_met os))) ?_
  intro W base args ds gs before hval hW _ _ _ hL _ _
  exact contract H enc W base args ds gs before hval hW hL
theorem said : Rows.GeomCapsSaid :=
  OpenClaim.holds_of_cond 7 Tryd.f7 rfl rfl rfl rfl rfl rfl rfl ⟨rfl, rfl, rfl, rfl, rfl⟩ rfl rfl rfl rfl rfl (by kernel_rfl) Tryd.func7 (by kernel_rfl)
    (of_decide_eq_true (by kernel_rfl)) (by unfold Func.isWrapper; first | (rw [if_pos (by decide +kernel)]; kernel_rfl) | (rw [if_neg (by decide +kernel)]; exact ⟨rfl, rfl⟩))
    (fun os started H enc _ F => by rw [OpenClaim.pre_eq_preRow]; exact lifted os started H enc F)
theorem plain (f : FuncId) (fn : Func) (hf : Tryd.pinned.checked.prog.funcNamed "echelon/echelonlaw05.GeomCaps" = some f) (hfn : Tryd.pinned.checked.prog.funcs[f]? = some fn) :
    false = Tryd.pinned.checked.prog.looks [] ∧ ∀ (j : Nat) t, fn.params[j]? = some t → Tryd.pinned.checked.prog.wantsStandIn t = false := by
  obtain rfl : f = 7 := Option.some.inj ((show Tryd.prog.funcNamed "echelon/echelonlaw05.GeomCaps" = some 7 by kernel_rfl).symm.trans hf) |>.symm
  obtain rfl : fn = Tryd.f7 := (Option.some.inj (Tryd.func7.symm.trans hfn)).symm
  refine ⟨by kernel_rfl, fun j t ht => ?_⟩
  rw [Tryd.params7] at ht
  have hm := Array.mem_of_getElem? ht
  have hall : (#[23, 3] : Array Nat).all (fun t => Tryd.prog.wantsStandIn t == false) = true := by kernel_rfl
  rw [Array.all_eq_true_iff_forall_mem] at hall
  have hq := hall t hm
  simp only [beq_iff_eq] at hq
  exact hq
theorem card : Rows.GeomCapsCardSaid :=
  Claim7.holds_tied_plain_at .later [] _ _ _ _ said (fun _ h => by cases h) (by kernel_rfl) (fun _ h => by cases h) geomCaps_row_tie rfl ⟨rfl, rfl⟩ (by kernel_rfl) rfl plain (by kernel_rfl)
end Go.Proofs.YtokkkmbdlolhnaaDoor.geomCaps

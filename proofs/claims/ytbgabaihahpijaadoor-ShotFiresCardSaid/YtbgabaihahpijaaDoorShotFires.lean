/- Proved: the law ShotFires returns true for every mover and every numbers. Conditions: none beyond the card's own. -/
import Derived.Test.YtbgabaihahpijaaDoorL9X
import Derived.Test.YtbgabaihahpijaaDoorCards
import Derived.Test.YtbgabaihahpijaaDoorTie
set_option linter.unusedVariables false
set_option linter.unusedSimpArgs false
set_option maxRecDepth 100000
namespace Go.Proofs.YtbgabaihahpijaaDoor.shotFires
open Go Go.Ev Go.Proofs Go.L5 Go.L9 Go.ChangeShapes Go.WideShapes Go.ChangeAt Go.RowKit

theorem run (x : Int) (y : Int) (sx : Int) (sy : Int) (px : Int) (py : Int) (f : Int) (h : Int) (e : Int) (sh : Bool) (c : Int) (o : Int) (s : Int) (a : Int) (b : Int) (d : Int) : runP C_r09_Fire (cF E6 Tryd.f4) [.agg [.int .i64 x, .int .i64 y, .int .i64 sx, .int .i64 sy, .int .i64 px, .int .i64 py, .int .i64 f, .int .i64 h, .int .i64 e, .bool sh, .int .i64 c, .int .i64 o, .int .i64 s], .int .i64 a, .int .i64 b, .int .i64 d] H6 =
    (.leaf (.bool (true && (gi (okM x y sx sy px py f h e sh c o s && okF a b d) d == gi (okM x y sx sy px py f h e sh c o s && okF a b d) d && (gi (okM x y sx sy px py f h e sh c o s && okF a b d) a == gi (okM x y sx sy px py f h e sh c o s && okF a b d) a && (gi (okM x y sx sy px py f h e sh c o s && okF a b d) b == gi (okM x y sx sy px py f h e sh c o s && okF a b d) b && (gi (okM x y sx sy px py f h e sh c o s && okF a b d) (ad x (ml (ux (dir f).toNat) 1792)) == gi (okM x y sx sy px py f h e sh c o s && okF a b d) (ad x (ml (ux (dir f).toNat) 1792)) && (gi (okM x y sx sy px py f h e sh c o s && okF a b d) (ad y (ml (uy (dir f).toNat) 1792)) == gi (okM x y sx sy px py f h e sh c o s && okF a b d) (ad y (ml (uy (dir f).toNat) 1792)) && (gi (okM x y sx sy px py f h e sh c o s && okF a b d) (ml (ux (dir f).toNat) (256 * (7 - b))) == gi (okM x y sx sy px py f h e sh c o s && okF a b d) (ml (ux (dir f).toNat) (256 * (7 - b))) && (gi (okM x y sx sy px py f h e sh c o s && okF a b d) (ml (uy (dir f).toNat) (256 * (7 - b))) == gi (okM x y sx sy px py f h e sh c o s && okF a b d) (ml (uy (dir f).toNat) (256 * (7 - b))) && gi (okM x y sx sy px py f h e sh c o s && okF a b d) 40 == gi (okM x y sx sy px py f h e sh c o s && okF a b d) 40)))))) && (bif okM x y sx sy px py f h e sh c o s then er (okF a b d) 1 else 80) == bif okM x y sx sy px py f h e sh c o s then er (okF a b d) 1 else 80)))) := by kernel_rfl
theorem law (x : Int) (y : Int) (sx : Int) (sy : Int) (px : Int) (py : Int) (f : Int) (h : Int) (e : Int) (sh : Bool) (c : Int) (o : Int) (s : Int) (a : Int) (b : Int) (d : Int) (h_x : -9223372036854775808 ≤ x ∧ x ≤ 9223372036854775807) (h_y : -9223372036854775808 ≤ y ∧ y ≤ 9223372036854775807) (h_sx : -9223372036854775808 ≤ sx ∧ sx ≤ 9223372036854775807) (h_sy : -9223372036854775808 ≤ sy ∧ sy ≤ 9223372036854775807) (h_px : -9223372036854775808 ≤ px ∧ px ≤ 9223372036854775807) (h_py : -9223372036854775808 ≤ py ∧ py ≤ 9223372036854775807) (h_f : -9223372036854775808 ≤ f ∧ f ≤ 9223372036854775807) (h_h : -9223372036854775808 ≤ h ∧ h ≤ 9223372036854775807) (h_e : -9223372036854775808 ≤ e ∧ e ≤ 9223372036854775807) (h_c : -9223372036854775808 ≤ c ∧ c ≤ 9223372036854775807) (h_o : -9223372036854775808 ≤ o ∧ o ≤ 9223372036854775807) (h_s : -9223372036854775808 ≤ s ∧ s ≤ 9223372036854775807) (h_a : -9223372036854775808 ≤ a ∧ a ≤ 9223372036854775807) (h_b : -9223372036854775808 ≤ b ∧ b ≤ 9223372036854775807) (h_d : -9223372036854775808 ≤ d ∧ d ≤ 9223372036854775807) : CallsA E6 4 [.agg [.int .i64 x, .int .i64 y, .int .i64 sx, .int .i64 sy, .int .i64 px, .int .i64 py, .int .i64 f, .int .i64 h, .int .i64 e, .bool sh, .int .i64 c, .int .i64 o, .int .i64 s], .int .i64 a, .int .i64 b, .int .i64 d] E6.Gc (fun s => VW (.bool true) s.1) := by
  refine callsP ok_r09_Fire Tryd.func4 (by kernel_rfl) (loops_nil (by kernel_rfl)) (Q := fun v => VW (.bool true) v) ?_
  show (runP C_r09_Fire (cF E6 Tryd.f4) _ H6).holds _
  rw [run]
  exact VW.of_eq (by simp)
theorem own : ownKnob Tryd.prog.godebug = none := by kernel_rfl
theorem laidOut : laidOutB Tryd.prog = true := by kernel_rfl
theorem undB : Tryd.prog.underlying 4 = some .bool := by kernel_rfl
theorem contract (H : Type) (enc : TypeId × Value → H) (W : World) (base : Nat) (args : Array Value) (ds gs : List (DataW H)) (before : List MemPlace)
    (hval : ∀ (j : Nat) t v, Tryd.f4.params[j]? = some t → args[j]? = some v → Value.okWide Tryd.prog W .any base t v)
    (hW : DataW.Whole enc Tryd.prog Tryd.f4.params.toList Rows.shotFiresSpec.vars false W args.toList ds gs before)
    (hwt : (DataW.weightsEach Tryd.prog (Tryd.f4.params.toList ++ (OpenSpec.ofChange Rows.shotFiresSpec).bare.plain.varTypes Tryd.prog) (ds ++ gs)).all (· ≤ reachBytes) = true) (hL : laidMetH Tryd.prog Rows.shotFiresRow.laid W) :
    Calls Tryd.prog 4 args W fun e W' => ∃ v, e = .returned v ∧ Rows.shotFiresSpec.post enc Tryd.prog Tryd.f4 false true false false W args v W' := by
  have hW' := hW
  obtain ⟨p, q, hA0, hV, rfl, hfz, hnd⟩ := hW
  have hA : DataW.TrodAll enc Tryd.prog W 0 (fun _ => true) true Tryd.f4.params.toList args.toList ds p := hA0
  rw [Tryd.params4] at hA hval hwt
  obtain ⟨v0, vs0, d0, ds0, p0, q0, hargs, rfl, rfl, h0, r0⟩ := trodAll_cons hA
  obtain ⟨v1, vs1, d1, ds1, p1, q1, e1, rfl, rfl, h1, r1⟩ := trodAll_cons r0
  obtain ⟨v2, vs2, d2, ds2, p2, q2, e2, rfl, rfl, h2, r2⟩ := trodAll_cons r1
  obtain ⟨v3, vs3, d3, ds3, p3, q3, e3, rfl, rfl, h3, r3⟩ := trodAll_cons r2
  obtain ⟨rfl, rfl, rfl⟩ := trodAll_nil r3
  obtain rfl : args = #[v0, v1, v2, v3] := by cases args; simp_all
  obtain ⟨rfl, rfl⟩ := trodVars_none hV
  have hwt' : (d0.weights Tryd.prog 32 ++ (d1.weights Tryd.prog 3 ++ (d2.weights Tryd.prog 3 ++ (d3.weights Tryd.prog 3 ++ [])))).all (· ≤ reachBytes) = true := hwt
  simp only [List.all_append, Bool.and_eq_true] at hwt'
  obtain ⟨hw0, hw1, hw2, hw3, _⟩ := hwt'
  obtain ⟨us0, rfl, L0_0⟩ := open_agg (B := reachBytes) (ls := [.int .i64, .int .i64, .int .i64, .int .i64, .int .i64, .int .i64, .int .i64, .int .i64, .int .i64, .bool, .int .i64, .int .i64, .int .i64]) ⟨_, Tryd.underlying32⟩ (by kernel_rfl) (by kernel_rfl) (hval 0 32 v0 rfl rfl) h0 hw0
  obtain ⟨_, _, rfl, ⟨x, rfl, g_x⟩, L0_1⟩ := L0_0.uncons
  obtain ⟨_, _, rfl, ⟨y, rfl, g_y⟩, L0_2⟩ := L0_1.uncons
  obtain ⟨_, _, rfl, ⟨sx, rfl, g_sx⟩, L0_3⟩ := L0_2.uncons
  obtain ⟨_, _, rfl, ⟨sy, rfl, g_sy⟩, L0_4⟩ := L0_3.uncons
  obtain ⟨_, _, rfl, ⟨px, rfl, g_px⟩, L0_5⟩ := L0_4.uncons
  obtain ⟨_, _, rfl, ⟨py, rfl, g_py⟩, L0_6⟩ := L0_5.uncons
  obtain ⟨_, _, rfl, ⟨f, rfl, g_f⟩, L0_7⟩ := L0_6.uncons
  obtain ⟨_, _, rfl, ⟨h, rfl, g_h⟩, L0_8⟩ := L0_7.uncons
  obtain ⟨_, _, rfl, ⟨e, rfl, g_e⟩, L0_9⟩ := L0_8.uncons
  obtain ⟨_, _, rfl, ⟨sh, rfl⟩, L0_10⟩ := L0_9.uncons
  obtain ⟨_, _, rfl, ⟨c, rfl, g_c⟩, L0_11⟩ := L0_10.uncons
  obtain ⟨_, _, rfl, ⟨o, rfl, g_o⟩, L0_12⟩ := L0_11.uncons
  obtain ⟨_, _, rfl, ⟨s, rfl, g_s⟩, L0_13⟩ := L0_12.uncons
  obtain rfl := L0_13.unnil
  obtain ⟨a, rfl, g_a⟩ := open_leaf (B := reachBytes) (l := .int .i64) (by kernel_rfl) (by kernel_rfl) (by kernel_rfl) (hval 1 3 v1 rfl rfl) h1 hw1
  obtain ⟨b, rfl, g_b⟩ := open_leaf (B := reachBytes) (l := .int .i64) (by kernel_rfl) (by kernel_rfl) (by kernel_rfl) (hval 2 3 v2 rfl rfl) h2 hw2
  obtain ⟨d, rfl, g_d⟩ := open_leaf (B := reachBytes) (l := .int .i64) (by kernel_rfl) (by kernel_rfl) (by kernel_rfl) (hval 3 3 v3 rfl rfl) h3 hw3
  have hR := Go.L9.begin6 hL
  refine (lift_bool (law x y sx sy px py f h e sh c o s a b d ⟨g_x.1, g_x.2⟩ ⟨g_y.1, g_y.2⟩ ⟨g_sx.1, g_sx.2⟩ ⟨g_sy.1, g_sy.2⟩ ⟨g_px.1, g_px.2⟩ ⟨g_py.1, g_py.2⟩ ⟨g_f.1, g_f.2⟩ ⟨g_h.1, g_h.2⟩ ⟨g_e.1, g_e.2⟩ ⟨g_c.1, g_c.2⟩ ⟨g_o.1, g_o.2⟩ ⟨g_s.1, g_s.2⟩ ⟨g_a.1, g_a.2⟩ ⟨g_b.1, g_b.2⟩ ⟨g_d.1, g_d.2⟩) hR (.cons _ _ _ _ (.agg _ _ (.cons _ _ _ _ (.int _ _) (.cons _ _ _ _ (.int _ _) (.cons _ _ _ _ (.int _ _) (.cons _ _ _ _ (.int _ _) (.cons _ _ _ _ (.int _ _) (.cons _ _ _ _ (.int _ _) (.cons _ _ _ _ (.int _ _) (.cons _ _ _ _ (.int _ _) (.cons _ _ _ _ (.int _ _) (.cons _ _ _ _ (.bool _) (.cons _ _ _ _ (.int _ _) (.cons _ _ _ _ (.int _ _) (.cons _ _ _ _ (.int _ _) .nil)))))))))))))) (.cons _ _ _ _ (.int _ _) (.cons _ _ _ _ (.int _ _) (.cons _ _ _ _ (.int _ _) .nil))))).mono ?_
  rintro e W' ⟨rfl, hb⟩
  refine ⟨_, rfl, post_below (by exact laidOut) (by kernel_rfl) rfl hW' rfl rfl hb ?_⟩
  intro b sp hd
  exact trodAll_cons_mk (shut_bool undB _) trodAll_mk0
noncomputable def laidWorld (os : Os) : World :=
  { World.holding Tryd.prog os ⟨#[], #[], []⟩ with heap := ((((World.holding Tryd.prog os ⟨#[], #[], []⟩).heap.modify 0 (fun
      | .cells _ t frozen => .cells #[.int .i64 256, .int .i64 0, .int .i64 237, .int .i64 98, .int .i64 181, .int .i64 181, .int .i64 98, .int .i64 237, .int .i64 0, .int .i64 256, .int .i64 (-98), .int .i64 237, .int .i64 (-181), .int .i64 181, .int .i64 (-237), .int .i64 98, .int .i64 (-256), .int .i64 0, .int .i64 (-237), .int .i64 (-98), .int .i64 (-181), .int .i64 (-181), .int .i64 (-98), .int .i64 (-237), .int .i64 0, .int .i64 (-256), .int .i64 98, .int .i64 (-237), .int .i64 181, .int .i64 (-181), .int .i64 237, .int .i64 (-98)] t frozen
      | o => o)).modify 1 (fun
      | .cells _ t frozen => .cells #[.int .i64 256, .int .i64 237, .int .i64 181, .int .i64 98, .int .i64 0, .int .i64 (-98), .int .i64 (-181), .int .i64 (-237), .int .i64 (-256), .int .i64 (-237), .int .i64 (-181), .int .i64 (-98), .int .i64 0, .int .i64 98, .int .i64 181, .int .i64 237] t frozen
      | o => o)).modify 2 (fun
      | .cells _ t frozen => .cells #[.int .i64 0, .int .i64 98, .int .i64 181, .int .i64 237, .int .i64 256, .int .i64 237, .int .i64 181, .int .i64 98, .int .i64 0, .int .i64 (-98), .int .i64 (-181), .int .i64 (-237), .int .i64 (-256), .int .i64 (-237), .int .i64 (-181), .int .i64 (-98)] t frozen
      | o => o)) }
theorem laid_met (os : Os) : laidMet Tryd.prog Rows.shotFiresRow.laid ((laidWorld os).forCall (fun _ _ => 0) ⟨#[], #[.agg #[.int .i64 0, .int .i64 0, .int .i64 0, .int .i64 0, .int .i64 0, .int .i64 0, .int .i64 0, .int .i64 0, .int .i64 0, .bool false, .int .i64 0, .int .i64 0, .int .i64 0], .int .i64 0, .int .i64 0, .int .i64 0], []⟩).memory :=
  laidMet_of_run' 8 (by kernel_rfl) (by kernel_rfl)
theorem reads (os : Os) {H : Type} (enc : TypeId × Value → H) : ∃ places, DataW.whole enc Tryd.prog ((laidWorld os).forCall (fun _ _ => 0) ⟨#[], #[.agg #[.int .i64 0, .int .i64 0, .int .i64 0, .int .i64 0, .int .i64 0, .int .i64 0, .int .i64 0, .int .i64 0, .int .i64 0, .bool false, .int .i64 0, .int .i64 0, .int .i64 0], .int .i64 0, .int .i64 0, .int .i64 0], []⟩).memory Tryd.f4.params.toList Rows.shotFiresSpec.vars false (#[.agg #[.int .i64 0, .int .i64 0, .int .i64 0, .int .i64 0, .int .i64 0, .int .i64 0, .int .i64 0, .int .i64 0, .int .i64 0, .bool false, .int .i64 0, .int .i64 0, .int .i64 0], .int .i64 0, .int .i64 0, .int .i64 0] : Array Value).toList 8 = some ([.agg [.agg [.lit (.int .i64 0), .lit (.int .i64 0)], .agg [.lit (.int .i64 0), .lit (.int .i64 0)], .agg [.lit (.int .i64 0), .lit (.int .i64 0)], .lit (.int .i64 0), .lit (.int .i64 0), .lit (.int .i64 0), .lit (.bool false), .lit (.int .i64 0), .lit (.int .i64 0), .lit (.int .i64 0)], .lit (.int .i64 0), .lit (.int .i64 0), .lit (.int .i64 0)], [], places) :=
  ⟨[], by kernel_rfl⟩
theorem lifted (os : Os) (started : os.Started) (H : Type) (enc : TypeId × Value → H) (F : Stop.Interp) :
    ReturnsInHanded {} Tryd.checked os 4 .any ((OpenSpec.ofChange Rows.shotFiresSpec).preRow enc Tryd.prog Tryd.f4 Rows.shotFiresRow.domain false Rows.shotFiresRow.laid) (((OpenSpec.ofChange Rows.shotFiresSpec).at F).post enc Tryd.prog Tryd.f4 false true false false) := by
  obtain ⟨places, hx⟩ := reads os enc
  refine returnsInHanded_of_row (C := Tryd.checked) (s := OpenSpec.ofChange Rows.shotFiresSpec) own started (by kernel_rfl) Tryd.func4
    (witness_row_at (enc := enc) (C := Tryd.checked) false (laidWorld os) #[.agg #[.int .i64 0, .int .i64 0, .int .i64 0, .int .i64 0, .int .i64 0, .int .i64 0, .int .i64 0, .int .i64 0, .int .i64 0, .bool false, .int .i64 0, .int .i64 0, .int .i64 0], .int .i64 0, .int .i64 0, .int .i64 0] rfl (by kernel_rfl) (by kernel_rfl) (by kernel_rfl)
      (OpenSpec.preRow_of_cond 8 hx (by kernel_rfl) (fun k hk => by cases hk) (by kernel_rfl) (laid_met os))) ?_
  intro W base args ds gs before hval hW _ _ hwt hL _ _
  exact contract H enc W base args ds gs before hval hW hwt hL
theorem said : Rows.ShotFiresSaid :=
  OpenClaim.holds_of_cond 4 Tryd.f4 rfl rfl rfl rfl rfl rfl rfl ⟨rfl, rfl, rfl, rfl, rfl⟩ rfl rfl rfl rfl rfl (by kernel_rfl) Tryd.func4 (by kernel_rfl)
    (of_decide_eq_true (by kernel_rfl)) (by unfold Func.isWrapper; first | (rw [if_pos (by decide +kernel)]; kernel_rfl) | (rw [if_neg (by decide +kernel)]; exact ⟨rfl, rfl⟩))
    (fun os started H enc _ F => by rw [OpenClaim.pre_eq_preRow]; exact lifted os started H enc F)
theorem plain (f : FuncId) (fn : Func) (hf : Tryd.pinned.checked.prog.funcNamed "echelon/echelonlaw09.ShotFires" = some f) (hfn : Tryd.pinned.checked.prog.funcs[f]? = some fn) :
    false = Tryd.pinned.checked.prog.looks [] ∧ ∀ (j : Nat) t, fn.params[j]? = some t → Tryd.pinned.checked.prog.wantsStandIn t = false := by
  obtain rfl : f = 4 := Option.some.inj ((show Tryd.prog.funcNamed "echelon/echelonlaw09.ShotFires" = some 4 by kernel_rfl).symm.trans hf) |>.symm
  obtain rfl : fn = Tryd.f4 := (Option.some.inj (Tryd.func4.symm.trans hfn)).symm
  refine ⟨by kernel_rfl, fun j t ht => ?_⟩
  rw [Tryd.params4] at ht
  have hm := Array.mem_of_getElem? ht
  have hall : (#[32, 3, 3, 3] : Array Nat).all (fun t => Tryd.prog.wantsStandIn t == false) = true := by kernel_rfl
  rw [Array.all_eq_true_iff_forall_mem] at hall
  have hq := hall t hm
  simp only [beq_iff_eq] at hq
  exact hq
theorem card : Rows.ShotFiresCardSaid :=
  Claim7.holds_tied_plain_at .later [] _ _ _ _ said (fun _ h => by cases h) (by kernel_rfl) (fun _ h => by cases h) shotFires_row_tie rfl ⟨rfl, rfl⟩ (by kernel_rfl) rfl plain (by kernel_rfl)
end Go.Proofs.YtbgabaihahpijaaDoor.shotFires

/- Proved: the law ShotChecks returns true for every shot and every number. Conditions: none beyond the card's own. -/
import Derived.Test.YtbgabaihahpijaaDoorL9W
import Derived.Test.YtbgabaihahpijaaDoorCards
import Derived.Test.YtbgabaihahpijaaDoorTie
set_option linter.unusedVariables false
set_option linter.unusedSimpArgs false
set_option maxRecDepth 100000
namespace Go.Proofs.YtbgabaihahpijaaDoor.shotChecks
open Go Go.Ev Go.Proofs Go.L5 Go.L9 Go.ChangeShapes Go.WideShapes Go.ChangeAt Go.RowKit

theorem run (n : Int) (w : Int) (k : Int) (x : Int) (y : Int) (u : Int) (v : Int) (l : Int) (a : Int) : runP C_l09_awake (cF E5 Tryd.f3) [.agg [.int .i64 n, .int .i64 w, .int .i64 k, .int .i64 x, .int .i64 y, .int .i64 u, .int .i64 v, .int .i64 l], .int .i64 a] H5 =
    (.leaf (.bool (true && (er (okS n w k x y u v l) 90 == er (okS n w k x y u v l) 90 && (bif bt a 1 3 then 15 * a else 0) == bif bt a 1 3 then 15 * a else 0)))) := by kernel_rfl
theorem law (n : Int) (w : Int) (k : Int) (x : Int) (y : Int) (u : Int) (v : Int) (l : Int) (a : Int) (h_n : -9223372036854775808 ≤ n ∧ n ≤ 9223372036854775807) (h_w : -9223372036854775808 ≤ w ∧ w ≤ 9223372036854775807) (h_k : -9223372036854775808 ≤ k ∧ k ≤ 9223372036854775807) (h_x : -9223372036854775808 ≤ x ∧ x ≤ 9223372036854775807) (h_y : -9223372036854775808 ≤ y ∧ y ≤ 9223372036854775807) (h_u : -9223372036854775808 ≤ u ∧ u ≤ 9223372036854775807) (h_v : -9223372036854775808 ≤ v ∧ v ≤ 9223372036854775807) (h_l : -9223372036854775808 ≤ l ∧ l ≤ 9223372036854775807) (h_a : -9223372036854775808 ≤ a ∧ a ≤ 9223372036854775807) : CallsA E5 3 [.agg [.int .i64 n, .int .i64 w, .int .i64 k, .int .i64 x, .int .i64 y, .int .i64 u, .int .i64 v, .int .i64 l], .int .i64 a] E5.Gc (fun s => VW (.bool true) s.1) := by
  refine callsP ok_l09_awake Tryd.func3 (by kernel_rfl) (loops_nil (by kernel_rfl)) (Q := fun v => VW (.bool true) v) ?_
  show (runP C_l09_awake (cF E5 Tryd.f3) _ H5).holds _
  rw [run]
  exact VW.of_eq (by simp)
theorem own : ownKnob Tryd.prog.godebug = none := by kernel_rfl
theorem laidOut : laidOutB Tryd.prog = true := by kernel_rfl
theorem undB : Tryd.prog.underlying 4 = some .bool := by kernel_rfl
theorem contract (H : Type) (enc : TypeId × Value → H) (W : World) (base : Nat) (args : Array Value) (ds gs : List (DataW H)) (before : List MemPlace)
    (hval : ∀ (j : Nat) t v, Tryd.f3.params[j]? = some t → args[j]? = some v → Value.okWide Tryd.prog W .any base t v)
    (hW : DataW.Whole enc Tryd.prog Tryd.f3.params.toList Rows.shotChecksSpec.vars false W args.toList ds gs before)
    (hwt : (DataW.weightsEach Tryd.prog (Tryd.f3.params.toList ++ (OpenSpec.ofChange Rows.shotChecksSpec).bare.plain.varTypes Tryd.prog) (ds ++ gs)).all (· ≤ reachBytes) = true) (hL : laidMetH Tryd.prog Rows.shotChecksRow.laid W) :
    Calls Tryd.prog 3 args W fun e W' => ∃ v, e = .returned v ∧ Rows.shotChecksSpec.post enc Tryd.prog Tryd.f3 false true false false W args v W' := by
  have hW' := hW
  obtain ⟨p, q, hA0, hV, rfl, hfz, hnd⟩ := hW
  have hA : DataW.TrodAll enc Tryd.prog W 0 (fun _ => true) true Tryd.f3.params.toList args.toList ds p := hA0
  rw [Tryd.params3] at hA hval hwt
  obtain ⟨v0, vs0, d0, ds0, p0, q0, hargs, rfl, rfl, h0, r0⟩ := trodAll_cons hA
  obtain ⟨v1, vs1, d1, ds1, p1, q1, e1, rfl, rfl, h1, r1⟩ := trodAll_cons r0
  obtain ⟨rfl, rfl, rfl⟩ := trodAll_nil r1
  obtain rfl : args = #[v0, v1] := by cases args; simp_all
  obtain ⟨rfl, rfl⟩ := trodVars_none hV
  have hwt' : (d0.weights Tryd.prog 25 ++ (d1.weights Tryd.prog 3 ++ [])).all (· ≤ reachBytes) = true := hwt
  simp only [List.all_append, Bool.and_eq_true] at hwt'
  obtain ⟨hw0, hw1, _⟩ := hwt'
  obtain ⟨us0, rfl, L0_0⟩ := open_agg (B := reachBytes) (ls := [.int .i64, .int .i64, .int .i64, .int .i64, .int .i64, .int .i64, .int .i64, .int .i64]) ⟨_, Tryd.underlying25⟩ (by kernel_rfl) (by kernel_rfl) (hval 0 25 v0 rfl rfl) h0 hw0
  obtain ⟨_, _, rfl, ⟨n, rfl, g_n⟩, L0_1⟩ := L0_0.uncons
  obtain ⟨_, _, rfl, ⟨w, rfl, g_w⟩, L0_2⟩ := L0_1.uncons
  obtain ⟨_, _, rfl, ⟨k, rfl, g_k⟩, L0_3⟩ := L0_2.uncons
  obtain ⟨_, _, rfl, ⟨x, rfl, g_x⟩, L0_4⟩ := L0_3.uncons
  obtain ⟨_, _, rfl, ⟨y, rfl, g_y⟩, L0_5⟩ := L0_4.uncons
  obtain ⟨_, _, rfl, ⟨u, rfl, g_u⟩, L0_6⟩ := L0_5.uncons
  obtain ⟨_, _, rfl, ⟨v, rfl, g_v⟩, L0_7⟩ := L0_6.uncons
  obtain ⟨_, _, rfl, ⟨l, rfl, g_l⟩, L0_8⟩ := L0_7.uncons
  obtain rfl := L0_8.unnil
  obtain ⟨a, rfl, g_a⟩ := open_leaf (B := reachBytes) (l := .int .i64) (by kernel_rfl) (by kernel_rfl) (by kernel_rfl) (hval 1 3 v1 rfl rfl) h1 hw1
  have hR := Go.L9.begin_ (rest := []) hL
  refine (lift_bool (law n w k x y u v l a ⟨g_n.1, g_n.2⟩ ⟨g_w.1, g_w.2⟩ ⟨g_k.1, g_k.2⟩ ⟨g_x.1, g_x.2⟩ ⟨g_y.1, g_y.2⟩ ⟨g_u.1, g_u.2⟩ ⟨g_v.1, g_v.2⟩ ⟨g_l.1, g_l.2⟩ ⟨g_a.1, g_a.2⟩) hR (.cons _ _ _ _ (.agg _ _ (.cons _ _ _ _ (.int _ _) (.cons _ _ _ _ (.int _ _) (.cons _ _ _ _ (.int _ _) (.cons _ _ _ _ (.int _ _) (.cons _ _ _ _ (.int _ _) (.cons _ _ _ _ (.int _ _) (.cons _ _ _ _ (.int _ _) (.cons _ _ _ _ (.int _ _) .nil))))))))) (.cons _ _ _ _ (.int _ _) .nil))).mono ?_
  rintro e W' ⟨rfl, hb⟩
  refine ⟨_, rfl, post_below (by exact laidOut) (by kernel_rfl) rfl hW' rfl rfl hb ?_⟩
  intro b sp hd
  exact trodAll_cons_mk (shut_bool undB _) trodAll_mk0
noncomputable def laidWorld (os : Os) : World :=
  { World.holding Tryd.prog os ⟨#[], #[], []⟩ with heap := ((World.holding Tryd.prog os ⟨#[], #[], []⟩).heap.modify 0 (fun
      | .cells _ t frozen => .cells #[.int .i64 256, .int .i64 0, .int .i64 237, .int .i64 98, .int .i64 181, .int .i64 181, .int .i64 98, .int .i64 237, .int .i64 0, .int .i64 256, .int .i64 (-98), .int .i64 237, .int .i64 (-181), .int .i64 181, .int .i64 (-237), .int .i64 98, .int .i64 (-256), .int .i64 0, .int .i64 (-237), .int .i64 (-98), .int .i64 (-181), .int .i64 (-181), .int .i64 (-98), .int .i64 (-237), .int .i64 0, .int .i64 (-256), .int .i64 98, .int .i64 (-237), .int .i64 181, .int .i64 (-181), .int .i64 237, .int .i64 (-98)] t frozen
      | o => o)) }
theorem laid_met (os : Os) : laidMet Tryd.prog Rows.shotChecksRow.laid ((laidWorld os).forCall (fun _ _ => 0) ⟨#[], #[.agg #[.int .i64 0, .int .i64 0, .int .i64 0, .int .i64 0, .int .i64 0, .int .i64 0, .int .i64 0, .int .i64 0], .int .i64 0], []⟩).memory :=
  laidMet_of_run' 8 (by kernel_rfl) (by kernel_rfl)
theorem reads (os : Os) {H : Type} (enc : TypeId × Value → H) : ∃ places, DataW.whole enc Tryd.prog ((laidWorld os).forCall (fun _ _ => 0) ⟨#[], #[.agg #[.int .i64 0, .int .i64 0, .int .i64 0, .int .i64 0, .int .i64 0, .int .i64 0, .int .i64 0, .int .i64 0], .int .i64 0], []⟩).memory Tryd.f3.params.toList Rows.shotChecksSpec.vars false (#[.agg #[.int .i64 0, .int .i64 0, .int .i64 0, .int .i64 0, .int .i64 0, .int .i64 0, .int .i64 0, .int .i64 0], .int .i64 0] : Array Value).toList 8 = some ([.agg [.lit (.int .i64 0), .lit (.int .i64 0), .lit (.int .i64 0), .agg [.lit (.int .i64 0), .lit (.int .i64 0)], .agg [.lit (.int .i64 0), .lit (.int .i64 0)], .lit (.int .i64 0)], .lit (.int .i64 0)], [], places) :=
  ⟨[], by kernel_rfl⟩
theorem lifted (os : Os) (started : os.Started) (H : Type) (enc : TypeId × Value → H) (F : Stop.Interp) :
    ReturnsInHanded {} Tryd.checked os 3 .any ((OpenSpec.ofChange Rows.shotChecksSpec).preRow enc Tryd.prog Tryd.f3 Rows.shotChecksRow.domain false Rows.shotChecksRow.laid) (((OpenSpec.ofChange Rows.shotChecksSpec).at F).post enc Tryd.prog Tryd.f3 false true false false) := by
  obtain ⟨places, hx⟩ := reads os enc
  refine returnsInHanded_of_row (C := Tryd.checked) (s := OpenSpec.ofChange Rows.shotChecksSpec) own started (by kernel_rfl) Tryd.func3
    (witness_row_at (enc := enc) (C := Tryd.checked) false (laidWorld os) #[.agg #[.int .i64 0, .int .i64 0, .int .i64 0, .int .i64 0, .int .i64 0, .int .i64 0, .int .i64 0, .int .i64 0], .int .i64 0] rfl (by kernel_rfl) (by kernel_rfl) (by kernel_rfl)
      (OpenSpec.preRow_of_cond 8 hx (by kernel_rfl) (fun k hk => by cases hk) (by kernel_rfl) (laid_met os))) ?_
  intro W base args ds gs before hval hW _ _ hwt hL _ _
  exact contract H enc W base args ds gs before hval hW hwt hL
theorem said : Rows.ShotChecksSaid :=
  OpenClaim.holds_of_cond 3 Tryd.f3 rfl rfl rfl rfl rfl rfl rfl ⟨rfl, rfl, rfl, rfl, rfl⟩ rfl rfl rfl rfl rfl (by kernel_rfl) Tryd.func3 (by kernel_rfl)
    (of_decide_eq_true (by kernel_rfl)) (by unfold Func.isWrapper; first | (rw [if_pos (by decide +kernel)]; kernel_rfl) | (rw [if_neg (by decide +kernel)]; exact ⟨rfl, rfl⟩))
    (fun os started H enc _ F => by rw [OpenClaim.pre_eq_preRow]; exact lifted os started H enc F)
theorem plain (f : FuncId) (fn : Func) (hf : Tryd.pinned.checked.prog.funcNamed "echelon/echelonlaw09.ShotChecks" = some f) (hfn : Tryd.pinned.checked.prog.funcs[f]? = some fn) :
    false = Tryd.pinned.checked.prog.looks [] ∧ ∀ (j : Nat) t, fn.params[j]? = some t → Tryd.pinned.checked.prog.wantsStandIn t = false := by
  obtain rfl : f = 3 := Option.some.inj ((show Tryd.prog.funcNamed "echelon/echelonlaw09.ShotChecks" = some 3 by kernel_rfl).symm.trans hf) |>.symm
  obtain rfl : fn = Tryd.f3 := (Option.some.inj (Tryd.func3.symm.trans hfn)).symm
  refine ⟨by kernel_rfl, fun j t ht => ?_⟩
  rw [Tryd.params3] at ht
  have hm := Array.mem_of_getElem? ht
  have hall : (#[25, 3] : Array Nat).all (fun t => Tryd.prog.wantsStandIn t == false) = true := by kernel_rfl
  rw [Array.all_eq_true_iff_forall_mem] at hall
  have hq := hall t hm
  simp only [beq_iff_eq] at hq
  exact hq
theorem card : Rows.ShotChecksCardSaid :=
  Claim7.holds_tied_plain_at .later [] _ _ _ _ said (fun _ h => by cases h) (by kernel_rfl) (fun _ h => by cases h) shotChecks_row_tie rfl ⟨rfl, rfl⟩ (by kernel_rfl) rfl plain (by kernel_rfl)
end Go.Proofs.YtbgabaihahpijaaDoor.shotChecks

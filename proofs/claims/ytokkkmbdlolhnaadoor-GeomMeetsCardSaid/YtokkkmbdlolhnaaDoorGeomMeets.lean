/- Proved: the law GeomMeets returns true for every two boxes and every point. Conditions: none beyond the card's own. -/
import Derived.Test.YtokkkmbdlolhnaaDoorL5pI
import Derived.Test.YtokkkmbdlolhnaaDoorCards
import Derived.Test.YtokkkmbdlolhnaaDoorTie
set_option linter.unusedVariables false
set_option linter.unusedSimpArgs false
set_option maxRecDepth 100000
namespace Go.Proofs.YtokkkmbdlolhnaaDoor.geomMeets
open Go Go.Ev Go.L5 Go.L5p Go.ChangeShapes Go.WideShapes Go.ChangeAt Go.RowKit
theorem mx_comm (a x : Int) : mx a x = mx x a := by unfold mx; split <;> split <;> omega
theorem mn_comm (a x : Int) : mn a x = mn x a := by unfold mn; split <;> split <;> omega
theorem mx_le {a x p : Int} : mx a x ≤ p ↔ a ≤ p ∧ x ≤ p := by unfold mx; split <;> omega
theorem le_mn {a x p : Int} : p ≤ mn a x ↔ p ≤ a ∧ p ≤ x := by unfold mn; split <;> omega
theorem met_comm (a b c d x y z w : Int) : met a b c d x y z w = met x y z w a b c d := by
  rw [Bool.eq_iff_iff, met_iff, met_iff, mx_comm a x, mx_comm b y, mn_comm c z, mn_comm d w]
  constructor <;> rintro ⟨h1, h2, h3⟩ <;> exact ⟨h2, h1, h3⟩
theorem mxb {a x : Int} (h : bd a = a) (k : bd x = x) : bd (mx a x) = mx a x := by unfold mx; split <;> assumption
theorem mnb {a x : Int} (h : bd a = a) (k : bd x = x) : bd (mn a x) = mn a x := by unfold mn; split <;> assumption
theorem both (a b c d x y z w p q : Int) : (met a b c d p q p q && met x y z w p q p q) = (met a b c d x y z w && met (m4 (met a b c d x y z w) (mx a x)) (m4 (met a b c d x y z w) (mx b y)) (m4 (met a b c d x y z w) (mn c z)) (m4 (met a b c d x y z w) (mn d w)) p q p q) := by
  rw [Bool.eq_iff_iff, Bool.and_eq_true, Bool.and_eq_true, met_in, met_in]
  cases ht : met a b c d x y z w with
  | true =>
    have h := met_iff.1 ht
    have e : ∀ v, m4 true v = v := fun v => rfl
    simp only [e]
    rw [met_in, mx_le, mx_le, le_mn, le_mn]
    constructor
    · rintro ⟨⟨k1, k2, k3, k4, k5⟩, l1, l2, l3, l4, l5⟩
      exact ⟨trivial, h.2.2, ⟨k2, l2⟩, ⟨k3, l3⟩, ⟨k4, l4⟩, ⟨k5, l5⟩⟩
    · rintro ⟨_, k1, k2, k3, k4, k5⟩
      exact ⟨⟨h.1, k2.1, k3.1, k4.1, k5.1⟩, h.2.1, k2.2, k3.2, k4.2, k5.2⟩
  | false =>
    constructor
    · rintro ⟨⟨k1, k2, k3, k4, k5⟩, l1, l2, l3, l4, l5⟩
      exfalso
      have : met a b c d x y z w = true := by
        rw [met_iff]
        have g := chk_zero.1 k1
        have g' := chk_zero.1 l1
        refine ⟨k1, l1, chk_zero.2 ⟨⟨mxb g.1.1 g'.1.1, mxb g.1.2.1 g'.1.2.1, mnb g.1.2.2.1 g'.1.2.2.1, mnb g.1.2.2.2 g'.1.2.2.2⟩, ?_, ?_⟩⟩
        · exact Int.le_trans (mx_le.2 ⟨k2, l2⟩) (le_mn.2 ⟨k3, l3⟩)
        · exact Int.le_trans (mx_le.2 ⟨k4, l4⟩) (le_mn.2 ⟨k5, l5⟩)
      rw [ht] at this; cases this
    · rintro ⟨h, _⟩; cases h
theorem self_ (a b c d : Int) : (chk a b c d == 0) = met a b c d a b c d := by
  rw [Bool.eq_iff_iff, met_iff, beq_iff_eq]
  have e1 : ∀ v, mx v v = v := fun v => by unfold mx; split <;> rfl
  have e2 : ∀ v, mn v v = v := fun v => by unfold mn; split <;> rfl
  rw [e1, e1, e2, e2]
  exact ⟨fun h => ⟨h, h, h⟩, fun h => h.1⟩
theorem around_ (p q r : Int) (h0 : 0 ≤ r) (h1 : r ≤ 2147483647) : met (sb p r) (sb q r) (ad p r) (ad q r) (bd p) (bd q) (bd p) (bd q) = true := by
  rw [met_in, chk_zero]
  have hr : bd r = r := bd_id (by omega) h1
  unfold sb ad
  rw [hr]
  have hp := bd_rng p
  have hq := bd_rng q
  refine ⟨⟨⟨bd_bd _, bd_bd _, bd_bd _, bd_bd _⟩, ?_, ?_⟩, ?_, ?_, ?_, ?_⟩ <;> (unfold bd; (repeat' split) <;> omega)
theorem cl00 : cl 0 0 2147483647 = 0 := by decide
theorem cl70 : cl 7 0 2147483647 = 7 := by decide
theorem meets (a b c d x y z w p q : Int) : ((met a b c d p q p q && met x y z w p q p q) == (met a b c d x y z w && met (m4 (met a b c d x y z w) (mx a x)) (m4 (met a b c d x y z w) (mx b y)) (m4 (met a b c d x y z w) (mn c z)) (m4 (met a b c d x y z w) (mn d w)) p q p q) && (m4 (met a b c d x y z w) (mx a x) == m4 (met x y z w a b c d) (mx x a) && (m4 (met a b c d x y z w) (mx b y) == m4 (met x y z w a b c d) (mx y b) && (m4 (met a b c d x y z w) (mn c z) == m4 (met x y z w a b c d) (mn z c) && m4 (met a b c d x y z w) (mn d w) == m4 (met x y z w a b c d) (mn w d))) && (met a b c d x y z w == met x y z w a b c d && (met a b c d x y z w == met a b c d x y z w && (met x y z w a b c d == met a b c d x y z w && ((chk a b c d == 0) == met a b c d a b c d && (met (sb p (cl 0 0 2147483647)) (sb q (cl 0 0 2147483647)) (ad p (cl 0 0 2147483647)) (ad q (cl 0 0 2147483647)) (bd p) (bd q) (bd p) (bd q) && met (sb p (cl 7 0 2147483647)) (sb q (cl 7 0 2147483647)) (ad p (cl 7 0 2147483647)) (ad q (cl 7 0 2147483647)) (bd p) (bd q) (bd p) (bd q)))))))) = true := by
  rw [cl00, cl70, around_ p q 0 (by omega) (by omega), around_ p q 7 (by omega) (by omega), ← self_, ← both, met_comm x y z w a b c d, mx_comm x a, mx_comm y b, mn_comm z c, mn_comm w d]
  simp

theorem run (a b c d x y z w p q : Int) : runP C11 (cF E5 Tryd.f8) [.agg [.int .i64 a, .int .i64 b, .int .i64 c, .int .i64 d], .agg [.int .i64 x, .int .i64 y, .int .i64 z, .int .i64 w], .agg [.int .i64 p, .int .i64 q]] H5 =
    (.leaf (.bool (true && ((met a b c d p q p q && met x y z w p q p q) == (met a b c d x y z w && met (m4 (met a b c d x y z w) (mx a x)) (m4 (met a b c d x y z w) (mx b y)) (m4 (met a b c d x y z w) (mn c z)) (m4 (met a b c d x y z w) (mn d w)) p q p q) && (m4 (met a b c d x y z w) (mx a x) == m4 (met x y z w a b c d) (mx x a) && (m4 (met a b c d x y z w) (mx b y) == m4 (met x y z w a b c d) (mx y b) && (m4 (met a b c d x y z w) (mn c z) == m4 (met x y z w a b c d) (mn z c) && m4 (met a b c d x y z w) (mn d w) == m4 (met x y z w a b c d) (mn w d))) && (met a b c d x y z w == met x y z w a b c d && (met a b c d x y z w == met a b c d x y z w && (met x y z w a b c d == met a b c d x y z w && ((chk a b c d == 0) == met a b c d a b c d && (met (sb p (cl 0 0 2147483647)) (sb q (cl 0 0 2147483647)) (ad p (cl 0 0 2147483647)) (ad q (cl 0 0 2147483647)) (bd p) (bd q) (bd p) (bd q) && met (sb p (cl 7 0 2147483647)) (sb q (cl 7 0 2147483647)) (ad p (cl 7 0 2147483647)) (ad q (cl 7 0 2147483647)) (bd p) (bd q) (bd p) (bd q))))))))))) := by kernel_rfl
theorem law (a b c d x y z w p q : Int) : CallsA E5 8 [.agg [.int .i64 a, .int .i64 b, .int .i64 c, .int .i64 d], .agg [.int .i64 x, .int .i64 y, .int .i64 z, .int .i64 w], .agg [.int .i64 p, .int .i64 q]] E5.Gc (fun s => VW (.bool true) s.1) := by
  refine callsP ok11 Tryd.func8 (by kernel_rfl) (loops_nil (by kernel_rfl)) (Q := fun v => VW (.bool true) v) ?_
  show (runP C11 (cF E5 Tryd.f8) [.agg [.int .i64 a, .int .i64 b, .int .i64 c, .int .i64 d], .agg [.int .i64 x, .int .i64 y, .int .i64 z, .int .i64 w], .agg [.int .i64 p, .int .i64 q]] H5).holds _
  rw [run]
  exact VW.of_eq (by rw [Bool.true_and, meets])
theorem own : ownKnob Tryd.prog.godebug = none := by kernel_rfl
theorem laidOut : laidOutB Tryd.prog = true := by kernel_rfl
theorem und4 : Tryd.prog.underlying 4 = some .bool := by kernel_rfl
theorem contract (H : Type) (enc : TypeId × Value → H) (W : World) (base : Nat) (args : Array Value) (ds gs : List (DataW H)) (before : List MemPlace)
    (hval : ∀ (j : Nat) t v, Tryd.f8.params[j]? = some t → args[j]? = some v → Value.okWide Tryd.prog W .any base t v)
    (hW : DataW.Whole enc Tryd.prog Tryd.f8.params.toList Rows.geomMeetsSpec.vars false W args.toList ds gs before) (hL : laidMetH Tryd.prog Rows.geomMeetsRow.laid W) :
    Calls Tryd.prog 8 args W fun e W' => ∃ v, e = .returned v ∧ Rows.geomMeetsSpec.post enc Tryd.prog Tryd.f8 false true false false W args v W' := by
  have hW' := hW
  obtain ⟨p, q, hA0, hV, rfl, hfz, hnd⟩ := hW
  have hA : DataW.TrodAll enc Tryd.prog W 0 (fun _ => true) true Tryd.f8.params.toList args.toList ds p := hA0
  rw [Tryd.params8] at hA hval
  obtain ⟨v0, vs0, d0, ds0, p0, q0, hargs, rfl, rfl, h0, r0⟩ := trodAll_cons hA
  obtain ⟨v1, vs1, d1, ds1, p1, q1, e1, rfl, rfl, h1, r1⟩ := trodAll_cons r0
  obtain ⟨v2, vs2, d2, ds2, p2, q2, e2, rfl, rfl, h2, r2⟩ := trodAll_cons r1
  obtain ⟨rfl, rfl, rfl⟩ := trodAll_nil r2
  obtain rfl : args = #[v0, v1, v2] := by cases args; simp_all
  obtain ⟨rfl, rfl⟩ := trodVars_none hV
  obtain ⟨a, b, c, d, rfl⟩ := open_bx (hval 0 32 v0 rfl rfl) h0
  obtain ⟨x, y, z, w, rfl⟩ := open_bx (hval 1 32 v1 rfl rfl) h1
  obtain ⟨p, q, rfl⟩ := open_pt (hval 2 23 v2 rfl rfl) h2
  have hR := Go.L5p.start (rest := []) hL
  refine (lift_bool (law a b c d x y z w p q) hR (.cons _ _ _ _ (.agg _ _ (.cons _ _ _ _ (.int _ _) (.cons _ _ _ _ (.int _ _) (.cons _ _ _ _ (.int _ _) (.cons _ _ _ _ (.int _ _) .nil))))) (.cons _ _ _ _ (.agg _ _ (.cons _ _ _ _ (.int _ _) (.cons _ _ _ _ (.int _ _) (.cons _ _ _ _ (.int _ _) (.cons _ _ _ _ (.int _ _) .nil))))) (.cons _ _ _ _ (.agg _ _ (.cons _ _ _ _ (.int _ _) (.cons _ _ _ _ (.int _ _) .nil))) .nil)))).mono ?_
  rintro e W' ⟨rfl, hb⟩
  refine ⟨_, rfl, post_below (by exact laidOut) (by kernel_rfl) rfl hW' rfl rfl hb ?_⟩
  intro b sp hd
  exact trodAll_cons_mk (shut_bool und4 _) trodAll_mk0

noncomputable def laidWorld (os : Os) : World :=
  { World.holding Tryd.prog os ⟨#[], #[], []⟩ with heap := (World.holding Tryd.prog os ⟨#[], #[], []⟩).heap.modify 0 fun
      | .cells _ t frozen => .cells #[.int .i64 256, .int .i64 0, .int .i64 237, .int .i64 98, .int .i64 181, .int .i64 181, .int .i64 98, .int .i64 237, .int .i64 0, .int .i64 256, .int .i64 (-98), .int .i64 237, .int .i64 (-181), .int .i64 181, .int .i64 (-237), .int .i64 98, .int .i64 (-256), .int .i64 0, .int .i64 (-237), .int .i64 (-98), .int .i64 (-181), .int .i64 (-181), .int .i64 (-98), .int .i64 (-237), .int .i64 0, .int .i64 (-256), .int .i64 98, .int .i64 (-237), .int .i64 181, .int .i64 (-181), .int .i64 237, .int .i64 (-98)] t frozen
      | o => o }
theorem laid_met (os : Os) : laidMet Tryd.prog Rows.geomMeetsRow.laid ((laidWorld os).forCall (fun _ _ => 0) ⟨#[], #[.agg #[.int .i64 0, .int .i64 0, .int .i64 0, .int .i64 0], .agg #[.int .i64 0, .int .i64 0, .int .i64 0, .int .i64 0], .agg #[.int .i64 0, .int .i64 0]], []⟩).memory :=
  laidMet_of_run' 8 (by kernel_rfl) (by kernel_rfl)
theorem reads (os : Os) {H : Type} (enc : TypeId × Value → H) : ∃ places, DataW.whole enc Tryd.prog ((laidWorld os).forCall (fun _ _ => 0) ⟨#[], #[.agg #[.int .i64 0, .int .i64 0, .int .i64 0, .int .i64 0], .agg #[.int .i64 0, .int .i64 0, .int .i64 0, .int .i64 0], .agg #[.int .i64 0, .int .i64 0]], []⟩).memory Tryd.f8.params.toList Rows.geomMeetsSpec.vars false (#[.agg #[.int .i64 0, .int .i64 0, .int .i64 0, .int .i64 0], .agg #[.int .i64 0, .int .i64 0, .int .i64 0, .int .i64 0], .agg #[.int .i64 0, .int .i64 0]] : Array Value).toList 8 = some ([.agg [.agg [.lit (.int .i64 0), .lit (.int .i64 0)], .agg [.lit (.int .i64 0), .lit (.int .i64 0)]], .agg [.agg [.lit (.int .i64 0), .lit (.int .i64 0)], .agg [.lit (.int .i64 0), .lit (.int .i64 0)]], .agg [.lit (.int .i64 0), .lit (.int .i64 0)]], [], places) :=
  ⟨[], by kernel_rfl⟩
theorem lifted (os : Os) (started : os.Started) (H : Type) (enc : TypeId × Value → H) (F : Stop.Interp) :
    ReturnsInHanded {} Tryd.checked os 8 .any ((OpenSpec.ofChange Rows.geomMeetsSpec).preRow enc Tryd.prog Tryd.f8 Rows.geomMeetsRow.domain false Rows.geomMeetsRow.laid) (((OpenSpec.ofChange Rows.geomMeetsSpec).at F).post enc Tryd.prog Tryd.f8 false true false false) := by
  obtain ⟨places, hx⟩ := reads os enc
  refine returnsInHanded_of_row (C := Tryd.checked) (s := OpenSpec.ofChange Rows.geomMeetsSpec) own started (by kernel_rfl) Tryd.func8
    (witness_row_at (enc := enc) (C := Tryd.checked) false (laidWorld os) #[.agg #[.int .i64 0, .int .i64 0, .int .i64 0, .int .i64 0], .agg #[.int .i64 0, .int .i64 0, .int .i64 0, .int .i64 0], .agg #[.int .i64 0, .int .i64 0]] rfl (by kernel_rfl) (by kernel_rfl) (by kernel_rfl)
      (OpenSpec.preRow_of_cond 8 hx (by kernel_rfl) (fun k hk => by cases hk) (by kernel_rfl) (laid_met os))) ?_
  intro W base args ds gs before hval hW _ _ _ hL _ _
  exact contract H enc W base args ds gs before hval hW hL
theorem said : Rows.GeomMeetsSaid :=
  OpenClaim.holds_of_cond 8 Tryd.f8 rfl rfl rfl rfl rfl rfl rfl ⟨rfl, rfl, rfl, rfl, rfl⟩ rfl rfl rfl rfl rfl (by kernel_rfl) Tryd.func8 (by kernel_rfl)
    (of_decide_eq_true (by kernel_rfl)) (by unfold Func.isWrapper; first | (rw [if_pos (by decide +kernel)]; kernel_rfl) | (rw [if_neg (by decide +kernel)]; exact ⟨rfl, rfl⟩))
    (fun os started H enc _ F => by rw [OpenClaim.pre_eq_preRow]; exact lifted os started H enc F)
theorem plain (f : FuncId) (fn : Func) (hf : Tryd.pinned.checked.prog.funcNamed "echelon/echelonlaw05.GeomMeets" = some f) (hfn : Tryd.pinned.checked.prog.funcs[f]? = some fn) :
    false = Tryd.pinned.checked.prog.looks [] ∧ ∀ (j : Nat) t, fn.params[j]? = some t → Tryd.pinned.checked.prog.wantsStandIn t = false := by
  obtain rfl : f = 8 := Option.some.inj ((show Tryd.prog.funcNamed "echelon/echelonlaw05.GeomMeets" = some 8 by kernel_rfl).symm.trans hf) |>.symm
  obtain rfl : fn = Tryd.f8 := (Option.some.inj (Tryd.func8.symm.trans hfn)).symm
  refine ⟨by kernel_rfl, fun j t ht => ?_⟩
  rw [Tryd.params8] at ht
  have hm := Array.mem_of_getElem? ht
  have hall : (#[32, 32, 23] : Array Nat).all (fun t => Tryd.prog.wantsStandIn t == false) = true := by kernel_rfl
  rw [Array.all_eq_true_iff_forall_mem] at hall
  have hq := hall t hm
  simp only [beq_iff_eq] at hq
  exact hq
theorem card : Rows.GeomMeetsCardSaid :=
  Claim7.holds_tied_plain_at .later [] _ _ _ _ said (fun _ h => by cases h) (by kernel_rfl) (fun _ h => by cases h) geomMeets_row_tie rfl ⟨rfl, rfl⟩ (by kernel_rfl) rfl plain (by kernel_rfl)
end Go.Proofs.YtokkkmbdlolhnaaDoor.geomMeets

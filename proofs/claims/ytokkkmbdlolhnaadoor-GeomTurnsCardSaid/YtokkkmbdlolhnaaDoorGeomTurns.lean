/- Proved: the law GeomTurns returns true for every three numbers. Conditions: none beyond the card's own. -/
import Derived.Test.YtokkkmbdlolhnaaDoorL5pI
import Derived.Test.YtokkkmbdlolhnaaDoorCards
import Derived.Test.YtokkkmbdlolhnaaDoorTie
set_option linter.unusedVariables false
set_option linter.unusedSimpArgs false
set_option maxRecDepth 100000
namespace Go.Proofs.YtokkkmbdlolhnaaDoor.geomTurns
open Go Go.Ev Go.L5 Go.L5p Go.ChangeShapes Go.WideShapes Go.ChangeAt Go.RowKit
theorem facts : ∀ j : Fin 16, ux j.1 = 0 - ux ((j.1 + 8) % 16) ∧ uy j.1 = 0 - uy ((j.1 + 8) % 16) ∧ hd (ux j.1) (uy j.1) = (j.1 : Int) := by decide +kernel
theorem turns (a b c : Int) : (ux (dir a).toNat == IntKind.i64.wrap (0 - ux (dir (dir (a + 8))).toNat) && uy (dir a).toNat == IntKind.i64.wrap (0 - uy (dir (dir (a + 8))).toNat) && (dir (dir (a + b) + c) == dir (dir (a + c) + b) && (dir (dir (a + b) + c) == dir (a + dir (b + c)) && (decide (dir (dir (a + b) + c) ≥ 0) && decide (dir (dir (a + b) + c) < 16))) && hd (ux (dir a).toNat) (uy (dir a).toNat) == dir (a + 0))) = true := by
  have hd0 : 0 ≤ dir a ∧ dir a < 16 := by unfold dir; omega
  have h8 : (dir (dir (a + 8))).toNat = ((dir a).toNat + 8) % 16 := by unfold dir; omega
  obtain ⟨f1, f2, f3⟩ := facts ⟨(dir a).toNat, by omega⟩
  simp only at f1 f2 f3
  have hr := uxy_rng (((dir a).toNat + 8) % 16)
  rw [h8, wrap64 (by omega) (by omega), wrap64 (by omega) (by omega), ← f1, ← f2, f3]
  simp only [beq_self_eq_true, Bool.and_self, Bool.true_and, Bool.and_eq_true, beq_iff_eq, decide_eq_true_eq, ge_iff_le]
  unfold dir
  omega

theorem run (a b c : Int) : runP C11 (cF E5 Tryd.f6) [.int .i64 a, .int .i64 b, .int .i64 c] H5 =
    (.leaf (.bool (true && (ux (dir a).toNat == IntKind.i64.wrap (0 - ux (dir (dir (a + 8))).toNat) && uy (dir a).toNat == IntKind.i64.wrap (0 - uy (dir (dir (a + 8))).toNat) && (dir (dir (a + b) + c) == dir (dir (a + c) + b) && (dir (dir (a + b) + c) == dir (a + dir (b + c)) && (decide (dir (dir (a + b) + c) ≥ 0) && decide (dir (dir (a + b) + c) < 16))) && hd (ux (dir a).toNat) (uy (dir a).toNat) == dir (a + 0)))))) := by kernel_rfl
theorem law (a b c : Int) : CallsA E5 6 [.int .i64 a, .int .i64 b, .int .i64 c] E5.Gc (fun s => VW (.bool true) s.1) := by
  refine callsP ok11 Tryd.func6 (by kernel_rfl) (loops_nil (by kernel_rfl)) (Q := fun v => VW (.bool true) v) ?_
  show (runP C11 (cF E5 Tryd.f6) [.int .i64 a, .int .i64 b, .int .i64 c] H5).holds _
  rw [run]
  exact VW.of_eq (by rw [Bool.true_and, turns])
theorem own : ownKnob Tryd.prog.godebug = none := by kernel_rfl
theorem laidOut : laidOutB Tryd.prog = true := by kernel_rfl
theorem und4 : Tryd.prog.underlying 4 = some .bool := by kernel_rfl
theorem contract (H : Type) (enc : TypeId × Value → H) (W : World) (base : Nat) (args : Array Value) (ds gs : List (DataW H)) (before : List MemPlace)
    (hval : ∀ (j : Nat) t v, Tryd.f6.params[j]? = some t → args[j]? = some v → Value.okWide Tryd.prog W .any base t v)
    (hW : DataW.Whole enc Tryd.prog Tryd.f6.params.toList Rows.geomTurnsSpec.vars false W args.toList ds gs before) (hL : laidMetH Tryd.prog Rows.geomTurnsRow.laid W) :
    Calls Tryd.prog 6 args W fun e W' => ∃ v, e = .returned v ∧ Rows.geomTurnsSpec.post enc Tryd.prog Tryd.f6 false true false false W args v W' := by
  have hW' := hW
  obtain ⟨p, q, hA0, hV, rfl, hfz, hnd⟩ := hW
  have hA : DataW.TrodAll enc Tryd.prog W 0 (fun _ => true) true Tryd.f6.params.toList args.toList ds p := hA0
  rw [Tryd.params6] at hA hval
  obtain ⟨v0, vs0, d0, ds0, p0, q0, hargs, rfl, rfl, h0, r0⟩ := trodAll_cons hA
  obtain ⟨v1, vs1, d1, ds1, p1, q1, e1, rfl, rfl, h1, r1⟩ := trodAll_cons r0
  obtain ⟨v2, vs2, d2, ds2, p2, q2, e2, rfl, rfl, h2, r2⟩ := trodAll_cons r1
  obtain ⟨rfl, rfl, rfl⟩ := trodAll_nil r2
  obtain rfl : args = #[v0, v1, v2] := by cases args; simp_all
  obtain ⟨rfl, rfl⟩ := trodVars_none hV
  obtain ⟨a, rfl, rfl, rfl, w0⟩ := open_int und3 (hval 0 3 v0 rfl rfl) h0
  obtain ⟨b, rfl, rfl, rfl, w1⟩ := open_int und3 (hval 1 3 v1 rfl rfl) h1
  obtain ⟨c, rfl, rfl, rfl, w2⟩ := open_int und3 (hval 2 3 v2 rfl rfl) h2
  have hR := Go.L5p.start (rest := []) hL
  refine (lift_bool (law a b c) hR (.cons _ _ _ _ (.int _ _) (.cons _ _ _ _ (.int _ _) (.cons _ _ _ _ (.int _ _) .nil)))).mono ?_
  rintro e W' ⟨rfl, hb⟩
  refine ⟨_, rfl, post_below (by exact laidOut) (by kernel_rfl) rfl hW' rfl rfl hb ?_⟩
  intro b sp hd
  exact trodAll_cons_mk (shut_bool und4 _) trodAll_mk0

noncomputable def laidWorld (os : Os) : World :=
  { World.holding Tryd.prog os ⟨#[], #[], []⟩ with heap := (World.holding Tryd.prog os ⟨#[], #[], []⟩).heap.modify 0 fun
      | .cells _ t frozen => .cells #[.int .i64 256, .int .i64 0, .int .i64 237, .int .i64 98, .int .i64 181, .int .i64 181, .int .i64 98, .int .i64 237, .int .i64 0, .int .i64 256, .int .i64 (-98), .int .i64 237, .int .i64 (-181), .int .i64 181, .int .i64 (-237), .int .i64 98, .int .i64 (-256), .int .i64 0, .int .i64 (-237), .int .i64 (-98), .int .i64 (-181), .int .i64 (-181), .int .i64 (-98), .int .i64 (-237), .int .i64 0, .int .i64 (-256), .int .i64 98, .int .i64 (-237), .int .i64 181, .int .i64 (-181), .int .i64 237, .int .i64 (-98)] t frozen
      | o => o }
theorem laid_met (os : Os) : laidMet Tryd.prog Rows.geomTurnsRow.laid ((laidWorld os).forCall (fun _ _ => 0) ⟨#[], #[.int .i64 0, .int .i64 0, .int .i64 0], []⟩).memory :=
  laidMet_of_run' 8 (by kernel_rfl) (by kernel_rfl)
theorem reads (os : Os) {H : Type} (enc : TypeId × Value → H) : ∃ places, DataW.whole enc Tryd.prog ((laidWorld os).forCall (fun _ _ => 0) ⟨#[], #[.int .i64 0, .int .i64 0, .int .i64 0], []⟩).memory Tryd.f6.params.toList Rows.geomTurnsSpec.vars false (#[.int .i64 0, .int .i64 0, .int .i64 0] : Array Value).toList 8 = some ([.lit (.int .i64 0), .lit (.int .i64 0), .lit (.int .i64 0)], [], places) :=
  ⟨[], by kernel_rfl⟩
theorem lifted (os : Os) (started : os.Started) (H : Type) (enc : TypeId × Value → H) (F : Stop.Interp) :
    ReturnsInHanded {} Tryd.checked os 6 .any ((OpenSpec.ofChange Rows.geomTurnsSpec).preRow enc Tryd.prog Tryd.f6 Rows.geomTurnsRow.domain false Rows.geomTurnsRow.laid) (((OpenSpec.ofChange Rows.geomTurnsSpec).at F).post enc Tryd.prog Tryd.f6 false true false false) := by
  obtain ⟨places, hx⟩ := reads os enc
  refine returnsInHanded_of_row (C := Tryd.checked) (s := OpenSpec.ofChange Rows.geomTurnsSpec) own started (by kernel_rfl) Tryd.func6
    (witness_row_at (enc := enc) (C := Tryd.checked) false (laidWorld os) #[.int .i64 0, .int .i64 0, .int .i64 0] rfl (by kernel_rfl) (by kernel_rfl) (by kernel_rfl)
      (OpenSpec.preRow_of_cond 8 hx (by kernel_rfl) (fun k hk => by cases hk) (by kernel_rfl) (laid_met os))) ?_
  intro W base args ds gs before hval hW _ _ _ hL _ _
  exact contract H enc W base args ds gs before hval hW hL
theorem said : Rows.GeomTurnsSaid :=
  OpenClaim.holds_of_cond 6 Tryd.f6 rfl rfl rfl rfl rfl rfl rfl ⟨rfl, rfl, rfl, rfl, rfl⟩ rfl rfl rfl rfl rfl (by kernel_rfl) Tryd.func6 (by kernel_rfl)
    (of_decide_eq_true (by kernel_rfl)) (by unfold Func.isWrapper; first | (rw [if_pos (by decide +kernel)]; kernel_rfl) | (rw [if_neg (by decide +kernel)]; exact ⟨rfl, rfl⟩))
    (fun os started H enc _ F => by rw [OpenClaim.pre_eq_preRow]; exact lifted os started H enc F)
theorem plain (f : FuncId) (fn : Func) (hf : Tryd.pinned.checked.prog.funcNamed "echelon/echelonlaw05.GeomTurns" = some f) (hfn : Tryd.pinned.checked.prog.funcs[f]? = some fn) :
    false = Tryd.pinned.checked.prog.looks [] ∧ ∀ (j : Nat) t, fn.params[j]? = some t → Tryd.pinned.checked.prog.wantsStandIn t = false := by
  obtain rfl : f = 6 := Option.some.inj ((show Tryd.prog.funcNamed "echelon/echelonlaw05.GeomTurns" = some 6 by kernel_rfl).symm.trans hf) |>.symm
  obtain rfl : fn = Tryd.f6 := (Option.some.inj (Tryd.func6.symm.trans hfn)).symm
  refine ⟨by kernel_rfl, fun j t ht => ?_⟩
  rw [Tryd.params6] at ht
  have hm := Array.mem_of_getElem? ht
  have hall : (#[3, 3, 3] : Array Nat).all (fun t => Tryd.prog.wantsStandIn t == false) = true := by kernel_rfl
  rw [Array.all_eq_true_iff_forall_mem] at hall
  have hq := hall t hm
  simp only [beq_iff_eq] at hq
  exact hq
theorem card : Rows.GeomTurnsCardSaid :=
  Claim7.holds_tied_plain_at .later [] _ _ _ _ said (fun _ h => by cases h) (by kernel_rfl) (fun _ h => by cases h) geomTurns_row_tie rfl ⟨rfl, rfl⟩ (by kernel_rfl) rfl plain (by kernel_rfl)
end Go.Proofs.YtokkkmbdlolhnaaDoor.geomTurns

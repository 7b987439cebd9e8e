import Derived.Test.YtbgabaihahpijaaDoorL5A
import Derived.Test.YtbgabaihahpijaaDoorEvR
import Derived.Test.YtbgabaihahpijaaDoorProg
set_option linter.unusedVariables false
set_option linter.unusedSimpArgs false
set_option maxRecDepth 100000
namespace Go.L9
open Go Go.Ev Go.Proofs Go.L5
def H5 : Heap := [some ⟨23, false, 2, 16, fun i => [i6 (ux i), i6 (uy i)], true⟩, none, none]
noncomputable def E5 : Env := { P := Tryd.prog, G := [0, 1, 2], Gc := H5, pure := (List.range 56).map (· + 8) }
theorem hlen : E5.Gc.length = E5.G.length := rfl
theorem hpl : plainHeld E5.Gc := by
  intro p B hp
  match p with
  | 0 =>
    have hp' : some (some (⟨23, false, 2, 16, fun i => [i6 (ux i), i6 (uy i)], true⟩ : Blk)) = some (some B) := hp
    simp at hp'; subst hp'
    refine ⟨rfl, fun i j v hv => ?_⟩
    match j with
    | 0 => simp [nth] at hv; subst hv; rfl
    | 1 => simp [nth] at hv; subst hv; rfl
    | j + 2 => simp [nth] at hv
  | 1 => exact absurd hp (by intro h; cases h)
  | 2 => exact absurd hp (by intro h; cases h)
  | p + 3 => exact absurd hp (by intro h; cases h)
theorem pureCallW {C : Cfg} (hOK : COK E5 C) {f : FuncId} {fn : Func} (hf : E5.P.funcs[f]? = some fn) (hc : (compF E5 fn).isSome = true) (hl : ∀ p ∈ floops fn, LoopOK E5 C p.1 p.2)
    {args : List AV} {v : AV} (hv : bel 0 v = true) (ha : bels 0 args = true) (hh : (runP C (cF E5 fn) args H5).holds (fun x => VW v x)) :
    CallsA E5 f args E5.Gc (fun s => VW v s.1) ∧ bel 0 v = true ∧ bels 0 args = true :=
  ⟨callsP hOK hf hc hl (Q := fun x => VW v x) hh, hv, ha⟩
theorem pureCall {C : Cfg} (hOK : COK E5 C) {f : FuncId} {fn : Func} (hf : E5.P.funcs[f]? = some fn) (hc : (compF E5 fn).isSome = true) (hl : ∀ p ∈ floops fn, LoopOK E5 C p.1 p.2)
    {args : List AV} {v : AV} (hv : bel 0 v = true) (ha : bels 0 args = true) (hh : (runP C (cF E5 fn) args H5).holds (fun x => x = v)) :
    CallsA E5 f args E5.Gc (fun s => VW v s.1) ∧ bel 0 v = true ∧ bels 0 args = true :=
  pureCallW hOK hf hc hl hv ha (GT.holds_mono (fun _ h => VW.of_eq h) hh)
theorem ok0 : COK E5 noC := COK.no (by kernel_rfl)
def g_fixed_Bound : List AV → QR
  | [.int .i64 a] => ok (i6 (bd a))
  | _ => none
def C_fixed_Bound : Cfg := addP noC 35 g_fixed_Bound
theorem run_fixed_Bound (a : Int) : runP noC (cF E5 Tryd.f35) [.int .i64 a] H5 = .leaf (i6 (mx (-2147483647) (mn a 2147483647))) := by kernel_rfl
theorem ok_fixed_Bound : COK E5 C_fixed_Bound := ok0.add hlen hpl (by
  intro args cc v h hc
  unfold g_fixed_Bound at h
  split at h
  · rename_i a
    simp only [ok, Option.some.injEq, Prod.mk.injEq] at h; obtain ⟨rfl, rfl⟩ := h
    refine pureCall ok0 Tryd.func35 (by kernel_rfl) (loops_nil (by kernel_rfl)) rfl rfl ?_
    rw [run_fixed_Bound]
    simp only [GT.holds, mxmn]
  · simp at h)
theorem flat_fixed_Bound : Flat C_fixed_Bound := Flat.no.add (by
  intro args cc v h hc
  unfold g_fixed_Bound at h
  split at h
  · first
    | (simp only [ok, Option.some.injEq, Prod.mk.injEq] at h; obtain ⟨rfl, rfl⟩ := h; exact ⟨rfl, rfl⟩)
    | (simp only [okIf, Option.some.injEq, Prod.mk.injEq] at h; obtain ⟨rfl, rfl⟩ := h; exact ⟨rfl, rfl⟩)
  · simp at h)
def g_r01_Bound : List AV → QR
  | [.int .i64 a] => ok (i6 (bd a))
  | _ => none
def C_r01_Bound : Cfg := addP C_fixed_Bound 37 g_r01_Bound
theorem run_r01_Bound (a : Int) : runP C_fixed_Bound (cF E5 Tryd.f37) [.int .i64 a] H5 = .case (decide (a > 2147483647)) (.leaf (i6 2147483647)) (.case (decide (a < -2147483647)) (.leaf (i6 (-2147483647))) (.leaf (i6 a))) := by kernel_rfl
theorem ok_r01_Bound : COK E5 C_r01_Bound := ok_fixed_Bound.add hlen hpl (by
  intro args cc v h hc
  unfold g_r01_Bound at h
  split at h
  · rename_i a
    simp only [ok, Option.some.injEq, Prod.mk.injEq] at h; obtain ⟨rfl, rfl⟩ := h
    refine pureCall ok_fixed_Bound Tryd.func37 (by kernel_rfl) (loops_nil (by kernel_rfl)) rfl rfl ?_
    rw [run_r01_Bound]
    simp only [GT.holds, bd, decide_eq_true_eq, decide_eq_false_iff_not]; refine ⟨fun h => by rw [if_pos h], fun h => ⟨fun h2 => by rw [if_neg h, if_pos h2], fun h2 => by rw [if_neg h, if_neg h2]⟩⟩
  · simp at h)
theorem flat_r01_Bound : Flat C_r01_Bound := flat_fixed_Bound.add (by
  intro args cc v h hc
  unfold g_r01_Bound at h
  split at h
  · first
    | (simp only [ok, Option.some.injEq, Prod.mk.injEq] at h; obtain ⟨rfl, rfl⟩ := h; exact ⟨rfl, rfl⟩)
    | (simp only [okIf, Option.some.injEq, Prod.mk.injEq] at h; obtain ⟨rfl, rfl⟩ := h; exact ⟨rfl, rfl⟩)
  · simp at h)
def g_geom_Bound : List AV → QR
  | [.agg [.int .i64 a, .int .i64 b]] => ok (pt (bd a) (bd b))
  | _ => none
def C_geom_Bound : Cfg := addP C_r01_Bound 20 g_geom_Bound
theorem run_geom_Bound (a b : Int) : runP C_r01_Bound (cF E5 Tryd.f20) [.agg [.int .i64 a, .int .i64 b]] H5 = .leaf (pt (bd a) (bd b)) := by kernel_rfl
theorem ok_geom_Bound : COK E5 C_geom_Bound := ok_r01_Bound.add hlen hpl (by
  intro args cc v h hc
  unfold g_geom_Bound at h
  split at h
  · rename_i a b
    simp only [ok, Option.some.injEq, Prod.mk.injEq] at h; obtain ⟨rfl, rfl⟩ := h
    refine pureCall ok_r01_Bound Tryd.func20 (by kernel_rfl) (loops_nil (by kernel_rfl)) rfl rfl ?_
    rw [run_geom_Bound]
    rfl
  · simp at h)
theorem flat_geom_Bound : Flat C_geom_Bound := flat_r01_Bound.add (by
  intro args cc v h hc
  unfold g_geom_Bound at h
  split at h
  · first
    | (simp only [ok, Option.some.injEq, Prod.mk.injEq] at h; obtain ⟨rfl, rfl⟩ := h; exact ⟨rfl, rfl⟩)
    | (simp only [okIf, Option.some.injEq, Prod.mk.injEq] at h; obtain ⟨rfl, rfl⟩ := h; exact ⟨rfl, rfl⟩)
  · simp at h)
def g_r05_Bound : List AV → QR
  | [.agg [.int .i64 a, .int .i64 b]] => ok (pt (bd a) (bd b))
  | _ => none
def C_r05_Bound : Cfg := addP C_geom_Bound 22 g_r05_Bound
theorem run_r05_Bound (a b : Int) : runP C_geom_Bound (cF E5 Tryd.f22) [.agg [.int .i64 a, .int .i64 b]] H5 = .leaf (pt (bd a) (bd b)) := by kernel_rfl
theorem ok_r05_Bound : COK E5 C_r05_Bound := ok_geom_Bound.add hlen hpl (by
  intro args cc v h hc
  unfold g_r05_Bound at h
  split at h
  · rename_i a b
    simp only [ok, Option.some.injEq, Prod.mk.injEq] at h; obtain ⟨rfl, rfl⟩ := h
    refine pureCall ok_geom_Bound Tryd.func22 (by kernel_rfl) (loops_nil (by kernel_rfl)) rfl rfl ?_
    rw [run_r05_Bound]
    rfl
  · simp at h)
theorem flat_r05_Bound : Flat C_r05_Bound := flat_geom_Bound.add (by
  intro args cc v h hc
  unfold g_r05_Bound at h
  split at h
  · first
    | (simp only [ok, Option.some.injEq, Prod.mk.injEq] at h; obtain ⟨rfl, rfl⟩ := h; exact ⟨rfl, rfl⟩)
    | (simp only [okIf, Option.some.injEq, Prod.mk.injEq] at h; obtain ⟨rfl, rfl⟩ := h; exact ⟨rfl, rfl⟩)
  · simp at h)
def g_geom_direction : List AV → QR
  | [.int .i64 a] => ok (i6 (dir a))
  | _ => none
def C_geom_direction : Cfg := addP C_r05_Bound 41 g_geom_direction
theorem run_geom_direction (a : Int) : runP C_r05_Bound (cF E5 Tryd.f41) [.int .i64 a] H5 = .need (!decide ((16:Int) = 0)) (.need (!decide ((16:Int) = 0)) (.leaf (i6 ((IntKind.i64.wrap (a.tmod 16 + 16)).tmod 16)))) := by kernel_rfl
theorem ok_geom_direction : COK E5 C_geom_direction := ok_r05_Bound.add hlen hpl (by
  intro args cc v h hc
  unfold g_geom_direction at h
  split at h
  · rename_i a
    simp only [ok, Option.some.injEq, Prod.mk.injEq] at h; obtain ⟨rfl, rfl⟩ := h
    refine pureCall ok_r05_Bound Tryd.func41 (by kernel_rfl) (loops_nil (by kernel_rfl)) rfl rfl ?_
    rw [run_geom_direction]
    refine ⟨by decide, by decide, ?_⟩; simp only [GT.holds]; have h := tmod16 a; have h2 : IntKind.i64.wrap (a.tmod 16 + 16) = a.tmod 16 + 16 := wrap64 (by split at h <;> omega) (by split at h <;> omega); rw [h2, tmod16, h]; congr 1; unfold dir; split <;> split <;> omega
  · simp at h)
theorem flat_geom_direction : Flat C_geom_direction := flat_r05_Bound.add (by
  intro args cc v h hc
  unfold g_geom_direction at h
  split at h
  · first
    | (simp only [ok, Option.some.injEq, Prod.mk.injEq] at h; obtain ⟨rfl, rfl⟩ := h; exact ⟨rfl, rfl⟩)
    | (simp only [okIf, Option.some.injEq, Prod.mk.injEq] at h; obtain ⟨rfl, rfl⟩ := h; exact ⟨rfl, rfl⟩)
  · simp at h)
def g_r05_Direction : List AV → QR
  | [.int .i64 a] => ok (i6 (dir a))
  | _ => none
def C_r05_Direction : Cfg := addP C_geom_direction 34 g_r05_Direction
theorem run_r05_Direction (a : Int) : runP C_geom_direction (cF E5 Tryd.f34) [.int .i64 a] H5 = .need (!decide ((16:Int) = 0)) (.leaf (i6 (bif decide (a.tmod 16 < 0) then IntKind.i64.wrap (a.tmod 16 + 16) else a.tmod 16))) := by kernel_rfl
theorem ok_r05_Direction : COK E5 C_r05_Direction := ok_geom_direction.add hlen hpl (by
  intro args cc v h hc
  unfold g_r05_Direction at h
  split at h
  · rename_i a
    simp only [ok, Option.some.injEq, Prod.mk.injEq] at h; obtain ⟨rfl, rfl⟩ := h
    refine pureCall ok_geom_direction Tryd.func34 (by kernel_rfl) (loops_nil (by kernel_rfl)) rfl rfl ?_
    rw [run_r05_Direction]
    refine ⟨by decide, ?_⟩; simp only [GT.holds]; have h := tmod16 a; have h2 : IntKind.i64.wrap (a.tmod 16 + 16) = a.tmod 16 + 16 := wrap64 (by split at h <;> omega) (by split at h <;> omega); rw [h2, Bool.cond_decide]; congr 1; unfold dir; rw [h]; split <;> split <;> omega
  · simp at h)
theorem flat_r05_Direction : Flat C_r05_Direction := flat_geom_direction.add (by
  intro args cc v h hc
  unfold g_r05_Direction at h
  split at h
  · first
    | (simp only [ok, Option.some.injEq, Prod.mk.injEq] at h; obtain ⟨rfl, rfl⟩ := h; exact ⟨rfl, rfl⟩)
    | (simp only [okIf, Option.some.injEq, Prod.mk.injEq] at h; obtain ⟨rfl, rfl⟩ := h; exact ⟨rfl, rfl⟩)
  · simp at h)
def g_fixed_Add : List AV → QR
  | [.int .i64 a, .int .i64 b] => ok (i6 (ad a b))
  | _ => none
def C_fixed_Add : Cfg := addP C_r05_Direction 42 g_fixed_Add
theorem run_fixed_Add (a b : Int) : runP C_r05_Direction (cF E5 Tryd.f42) [.int .i64 a, .int .i64 b] H5 = .leaf (i6 (bd (IntKind.i64.wrap (bd a + bd b)))) := by kernel_rfl
theorem ok_fixed_Add : COK E5 C_fixed_Add := ok_r05_Direction.add hlen hpl (by
  intro args cc v h hc
  unfold g_fixed_Add at h
  split at h
  · rename_i a b
    simp only [ok, Option.some.injEq, Prod.mk.injEq] at h; obtain ⟨rfl, rfl⟩ := h
    refine pureCall ok_r05_Direction Tryd.func42 (by kernel_rfl) (loops_nil (by kernel_rfl)) rfl rfl ?_
    rw [run_fixed_Add]
    have h1 := bd_rng a; have h2 := bd_rng b; simp only [GT.holds, ad]; rw [wrap64 (by omega) (by omega)]
  · simp at h)
theorem flat_fixed_Add : Flat C_fixed_Add := flat_r05_Direction.add (by
  intro args cc v h hc
  unfold g_fixed_Add at h
  split at h
  · first
    | (simp only [ok, Option.some.injEq, Prod.mk.injEq] at h; obtain ⟨rfl, rfl⟩ := h; exact ⟨rfl, rfl⟩)
    | (simp only [okIf, Option.some.injEq, Prod.mk.injEq] at h; obtain ⟨rfl, rfl⟩ := h; exact ⟨rfl, rfl⟩)
  · simp at h)
def g_r01_Add : List AV → QR
  | [.int .i64 a, .int .i64 b] => ok (i6 (ad a b))
  | _ => none
def C_r01_Add : Cfg := addP C_fixed_Add 45 g_r01_Add
theorem run_r01_Add (a b : Int) : runP C_fixed_Add (cF E5 Tryd.f45) [.int .i64 a, .int .i64 b] H5 = .leaf (i6 (bd (IntKind.i64.wrap (bd a + bd b)))) := by kernel_rfl
theorem ok_r01_Add : COK E5 C_r01_Add := ok_fixed_Add.add hlen hpl (by
  intro args cc v h hc
  unfold g_r01_Add at h
  split at h
  · rename_i a b
    simp only [ok, Option.some.injEq, Prod.mk.injEq] at h; obtain ⟨rfl, rfl⟩ := h
    refine pureCall ok_fixed_Add Tryd.func45 (by kernel_rfl) (loops_nil (by kernel_rfl)) rfl rfl ?_
    rw [run_r01_Add]
    have h1 := bd_rng a; have h2 := bd_rng b; simp only [GT.holds, ad]; rw [wrap64 (by omega) (by omega)]
  · simp at h)
theorem flat_r01_Add : Flat C_r01_Add := flat_fixed_Add.add (by
  intro args cc v h hc
  unfold g_r01_Add at h
  split at h
  · first
    | (simp only [ok, Option.some.injEq, Prod.mk.injEq] at h; obtain ⟨rfl, rfl⟩ := h; exact ⟨rfl, rfl⟩)
    | (simp only [okIf, Option.some.injEq, Prod.mk.injEq] at h; obtain ⟨rfl, rfl⟩ := h; exact ⟨rfl, rfl⟩)
  · simp at h)
def g_r01_Clamp : List AV → QR
  | [.int .i64 a, .int .i64 b, .int .i64 c] => ok (i6 (cl a b c))
  | _ => none
def C_r01_Clamp : Cfg := addP C_r01_Add 59 g_r01_Clamp
theorem run_r01_Clamp (a b c : Int) : runP C_r01_Add (cF E5 Tryd.f59) [.int .i64 a, .int .i64 b, .int .i64 c] H5 = .leaf (i6 (bif decide ((bif decide (bd a < bd b) then bd b else bd a) > bd c) then bd c else bif decide (bd a < bd b) then bd b else bd a)) := by kernel_rfl
theorem ok_r01_Clamp : COK E5 C_r01_Clamp := ok_r01_Add.add hlen hpl (by
  intro args cc v h hc
  unfold g_r01_Clamp at h
  split at h
  · rename_i a b c
    simp only [ok, Option.some.injEq, Prod.mk.injEq] at h; obtain ⟨rfl, rfl⟩ := h
    refine pureCall ok_r01_Add Tryd.func59 (by kernel_rfl) (loops_nil (by kernel_rfl)) rfl rfl ?_
    rw [run_r01_Clamp]
    simp only [GT.holds, cl, Bool.cond_decide]
  · simp at h)
theorem flat_r01_Clamp : Flat C_r01_Clamp := flat_r01_Add.add (by
  intro args cc v h hc
  unfold g_r01_Clamp at h
  split at h
  · first
    | (simp only [ok, Option.some.injEq, Prod.mk.injEq] at h; obtain ⟨rfl, rfl⟩ := h; exact ⟨rfl, rfl⟩)
    | (simp only [okIf, Option.some.injEq, Prod.mk.injEq] at h; obtain ⟨rfl, rfl⟩ := h; exact ⟨rfl, rfl⟩)
  · simp at h)
def g_geom_Add : List AV → QR
  | [.agg [.int .i64 a, .int .i64 b], .agg [.int .i64 c, .int .i64 d]] => ok (pt (ad a c) (ad b d))
  | _ => none
def C_geom_Add : Cfg := addP C_r01_Clamp 25 g_geom_Add
theorem run_geom_Add (a b c d : Int) : runP C_r01_Clamp (cF E5 Tryd.f25) [.agg [.int .i64 a, .int .i64 b], .agg [.int .i64 c, .int .i64 d]] H5 = .leaf (pt (ad a c) (ad b d)) := by kernel_rfl
theorem ok_geom_Add : COK E5 C_geom_Add := ok_r01_Clamp.add hlen hpl (by
  intro args cc v h hc
  unfold g_geom_Add at h
  split at h
  · rename_i a b c d
    simp only [ok, Option.some.injEq, Prod.mk.injEq] at h; obtain ⟨rfl, rfl⟩ := h
    refine pureCall ok_r01_Clamp Tryd.func25 (by kernel_rfl) (loops_nil (by kernel_rfl)) rfl rfl ?_
    rw [run_geom_Add]
    rfl
  · simp at h)
theorem flat_geom_Add : Flat C_geom_Add := flat_r01_Clamp.add (by
  intro args cc v h hc
  unfold g_geom_Add at h
  split at h
  · first
    | (simp only [ok, Option.some.injEq, Prod.mk.injEq] at h; obtain ⟨rfl, rfl⟩ := h; exact ⟨rfl, rfl⟩)
    | (simp only [okIf, Option.some.injEq, Prod.mk.injEq] at h; obtain ⟨rfl, rfl⟩ := h; exact ⟨rfl, rfl⟩)
  · simp at h)
def g_r05_Add : List AV → QR
  | [.agg [.int .i64 a, .int .i64 b], .agg [.int .i64 c, .int .i64 d]] => ok (pt (ad a c) (ad b d))
  | _ => none
def C_r05_Add : Cfg := addP C_geom_Add 29 g_r05_Add
theorem run_r05_Add (a b c d : Int) : runP C_geom_Add (cF E5 Tryd.f29) [.agg [.int .i64 a, .int .i64 b], .agg [.int .i64 c, .int .i64 d]] H5 = .leaf (pt (ad a c) (ad b d)) := by kernel_rfl
theorem ok_r05_Add : COK E5 C_r05_Add := ok_geom_Add.add hlen hpl (by
  intro args cc v h hc
  unfold g_r05_Add at h
  split at h
  · rename_i a b c d
    simp only [ok, Option.some.injEq, Prod.mk.injEq] at h; obtain ⟨rfl, rfl⟩ := h
    refine pureCall ok_geom_Add Tryd.func29 (by kernel_rfl) (loops_nil (by kernel_rfl)) rfl rfl ?_
    rw [run_r05_Add]
    rfl
  · simp at h)
theorem flat_r05_Add : Flat C_r05_Add := flat_geom_Add.add (by
  intro args cc v h hc
  unfold g_r05_Add at h
  split at h
  · first
    | (simp only [ok, Option.some.injEq, Prod.mk.injEq] at h; obtain ⟨rfl, rfl⟩ := h; exact ⟨rfl, rfl⟩)
    | (simp only [okIf, Option.some.injEq, Prod.mk.injEq] at h; obtain ⟨rfl, rfl⟩ := h; exact ⟨rfl, rfl⟩)
  · simp at h)
def sz (a : Int) : Int := if a < 0 then -a else a
theorem mxsz {a : Int} (h : -9223372036854775807 ≤ a) (h2 : a ≤ 9223372036854775807) : mx a (IntKind.i64.wrap (0 - a)) = sz a := by
  rw [wrap64 (by omega) (by omega)]; unfold mx sz; split <;> split <;> omega
noncomputable def g_fixed_size : List AV → QR
  | [.int .i64 a] => okIf (decide (-9223372036854775807 ≤ a ∧ a ≤ 9223372036854775807)) (i6 (sz a))
  | _ => none
noncomputable def C_fixed_size : Cfg := addP C_r05_Add 36 g_fixed_size
theorem run_fixed_size (a : Int) : runP C_r05_Add (cF E5 Tryd.f36) [.int .i64 a] H5 =
    .leaf (i6 (mx a (IntKind.i64.wrap (0 - a)))) := by kernel_rfl
theorem ok_fixed_size : COK E5 C_fixed_size := ok_r05_Add.add hlen hpl (by
  intro args cc v h hc
  unfold g_fixed_size at h
  split at h
  · rename_i a
    simp only [okIf, Option.some.injEq, Prod.mk.injEq] at h; obtain ⟨rfl, rfl⟩ := h; have hcond : -9223372036854775807 ≤ a ∧ a ≤ 9223372036854775807 := by simpa using hc
    refine pureCall ok_r05_Add Tryd.func36 (by kernel_rfl) (loops_nil (by kernel_rfl)) rfl rfl ?_
    rw [run_fixed_size]
    simp only [GT.holds]; rw [mxsz (by omega) (by omega)]
  · simp at h)
theorem flat_fixed_size : Flat C_fixed_size := flat_r05_Add.add (by
  intro args cc v h hc
  unfold g_fixed_size at h
  split at h
  · first
    | (simp only [ok, Option.some.injEq, Prod.mk.injEq] at h; obtain ⟨rfl, rfl⟩ := h; exact ⟨rfl, rfl⟩)
    | (simp only [okIf, Option.some.injEq, Prod.mk.injEq] at h; obtain ⟨rfl, rfl⟩ := h; exact ⟨rfl, rfl⟩)
  · simp at h)
theorem rnd_eq {a : Int} (h1 : -4611686014132420609 ≤ a) (h2 : a ≤ 4611686014132420609) : (bif (256 : Int).tmod 2 == 1 then IntKind.i64.wrap ((IntKind.i64.wrap (IntKind.i64.wrap (2 * sz a) + 256)).tdiv (IntKind.i64.wrap (2 * 256))) else IntKind.i64.wrap ((IntKind.i64.wrap (sz a + IntKind.i64.wrap ((256 : Int).tdiv 2))).tdiv 256)) = (sz a + 128) / 256 := by
  have hs : 0 ≤ sz a ∧ sz a ≤ 4611686014132420609 := by unfold sz; split <;> omega
  have e1 : ((256 : Int).tmod 2 == 1) = false := by decide
  have e2 : IntKind.i64.wrap ((256 : Int).tdiv 2) = 128 := by decide
  rw [e1, e2, cond_false, wrap64 (x := sz a + 128) (by omega) (by omega), Int.tdiv_eq_ediv_of_nonneg (by omega), wrap64 (by omega) (by omega)]
noncomputable def g_fixed_rounded : List AV → QR
  | [.int .i64 a, .int .i64 b] => okIf (decide (b = 256 ∧ -4611686014132420609 ≤ a ∧ a ≤ 4611686014132420609)) (i6 (rnd a))
  | _ => none
noncomputable def C_fixed_rounded : Cfg := addP C_fixed_size 55 g_fixed_rounded
theorem run_fixed_rounded (a b : Int) : runP C_fixed_size (cF E5 Tryd.f55) [.int .i64 a, .int .i64 b] H5 =
    .need (decide (-9223372036854775807 ≤ a ∧ a ≤ 9223372036854775807)) (.need (!decide ((2:Int) = 0)) (.need (!decide (b = 0)) (.need (!decide ((2:Int) = 0)) (.need (!b.tmod 2 == 1 || decide (-9223372036854775807 ≤ a ∧ a ≤ 9223372036854775807) && !decide (IntKind.i64.wrap (2 * b) = 0)) (.case (decide (a < 0)) (.leaf (i6 (IntKind.i64.wrap (0 - bif b.tmod 2 == 1 then IntKind.i64.wrap ((IntKind.i64.wrap (IntKind.i64.wrap (2 * sz a) + b)).tdiv (IntKind.i64.wrap (2 * b))) else IntKind.i64.wrap ((IntKind.i64.wrap (sz a + IntKind.i64.wrap (b.tdiv 2))).tdiv b))))) (.leaf (i6 (bif b.tmod 2 == 1 then IntKind.i64.wrap ((IntKind.i64.wrap (IntKind.i64.wrap (2 * sz a) + b)).tdiv (IntKind.i64.wrap (2 * b))) else IntKind.i64.wrap ((IntKind.i64.wrap (sz a + IntKind.i64.wrap (b.tdiv 2))).tdiv b))))))))) := by kernel_rfl
theorem ok_fixed_rounded : COK E5 C_fixed_rounded := ok_fixed_size.add hlen hpl (by
  intro args cc v h hc
  unfold g_fixed_rounded at h
  split at h
  · rename_i a b
    simp only [okIf, Option.some.injEq, Prod.mk.injEq] at h; obtain ⟨rfl, rfl⟩ := h; have hcond : b = 256 ∧ -4611686014132420609 ≤ a ∧ a ≤ 4611686014132420609 := by simpa using hc
    refine pureCall ok_fixed_size Tryd.func55 (by kernel_rfl) (loops_nil (by kernel_rfl)) rfl rfl ?_
    rw [run_fixed_rounded]
    obtain ⟨rfl, h1, h2⟩ := hcond
    refine ⟨by simp; omega, by decide, by decide, by decide, by simp, fun hn => ?_, fun hn => ?_⟩
    · simp only [decide_eq_true_eq] at hn
      simp only [GT.holds]
      rw [rnd_eq h1 h2]
      unfold rnd sz
      rw [if_pos hn, wrap64 (by omega) (by omega), if_pos hn]
      congr 1; omega
    · simp only [decide_eq_false_iff_not] at hn
      simp only [GT.holds]
      rw [rnd_eq h1 h2]
      unfold rnd sz
      rw [if_neg hn, if_neg hn]
  · simp at h)
theorem flat_fixed_rounded : Flat C_fixed_rounded := flat_fixed_size.add (by
  intro args cc v h hc
  unfold g_fixed_rounded at h
  split at h
  · first
    | (simp only [ok, Option.some.injEq, Prod.mk.injEq] at h; obtain ⟨rfl, rfl⟩ := h; exact ⟨rfl, rfl⟩)
    | (simp only [okIf, Option.some.injEq, Prod.mk.injEq] at h; obtain ⟨rfl, rfl⟩ := h; exact ⟨rfl, rfl⟩)
  · simp at h)
theorem near_eq {a : Int} (h1 : 0 ≤ a) (h2 : a ≤ 4611686014132420609) : (bif decide (IntKind.i64.wrap (2 * IntKind.i64.wrap (a - IntKind.i64.wrap (IntKind.i64.wrap (a.tdiv 256) * 256))) ≥ 256) then IntKind.i64.wrap (IntKind.i64.wrap (a.tdiv 256) + 1) else IntKind.i64.wrap (a.tdiv 256)) = rnd a := by
  rw [Int.tdiv_eq_ediv_of_nonneg h1, wrap64 (x := a / 256) (by omega) (by omega), wrap64 (x := a / 256 * 256) (by omega) (by omega), wrap64 (x := a - a / 256 * 256) (by omega) (by omega), wrap64 (by omega) (by omega), wrap64 (by omega) (by omega), Bool.cond_decide]
  unfold rnd
  rw [if_neg (show ¬ a < 0 by omega)]
  split <;> omega
noncomputable def g_r01_Near_a : List AV → QR
  | [.int .i64 a, .int .i64 b] => okIf (decide (b = 256 ∧ 0 ≤ a ∧ a ≤ 4611686014132420609)) (i6 (rnd a))
  | _ => none
noncomputable def C_r01_Near_a : Cfg := addP C_fixed_rounded 57 g_r01_Near_a
theorem run_r01_Near_a (a b : Int) : runP C_fixed_rounded (cF E5 Tryd.f57) [.int .i64 a, .int .i64 b] H5 =
    .case (decide (a < 0)) .fail (.need (!decide (b = 0)) (.leaf (i6 (bif decide (IntKind.i64.wrap (2 * IntKind.i64.wrap (a - IntKind.i64.wrap (IntKind.i64.wrap (a.tdiv b) * b))) ≥ b) then IntKind.i64.wrap (IntKind.i64.wrap (a.tdiv b) + 1) else IntKind.i64.wrap (a.tdiv b))))) := by kernel_rfl
theorem ok_r01_Near_a : COK E5 C_r01_Near_a := ok_fixed_rounded.add hlen hpl (by
  intro args cc v h hc
  unfold g_r01_Near_a at h
  split at h
  · rename_i a b
    simp only [okIf, Option.some.injEq, Prod.mk.injEq] at h; obtain ⟨rfl, rfl⟩ := h; have hcond : b = 256 ∧ 0 ≤ a ∧ a ≤ 4611686014132420609 := by simpa using hc
    refine pureCall ok_fixed_rounded Tryd.func57 (by kernel_rfl) (loops_nil (by kernel_rfl)) rfl rfl ?_
    rw [run_r01_Near_a]
    obtain ⟨rfl, h1, h2⟩ := hcond
    refine ⟨fun hn => by simp at hn; omega, fun hn => ⟨by decide, ?_⟩⟩
    simp only [GT.holds]
    rw [near_eq h1 h2]
  · simp at h)
theorem flat_r01_Near_a : Flat C_r01_Near_a := flat_fixed_rounded.add (by
  intro args cc v h hc
  unfold g_r01_Near_a at h
  split at h
  · first
    | (simp only [ok, Option.some.injEq, Prod.mk.injEq] at h; obtain ⟨rfl, rfl⟩ := h; exact ⟨rfl, rfl⟩)
    | (simp only [okIf, Option.some.injEq, Prod.mk.injEq] at h; obtain ⟨rfl, rfl⟩ := h; exact ⟨rfl, rfl⟩)
  · simp at h)
noncomputable def g_r01_Near : List AV → QR
  | [.int .i64 a, .int .i64 b] => okIf (decide (b = 256 ∧ -4611686014132420609 ≤ a ∧ a ≤ 4611686014132420609)) (i6 (rnd a))
  | _ => none
noncomputable def C_r01_Near : Cfg := addP C_r01_Near_a 57 g_r01_Near
theorem run_r01_Near (a b : Int) : runP C_r01_Near_a (cF E5 Tryd.f57) [.int .i64 a, .int .i64 b] H5 =
    .case (decide (a < 0)) (.need (decide (b = 256 ∧ 0 ≤ IntKind.i64.wrap (0 - a) ∧ IntKind.i64.wrap (0 - a) ≤ 4611686014132420609)) (.leaf (i6 (IntKind.i64.wrap (0 - rnd (IntKind.i64.wrap (0 - a))))))) (.need (!decide (b = 0)) (.leaf (i6 (bif decide (IntKind.i64.wrap (2 * IntKind.i64.wrap (a - IntKind.i64.wrap (IntKind.i64.wrap (a.tdiv b) * b))) ≥ b) then IntKind.i64.wrap (IntKind.i64.wrap (a.tdiv b) + 1) else IntKind.i64.wrap (a.tdiv b))))) := by kernel_rfl
theorem ok_r01_Near : COK E5 C_r01_Near := ok_r01_Near_a.add hlen hpl (by
  intro args cc v h hc
  unfold g_r01_Near at h
  split at h
  · rename_i a b
    simp only [okIf, Option.some.injEq, Prod.mk.injEq] at h; obtain ⟨rfl, rfl⟩ := h; have hcond : b = 256 ∧ -4611686014132420609 ≤ a ∧ a ≤ 4611686014132420609 := by simpa using hc
    refine pureCall ok_r01_Near_a Tryd.func57 (by kernel_rfl) (loops_nil (by kernel_rfl)) rfl rfl ?_
    rw [run_r01_Near]
    obtain ⟨rfl, h1, h2⟩ := hcond
    have hw : IntKind.i64.wrap (0 - a) = -a := by rw [wrap64 (by omega) (by omega)]; omega
    refine ⟨fun hn => ?_, fun hn => ?_⟩
    · simp only [decide_eq_true_eq] at hn
      rw [hw]
      refine ⟨by simp; omega, ?_⟩
      simp only [GT.holds]
      congr 1
      unfold rnd
      rw [if_neg (by omega), if_pos hn, wrap64 (by omega) (by omega)]
      omega
    · simp only [decide_eq_false_iff_not] at hn
      refine ⟨by decide, ?_⟩
      simp only [GT.holds]
      rw [near_eq (by omega) h2]
  · simp at h)
theorem flat_r01_Near : Flat C_r01_Near := flat_r01_Near_a.add (by
  intro args cc v h hc
  unfold g_r01_Near at h
  split at h
  · first
    | (simp only [ok, Option.some.injEq, Prod.mk.injEq] at h; obtain ⟨rfl, rfl⟩ := h; exact ⟨rfl, rfl⟩)
    | (simp only [okIf, Option.some.injEq, Prod.mk.injEq] at h; obtain ⟨rfl, rfl⟩ := h; exact ⟨rfl, rfl⟩)
  · simp at h)
noncomputable def g_fixed_Mul : List AV → QR
  | [.int .i64 a, .int .i64 b] => ok (i6 (ml a b))
  | _ => none
noncomputable def C_fixed_Mul : Cfg := addP C_r01_Near 43 g_fixed_Mul
theorem run_fixed_Mul (a b : Int) : runP C_r01_Near (cF E5 Tryd.f43) [.int .i64 a, .int .i64 b] H5 =
    .need (decide ((256:Int) = 256 ∧ -4611686014132420609 ≤ IntKind.i64.wrap (bd a * bd b) ∧ IntKind.i64.wrap (bd a * bd b) ≤ 4611686014132420609)) (.leaf (i6 (bd (rnd (IntKind.i64.wrap (bd a * bd b)))))) := by kernel_rfl
theorem ok_fixed_Mul : COK E5 C_fixed_Mul := ok_r01_Near.add hlen hpl (by
  intro args cc v h hc
  unfold g_fixed_Mul at h
  split at h
  · rename_i a b
    simp only [ok, Option.some.injEq, Prod.mk.injEq] at h; obtain ⟨rfl, rfl⟩ := h
    refine pureCall ok_r01_Near Tryd.func43 (by kernel_rfl) (loops_nil (by kernel_rfl)) rfl rfl ?_
    rw [run_fixed_Mul]
    have hb := bdmul a b
    rw [wrap64 (by omega) (by omega)]
    exact ⟨by simp; omega, rfl⟩
  · simp at h)
theorem flat_fixed_Mul : Flat C_fixed_Mul := flat_r01_Near.add (by
  intro args cc v h hc
  unfold g_fixed_Mul at h
  split at h
  · first
    | (simp only [ok, Option.some.injEq, Prod.mk.injEq] at h; obtain ⟨rfl, rfl⟩ := h; exact ⟨rfl, rfl⟩)
    | (simp only [okIf, Option.some.injEq, Prod.mk.injEq] at h; obtain ⟨rfl, rfl⟩ := h; exact ⟨rfl, rfl⟩)
  · simp at h)
noncomputable def g_r01_Mul : List AV → QR
  | [.int .i64 a, .int .i64 b] => ok (i6 (ml a b))
  | _ => none
noncomputable def C_r01_Mul : Cfg := addP C_fixed_Mul 46 g_r01_Mul
theorem run_r01_Mul (a b : Int) : runP C_fixed_Mul (cF E5 Tryd.f46) [.int .i64 a, .int .i64 b] H5 =
    .need (decide ((256:Int) = 256 ∧ -4611686014132420609 ≤ IntKind.i64.wrap (bd a * bd b) ∧ IntKind.i64.wrap (bd a * bd b) ≤ 4611686014132420609)) (.leaf (i6 (bd (rnd (IntKind.i64.wrap (bd a * bd b)))))) := by kernel_rfl
theorem ok_r01_Mul : COK E5 C_r01_Mul := ok_fixed_Mul.add hlen hpl (by
  intro args cc v h hc
  unfold g_r01_Mul at h
  split at h
  · rename_i a b
    simp only [ok, Option.some.injEq, Prod.mk.injEq] at h; obtain ⟨rfl, rfl⟩ := h
    refine pureCall ok_fixed_Mul Tryd.func46 (by kernel_rfl) (loops_nil (by kernel_rfl)) rfl rfl ?_
    rw [run_r01_Mul]
    have hb := bdmul a b
    rw [wrap64 (by omega) (by omega)]
    exact ⟨by simp; omega, rfl⟩
  · simp at h)
theorem flat_r01_Mul : Flat C_r01_Mul := flat_fixed_Mul.add (by
  intro args cc v h hc
  unfold g_r01_Mul at h
  split at h
  · first
    | (simp only [ok, Option.some.injEq, Prod.mk.injEq] at h; obtain ⟨rfl, rfl⟩ := h; exact ⟨rfl, rfl⟩)
    | (simp only [okIf, Option.some.injEq, Prod.mk.injEq] at h; obtain ⟨rfl, rfl⟩ := h; exact ⟨rfl, rfl⟩)
  · simp at h)
noncomputable def g_geom_Scale : List AV → QR
  | [.agg [.int .i64 a, .int .i64 b], .int .i64 c] => ok (pt (ml a c) (ml b c))
  | _ => none
noncomputable def C_geom_Scale : Cfg := addP C_r01_Mul 26 g_geom_Scale
theorem run_geom_Scale (a b c : Int) : runP C_r01_Mul (cF E5 Tryd.f26) [.agg [.int .i64 a, .int .i64 b], .int .i64 c] H5 =
    .leaf (pt (ml a c) (ml b c)) := by kernel_rfl
theorem ok_geom_Scale : COK E5 C_geom_Scale := ok_r01_Mul.add hlen hpl (by
  intro args cc v h hc
  unfold g_geom_Scale at h
  split at h
  · rename_i a b c
    simp only [ok, Option.some.injEq, Prod.mk.injEq] at h; obtain ⟨rfl, rfl⟩ := h
    refine pureCall ok_r01_Mul Tryd.func26 (by kernel_rfl) (loops_nil (by kernel_rfl)) rfl rfl ?_
    rw [run_geom_Scale]
    rfl
  · simp at h)
theorem flat_geom_Scale : Flat C_geom_Scale := flat_r01_Mul.add (by
  intro args cc v h hc
  unfold g_geom_Scale at h
  split at h
  · first
    | (simp only [ok, Option.some.injEq, Prod.mk.injEq] at h; obtain ⟨rfl, rfl⟩ := h; exact ⟨rfl, rfl⟩)
    | (simp only [okIf, Option.some.injEq, Prod.mk.injEq] at h; obtain ⟨rfl, rfl⟩ := h; exact ⟨rfl, rfl⟩)
  · simp at h)
noncomputable def g_r05_Scale : List AV → QR
  | [.agg [.int .i64 a, .int .i64 b], .int .i64 c] => ok (pt (ml a c) (ml b c))
  | _ => none
noncomputable def C_r05_Scale : Cfg := addP C_geom_Scale 30 g_r05_Scale
theorem run_r05_Scale (a b c : Int) : runP C_geom_Scale (cF E5 Tryd.f30) [.agg [.int .i64 a, .int .i64 b], .int .i64 c] H5 =
    .leaf (pt (ml a c) (ml b c)) := by kernel_rfl
theorem ok_r05_Scale : COK E5 C_r05_Scale := ok_geom_Scale.add hlen hpl (by
  intro args cc v h hc
  unfold g_r05_Scale at h
  split at h
  · rename_i a b c
    simp only [ok, Option.some.injEq, Prod.mk.injEq] at h; obtain ⟨rfl, rfl⟩ := h
    refine pureCall ok_geom_Scale Tryd.func30 (by kernel_rfl) (loops_nil (by kernel_rfl)) rfl rfl ?_
    rw [run_r05_Scale]
    rfl
  · simp at h)
theorem flat_r05_Scale : Flat C_r05_Scale := flat_geom_Scale.add (by
  intro args cc v h hc
  unfold g_r05_Scale at h
  split at h
  · first
    | (simp only [ok, Option.some.injEq, Prod.mk.injEq] at h; obtain ⟨rfl, rfl⟩ := h; exact ⟨rfl, rfl⟩)
    | (simp only [okIf, Option.some.injEq, Prod.mk.injEq] at h; obtain ⟨rfl, rfl⟩ := h; exact ⟨rfl, rfl⟩)
  · simp at h)
noncomputable def g_geom_Unit : List AV → QR
  | [.int .i64 a] => ok (pt (ux (dir a).toNat) (uy (dir a).toNat))
  | _ => none
noncomputable def C_geom_Unit : Cfg := addP C_r05_Scale 24 g_geom_Unit
theorem run_geom_Unit (a : Int) : runP C_r05_Scale (cF E5 Tryd.f24) [.int .i64 a] H5 =
    .need (decide (0 ≤ dir a) && decide (dir a < ((16:Nat):Int))) (.need ((dir a).toNat.blt 16) (.leaf (pt (ux (dir a).toNat) (uy (dir a).toNat)))) := by kernel_rfl
theorem ok_geom_Unit : COK E5 C_geom_Unit := ok_r05_Scale.add hlen hpl (by
  intro args cc v h hc
  unfold g_geom_Unit at h
  split at h
  · rename_i a
    simp only [ok, Option.some.injEq, Prod.mk.injEq] at h; obtain ⟨rfl, rfl⟩ := h
    refine pureCall ok_r05_Scale Tryd.func24 (by kernel_rfl) (loops_nil (by kernel_rfl)) rfl rfl ?_
    rw [run_geom_Unit]
    have h : 0 ≤ dir a ∧ dir a < 16 := by unfold dir; omega
    exact ⟨by simp; omega, by rw [Nat.blt_eq]; omega, rfl⟩
  · simp at h)
theorem flat_geom_Unit : Flat C_geom_Unit := flat_r05_Scale.add (by
  intro args cc v h hc
  unfold g_geom_Unit at h
  split at h
  · first
    | (simp only [ok, Option.some.injEq, Prod.mk.injEq] at h; obtain ⟨rfl, rfl⟩ := h; exact ⟨rfl, rfl⟩)
    | (simp only [okIf, Option.some.injEq, Prod.mk.injEq] at h; obtain ⟨rfl, rfl⟩ := h; exact ⟨rfl, rfl⟩)
  · simp at h)
theorem chk_case (p : Bool) {a b c d : Int} (h : p = true ↔ chk a b c d ≠ 0) : (GT.case p (.leaf (i6 50)) (.leaf (i6 0))).holds (fun v => v = i6 (chk a b c d)) := by
  have hv : chk a b c d = 0 ∨ chk a b c d = 50 := by unfold chk; split <;> simp
  refine ⟨fun e => ?_, fun e => ?_⟩
  · have := h.1 e; simp only [GT.holds]; congr 1; omega
  · have : ¬ (chk a b c d ≠ 0) := fun hh => by rw [h.2 hh] at e; cases e
    simp only [GT.holds]; congr 1; omega
theorem chk_ne {a b c d : Int} : chk a b c d ≠ 0 ↔ ¬ ((bd a = a ∧ bd b = b ∧ bd c = c ∧ bd d = d) ∧ a ≤ c ∧ b ≤ d) := by
  unfold chk; split <;> simp_all
noncomputable def g_geom_Check : List AV → QR
  | [.agg [.int .i64 a, .int .i64 b, .int .i64 c, .int .i64 d]] => ok (i6 (chk a b c d))
  | _ => none
noncomputable def C_geom_Check : Cfg := addP C_geom_Unit 52 g_geom_Check
theorem run_geom_Check (a b c d : Int) : runP C_geom_Unit (cF E5 Tryd.f52) [.agg [.int .i64 a, .int .i64 b, .int .i64 c, .int .i64 d]] H5 =
    .case (!(bd a == a && (bd b == b && (bd c == c && bd d == d))) || (decide (a > c) || decide (b > d))) (.leaf (i6 50)) (.leaf (i6 0)) := by kernel_rfl
theorem ok_geom_Check : COK E5 C_geom_Check := ok_geom_Unit.add hlen hpl (by
  intro args cc v h hc
  unfold g_geom_Check at h
  split at h
  · rename_i a b c d
    simp only [ok, Option.some.injEq, Prod.mk.injEq] at h; obtain ⟨rfl, rfl⟩ := h
    refine pureCall ok_geom_Unit Tryd.func52 (by kernel_rfl) (loops_nil (by kernel_rfl)) rfl rfl ?_
    rw [run_geom_Check]
    refine chk_case _ ?_
    rw [chk_ne]
    simp only [Bool.or_eq_true, Bool.not_eq_true', Bool.and_eq_false_iff, beq_eq_false_iff_ne, decide_eq_true_eq, ne_eq]
    omega
  · simp at h)
theorem flat_geom_Check : Flat C_geom_Check := flat_geom_Unit.add (by
  intro args cc v h hc
  unfold g_geom_Check at h
  split at h
  · first
    | (simp only [ok, Option.some.injEq, Prod.mk.injEq] at h; obtain ⟨rfl, rfl⟩ := h; exact ⟨rfl, rfl⟩)
    | (simp only [okIf, Option.some.injEq, Prod.mk.injEq] at h; obtain ⟨rfl, rfl⟩ := h; exact ⟨rfl, rfl⟩)
  · simp at h)
theorem small_root {r n : Int} (h0 : 0 ≤ r) (h1 : r * r ≤ n) (h2 : n < 9223372036854775808) : r ≤ 3037000499 := by
  have : r < 3037000500 := sq_lt (by omega) (by omega)
  omega
theorem sqs {a b : Int} (ha : -2147483647 ≤ a ∧ a ≤ 2147483647) (hb : -2147483647 ≤ b ∧ b ≤ 2147483647) : 0 ≤ a * a ∧ 0 ≤ b * b ∧ a * a ≤ 4611686014132420609 ∧ b * b ≤ 4611686014132420609 := by
  have h1 := mul_rng (a := a) (b := a) (m := 2147483647) (n := 2147483647) (by omega) (by omega) (by omega) (by omega)
  have h2 := mul_rng (a := b) (b := b) (m := 2147483647) (n := 2147483647) (by omega) (by omega) (by omega) (by omega)
  have h3 : ∀ x : Int, 0 ≤ x * x := fun x => by
    rcases Int.le_total 0 x with h | h
    · exact Int.mul_nonneg h h
    · exact Int.mul_nonneg_of_nonpos_of_nonpos h h
  exact ⟨h3 a, h3 b, by omega, by omega⟩
theorem rt_small {n : Int} (h : 0 ≤ n) (h2 : n ≤ 9223372036854775807) : 0 ≤ rt n ∧ rt n ≤ 3037000499 := by
  obtain ⟨h0, h1, _⟩ := rt_spec h
  exact ⟨h0, small_root h0 h1 (by omega)⟩
theorem far_rng (x y : Int) : 0 ≤ far x y ∧ far x y ≤ 3037000499 := by
  have := sqs (bd_rng x) (bd_rng y)
  exact rt_small (by omega) (by omega)
theorem far_bd (x y : Int) : far (bd x) (bd y) = far x y := by unfold far; rw [bd_bd, bd_bd]
theorem cap_cell {x m f : Int} (hx : -2147483647 ≤ x ∧ x ≤ 2147483647) (hm : 0 ≤ m ∧ m ≤ 2147483647) (hf : 0 ≤ f ∧ f ≤ 3037000499) :
    IntKind.i64.wrap ((IntKind.i64.wrap (x * m)).tdiv (IntKind.i64.wrap (f + 1))) = (x * m).tdiv (f + 1) := by
  have h1 := mul_rng (a := x) (b := m) (m := 2147483647) (n := 2147483647) hx (by omega) (by omega) (by omega)
  rw [wrap64 (x := x * m) (by omega) (by omega), wrap64 (x := f + 1) (by omega) (by omega)]
  rw [tdiv_lit (by omega)]
  have hd : ∀ y : Int, 0 ≤ y → 0 ≤ y / (f + 1) ∧ y / (f + 1) ≤ y := fun y hy => ⟨Int.ediv_nonneg hy (by omega), Int.ediv_le_self _ hy⟩
  split
  · have := hd (-(x * m)) (by omega); exact wrap64 (by omega) (by omega)
  · have := hd (x * m) (by omega); exact wrap64 (by omega) (by omega)
theorem cap_case {a b c : Int} {f k : Int} (hf : f = far a b) (hk : k = cl c 0 2147483647) :
    (GT.case (decide (f ≤ k)) (.leaf (pt (bd a) (bd b))) (.need (!decide (IntKind.i64.wrap (f + 1) = 0)) (.need (!decide (IntKind.i64.wrap (f + 1) = 0))
      (.leaf (pt (IntKind.i64.wrap ((IntKind.i64.wrap (bd a * k)).tdiv (IntKind.i64.wrap (f + 1)))) (IntKind.i64.wrap ((IntKind.i64.wrap (bd b * k)).tdiv (IntKind.i64.wrap (f + 1))))))))).holds (fun v => v = pt (capx a b c) (capy a b c)) := by
  have hr := far_rng a b
  have hc := cl0_rng c
  rw [← hf] at hr
  rw [← hk] at hc
  refine ⟨fun e => ?_, fun e => ?_⟩
  · simp only [decide_eq_true_eq] at e
    unfold capx capy
    rw [← hf, ← hk, if_pos e, if_pos e]
    rfl
  · simp only [decide_eq_false_iff_not] at e
    have hw : IntKind.i64.wrap (f + 1) = f + 1 := wrap64 (by omega) (by omega)
    refine ⟨by rw [hw]; simp; omega, by rw [hw]; simp; omega, ?_⟩
    rw [cap_cell (bd_rng a) hc hr, cap_cell (bd_rng b) hc hr]
    unfold capx capy
    rw [← hf, ← hk, if_neg e, if_neg e]
    rfl
theorem met_iff {a b c d x y z w : Int} : met a b c d x y z w = true ↔ chk a b c d = 0 ∧ chk x y z w = 0 ∧ chk (mx a x) (mx b y) (mn c z) (mn d w) = 0 := by
  unfold met; rw [decide_eq_true_eq]; rfl
noncomputable def row32 : List AV := rowsAll (fun i => [i6 (ux i), i6 (uy i)]) 16
abbrev dt (x y i : Int) : Int := IntKind.i64.wrap (IntKind.i64.wrap (x * ux i.toNat) + IntKind.i64.wrap (y * uy i.toNat))
theorem uxy_rng (i : Nat) : (-256 ≤ ux i ∧ ux i ≤ 256) ∧ (-256 ≤ uy i ∧ uy i ≤ 256) := by
  by_cases h : i < 16
  · have : ∀ j : Fin 16, (-256 ≤ ux j.1 ∧ ux j.1 ≤ 256) ∧ (-256 ≤ uy j.1 ∧ uy j.1 ≤ 256) := by decide
    exact this ⟨i, h⟩
  · have hx : ∀ (l : List Int) (n : Nat), l.length ≤ n → selI l n = 0 := by
      intro l
      induction l with
      | nil => intro n _; rfl
      | cons a l ih => intro n hn; cases n with
        | zero => simp at hn
        | succ n => exact ih n (by simpa using hn)
    unfold ux uy
    rw [hx _ i (by simp; omega), hx _ i (by simp; omega)]
    omega
theorem dt_eq {x y : Int} (hx : -2147483647 ≤ x ∧ x ≤ 2147483647) (hy : -2147483647 ≤ y ∧ y ≤ 2147483647) (k : Nat) : dt x y (k : Int) = dot x y k := by
  have hu := uxy_rng k
  have h1 := mul_rng hx hu.1 (by omega) (by omega)
  have h2 := mul_rng hy hu.2 (by omega) (by omega)
  show IntKind.i64.wrap (IntKind.i64.wrap (x * ux k) + IntKind.i64.wrap (y * uy k)) = x * ux k + y * uy k
  rw [wrap64 (x := x * ux k) (by omega) (by omega), wrap64 (x := y * uy k) (by omega) (by omega), wrap64 (by omega) (by omega)]
theorem hdN_le (x y : Int) : ∀ k, hdN x y k ≤ k
  | 0 => Nat.le_refl _
  | k + 1 => by unfold hdN; split <;> have := hdN_le x y k <;> omega
def bestI (x y : Int) : Nat → Int | 0 => 0 | k + 1 => dot x y (hdN x y k)
def atI (x y : Int) : Nat → Int | 0 => 0 | k + 1 => hdN x y k
abbrev metV (a b c d x y z w : Int) : AV := .tuple [bx (m4 (met a b c d x y z w) (mx a x)) (m4 (met a b c d x y z w) (mx b y)) (m4 (met a b c d x y z w) (mn c z)) (m4 (met a b c d x y z w) (mn d w)), .bool (met a b c d x y z w)]
theorem metF {a b c d x y z w : Int} (h : ¬ (chk a b c d = 0 ∧ chk x y z w = 0 ∧ chk (mx a x) (mx b y) (mn c z) (mn d w) = 0)) : VW (metV a b c d x y z w) (.tuple [bx 0 0 0 0, .ff]) := by
  have hm : met a b c d x y z w = false := by
    cases hh : met a b c d x y z w with
    | false => rfl
    | true => exact absurd (met_iff.1 hh) h
  unfold metV
  rw [hm]
  exact VW.tuple2 (VW.refl _) (VW.ff rfl)
theorem metT {a b c d x y z w p q r s : Int} (h : chk a b c d = 0 ∧ chk x y z w = 0) (hp : mx a x = p) (hq : mx b y = q) (hr : mn c z = r) (hs : mn d w = s) (hk : chk p q r s = 0) : VW (metV a b c d x y z w) (.tuple [bx p q r s, .tt]) := by
  subst hp hq hr hs
  have hm : met a b c d x y z w = true := met_iff.2 ⟨h.1, h.2, hk⟩
  unfold metV
  rw [hm]
  exact VW.tuple2 (VW.refl _) (VW.tt rfl)
theorem or_ne {p q : Int} : (p != 0 || q != 0) = false ↔ p = 0 ∧ q = 0 := by
  simp
theorem or_ne' {p q : Int} : (p != 0 || q != 0) = true ↔ ¬ (p = 0 ∧ q = 0) := by
  simp; omega
theorem meet_tail {a b c d x y z w p q r s : Int} (h : chk a b c d = 0 ∧ chk x y z w = 0) (hp : mx a x = p) (hq : mx b y = q) (hr : mn c z = r) (hs : mn d w = s) :
    (GT.case (chk p q r s != 0) (.leaf (.tuple [bx 0 0 0 0, .ff])) (.leaf (.tuple [bx p q r s, .tt]))).holds (fun v => VW (metV a b c d x y z w) v) := by
  refine ⟨fun e => ?_, fun e => ?_⟩
  · refine metF (fun hh => ?_)
    rw [hp, hq, hr, hs] at hh
    rw [hh.2.2] at e
    cases e
  · exact metT h hp hq hr hs (by simpa using e)
theorem mxp {a x : Int} (h : decide (x > a) = true) : mx a x = x := if_pos (of_decide_eq_true h)
theorem mxn {a x : Int} (h : decide (x > a) = false) : mx a x = a := if_neg (of_decide_eq_false h)
theorem mnp {a x : Int} (h : decide (x < a) = true) : mn a x = x := if_pos (of_decide_eq_true h)
theorem mnn {a x : Int} (h : decide (x < a) = false) : mn a x = a := if_neg (of_decide_eq_false h)
theorem chk_pt {x y : Int} : chk x y x y = 0 ↔ bd x = x ∧ bd y = y := by
  unfold chk; constructor
  · intro h; split at h
    · rename_i hh; exact ⟨hh.1.1, hh.1.2.1⟩
    · omega
  · intro h; rw [if_pos ⟨⟨h.1, h.2, h.1, h.2⟩, Int.le_refl _, Int.le_refl _⟩]
theorem chk_zero {a b c d : Int} : chk a b c d = 0 ↔ (bd a = a ∧ bd b = b ∧ bd c = c ∧ bd d = d) ∧ a ≤ c ∧ b ≤ d := by
  unfold chk; split <;> simp_all
theorem bd_mid {a x c : Int} (h1 : bd a = a) (h2 : bd c = c) (h : a ≤ x) (k : x ≤ c) : bd x = x := by
  have := bd_rng a; have := bd_rng c; exact bd_id (by omega) (by omega)
theorem met_in {a b c d x y : Int} : met a b c d x y x y = true ↔ chk a b c d = 0 ∧ a ≤ x ∧ x ≤ c ∧ b ≤ y ∧ y ≤ d := by
  rw [met_iff, chk_pt]
  constructor
  · rintro ⟨h1, h2, h3⟩
    have k := chk_zero.1 h3
    have e1 : mx a x = x ∨ mx a x = a := by unfold mx; split <;> simp
    unfold mx mn at k
    refine ⟨h1, ?_⟩
    obtain ⟨_, k1, k2⟩ := k
    have g := chk_zero.1 h1
    split at k1 <;> split at k1 <;> split at k2 <;> split at k2 <;> omega
  · rintro ⟨h1, h2, h3, h4, h5⟩
    have g := chk_zero.1 h1
    have ex := bd_mid g.1.1 g.1.2.2.1 h2 h3
    have ey := bd_mid g.1.2.1 g.1.2.2.2 h4 h5
    have m1 : mx a x = x := by unfold mx; split <;> omega
    have m2 : mx b y = y := by unfold mx; split <;> omega
    have m3 : mn c x = x := by unfold mn; split <;> omega
    have m4 : mn d y = y := by unfold mn; split <;> omega
    rw [m1, m2, m3, m4, chk_pt]
    exact ⟨h1, ⟨ex, ey⟩, ex, ey⟩
end Go.L9

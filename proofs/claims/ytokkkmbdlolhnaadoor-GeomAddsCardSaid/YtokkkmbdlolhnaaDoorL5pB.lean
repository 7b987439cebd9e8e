import Derived.Test.YtokkkmbdlolhnaaDoorL5A
import Derived.Test.YtokkkmbdlolhnaaDoorProg
set_option linter.unusedVariables false
set_option linter.unusedSimpArgs false
set_option maxRecDepth 100000
namespace Go.L5p
open Go Go.Ev Go.Proofs Go.L5
def H5 : Heap := [some ⟨23, false, 2, 16, fun i => [i6 (ux i), i6 (uy i)], true⟩, none, none]
noncomputable def E5 : Env := { P := Tryd.prog, G := [0, 1, 2], Gc := H5, pure := (List.range 46).map (· + 11) }
theorem hlen : E5.Gc.length = E5.G.length := rfl
theorem hpl : plainHeld E5.Gc := by
  intro p B hp
  match p with
  | 0 =>
    have hp' : some (some (⟨23, false, 2, 16, fun i => [i6 (ux i), i6 (uy i)], true⟩ : Blk)) = some (some B) := hp
    simp at hp'; subst hp'
    refine ⟨rfl, fun i j v hv => ?_⟩
    match j with
    | 0 => simp [nth] at hv; subst hv; rfl
    | 1 => simp [nth] at hv; subst hv; rfl
    | j + 2 => simp [nth] at hv
  | 1 => exact absurd hp (by intro h; cases h)
  | 2 => exact absurd hp (by intro h; cases h)
  | p + 3 => exact absurd hp (by intro h; cases h)
theorem pureCallW {C : Cfg} (hOK : COK E5 C) {f : FuncId} {fn : Func} (hf : E5.P.funcs[f]? = some fn) (hc : (compF E5 fn).isSome = true) (hl : ∀ p ∈ floops fn, LoopOK E5 C p.1 p.2)
    {args : List AV} {v : AV} (hv : bel 0 v = true) (ha : bels 0 args = true) (hh : (runP C (cF E5 fn) args H5).holds (fun x => VW v x)) :
    CallsA E5 f args E5.Gc (fun s => VW v s.1) ∧ bel 0 v = true ∧ bels 0 args = true :=
  ⟨callsP hOK hf hc hl (Q := fun x => VW v x) hh, hv, ha⟩
theorem pureCall {C : Cfg} (hOK : COK E5 C) {f : FuncId} {fn : Func} (hf : E5.P.funcs[f]? = some fn) (hc : (compF E5 fn).isSome = true) (hl : ∀ p ∈ floops fn, LoopOK E5 C p.1 p.2)
    {args : List AV} {v : AV} (hv : bel 0 v = true) (ha : bels 0 args = true) (hh : (runP C (cF E5 fn) args H5).holds (fun x => x = v)) :
    CallsA E5 f args E5.Gc (fun s => VW v s.1) ∧ bel 0 v = true ∧ bels 0 args = true :=
  pureCallW hOK hf hc hl hv ha (GT.holds_mono (fun _ h => VW.of_eq h) hh)
theorem ok0 : COK E5 noC := COK.no (by kernel_rfl)
def g41 : List AV → QR
  | [.int .i64 a] => ok (i6 (bd a))
  | _ => none
def C41 : Cfg := addP noC 41 g41
theorem run41 (a : Int) : runP noC (cF E5 Tryd.f41) [.int .i64 a] H5 = .leaf (i6 (mx (-2147483647) (mn a 2147483647))) := by kernel_rfl
theorem ok41 : COK E5 C41 := ok0.add hlen hpl (by
  intro args cc v h hc
  unfold g41 at h
  split at h
  · rename_i a
    simp only [ok, Option.some.injEq, Prod.mk.injEq] at h; obtain ⟨rfl, rfl⟩ := h
    refine pureCall ok0 Tryd.func41 (by kernel_rfl) (loops_nil (by kernel_rfl)) rfl rfl ?_
    rw [run41]
    simp only [GT.holds, mxmn]
  · simp at h)
def g44 : List AV → QR
  | [.int .i64 a] => ok (i6 (bd a))
  | _ => none
def C44 : Cfg := addP C41 44 g44
theorem run44 (a : Int) : runP C41 (cF E5 Tryd.f44) [.int .i64 a] H5 = .case (decide (a > 2147483647)) (.leaf (i6 2147483647)) (.case (decide (a < -2147483647)) (.leaf (i6 (-2147483647))) (.leaf (i6 a))) := by kernel_rfl
theorem ok44 : COK E5 C44 := ok41.add hlen hpl (by
  intro args cc v h hc
  unfold g44 at h
  split at h
  · rename_i a
    simp only [ok, Option.some.injEq, Prod.mk.injEq] at h; obtain ⟨rfl, rfl⟩ := h
    refine pureCall ok41 Tryd.func44 (by kernel_rfl) (loops_nil (by kernel_rfl)) rfl rfl ?_
    rw [run44]
    simp only [GT.holds, bd, decide_eq_true_eq, decide_eq_false_iff_not]; refine ⟨fun h => by rw [if_pos h], fun h => ⟨fun h2 => by rw [if_neg h, if_pos h2], fun h2 => by rw [if_neg h, if_neg h2]⟩⟩
  · simp at h)
def g32 : List AV → QR
  | [.agg [.int .i64 a, .int .i64 b]] => ok (pt (bd a) (bd b))
  | _ => none
def C32 : Cfg := addP C44 32 g32
theorem run32 (a b : Int) : runP C44 (cF E5 Tryd.f32) [.agg [.int .i64 a, .int .i64 b]] H5 = .leaf (pt (bd a) (bd b)) := by kernel_rfl
theorem ok32 : COK E5 C32 := ok44.add hlen hpl (by
  intro args cc v h hc
  unfold g32 at h
  split at h
  · rename_i a b
    simp only [ok, Option.some.injEq, Prod.mk.injEq] at h; obtain ⟨rfl, rfl⟩ := h
    refine pureCall ok44 Tryd.func32 (by kernel_rfl) (loops_nil (by kernel_rfl)) rfl rfl ?_
    rw [run32]
    rfl
  · simp at h)
def g40 : List AV → QR
  | [.agg [.int .i64 a, .int .i64 b]] => ok (pt (bd a) (bd b))
  | _ => none
def C40 : Cfg := addP C32 40 g40
theorem run40 (a b : Int) : runP C32 (cF E5 Tryd.f40) [.agg [.int .i64 a, .int .i64 b]] H5 = .leaf (pt (bd a) (bd b)) := by kernel_rfl
theorem ok40 : COK E5 C40 := ok32.add hlen hpl (by
  intro args cc v h hc
  unfold g40 at h
  split at h
  · rename_i a b
    simp only [ok, Option.some.injEq, Prod.mk.injEq] at h; obtain ⟨rfl, rfl⟩ := h
    refine pureCall ok32 Tryd.func40 (by kernel_rfl) (loops_nil (by kernel_rfl)) rfl rfl ?_
    rw [run40]
    rfl
  · simp at h)
def g45 : List AV → QR
  | [.int .i64 a] => ok (i6 (dir a))
  | _ => none
def C45 : Cfg := addP C40 45 g45
theorem run45 (a : Int) : runP C40 (cF E5 Tryd.f45) [.int .i64 a] H5 = .need (!decide ((16:Int) = 0)) (.need (!decide ((16:Int) = 0)) (.leaf (i6 ((IntKind.i64.wrap (a.tmod 16 + 16)).tmod 16)))) := by kernel_rfl
theorem ok45 : COK E5 C45 := ok40.add hlen hpl (by
  intro args cc v h hc
  unfold g45 at h
  split at h
  · rename_i a
    simp only [ok, Option.some.injEq, Prod.mk.injEq] at h; obtain ⟨rfl, rfl⟩ := h
    refine pureCall ok40 Tryd.func45 (by kernel_rfl) (loops_nil (by kernel_rfl)) rfl rfl ?_
    rw [run45]
    refine ⟨by decide, by decide, ?_⟩; simp only [GT.holds]; have h := tmod16 a; have h2 : IntKind.i64.wrap (a.tmod 16 + 16) = a.tmod 16 + 16 := wrap64 (by split at h <;> omega) (by split at h <;> omega); rw [h2, tmod16, h]; congr 1; unfold dir; split <;> split <;> omega
  · simp at h)
def g46 : List AV → QR
  | [.int .i64 a] => ok (i6 (dir a))
  | _ => none
def C46 : Cfg := addP C45 46 g46
theorem run46 (a : Int) : runP C45 (cF E5 Tryd.f46) [.int .i64 a] H5 = .need (!decide ((16:Int) = 0)) (.leaf (i6 (bif decide (a.tmod 16 < 0) then IntKind.i64.wrap (a.tmod 16 + 16) else a.tmod 16))) := by kernel_rfl
theorem ok46 : COK E5 C46 := ok45.add hlen hpl (by
  intro args cc v h hc
  unfold g46 at h
  split at h
  · rename_i a
    simp only [ok, Option.some.injEq, Prod.mk.injEq] at h; obtain ⟨rfl, rfl⟩ := h
    refine pureCall ok45 Tryd.func46 (by kernel_rfl) (loops_nil (by kernel_rfl)) rfl rfl ?_
    rw [run46]
    refine ⟨by decide, ?_⟩; simp only [GT.holds]; have h := tmod16 a; have h2 : IntKind.i64.wrap (a.tmod 16 + 16) = a.tmod 16 + 16 := wrap64 (by split at h <;> omega) (by split at h <;> omega); rw [h2, Bool.cond_decide]; congr 1; unfold dir; rw [h]; split <;> split <;> omega
  · simp at h)
def g47 : List AV → QR
  | [.int .i64 a, .int .i64 b] => ok (i6 (ad a b))
  | _ => none
def C47 : Cfg := addP C46 47 g47
theorem run47 (a b : Int) : runP C46 (cF E5 Tryd.f47) [.int .i64 a, .int .i64 b] H5 = .leaf (i6 (bd (IntKind.i64.wrap (bd a + bd b)))) := by kernel_rfl
theorem ok47 : COK E5 C47 := ok46.add hlen hpl (by
  intro args cc v h hc
  unfold g47 at h
  split at h
  · rename_i a b
    simp only [ok, Option.some.injEq, Prod.mk.injEq] at h; obtain ⟨rfl, rfl⟩ := h
    refine pureCall ok46 Tryd.func47 (by kernel_rfl) (loops_nil (by kernel_rfl)) rfl rfl ?_
    rw [run47]
    have h1 := bd_rng a; have h2 := bd_rng b; simp only [GT.holds, ad]; rw [wrap64 (by omega) (by omega)]
  · simp at h)
def g48 : List AV → QR
  | [.int .i64 a, .int .i64 b] => ok (i6 (ad a b))
  | _ => none
def C48 : Cfg := addP C47 48 g48
theorem run48 (a b : Int) : runP C47 (cF E5 Tryd.f48) [.int .i64 a, .int .i64 b] H5 = .leaf (i6 (bd (IntKind.i64.wrap (bd a + bd b)))) := by kernel_rfl
theorem ok48 : COK E5 C48 := ok47.add hlen hpl (by
  intro args cc v h hc
  unfold g48 at h
  split at h
  · rename_i a b
    simp only [ok, Option.some.injEq, Prod.mk.injEq] at h; obtain ⟨rfl, rfl⟩ := h
    refine pureCall ok47 Tryd.func48 (by kernel_rfl) (loops_nil (by kernel_rfl)) rfl rfl ?_
    rw [run48]
    have h1 := bd_rng a; have h2 := bd_rng b; simp only [GT.holds, ad]; rw [wrap64 (by omega) (by omega)]
  · simp at h)
def g49 : List AV → QR
  | [.int .i64 a, .int .i64 b] => ok (i6 (sb a b))
  | _ => none
def C49 : Cfg := addP C48 49 g49
theorem run49 (a b : Int) : runP C48 (cF E5 Tryd.f49) [.int .i64 a, .int .i64 b] H5 = .leaf (i6 (bd (IntKind.i64.wrap (bd a - bd b)))) := by kernel_rfl
theorem ok49 : COK E5 C49 := ok48.add hlen hpl (by
  intro args cc v h hc
  unfold g49 at h
  split at h
  · rename_i a b
    simp only [ok, Option.some.injEq, Prod.mk.injEq] at h; obtain ⟨rfl, rfl⟩ := h
    refine pureCall ok48 Tryd.func49 (by kernel_rfl) (loops_nil (by kernel_rfl)) rfl rfl ?_
    rw [run49]
    have h1 := bd_rng a; have h2 := bd_rng b; simp only [GT.holds, sb]; rw [wrap64 (by omega) (by omega)]
  · simp at h)
def g50 : List AV → QR
  | [.int .i64 a, .int .i64 b] => ok (i6 (sb a b))
  | _ => none
def C50 : Cfg := addP C49 50 g50
theorem run50 (a b : Int) : runP C49 (cF E5 Tryd.f50) [.int .i64 a, .int .i64 b] H5 = .leaf (i6 (bd (IntKind.i64.wrap (bd a - bd b)))) := by kernel_rfl
theorem ok50 : COK E5 C50 := ok49.add hlen hpl (by
  intro args cc v h hc
  unfold g50 at h
  split at h
  · rename_i a b
    simp only [ok, Option.some.injEq, Prod.mk.injEq] at h; obtain ⟨rfl, rfl⟩ := h
    refine pureCall ok49 Tryd.func50 (by kernel_rfl) (loops_nil (by kernel_rfl)) rfl rfl ?_
    rw [run50]
    have h1 := bd_rng a; have h2 := bd_rng b; simp only [GT.holds, sb]; rw [wrap64 (by omega) (by omega)]
  · simp at h)
def g33 : List AV → QR
  | [.int .i64 a, .int .i64 b, .int .i64 c] => ok (i6 (cl a b c))
  | _ => none
def C33 : Cfg := addP C50 33 g33
theorem run33 (a b c : Int) : runP C50 (cF E5 Tryd.f33) [.int .i64 a, .int .i64 b, .int .i64 c] H5 = .leaf (i6 (bif decide ((bif decide (bd a < bd b) then bd b else bd a) > bd c) then bd c else bif decide (bd a < bd b) then bd b else bd a)) := by kernel_rfl
theorem ok33 : COK E5 C33 := ok50.add hlen hpl (by
  intro args cc v h hc
  unfold g33 at h
  split at h
  · rename_i a b c
    simp only [ok, Option.some.injEq, Prod.mk.injEq] at h; obtain ⟨rfl, rfl⟩ := h
    refine pureCall ok50 Tryd.func33 (by kernel_rfl) (loops_nil (by kernel_rfl)) rfl rfl ?_
    rw [run33]
    simp only [GT.holds, cl, Bool.cond_decide]
  · simp at h)
def g34 : List AV → QR
  | [.agg [.int .i64 a, .int .i64 b], .agg [.int .i64 c, .int .i64 d]] => ok (pt (ad a c) (ad b d))
  | _ => none
def C34 : Cfg := addP C33 34 g34
theorem run34 (a b c d : Int) : runP C33 (cF E5 Tryd.f34) [.agg [.int .i64 a, .int .i64 b], .agg [.int .i64 c, .int .i64 d]] H5 = .leaf (pt (ad a c) (ad b d)) := by kernel_rfl
theorem ok34 : COK E5 C34 := ok33.add hlen hpl (by
  intro args cc v h hc
  unfold g34 at h
  split at h
  · rename_i a b c d
    simp only [ok, Option.some.injEq, Prod.mk.injEq] at h; obtain ⟨rfl, rfl⟩ := h
    refine pureCall ok33 Tryd.func34 (by kernel_rfl) (loops_nil (by kernel_rfl)) rfl rfl ?_
    rw [run34]
    rfl
  · simp at h)
def g35 : List AV → QR
  | [.agg [.int .i64 a, .int .i64 b], .agg [.int .i64 c, .int .i64 d]] => ok (pt (ad a c) (ad b d))
  | _ => none
def C35 : Cfg := addP C34 35 g35
theorem run35 (a b c d : Int) : runP C34 (cF E5 Tryd.f35) [.agg [.int .i64 a, .int .i64 b], .agg [.int .i64 c, .int .i64 d]] H5 = .leaf (pt (ad a c) (ad b d)) := by kernel_rfl
theorem ok35 : COK E5 C35 := ok34.add hlen hpl (by
  intro args cc v h hc
  unfold g35 at h
  split at h
  · rename_i a b c d
    simp only [ok, Option.some.injEq, Prod.mk.injEq] at h; obtain ⟨rfl, rfl⟩ := h
    refine pureCall ok34 Tryd.func35 (by kernel_rfl) (loops_nil (by kernel_rfl)) rfl rfl ?_
    rw [run35]
    rfl
  · simp at h)
def g36 : List AV → QR
  | [.agg [.int .i64 a, .int .i64 b], .agg [.int .i64 c, .int .i64 d]] => ok (pt (sb a c) (sb b d))
  | _ => none
def C36 : Cfg := addP C35 36 g36
theorem run36 (a b c d : Int) : runP C35 (cF E5 Tryd.f36) [.agg [.int .i64 a, .int .i64 b], .agg [.int .i64 c, .int .i64 d]] H5 = .leaf (pt (sb a c) (sb b d)) := by kernel_rfl
theorem ok36 : COK E5 C36 := ok35.add hlen hpl (by
  intro args cc v h hc
  unfold g36 at h
  split at h
  · rename_i a b c d
    simp only [ok, Option.some.injEq, Prod.mk.injEq] at h; obtain ⟨rfl, rfl⟩ := h
    refine pureCall ok35 Tryd.func36 (by kernel_rfl) (loops_nil (by kernel_rfl)) rfl rfl ?_
    rw [run36]
    rfl
  · simp at h)
def g37 : List AV → QR
  | [.agg [.int .i64 a, .int .i64 b], .agg [.int .i64 c, .int .i64 d]] => ok (pt (sb a c) (sb b d))
  | _ => none
def C37 : Cfg := addP C36 37 g37
theorem run37 (a b c d : Int) : runP C36 (cF E5 Tryd.f37) [.agg [.int .i64 a, .int .i64 b], .agg [.int .i64 c, .int .i64 d]] H5 = .leaf (pt (sb a c) (sb b d)) := by kernel_rfl
theorem ok37 : COK E5 C37 := ok36.add hlen hpl (by
  intro args cc v h hc
  unfold g37 at h
  split at h
  · rename_i a b c d
    simp only [ok, Option.some.injEq, Prod.mk.injEq] at h; obtain ⟨rfl, rfl⟩ := h
    refine pureCall ok36 Tryd.func37 (by kernel_rfl) (loops_nil (by kernel_rfl)) rfl rfl ?_
    rw [run37]
    rfl
  · simp at h)
end Go.L5p

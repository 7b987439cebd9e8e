import Derived.Test.YtbgabaihahpijaaDoorL9S
set_option linter.unusedVariables false
set_option linter.unusedSimpArgs false
set_option maxRecDepth 100000
namespace Go.L9
open Go Go.Ev Go.Proofs Go.L5
noncomputable def g_fixed_Abs : List AV → QR
  | [.int .i64 a] => ok (i6 (sz (bd a)))
  | _ => none
noncomputable def C_fixed_Abs : Cfg := addP C_geom_Check 21 (fun a => g_fixed_Abs (normBs a))
theorem run_fixed_Abs (a : Int) : runP C_geom_Check (cF E5 Tryd.f21) [.int .i64 a] H5 =
    (.need (decide (-9223372036854775807 ≤ bd a ∧ bd a ≤ 9223372036854775807)) (.leaf (.int .i64 (sz (bd a))))) := by kernel_rfl
theorem ok_fixed_Abs : COK E5 C_fixed_Abs := ok_geom_Check.addN hlen hpl (by
  intro args cc v h hc
  unfold g_fixed_Abs at h
  split at h
  · rename_i a
    simp only [ok, Option.some.injEq, Prod.mk.injEq] at h; obtain ⟨rfl, rfl⟩ := h
    refine pureCallW ok_geom_Check Tryd.func21 (by kernel_rfl) (loops_nil (by kernel_rfl)) rfl rfl ?_
    rw [run_fixed_Abs]
    exact ⟨by have := bd_rng a; simp; omega, VW.refl _⟩
  · simp at h)
theorem flat_fixed_Abs : Flat C_fixed_Abs := flat_geom_Check.addN (by
  intro args cc v h hc
  unfold g_fixed_Abs at h
  split at h
  · simp only [ok, Option.some.injEq, Prod.mk.injEq] at h; obtain ⟨rfl, rfl⟩ := h; exact ⟨rfl, rfl⟩
  · simp at h)
noncomputable def g_fixed_Clamp : List AV → QR
  | [.int .i64 a, .int .i64 b, .int .i64 c] => ok (i6 (cl a b c))
  | _ => none
noncomputable def C_fixed_Clamp : Cfg := addP C_fixed_Abs 63 (fun a => g_fixed_Clamp (normBs a))
theorem run_fixed_Clamp (a b c : Int) : runP C_fixed_Abs (cF E5 Tryd.f63) [.int .i64 a, .int .i64 b, .int .i64 c] H5 =
    (.leaf (.int .i64 (mn (mx (bd a) (bd b)) (bd c)))) := by kernel_rfl
theorem ok_fixed_Clamp : COK E5 C_fixed_Clamp := ok_fixed_Abs.addN hlen hpl (by
  intro args cc v h hc
  unfold g_fixed_Clamp at h
  split at h
  · rename_i a b c
    simp only [ok, Option.some.injEq, Prod.mk.injEq] at h; obtain ⟨rfl, rfl⟩ := h
    refine pureCallW ok_fixed_Abs Tryd.func63 (by kernel_rfl) (loops_nil (by kernel_rfl)) rfl rfl ?_
    rw [run_fixed_Clamp]
    refine VW.of_eq ?_
    simp only [cl, mn, mx, AV.int.injEq, true_and]
    (repeat' split) <;> omega
  · simp at h)
theorem flat_fixed_Clamp : Flat C_fixed_Clamp := flat_fixed_Abs.addN (by
  intro args cc v h hc
  unfold g_fixed_Clamp at h
  split at h
  · simp only [ok, Option.some.injEq, Prod.mk.injEq] at h; obtain ⟨rfl, rfl⟩ := h; exact ⟨rfl, rfl⟩
  · simp at h)
noncomputable def g_r01_Abs : List AV → QR
  | [.int .i64 a] => ok (i6 (sz (bd a)))
  | _ => none
noncomputable def C_r01_Abs : Cfg := addP C_fixed_Clamp 49 (fun a => g_r01_Abs (normBs a))
theorem run_r01_Abs (a : Int) : runP C_fixed_Clamp (cF E5 Tryd.f49) [.int .i64 a] H5 =
    (.case (decide (bd a < 0)) (.leaf (.int .i64 (IntKind.i64.wrap (0 - bd a)))) (.leaf (.int .i64 (bd a)))) := by kernel_rfl
theorem ok_r01_Abs : COK E5 C_r01_Abs := ok_fixed_Clamp.addN hlen hpl (by
  intro args cc v h hc
  unfold g_r01_Abs at h
  split at h
  · rename_i a
    simp only [ok, Option.some.injEq, Prod.mk.injEq] at h; obtain ⟨rfl, rfl⟩ := h
    refine pureCallW ok_fixed_Clamp Tryd.func49 (by kernel_rfl) (loops_nil (by kernel_rfl)) rfl rfl ?_
    rw [run_r01_Abs]
    have hr := bd_rng a
    refine ⟨fun hh => VW.of_eq ?_, fun hh => VW.of_eq ?_⟩ <;> simp at hh <;> unfold sz
    · rw [if_pos hh, wrap64 (by omega) (by omega)]; congr 1; omega
    · rw [if_neg (by omega)]
  · simp at h)
theorem flat_r01_Abs : Flat C_r01_Abs := flat_fixed_Clamp.addN (by
  intro args cc v h hc
  unfold g_r01_Abs at h
  split at h
  · simp only [ok, Option.some.injEq, Prod.mk.injEq] at h; obtain ⟨rfl, rfl⟩ := h; exact ⟨rfl, rfl⟩
  · simp at h)
noncomputable def g_mover_within : List AV → QR
  | [.int .i64 a, .int .i64 b] => ok (.bool (bt a 0 b))
  | _ => none
noncomputable def C_mover_within : Cfg := addP C_r01_Abs 38 (fun a => g_mover_within (normBs a))
theorem run_mover_within (a b : Int) : runP C_r01_Abs (cF E5 Tryd.f38) [.int .i64 a, .int .i64 b] H5 =
    (.leaf (.bool (decide (a ≥ 0) && decide (a ≤ b)))) := by kernel_rfl
theorem ok_mover_within : COK E5 C_mover_within := ok_r01_Abs.addN hlen hpl (by
  intro args cc v h hc
  unfold g_mover_within at h
  split at h
  · rename_i a b
    simp only [ok, Option.some.injEq, Prod.mk.injEq] at h; obtain ⟨rfl, rfl⟩ := h
    refine pureCallW ok_r01_Abs Tryd.func38 (by kernel_rfl) (loops_nil (by kernel_rfl)) rfl rfl ?_
    rw [run_mover_within]
    exact VW.norm rfl
  · simp at h)
theorem flat_mover_within : Flat C_mover_within := flat_r01_Abs.addN (by
  intro args cc v h hc
  unfold g_mover_within at h
  split at h
  · simp only [ok, Option.some.injEq, Prod.mk.injEq] at h; obtain ⟨rfl, rfl⟩ := h; exact ⟨rfl, rfl⟩
  · simp at h)
noncomputable def g_mover_short : List AV → QR
  | [.agg [.int .i64 a, .int .i64 b], .int .i64 c] => ok (.bool (decide (sz (bd a) ≤ c) && decide (sz (bd b) ≤ c)))
  | _ => none
noncomputable def C_mover_short : Cfg := addP C_mover_within 39 (fun a => g_mover_short (normBs a))
theorem run_mover_short (a b c : Int) : runP C_mover_within (cF E5 Tryd.f39) [.agg [.int .i64 a, .int .i64 b], .int .i64 c] H5 =
    (.leaf (.bool (decide (sz (bd a) ≤ c) && decide (sz (bd b) ≤ c)))) := by kernel_rfl
theorem ok_mover_short : COK E5 C_mover_short := ok_mover_within.addN hlen hpl (by
  intro args cc v h hc
  unfold g_mover_short at h
  split at h
  · rename_i a b c
    simp only [ok, Option.some.injEq, Prod.mk.injEq] at h; obtain ⟨rfl, rfl⟩ := h
    refine pureCallW ok_mover_within Tryd.func39 (by kernel_rfl) (loops_nil (by kernel_rfl)) rfl rfl ?_
    rw [run_mover_short]
    exact VW.norm rfl
  · simp at h)
theorem flat_mover_short : Flat C_mover_short := flat_mover_within.addN (by
  intro args cc v h hc
  unfold g_mover_short at h
  split at h
  · simp only [ok, Option.some.injEq, Prod.mk.injEq] at h; obtain ⟨rfl, rfl⟩ := h; exact ⟨rfl, rfl⟩
  · simp at h)
noncomputable def g_mover_away : List AV → QR
  | [.agg [.int .i64 x, .int .i64 y, .int .i64 sx, .int .i64 sy, .int .i64 px, .int .i64 py, .int .i64 f, .int .i64 h, .int .i64 e, .bool sh, .int .i64 c, .int .i64 o, .int .i64 s], .int .i64 a] => ok (.agg [i6 x, i6 y, i6 0, i6 0, i6 0, i6 0, i6 f, i6 0, i6 0, .bool false, i6 0, i6 a, i6 s])
  | _ => none
noncomputable def C_mover_away : Cfg := addP C_mover_short 40 (fun a => g_mover_away (normBs a))
theorem run_mover_away (x y sx sy px py f h e : Int) (sh : Bool) (c o s : Int) (a : Int) : runP C_mover_short (cF E5 Tryd.f40) [.agg [.int .i64 x, .int .i64 y, .int .i64 sx, .int .i64 sy, .int .i64 px, .int .i64 py, .int .i64 f, .int .i64 h, .int .i64 e, .bool sh, .int .i64 c, .int .i64 o, .int .i64 s], .int .i64 a] H5 =
    (.leaf (.agg [(.int .i64 (x)), (.int .i64 (y)), (.int .i64 (0)), (.int .i64 (0)), (.int .i64 (0)), (.int .i64 (0)), (.int .i64 (f)), (.int .i64 (0)), (.int .i64 (0)), .ff, (.int .i64 (0)), (.int .i64 (a)), (.int .i64 (s))])) := by kernel_rfl
theorem ok_mover_away : COK E5 C_mover_away := ok_mover_short.addN hlen hpl (by
  intro args cc v h hc
  unfold g_mover_away at h
  split at h
  · rename_i x y sx sy px py f h e sh c o s a
    simp only [ok, Option.some.injEq, Prod.mk.injEq] at h; obtain ⟨rfl, rfl⟩ := h
    refine pureCallW ok_mover_short Tryd.func40 (by kernel_rfl) (loops_nil (by kernel_rfl)) rfl rfl ?_
    rw [run_mover_away]
    exact VW.norm rfl
  · simp at h)
theorem flat_mover_away : Flat C_mover_away := flat_mover_short.addN (by
  intro args cc v h hc
  unfold g_mover_away at h
  split at h
  · simp only [ok, Option.some.injEq, Prod.mk.injEq] at h; obtain ⟨rfl, rfl⟩ := h; exact ⟨rfl, rfl⟩
  · simp at h)
noncomputable def g_mover_Check : List AV → QR
  | [.agg [.int .i64 x, .int .i64 y, .int .i64 sx, .int .i64 sy, .int .i64 px, .int .i64 py, .int .i64 f, .int .i64 h, .int .i64 e, .bool sh, .int .i64 c, .int .i64 o, .int .i64 s]] => ok (i6 (er (okM x y sx sy px py f h e sh c o s) 80))
  | _ => none
noncomputable def C_mover_Check : Cfg := addP C_mover_away 23 (fun a => g_mover_Check (normBs a))
theorem run_mover_Check (x y sx sy px py f h e : Int) (sh : Bool) (c o s : Int) : runP C_mover_away (cF E5 Tryd.f23) [.agg [.int .i64 x, .int .i64 y, .int .i64 sx, .int .i64 sy, .int .i64 px, .int .i64 py, .int .i64 f, .int .i64 h, .int .i64 e, .bool sh, .int .i64 c, .int .i64 o, .int .i64 s]] H5 =
    (.case (!(bt f 0 15 && (bt h 0 100 && (bt e 0 100 && (bt c 0 12 && (bt o 0 30 && bt s 0 255))))) || (!(bd x == x && bd y == y) || (!(decide (sz (bd sx) ≤ 1024) && decide (sz (bd sy) ≤ 1024)) || !(decide (sz (bd px) ≤ 256) && decide (sz (bd py) ≤ 256))))) (.leaf (.int .i64 (80))) (.case (bif o == 0 then h == 0 || decide (o > 0) && !(x == x && (y == y && (sx == 0 && (sy == 0 && (px == 0 && (py == 0 && (f == f && (h == 0 && (e == 0 && (sh == false && (c == 0 && (o == o && s == s)))))))))))) else decide (o > 0) && !(x == x && (y == y && (sx == 0 && (sy == 0 && (px == 0 && (py == 0 && (f == f && (h == 0 && (e == 0 && (sh == false && (c == 0 && (o == o && s == s))))))))))))) (.leaf (.int .i64 (80))) (.leaf (.int .i64 (0))))) := by kernel_rfl
theorem ok_mover_Check : COK E5 C_mover_Check := ok_mover_away.addN hlen hpl (by
  intro args cc v h hc
  unfold g_mover_Check at h
  split at h
  · rename_i x y sx sy px py f h e sh c o s
    simp only [ok, Option.some.injEq, Prod.mk.injEq] at h; obtain ⟨rfl, rfl⟩ := h
    refine pureCallW ok_mover_away Tryd.func23 (by kernel_rfl) (loops_nil (by kernel_rfl)) rfl rfl ?_
    rw [run_mover_Check]
    exact case_er2 (mcheck _ _ _ _ _ _ _ _ _ _ _ _ _)
  · simp at h)
theorem flat_mover_Check : Flat C_mover_Check := flat_mover_away.addN (by
  intro args cc v h hc
  unfold g_mover_Check at h
  split at h
  · simp only [ok, Option.some.injEq, Prod.mk.injEq] at h; obtain ⟨rfl, rfl⟩ := h; exact ⟨rfl, rfl⟩
  · simp at h)
noncomputable def g_r08_among : List AV → QR
  | [.int .i64 a, .int .i64 b, .int .i64 c] => ok (.bool (bt a b c))
  | _ => none
noncomputable def C_r08_among : Cfg := addP C_mover_Check 56 (fun a => g_r08_among (normBs a))
theorem run_r08_among (a b c : Int) : runP C_mover_Check (cF E5 Tryd.f56) [.int .i64 a, .int .i64 b, .int .i64 c] H5 =
    (.leaf (.bool (decide (a ≥ b) && decide (a ≤ c)))) := by kernel_rfl
theorem ok_r08_among : COK E5 C_r08_among := ok_mover_Check.addN hlen hpl (by
  intro args cc v h hc
  unfold g_r08_among at h
  split at h
  · rename_i a b c
    simp only [ok, Option.some.injEq, Prod.mk.injEq] at h; obtain ⟨rfl, rfl⟩ := h
    refine pureCallW ok_mover_Check Tryd.func56 (by kernel_rfl) (loops_nil (by kernel_rfl)) rfl rfl ?_
    rw [run_r08_among]
    exact VW.norm rfl
  · simp at h)
theorem flat_r08_among : Flat C_r08_among := flat_mover_Check.addN (by
  intro args cc v h hc
  unfold g_r08_among at h
  split at h
  · simp only [ok, Option.some.injEq, Prod.mk.injEq] at h; obtain ⟨rfl, rfl⟩ := h; exact ⟨rfl, rfl⟩
  · simp at h)
noncomputable def g_r08_May : List AV → QR
  | [.agg [.int .i64 x, .int .i64 y, .int .i64 sx, .int .i64 sy, .int .i64 px, .int .i64 py, .int .i64 f, .int .i64 h, .int .i64 e, .bool sh, .int .i64 c, .int .i64 o, .int .i64 s]] => ok (.bool (okM x y sx sy px py f h e sh c o s))
  | _ => none
noncomputable def C_r08_May : Cfg := addP C_r08_among 44 (fun a => g_r08_May (normBs a))
theorem run_r08_May (x y sx sy px py f h e : Int) (sh : Bool) (c o s : Int) : runP C_r08_among (cF E5 Tryd.f44) [.agg [.int .i64 x, .int .i64 y, .int .i64 sx, .int .i64 sy, .int .i64 px, .int .i64 py, .int .i64 f, .int .i64 h, .int .i64 e, .bool sh, .int .i64 c, .int .i64 o, .int .i64 s]] H5 =
    (.case (!(bd x == x && bd y == y && (bt sx (-1024) 1024 && bt sy (-1024) 1024)) || (!(bt px (-256) 256 && (bt py (-256) 256 && bt f 0 15)) || !(bt h 0 100 && (bt e 0 100 && (bt c 0 12 && (bt o 0 30 && bt s 0 255)))))) (.leaf .ff) (.case (o == 0) (.leaf (.bool (decide (h ≥ 1)))) (.leaf (.bool (x == x && (y == y && (sx == 0 && (sy == 0 && (px == 0 && (py == 0 && (f == f && (h == 0 && (e == 0 && (sh == false && (c == 0 && (o == o && s == s)))))))))))))))) := by kernel_rfl
theorem ok_r08_May : COK E5 C_r08_May := ok_r08_among.addN hlen hpl (by
  intro args cc v h hc
  unfold g_r08_May at h
  split at h
  · rename_i x y sx sy px py f h e sh c o s
    simp only [ok, Option.some.injEq, Prod.mk.injEq] at h; obtain ⟨rfl, rfl⟩ := h
    refine pureCallW ok_r08_among Tryd.func44 (by kernel_rfl) (loops_nil (by kernel_rfl)) rfl rfl ?_
    rw [run_r08_May]
    exact case_b2 (mmay _ _ _ _ _ _ _ _ _ _ _ _ _)
  · simp at h)
theorem flat_r08_May : Flat C_r08_May := flat_r08_among.addN (by
  intro args cc v h hc
  unfold g_r08_May at h
  split at h
  · simp only [ok, Option.some.injEq, Prod.mk.injEq] at h; obtain ⟨rfl, rfl⟩ := h; exact ⟨rfl, rfl⟩
  · simp at h)
noncomputable def g_r08_Check : List AV → QR
  | [.agg [.int .i64 x, .int .i64 y, .int .i64 sx, .int .i64 sy, .int .i64 px, .int .i64 py, .int .i64 f, .int .i64 h, .int .i64 e, .bool sh, .int .i64 c, .int .i64 o, .int .i64 s]] => ok (i6 (er (okM x y sx sy px py f h e sh c o s) 80))
  | _ => none
noncomputable def C_r08_Check : Cfg := addP C_r08_May 27 (fun a => g_r08_Check (normBs a))
theorem run_r08_Check (x y sx sy px py f h e : Int) (sh : Bool) (c o s : Int) : runP C_r08_May (cF E5 Tryd.f27) [.agg [.int .i64 x, .int .i64 y, .int .i64 sx, .int .i64 sy, .int .i64 px, .int .i64 py, .int .i64 f, .int .i64 h, .int .i64 e, .bool sh, .int .i64 c, .int .i64 o, .int .i64 s]] H5 =
    (.case (!okM x y sx sy px py f h e sh c o s) (.leaf (.int .i64 (80))) (.leaf (.int .i64 (0)))) := by kernel_rfl
theorem ok_r08_Check : COK E5 C_r08_Check := ok_r08_May.addN hlen hpl (by
  intro args cc v h hc
  unfold g_r08_Check at h
  split at h
  · rename_i x y sx sy px py f h e sh c o s
    simp only [ok, Option.some.injEq, Prod.mk.injEq] at h; obtain ⟨rfl, rfl⟩ := h
    refine pureCallW ok_r08_May Tryd.func27 (by kernel_rfl) (loops_nil (by kernel_rfl)) rfl rfl ?_
    rw [run_r08_Check]
    exact case_er rfl
  · simp at h)
theorem flat_r08_Check : Flat C_r08_Check := flat_r08_May.addN (by
  intro args cc v h hc
  unfold g_r08_Check at h
  split at h
  · simp only [ok, Option.some.injEq, Prod.mk.injEq] at h; obtain ⟨rfl, rfl⟩ := h; exact ⟨rfl, rfl⟩
  · simp at h)
noncomputable def g_r08_Start : List AV → QR
  | [.agg [.int .i64 a, .int .i64 b], .int .i64 c] => ok (.agg [i6 (bd a), i6 (bd b), i6 0, i6 0, i6 0, i6 0, i6 (dir c), i6 100, i6 50, .bool false, i6 0, i6 0, i6 0])
  | _ => none
noncomputable def C_r08_Start : Cfg := addP C_r08_Check 18 (fun a => g_r08_Start (normBs a))
theorem run_r08_Start (a b c : Int) : runP C_r08_Check (cF E5 Tryd.f18) [.agg [.int .i64 a, .int .i64 b], .int .i64 c] H5 =
    (.leaf (.agg [(.int .i64 (bd a)), (.int .i64 (bd b)), (.int .i64 (0)), (.int .i64 (0)), (.int .i64 (0)), (.int .i64 (0)), (.int .i64 (dir c)), (.int .i64 (100)), (.int .i64 (50)), .ff, (.int .i64 (0)), (.int .i64 (0)), (.int .i64 (0))])) := by kernel_rfl
theorem ok_r08_Start : COK E5 C_r08_Start := ok_r08_Check.addN hlen hpl (by
  intro args cc v h hc
  unfold g_r08_Start at h
  split at h
  · rename_i a b c
    simp only [ok, Option.some.injEq, Prod.mk.injEq] at h; obtain ⟨rfl, rfl⟩ := h
    refine pureCallW ok_r08_Check Tryd.func18 (by kernel_rfl) (loops_nil (by kernel_rfl)) rfl rfl ?_
    rw [run_r08_Start]
    exact VW.norm rfl
  · simp at h)
theorem flat_r08_Start : Flat C_r08_Start := flat_r08_Check.addN (by
  intro args cc v h hc
  unfold g_r08_Start at h
  split at h
  · simp only [ok, Option.some.injEq, Prod.mk.injEq] at h; obtain ⟨rfl, rfl⟩ := h; exact ⟨rfl, rfl⟩
  · simp at h)
noncomputable def g_shot_within : List AV → QR
  | [.int .i64 a, .int .i64 b, .int .i64 c] => ok (.bool (bt a b c))
  | _ => none
noncomputable def C_shot_within : Cfg := addP C_r08_Start 19 (fun a => g_shot_within (normBs a))
theorem run_shot_within (a b c : Int) : runP C_r08_Start (cF E5 Tryd.f19) [.int .i64 a, .int .i64 b, .int .i64 c] H5 =
    (.leaf (.bool (decide (a ≥ b) && decide (a ≤ c)))) := by kernel_rfl
theorem ok_shot_within : COK E5 C_shot_within := ok_r08_Start.addN hlen hpl (by
  intro args cc v h hc
  unfold g_shot_within at h
  split at h
  · rename_i a b c
    simp only [ok, Option.some.injEq, Prod.mk.injEq] at h; obtain ⟨rfl, rfl⟩ := h
    refine pureCallW ok_r08_Start Tryd.func19 (by kernel_rfl) (loops_nil (by kernel_rfl)) rfl rfl ?_
    rw [run_shot_within]
    exact VW.norm rfl
  · simp at h)
theorem flat_shot_within : Flat C_shot_within := flat_r08_Start.addN (by
  intro args cc v h hc
  unfold g_shot_within at h
  split at h
  · simp only [ok, Option.some.injEq, Prod.mk.injEq] at h; obtain ⟨rfl, rfl⟩ := h; exact ⟨rfl, rfl⟩
  · simp at h)
noncomputable def g_shot_Check : List AV → QR
  | [.agg [.int .i64 n, .int .i64 w, .int .i64 k, .int .i64 x, .int .i64 y, .int .i64 u, .int .i64 v, .int .i64 l]] => ok (i6 (er (okS n w k x y u v l) 90))
  | _ => none
noncomputable def C_shot_Check : Cfg := addP C_shot_within 9 (fun a => g_shot_Check (normBs a))
theorem run_shot_Check (n w k x y u v l : Int) : runP C_shot_within (cF E5 Tryd.f9) [.agg [.int .i64 n, .int .i64 w, .int .i64 k, .int .i64 x, .int .i64 y, .int .i64 u, .int .i64 v, .int .i64 l]] H5 =
    (.case (!(bt n 1 1099511627776 && (bt w 0 5 && (bt k 1 3 && bt l 1 40))) || (!(bd x == x && bd y == y) || (decide (sz (bd u) > 1536) || decide (sz (bd v) > 1536)))) (.leaf (.int .i64 (90))) (.leaf (.int .i64 (0)))) := by kernel_rfl
theorem ok_shot_Check : COK E5 C_shot_Check := ok_shot_within.addN hlen hpl (by
  intro args cc v h hc
  unfold g_shot_Check at h
  split at h
  · rename_i n w k x y u v l
    simp only [ok, Option.some.injEq, Prod.mk.injEq] at h; obtain ⟨rfl, rfl⟩ := h
    refine pureCallW ok_shot_within Tryd.func9 (by kernel_rfl) (loops_nil (by kernel_rfl)) rfl rfl ?_
    rw [run_shot_Check]
    exact case_er (scheck _ _ _ _ _ _ _ _)
  · simp at h)
theorem flat_shot_Check : Flat C_shot_Check := flat_shot_within.addN (by
  intro args cc v h hc
  unfold g_shot_Check at h
  split at h
  · simp only [ok, Option.some.injEq, Prod.mk.injEq] at h; obtain ⟨rfl, rfl⟩ := h; exact ⟨rfl, rfl⟩
  · simp at h)
noncomputable def g_r09_Check : List AV → QR
  | [.agg [.int .i64 n, .int .i64 w, .int .i64 k, .int .i64 x, .int .i64 y, .int .i64 u, .int .i64 v, .int .i64 l]] => ok (i6 (er (okS n w k x y u v l) 90))
  | _ => none
noncomputable def C_r09_Check : Cfg := addP C_shot_Check 10 (fun a => g_r09_Check (normBs a))
theorem run_r09_Check (n w k x y u v l : Int) : runP C_shot_Check (cF E5 Tryd.f10) [.agg [.int .i64 n, .int .i64 w, .int .i64 k, .int .i64 x, .int .i64 y, .int .i64 u, .int .i64 v, .int .i64 l]] H5 =
    (.case (!(decide (n ≥ 1) && (decide (n ≤ 1099511627776) && (decide (w ≥ 0) && (decide (w ≤ 5) && (decide (k ≥ 1) && (decide (k ≤ 3) && (bd x == x && bd y == y))))))) || (!(decide (u ≥ -1536) && (decide (u ≤ 1536) && (decide (v ≥ -1536) && decide (v ≤ 1536)))) || (decide (l < 1) || decide (l > 40)))) (.leaf (.int .i64 (90))) (.leaf (.int .i64 (0)))) := by kernel_rfl
theorem ok_r09_Check : COK E5 C_r09_Check := ok_shot_Check.addN hlen hpl (by
  intro args cc v h hc
  unfold g_r09_Check at h
  split at h
  · rename_i n w k x y u v l
    simp only [ok, Option.some.injEq, Prod.mk.injEq] at h; obtain ⟨rfl, rfl⟩ := h
    refine pureCallW ok_shot_Check Tryd.func10 (by kernel_rfl) (loops_nil (by kernel_rfl)) rfl rfl ?_
    rw [run_r09_Check]
    exact case_er (scheck9 _ _ _ _ _ _ _ _)
  · simp at h)
theorem flat_r09_Check : Flat C_r09_Check := flat_shot_Check.addN (by
  intro args cc v h hc
  unfold g_r09_Check at h
  split at h
  · simp only [ok, Option.some.injEq, Prod.mk.injEq] at h; obtain ⟨rfl, rfl⟩ := h; exact ⟨rfl, rfl⟩
  · simp at h)
noncomputable def g_shot_Damage : List AV → QR
  | [.int .i64 a] => ok (i6 (bif bt a 1 3 then 15 * a else 0))
  | _ => none
noncomputable def C_shot_Damage : Cfg := addP C_r09_Check 11 (fun a => g_shot_Damage (normBs a))
theorem run_shot_Damage (a : Int) : runP C_r09_Check (cF E5 Tryd.f11) [.int .i64 a] H5 =
    (.case (!bt a 1 3) (.leaf (.int .i64 (0))) (.leaf (.int .i64 (IntKind.i64.wrap (15 * a))))) := by kernel_rfl
theorem ok_shot_Damage : COK E5 C_shot_Damage := ok_r09_Check.addN hlen hpl (by
  intro args cc v h hc
  unfold g_shot_Damage at h
  split at h
  · rename_i a
    simp only [ok, Option.some.injEq, Prod.mk.injEq] at h; obtain ⟨rfl, rfl⟩ := h
    refine pureCallW ok_r09_Check Tryd.func11 (by kernel_rfl) (loops_nil (by kernel_rfl)) rfl rfl ?_
    rw [run_shot_Damage]
    refine ⟨fun hh => VW.of_eq ?_, fun hh => VW.of_eq ?_⟩
    · have : bt a 1 3 = false := by rw [Bool.not_eq_true'] at hh; exact hh
      rw [this]; rfl
    · have : bt a 1 3 = true := by rw [Bool.not_eq_false'] at hh; exact hh
      have h2 := bt_iff.1 this
      rw [this, wrap64 (by omega) (by omega)]; rfl
  · simp at h)
theorem flat_shot_Damage : Flat C_shot_Damage := flat_r09_Check.addN (by
  intro args cc v h hc
  unfold g_shot_Damage at h
  split at h
  · simp only [ok, Option.some.injEq, Prod.mk.injEq] at h; obtain ⟨rfl, rfl⟩ := h; exact ⟨rfl, rfl⟩
  · simp at h)
noncomputable def g_r09_Damage : List AV → QR
  | [.int .i64 a] => ok (i6 (bif bt a 1 3 then 15 * a else 0))
  | _ => none
noncomputable def C_r09_Damage : Cfg := addP C_shot_Damage 12 (fun a => g_r09_Damage (normBs a))
theorem run_r09_Damage (a : Int) : runP C_shot_Damage (cF E5 Tryd.f12) [.int .i64 a] H5 =
    (.case (decide (a < 1) || decide (a > 3)) (.leaf (.int .i64 (0))) (.leaf (.int .i64 (IntKind.i64.wrap (15 * a))))) := by kernel_rfl
theorem ok_r09_Damage : COK E5 C_r09_Damage := ok_shot_Damage.addN hlen hpl (by
  intro args cc v h hc
  unfold g_r09_Damage at h
  split at h
  · rename_i a
    simp only [ok, Option.some.injEq, Prod.mk.injEq] at h; obtain ⟨rfl, rfl⟩ := h
    refine pureCallW ok_shot_Damage Tryd.func12 (by kernel_rfl) (loops_nil (by kernel_rfl)) rfl rfl ?_
    rw [run_r09_Damage]
    refine ⟨fun hh => VW.of_eq ?_, fun hh => VW.of_eq ?_⟩
    · have : bt a 1 3 = false := by simp [bt] at hh ⊢; omega
      rw [this]; rfl
    · have : bt a 1 3 = true := by simp [bt] at hh ⊢; omega
      have h2 := bt_iff.1 this
      rw [this, wrap64 (by omega) (by omega)]; rfl
  · simp at h)
theorem flat_r09_Damage : Flat C_r09_Damage := flat_shot_Damage.addN (by
  intro args cc v h hc
  unfold g_r09_Damage at h
  split at h
  · simp only [ok, Option.some.injEq, Prod.mk.injEq] at h; obtain ⟨rfl, rfl⟩ := h; exact ⟨rfl, rfl⟩
  · simp at h)
noncomputable def g_r06_Step : List AV → QR
  | [.agg [.int .i64 a, .int .i64 b]] => ok (pt (c2 a) (c2 b))
  | _ => none
noncomputable def C_r06_Step : Cfg := addP C_r09_Damage 48 (fun a => g_r06_Step (normBs a))
theorem run_r06_Step (a b : Int) : runP C_r09_Damage (cF E5 Tryd.f48) [.agg [.int .i64 a, .int .i64 b]] H5 =
    (.leaf (.agg [(.int .i64 (cl a (-2048) 2048)), (.int .i64 (cl b (-2048) 2048))])) := by kernel_rfl
theorem ok_r06_Step : COK E5 C_r06_Step := ok_r09_Damage.addN hlen hpl (by
  intro args cc v h hc
  unfold g_r06_Step at h
  split at h
  · rename_i a b
    simp only [ok, Option.some.injEq, Prod.mk.injEq] at h; obtain ⟨rfl, rfl⟩ := h
    refine pureCallW ok_r09_Damage Tryd.func48 (by kernel_rfl) (loops_nil (by kernel_rfl)) rfl rfl ?_
    rw [run_r06_Step]
    exact VW.norm rfl
  · simp at h)
theorem flat_r06_Step : Flat C_r06_Step := flat_r09_Damage.addN (by
  intro args cc v h hc
  unfold g_r06_Step at h
  split at h
  · simp only [ok, Option.some.injEq, Prod.mk.injEq] at h; obtain ⟨rfl, rfl⟩ := h; exact ⟨rfl, rfl⟩
  · simp at h)
noncomputable def g_arena_step : List AV → QR
  | [.agg [.int .i64 a, .int .i64 b]] => ok (pt (c2 a) (c2 b))
  | _ => none
noncomputable def C_arena_step : Cfg := addP C_r06_Step 62 (fun a => g_arena_step (normBs a))
theorem run_arena_step (a b : Int) : runP C_r06_Step (cF E5 Tryd.f62) [.agg [.int .i64 a, .int .i64 b]] H5 =
    (.leaf (.agg [(.int .i64 (cl a (-2048) 2048)), (.int .i64 (cl b (-2048) 2048))])) := by kernel_rfl
theorem ok_arena_step : COK E5 C_arena_step := ok_r06_Step.addN hlen hpl (by
  intro args cc v h hc
  unfold g_arena_step at h
  split at h
  · rename_i a b
    simp only [ok, Option.some.injEq, Prod.mk.injEq] at h; obtain ⟨rfl, rfl⟩ := h
    refine pureCallW ok_r06_Step Tryd.func62 (by kernel_rfl) (loops_nil (by kernel_rfl)) rfl rfl ?_
    rw [run_arena_step]
    exact VW.norm rfl
  · simp at h)
theorem flat_arena_step : Flat C_arena_step := flat_r06_Step.addN (by
  intro args cc v h hc
  unfold g_arena_step at h
  split at h
  · simp only [ok, Option.some.injEq, Prod.mk.injEq] at h; obtain ⟨rfl, rfl⟩ := h; exact ⟨rfl, rfl⟩
  · simp at h)
noncomputable def g_arena_cellOf : List AV → QR
  | [.int .i64 a] => ok (i6 (a / 4096))
  | _ => none
noncomputable def C_arena_cellOf : Cfg := addP C_arena_step 53 (fun a => g_arena_cellOf (normBs a))
theorem run_arena_cellOf (a : Int) : runP C_arena_step (cF E5 Tryd.f53) [.int .i64 a] H5 =
    (.need (decide ((0:Int) ≤ 12)) (.leaf (.int .i64 (a.fdiv (2 ^ min (Int.toNat 12) IntKind.i64.bits))))) := by kernel_rfl
theorem ok_arena_cellOf : COK E5 C_arena_cellOf := ok_arena_step.addN hlen hpl (by
  intro args cc v h hc
  unfold g_arena_cellOf at h
  split at h
  · rename_i a
    simp only [ok, Option.some.injEq, Prod.mk.injEq] at h; obtain ⟨rfl, rfl⟩ := h
    refine pureCallW ok_arena_step Tryd.func53 (by kernel_rfl) (loops_nil (by kernel_rfl)) rfl rfl ?_
    rw [run_arena_cellOf]
    exact ⟨rfl, VW.of_eq (by rw [shr12])⟩
  · simp at h)
theorem flat_arena_cellOf : Flat C_arena_cellOf := flat_arena_step.addN (by
  intro args cc v h hc
  unfold g_arena_cellOf at h
  split at h
  · simp only [ok, Option.some.injEq, Prod.mk.injEq] at h; obtain ⟨rfl, rfl⟩ := h; exact ⟨rfl, rfl⟩
  · simp at h)
noncomputable def g_r06_down : List AV → QR
  | [.int .i64 a] => okIf (decide (-9223372036854775808 ≤ a ∧ a < 9223372036854775808)) (i6 (a / 4096))
  | _ => none
noncomputable def C_r06_down : Cfg := addP C_arena_cellOf 51 (fun a => g_r06_down (normBs a))
theorem run_r06_down (a : Int) : runP C_arena_cellOf (cF E5 Tryd.f51) [.int .i64 a] H5 =
    (.need (!decide ((4096:Int) = 0)) (.leaf (.int .i64 (bif decide (IntKind.i64.wrap (IntKind.i64.wrap (a.tdiv 4096) * 4096) > a) then IntKind.i64.wrap (IntKind.i64.wrap (a.tdiv 4096) - 1) else IntKind.i64.wrap (a.tdiv 4096))))) := by kernel_rfl
theorem ok_r06_down : COK E5 C_r06_down := ok_arena_cellOf.addN hlen hpl (by
  intro args cc v h hc
  unfold g_r06_down at h
  split at h
  · rename_i a
    simp only [okIf, Option.some.injEq, Prod.mk.injEq] at h; obtain ⟨rfl, rfl⟩ := h; have hcond : -9223372036854775808 ≤ a ∧ a < 9223372036854775808 := by simpa using hc
    refine pureCallW ok_arena_cellOf Tryd.func51 (by kernel_rfl) (loops_nil (by kernel_rfl)) rfl rfl ?_
    rw [run_r06_down]
    exact ⟨rfl, VW.of_eq (by rw [down_eq _ hcond.1 hcond.2])⟩
  · simp at h)
theorem flat_r06_down : Flat C_r06_down := flat_arena_cellOf.addN (by
  intro args cc v h hc
  unfold g_r06_down at h
  split at h
  · simp only [okIf, Option.some.injEq, Prod.mk.injEq] at h; obtain ⟨rfl, rfl⟩ := h; exact ⟨rfl, rfl⟩
  · simp at h)
noncomputable def g_arena_at : List AV → QR
  | [.agg [.int .i64 q, .int .i64 r, .str z], .int .i64 a] => okIf (decide (0 ≤ a ∧ a < z.size)) (.int .u8 (sg z a))
  | _ => none
noncomputable def C_arena_at : Cfg := addP C_r06_down 61 (fun a => g_arena_at (normBs a))
theorem run_arena_at (q r : Int) (z : ByteArray) (a : Int) : runP C_r06_down (cF E5 Tryd.f61) [.agg [.int .i64 q, .int .i64 r, .str z], .int .i64 a] H5 =
    (.need (decide (0 ≤ a) && decide (a < (z.size : Int))) (.leaf (.int .u8 (((z.data.getD a.toNat 0).toNat : Int))))) := by kernel_rfl
theorem ok_arena_at : COK E5 C_arena_at := ok_r06_down.addN hlen hpl (by
  intro args cc v h hc
  unfold g_arena_at at h
  split at h
  · rename_i q r z a
    simp only [okIf, Option.some.injEq, Prod.mk.injEq] at h; obtain ⟨rfl, rfl⟩ := h; have hcond : 0 ≤ a ∧ a < z.size := by simpa using hc
    refine pureCallW ok_r06_down Tryd.func61 (by kernel_rfl) (loops_nil (by kernel_rfl)) rfl rfl ?_
    rw [run_arena_at]
    exact ⟨by simp; omega, VW.refl _⟩
  · simp at h)
theorem flat_arena_at : Flat C_arena_at := flat_r06_down.addN (by
  intro args cc v h hc
  unfold g_arena_at at h
  split at h
  · simp only [okIf, Option.some.injEq, Prod.mk.injEq] at h; obtain ⟨rfl, rfl⟩ := h; exact ⟨rfl, rfl⟩
  · simp at h)
noncomputable def g_r06_sign : List AV → QR
  | [.agg [.int .i64 q, .int .i64 r, .str z], .int .i64 a, .int .i64 b] => okIf (decide (0 ≤ a ∧ 0 ≤ b ∧ 0 ≤ q ∧ b * q + a < z.size ∧ z.size ≤ 4611686018427387904)) (.int .u8 (sg z (b * q + a)))
  | _ => none
noncomputable def C_r06_sign : Cfg := addP C_arena_at 60 (fun a => g_r06_sign (normBs a))
theorem run_r06_sign (q r : Int) (z : ByteArray) (a b : Int) : runP C_arena_at (cF E5 Tryd.f60) [.agg [.int .i64 q, .int .i64 r, .str z], .int .i64 a, .int .i64 b] H5 =
    (.need (decide (0 ≤ IntKind.i64.wrap (IntKind.i64.wrap (b * q) + a)) && decide (IntKind.i64.wrap (IntKind.i64.wrap (b * q) + a) < (z.size : Int))) (.leaf (.int .u8 (((z.data.getD (IntKind.i64.wrap (IntKind.i64.wrap (b * q) + a)).toNat 0).toNat : Int))))) := by kernel_rfl
theorem ok_r06_sign : COK E5 C_r06_sign := ok_arena_at.addN hlen hpl (by
  intro args cc v h hc
  unfold g_r06_sign at h
  split at h
  · rename_i q r z a b
    simp only [okIf, Option.some.injEq, Prod.mk.injEq] at h; obtain ⟨rfl, rfl⟩ := h; have hcond : 0 ≤ a ∧ 0 ≤ b ∧ 0 ≤ q ∧ b * q + a < z.size ∧ z.size ≤ 4611686018427387904 := by simpa using hc
    refine pureCallW ok_arena_at Tryd.func60 (by kernel_rfl) (loops_nil (by kernel_rfl)) rfl rfl ?_
    rw [run_r06_sign]
    obtain ⟨h1, h2, h3, h4, h5⟩ := hcond
    have hm : 0 ≤ b * q := Int.mul_nonneg h2 h3
    rw [wrap64 (x := b * q) (by omega) (by omega), wrap64 (x := b * q + a) (by omega) (by omega)]
    exact ⟨by simp; omega, VW.refl _⟩
  · simp at h)
theorem flat_r06_sign : Flat C_r06_sign := flat_arena_at.addN (by
  intro args cc v h hc
  unfold g_r06_sign at h
  split at h
  · simp only [okIf, Option.some.injEq, Prod.mk.injEq] at h; obtain ⟨rfl, rfl⟩ := h; exact ⟨rfl, rfl⟩
  · simp at h)
noncomputable def g_arena_Solid : List AV → QR
  | [.agg [.int .i64 q, .int .i64 r, .str z], .int .i64 a, .int .i64 b] => okIf (decide (z.size ≤ 4611686018427387904)) (.bool (sol q r z a b))
  | _ => none
noncomputable def C_arena_Solid : Cfg := addP C_r06_sign 54 (fun a => g_arena_Solid (normBs a))
theorem run_arena_Solid (q r : Int) (z : ByteArray) (a b : Int) : runP C_r06_sign (cF E5 Tryd.f54) [.agg [.int .i64 q, .int .i64 r, .str z], .int .i64 a, .int .i64 b] H5 =
    (.need (decide (a < 0) || (decide (a ≥ q) || (decide (b < 0) || (decide (b ≥ r) || (decide (a ≥ (z.size : Int)) || !decide (q = 0)))))) (.case (decide (a < 0) || (decide (a ≥ q) || (decide (b < 0) || (decide (b ≥ r) || (decide (a ≥ (z.size : Int)) || decide (b > IntKind.i64.wrap ((IntKind.i64.wrap (IntKind.i64.wrap ((z.size : Int) - 1) - a)).tdiv q))))))) (.leaf .tt) (.need (decide (0 ≤ IntKind.i64.wrap (IntKind.i64.wrap (b * q) + a) ∧ IntKind.i64.wrap (IntKind.i64.wrap (b * q) + a) < (z.size : Int))) (.leaf (.bool (sg z (IntKind.i64.wrap (IntKind.i64.wrap (b * q) + a)) == 35)))))) := by kernel_rfl
theorem ok_arena_Solid : COK E5 C_arena_Solid := ok_r06_sign.addN hlen hpl (by
  intro args cc v h hc
  unfold g_arena_Solid at h
  split at h
  · rename_i q r z a b
    simp only [okIf, Option.some.injEq, Prod.mk.injEq] at h; obtain ⟨rfl, rfl⟩ := h; have hcond : z.size ≤ 4611686018427387904 := by simpa using hc
    refine pureCallW ok_r06_sign Tryd.func54 (by kernel_rfl) (loops_nil (by kernel_rfl)) rfl rfl ?_
    rw [run_arena_Solid]
    exact solid_a hcond
  · simp at h)
theorem flat_arena_Solid : Flat C_arena_Solid := flat_r06_sign.addN (by
  intro args cc v h hc
  unfold g_arena_Solid at h
  split at h
  · simp only [okIf, Option.some.injEq, Prod.mk.injEq] at h; obtain ⟨rfl, rfl⟩ := h; exact ⟨rfl, rfl⟩
  · simp at h)
noncomputable def g_r06_Solid : List AV → QR
  | [.agg [.int .i64 q, .int .i64 r, .str z], .int .i64 a, .int .i64 b] => okIf (decide (z.size ≤ 4611686018427387904 ∧ a < 9223372036854775808)) (.bool (sol q r z a b))
  | _ => none
noncomputable def C_r06_Solid : Cfg := addP C_arena_Solid 50 (fun a => g_r06_Solid (normBs a))
theorem run_r06_Solid (q r : Int) (z : ByteArray) (a b : Int) : runP C_arena_Solid (cF E5 Tryd.f50) [.agg [.int .i64 q, .int .i64 r, .str z], .int .i64 a, .int .i64 b] H5 =
    (.case (decide (a < 0) || (decide (a ≥ q) || (decide (b < 0) || (decide (b ≥ r) || decide (q > (z.size : Int)) && decide (b > 0))))) (.leaf .tt) (.need (!decide (q = 0)) (.case (decide (b > IntKind.i64.wrap (((z.size : Int)).tdiv q)) || decide (IntKind.i64.wrap (IntKind.i64.wrap (b * q) + a) ≥ (z.size : Int))) (.leaf .tt) (.need (decide (0 ≤ a ∧ 0 ≤ b ∧ 0 ≤ q ∧ b * q + a < (z.size : Int) ∧ z.size ≤ 4611686018427387904)) (.leaf (.bool (sg z (b * q + a) == 35))))))) := by kernel_rfl
theorem ok_r06_Solid : COK E5 C_r06_Solid := ok_arena_Solid.addN hlen hpl (by
  intro args cc v h hc
  unfold g_r06_Solid at h
  split at h
  · rename_i q r z a b
    simp only [okIf, Option.some.injEq, Prod.mk.injEq] at h; obtain ⟨rfl, rfl⟩ := h; have hcond : z.size ≤ 4611686018427387904 ∧ a < 9223372036854775808 := by simpa using hc
    refine pureCallW ok_arena_Solid Tryd.func50 (by kernel_rfl) (loops_nil (by kernel_rfl)) rfl rfl ?_
    rw [run_r06_Solid]
    exact solid_r hcond.1 hcond.2
  · simp at h)
theorem flat_r06_Solid : Flat C_r06_Solid := flat_arena_Solid.addN (by
  intro args cc v h hc
  unfold g_r06_Solid at h
  split at h
  · simp only [okIf, Option.some.injEq, Prod.mk.injEq] at h; obtain ⟨rfl, rfl⟩ := h; exact ⟨rfl, rfl⟩
  · simp at h)
end Go.L9

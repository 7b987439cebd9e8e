import Derived.Test.YtbgabaihahpijaaDoorL9R
set_option linter.unusedVariables false
set_option linter.unusedSimpArgs false
set_option maxRecDepth 100000
namespace Go.L9
open Go Go.Ev Go.Proofs Go.L5
def gi (b : Bool) (a : Int) : Int := bif b then a else 0
/-- It flies on. -/
def gon (q r : Int) (z : ByteArray) (x y u v l : Int) : Bool := !((ry q r z x y u v).hit || l == 1)
theorem okS_l {n w k x y u v l : Int} (h : okS n w k x y u v l = true) : 1 ≤ l ∧ l ≤ 40 := by
  simp only [okS, Bool.and_eq_true, bt_iff] at h; omega
theorem er_t {b : Bool} {n : Int} (hn : n ≠ 0) : ((er b n != 0) = true → b = false) ∧ ((er b n != 0) = false → b = true) := by
  cases b <;> simp [er, hn]
def okF (a b d : Int) : Bool := bt d 1 1099511627776 && bt a 0 5 && bt b 1 3
theorem ml_unit {c m : Int} (hc : -256 ≤ c ∧ c ≤ 256) (hm : 0 ≤ m ∧ m ≤ 6) : ml c (m * 256) = c * m := by
  have h1 : bd c = c := bd_id (by omega) (by omega)
  have h2 : bd (m * 256) = m * 256 := bd_id (by omega) (by omega)
  have h3 := mul_rng (a := c) (b := m) (m := 256) (n := 6) (by omega) (by omega) (by omega) (by omega)
  unfold ml
  rw [h1, h2, ← Int.mul_assoc]
  generalize c * m = t at *
  have h4 : rnd (t * 256) = t := by unfold rnd; split <;> omega
  rw [h4]
  exact bd_id (by omega) (by omega)
theorem uxy_rng' (i : Nat) : (-256 ≤ ux i ∧ ux i ≤ 256) ∧ (-256 ≤ uy i ∧ uy i ≤ 256) := by
  by_cases h : i < 16
  · have : ∀ j : Fin 16, (-256 ≤ ux j.1 ∧ ux j.1 ≤ 256) ∧ (-256 ≤ uy j.1 ∧ uy j.1 ≤ 256) := by decide
    exact this ⟨i, h⟩
  · have e : ∀ (l : List Int) (i : Nat), l.length ≤ i → selI l i = 0 := by
      intro l
      induction l with
      | nil => intro i _; rfl
      | cons x l ih => intro i hi; cases i with
        | zero => simp at hi
        | succ i => exact ih i (by simpa using hi)
    unfold ux uy
    rw [e _ _ (by simp; omega), e _ _ (by simp; omega)]
    omega
theorem pw (b : Int) : 1 ≤ mn (mx b 1) 3 ∧ mn (mx b 1) 3 ≤ 3 ∧ (1 ≤ b → b ≤ 3 → mn (mx b 1) 3 = b) := by
  unfold mn mx; split <;> split <;> omega
theorem speed (b : Int) : IntKind.i64.wrap (IntKind.i64.wrap (7 - mn (mx b 1) 3) * 256) = (7 - mn (mx b 1) 3) * 256 := by
  have := pw b
  rw [wrap64 (x := 7 - mn (mx b 1) 3) (by omega) (by omega), wrap64 (by omega) (by omega)]
theorem bt_mid {n lo hi : Int} (h1 : lo ≤ n) (h2 : n ≤ hi) : bt n lo hi = true := bt_iff.2 ⟨h1, h2⟩
theorem fire_ok (d a b x y c e : Int) (i : Nat) : okS d a b (ad x c) (ad y e) (ml (ux i) (IntKind.i64.wrap (IntKind.i64.wrap (7 - mn (mx b 1) 3) * 256))) (ml (uy i) (IntKind.i64.wrap (IntKind.i64.wrap (7 - mn (mx b 1) 3) * 256))) 40 = okF a b d := by
  have hu := uxy_rng' i
  have hp := pw b
  rw [speed, ml_unit hu.1 (by omega), ml_unit hu.2 (by omega)]
  have h1 := mul_rng (a := ux i) (b := 7 - mn (mx b 1) 3) (m := 256) (n := 6) (by omega) (by omega) (by omega) (by omega)
  have h2 := mul_rng (a := uy i) (b := 7 - mn (mx b 1) 3) (m := 256) (n := 6) (by omega) (by omega) (by omega) (by omega)
  unfold okS okF ad
  rw [bd_bd, bd_bd, bt_mid (n := ux i * (7 - mn (mx b 1) 3)) (by omega) (by omega), bt_mid (n := uy i * (7 - mn (mx b 1) 3)) (by omega) (by omega), bt_mid (n := 40) (by omega) (by omega)]
  simp
theorem speed_eq {b : Int} (h : bt b 1 3 = true) (c : Int) : ml c (IntKind.i64.wrap (IntKind.i64.wrap (7 - mn (mx b 1) 3) * 256)) = ml c (256 * (7 - b)) := by
  have hb := bt_iff.1 h
  rw [speed, (pw b).2.2 hb.1 hb.2, Int.mul_comm]
theorem okF_b {a b d : Int} (h : okF a b d = true) : bt b 1 3 = true := by simp only [okF, Bool.and_eq_true] at h; exact h.2
noncomputable def g_shot_path_from : List AV → QR
  | [.agg [.int .i64 q, .int .i64 r, .str z], .agg [.int .i64 x, .int .i64 y], .agg [.int .i64 u, .int .i64 v]] => okIf (decide (z.size ≤ 4611686018427387904)) (.tuple [pt (ry q r z x y u v).a (ry q r z x y u v).b, .bool (ry q r z x y u v).hit])
  | _ => none
noncomputable def C_shot_path_from : Cfg := addP C_r06_Ray 47 (fun a => g_shot_path_from (normBs a))
theorem run_shot_path_from (q r : Int) (z : ByteArray) (x y u v : Int) : runP C_r06_Ray (cF E5 Tryd.f47) [.agg [.int .i64 q, .int .i64 r, .str z], .agg [.int .i64 x, .int .i64 y], .agg [.int .i64 u, .int .i64 v]] H5 =
    (.need (decide (z.size ≤ 4611686018427387904)) (.leaf (.tuple [(.agg [(.int .i64 ((ry q r z x y u v).a)), (.int .i64 ((ry q r z x y u v).b))]), (.bool ((ry q r z x y u v).hit))]))) := by kernel_rfl
theorem ok_shot_path_from : COK E5 C_shot_path_from := ok_r06_Ray.addN hlen hpl (by
  intro args cc v h hc
  unfold g_shot_path_from at h
  split at h
  · rename_i q r z x y u v
    simp only [okIf, Option.some.injEq, Prod.mk.injEq] at h; obtain ⟨rfl, rfl⟩ := h; have hcond : z.size ≤ 4611686018427387904 := by simpa using hc
    refine pureCallW ok_r06_Ray Tryd.func47 (by kernel_rfl) (loops_nil (by kernel_rfl)) rfl rfl ?_
    rw [run_shot_path_from]
    exact ⟨by simpa using hcond, VW.refl _⟩
  · simp at h)
theorem flat_shot_path_from : Flat C_shot_path_from := flat_r06_Ray.addN (by
  intro args cc v h hc
  unfold g_shot_path_from at h
  split at h
  · simp only [okIf, Option.some.injEq, Prod.mk.injEq] at h; obtain ⟨rfl, rfl⟩ := h; exact ⟨rfl, rfl⟩
  · simp at h)
noncomputable def g_shot_flight_next : List AV → QR
  | [.agg [.int .i64 n, .int .i64 w, .int .i64 k, .int .i64 x, .int .i64 y, .int .i64 u, .int .i64 v, .int .i64 l, .int .i64 q, .int .i64 r, .str z]] => okIf (decide (z.size ≤ 4611686018427387904 ∧ 1 ≤ l ∧ l ≤ 40)) (.tuple [.agg [i6 (gi (gon q r z x y u v l) n), i6 (gi (gon q r z x y u v l) w), i6 (gi (gon q r z x y u v l) k), i6 (gi (gon q r z x y u v l) (ry q r z x y u v).a), i6 (gi (gon q r z x y u v l) (ry q r z x y u v).b), i6 (gi (gon q r z x y u v l) u), i6 (gi (gon q r z x y u v l) v), i6 (gi (gon q r z x y u v l) (l - 1))], .bool (gon q r z x y u v l)])
  | _ => none
noncomputable def C_shot_flight_next : Cfg := addP C_shot_path_from 31 (fun a => g_shot_flight_next (normBs a))
theorem run_shot_flight_next (n w k x y u v l : Int) (q r : Int) (z : ByteArray) : runP C_shot_path_from (cF E5 Tryd.f31) [.agg [.int .i64 n, .int .i64 w, .int .i64 k, .int .i64 x, .int .i64 y, .int .i64 u, .int .i64 v, .int .i64 l, .int .i64 q, .int .i64 r, .str z]] H5 =
    (.need (decide (z.size ≤ 4611686018427387904)) (.case ((ry q r z x y u v).hit || l == 1) (.leaf (.tuple [(.agg [(.int .i64 (0)), (.int .i64 (0)), (.int .i64 (0)), (.int .i64 (0)), (.int .i64 (0)), (.int .i64 (0)), (.int .i64 (0)), (.int .i64 (0))]), .ff])) (.leaf (.tuple [(.agg [(.int .i64 (n)), (.int .i64 (w)), (.int .i64 (k)), (.int .i64 ((ry q r z x y u v).a)), (.int .i64 ((ry q r z x y u v).b)), (.int .i64 (u)), (.int .i64 (v)), (.int .i64 (IntKind.i64.wrap (l - 1)))]), .tt])))) := by kernel_rfl
theorem ok_shot_flight_next : COK E5 C_shot_flight_next := ok_shot_path_from.addN hlen hpl (by
  intro args cc v h hc
  unfold g_shot_flight_next at h
  split at h
  · rename_i n w k x y u v l q r z
    simp only [okIf, Option.some.injEq, Prod.mk.injEq] at h; obtain ⟨rfl, rfl⟩ := h; have hcond : z.size ≤ 4611686018427387904 ∧ 1 ≤ l ∧ l ≤ 40 := by simpa using hc
    refine pureCallW ok_shot_path_from Tryd.func31 (by kernel_rfl) (loops_nil (by kernel_rfl)) rfl rfl ?_
    rw [run_shot_flight_next]
    refine ⟨by simpa using hcond.1, fun e => ?_, fun e => ?_⟩
    · have g : gon q r z x y u v l = false := by unfold gon; rw [e]; rfl
      exact VW.norm (by simp [normB, normBs, gi, g])
    · have g : gon q r z x y u v l = true := by unfold gon; rw [e]; rfl
      rw [wrap64 (by omega) (by omega)]
      exact VW.norm (by simp [normB, normBs, gi, g])
  · simp at h)
theorem flat_shot_flight_next : Flat C_shot_flight_next := flat_shot_path_from.addN (by
  intro args cc v h hc
  unfold g_shot_flight_next at h
  split at h
  · simp only [okIf, Option.some.injEq, Prod.mk.injEq] at h; obtain ⟨rfl, rfl⟩ := h; exact ⟨rfl, rfl⟩
  · simp at h)
noncomputable def g_shot_Fly : List AV → QR
  | [.agg [.int .i64 n, .int .i64 w, .int .i64 k, .int .i64 x, .int .i64 y, .int .i64 u, .int .i64 v, .int .i64 l], .agg [.int .i64 q, .int .i64 r, .str z]] => okIf (decide (z.size ≤ 4611686018427387904)) (.tuple [.agg [i6 (gi ((okS n w k x y u v l && gon q r z x y u v l)) n), i6 (gi ((okS n w k x y u v l && gon q r z x y u v l)) w), i6 (gi ((okS n w k x y u v l && gon q r z x y u v l)) k), i6 (gi ((okS n w k x y u v l && gon q r z x y u v l)) (ry q r z x y u v).a), i6 (gi ((okS n w k x y u v l && gon q r z x y u v l)) (ry q r z x y u v).b), i6 (gi ((okS n w k x y u v l && gon q r z x y u v l)) u), i6 (gi ((okS n w k x y u v l && gon q r z x y u v l)) v), i6 (gi ((okS n w k x y u v l && gon q r z x y u v l)) (l - 1))], .bool ((okS n w k x y u v l && gon q r z x y u v l)), i6 (er (okS n w k x y u v l) 90)])
  | _ => none
noncomputable def C_shot_Fly : Cfg := addP C_shot_flight_next 15 (fun a => g_shot_Fly (normBs a))
theorem run_shot_Fly (n w k x y u v l : Int) (q r : Int) (z : ByteArray) : runP C_shot_flight_next (cF E5 Tryd.f15) [.agg [.int .i64 n, .int .i64 w, .int .i64 k, .int .i64 x, .int .i64 y, .int .i64 u, .int .i64 v, .int .i64 l], .agg [.int .i64 q, .int .i64 r, .str z]] H5 =
    (.case (er (okS n w k x y u v l) 90 != 0) (.leaf (.tuple [(.agg [(.int .i64 (0)), (.int .i64 (0)), (.int .i64 (0)), (.int .i64 (0)), (.int .i64 (0)), (.int .i64 (0)), (.int .i64 (0)), (.int .i64 (0))]), .ff, (.int .i64 (er (okS n w k x y u v l) 90))])) (.need (decide (z.size ≤ 4611686018427387904 ∧ 1 ≤ l ∧ l ≤ 40)) (.leaf (.tuple [(.agg [(.int .i64 (gi (gon q r z x y u v l) n)), (.int .i64 (gi (gon q r z x y u v l) w)), (.int .i64 (gi (gon q r z x y u v l) k)), (.int .i64 (gi (gon q r z x y u v l) (ry q r z x y u v).a)), (.int .i64 (gi (gon q r z x y u v l) (ry q r z x y u v).b)), (.int .i64 (gi (gon q r z x y u v l) u)), (.int .i64 (gi (gon q r z x y u v l) v)), (.int .i64 (gi (gon q r z x y u v l) (l - 1)))]), (.bool (gon q r z x y u v l)), (.int .i64 (0))])))) := by kernel_rfl
theorem ok_shot_Fly : COK E5 C_shot_Fly := ok_shot_flight_next.addN hlen hpl (by
  intro args cc v h hc
  unfold g_shot_Fly at h
  split at h
  · rename_i n w k x y u v l q r z
    simp only [okIf, Option.some.injEq, Prod.mk.injEq] at h; obtain ⟨rfl, rfl⟩ := h; have hcond : z.size ≤ 4611686018427387904 := by simpa using hc
    refine pureCallW ok_shot_flight_next Tryd.func15 (by kernel_rfl) (loops_nil (by kernel_rfl)) rfl rfl ?_
    rw [run_shot_Fly]
    refine ⟨fun e => ?_, fun e => ?_⟩
    · have k0 := (er_t (by omega)).1 e
      exact VW.norm (by simp [normB, normBs, gi, k0, er])
    have k0 := (er_t (by omega)).2 e
    have hl := okS_l k0
    exact ⟨by simp; omega, VW.norm (by simp [normB, normBs, k0, er])⟩
  · simp at h)
theorem flat_shot_Fly : Flat C_shot_Fly := flat_shot_flight_next.addN (by
  intro args cc v h hc
  unfold g_shot_Fly at h
  split at h
  · simp only [okIf, Option.some.injEq, Prod.mk.injEq] at h; obtain ⟨rfl, rfl⟩ := h; exact ⟨rfl, rfl⟩
  · simp at h)
noncomputable def g_r09_Fly : List AV → QR
  | [.agg [.int .i64 n, .int .i64 w, .int .i64 k, .int .i64 x, .int .i64 y, .int .i64 u, .int .i64 v, .int .i64 l], .agg [.int .i64 q, .int .i64 r, .str z]] => okIf (decide (z.size ≤ 4611686018427387904)) (.tuple [.agg [i6 (gi ((okS n w k x y u v l && gon q r z x y u v l)) n), i6 (gi ((okS n w k x y u v l && gon q r z x y u v l)) w), i6 (gi ((okS n w k x y u v l && gon q r z x y u v l)) k), i6 (gi ((okS n w k x y u v l && gon q r z x y u v l)) (ry q r z x y u v).a), i6 (gi ((okS n w k x y u v l && gon q r z x y u v l)) (ry q r z x y u v).b), i6 (gi ((okS n w k x y u v l && gon q r z x y u v l)) u), i6 (gi ((okS n w k x y u v l && gon q r z x y u v l)) v), i6 (gi ((okS n w k x y u v l && gon q r z x y u v l)) (l - 1))], .bool ((okS n w k x y u v l && gon q r z x y u v l)), i6 (er (okS n w k x y u v l) 90)])
  | _ => none
noncomputable def C_r09_Fly : Cfg := addP C_shot_Fly 16 (fun a => g_r09_Fly (normBs a))
theorem run_r09_Fly (n w k x y u v l : Int) (q r : Int) (z : ByteArray) : runP C_shot_Fly (cF E5 Tryd.f16) [.agg [.int .i64 n, .int .i64 w, .int .i64 k, .int .i64 x, .int .i64 y, .int .i64 u, .int .i64 v, .int .i64 l], .agg [.int .i64 q, .int .i64 r, .str z]] H5 =
    (.case (er (okS n w k x y u v l) 90 != 0) (.leaf (.tuple [(.agg [(.int .i64 (0)), (.int .i64 (0)), (.int .i64 (0)), (.int .i64 (0)), (.int .i64 (0)), (.int .i64 (0)), (.int .i64 (0)), (.int .i64 (0))]), .ff, (.int .i64 (er (okS n w k x y u v l) 90))])) (.need (decide (z.size ≤ 4611686018427387904)) (.case ((ry q r z x y u v).hit || l == 1) (.leaf (.tuple [(.agg [(.int .i64 (0)), (.int .i64 (0)), (.int .i64 (0)), (.int .i64 (0)), (.int .i64 (0)), (.int .i64 (0)), (.int .i64 (0)), (.int .i64 (0))]), .ff, (.int .i64 (0))])) (.leaf (.tuple [(.agg [(.int .i64 (n)), (.int .i64 (w)), (.int .i64 (k)), (.int .i64 ((ry q r z x y u v).a)), (.int .i64 ((ry q r z x y u v).b)), (.int .i64 (u)), (.int .i64 (v)), (.int .i64 (IntKind.i64.wrap (l - 1)))]), .tt, (.int .i64 (0))]))))) := by kernel_rfl
theorem ok_r09_Fly : COK E5 C_r09_Fly := ok_shot_Fly.addN hlen hpl (by
  intro args cc v h hc
  unfold g_r09_Fly at h
  split at h
  · rename_i n w k x y u v l q r z
    simp only [okIf, Option.some.injEq, Prod.mk.injEq] at h; obtain ⟨rfl, rfl⟩ := h; have hcond : z.size ≤ 4611686018427387904 := by simpa using hc
    refine pureCallW ok_shot_Fly Tryd.func16 (by kernel_rfl) (loops_nil (by kernel_rfl)) rfl rfl ?_
    rw [run_r09_Fly]
    refine ⟨fun e => ?_, fun e => ?_⟩
    · have k0 := (er_t (by omega)).1 e
      exact VW.norm (by simp [normB, normBs, gi, k0, er])
    have k0 := (er_t (by omega)).2 e
    have hl := okS_l k0
    refine ⟨by simpa using hcond, fun e => ?_, fun e => ?_⟩
    · have g : gon q r z x y u v l = false := by unfold gon; rw [e]; rfl
      exact VW.norm (by simp [normB, normBs, gi, g, k0, er])
    · have g : gon q r z x y u v l = true := by unfold gon; rw [e]; rfl
      rw [wrap64 (by omega) (by omega)]
      exact VW.norm (by simp [normB, normBs, gi, g, k0, er])
  · simp at h)
theorem flat_r09_Fly : Flat C_r09_Fly := flat_shot_Fly.addN (by
  intro args cc v h hc
  unfold g_r09_Fly at h
  split at h
  · simp only [okIf, Option.some.injEq, Prod.mk.injEq] at h; obtain ⟨rfl, rfl⟩ := h; exact ⟨rfl, rfl⟩
  · simp at h)
noncomputable def g_shot_Fire : List AV → QR
  | [.agg [.int .i64 x, .int .i64 y, .int .i64 sx, .int .i64 sy, .int .i64 px, .int .i64 py, .int .i64 f, .int .i64 h, .int .i64 e, .bool sh, .int .i64 c, .int .i64 o, .int .i64 s], .int .i64 a, .int .i64 b, .int .i64 d] => ok (.tuple [.agg [i6 (gi (okM x y sx sy px py f h e sh c o s && okF a b d) d), i6 (gi (okM x y sx sy px py f h e sh c o s && okF a b d) a), i6 (gi (okM x y sx sy px py f h e sh c o s && okF a b d) b), i6 (gi (okM x y sx sy px py f h e sh c o s && okF a b d) (ad x (ml (ux (dir f).toNat) 1792))), i6 (gi (okM x y sx sy px py f h e sh c o s && okF a b d) (ad y (ml (uy (dir f).toNat) 1792))), i6 (gi (okM x y sx sy px py f h e sh c o s && okF a b d) (ml (ux (dir f).toNat) (256 * (7 - b)))), i6 (gi (okM x y sx sy px py f h e sh c o s && okF a b d) (ml (uy (dir f).toNat) (256 * (7 - b)))), i6 (gi (okM x y sx sy px py f h e sh c o s && okF a b d) 40)], i6 (bif okM x y sx sy px py f h e sh c o s then er (okF a b d) 1 else 80)])
  | _ => none
noncomputable def C_shot_Fire : Cfg := addP C_r09_Fly 13 (fun a => g_shot_Fire (normBs a))
theorem run_shot_Fire (x y sx sy px py f h e : Int) (sh : Bool) (c o s : Int) (a b d : Int) : runP C_r09_Fly (cF E5 Tryd.f13) [.agg [.int .i64 x, .int .i64 y, .int .i64 sx, .int .i64 sy, .int .i64 px, .int .i64 py, .int .i64 f, .int .i64 h, .int .i64 e, .bool sh, .int .i64 c, .int .i64 o, .int .i64 s], .int .i64 a, .int .i64 b, .int .i64 d] H5 =
    (.case (er (okM x y sx sy px py f h e sh c o s) 80 != 0) (.leaf (.tuple [(.agg [(.int .i64 (0)), (.int .i64 (0)), (.int .i64 (0)), (.int .i64 (0)), (.int .i64 (0)), (.int .i64 (0)), (.int .i64 (0)), (.int .i64 (0))]), (.int .i64 (er (okM x y sx sy px py f h e sh c o s) 80))])) (.case (er (okS d a b (ad x (ml (ux (dir f).toNat) 1792)) (ad y (ml (uy (dir f).toNat) 1792)) (ml (ux (dir f).toNat) (IntKind.i64.wrap (IntKind.i64.wrap (7 - mn (mx b 1) 3) * 256))) (ml (uy (dir f).toNat) (IntKind.i64.wrap (IntKind.i64.wrap (7 - mn (mx b 1) 3) * 256))) 40) 90 != 0) (.leaf (.tuple [(.agg [(.int .i64 (0)), (.int .i64 (0)), (.int .i64 (0)), (.int .i64 (0)), (.int .i64 (0)), (.int .i64 (0)), (.int .i64 (0)), (.int .i64 (0))]), (.int .i64 (1))])) (.leaf (.tuple [(.agg [(.int .i64 (d)), (.int .i64 (a)), (.int .i64 (b)), (.int .i64 (ad x (ml (ux (dir f).toNat) 1792))), (.int .i64 (ad y (ml (uy (dir f).toNat) 1792))), (.int .i64 (ml (ux (dir f).toNat) (IntKind.i64.wrap (IntKind.i64.wrap (7 - mn (mx b 1) 3) * 256)))), (.int .i64 (ml (uy (dir f).toNat) (IntKind.i64.wrap (IntKind.i64.wrap (7 - mn (mx b 1) 3) * 256)))), (.int .i64 (40))]), (.int .i64 (0))])))) := by kernel_rfl
theorem ok_shot_Fire : COK E5 C_shot_Fire := ok_r09_Fly.addN hlen hpl (by
  intro args cc v h hc
  unfold g_shot_Fire at h
  split at h
  · rename_i x y sx sy px py f h e sh c o s a b d
    simp only [ok, Option.some.injEq, Prod.mk.injEq] at h; obtain ⟨rfl, rfl⟩ := h
    refine pureCallW ok_r09_Fly Tryd.func13 (by kernel_rfl) (loops_nil (by kernel_rfl)) rfl rfl ?_
    rw [run_shot_Fire]
    rw [fire_ok]
    refine ⟨fun e => ?_, fun e => ⟨fun e2 => ?_, fun e2 => ?_⟩⟩
    · have k0 := (er_t (by omega)).1 e
      exact VW.norm (by simp [normB, normBs, gi, k0, er])
    · have k0 := (er_t (by omega)).2 e
      have k1 := (er_t (by omega)).1 e2
      exact VW.norm (by simp [normB, normBs, gi, k0, k1, er])
    · have k0 := (er_t (by omega)).2 e
      have k1 := (er_t (by omega)).2 e2
      rw [speed_eq (okF_b k1), speed_eq (okF_b k1)]
      exact VW.norm (by simp [normB, normBs, gi, k0, k1, er])
  · simp at h)
theorem flat_shot_Fire : Flat C_shot_Fire := flat_r09_Fly.addN (by
  intro args cc v h hc
  unfold g_shot_Fire at h
  split at h
  · simp only [ok, Option.some.injEq, Prod.mk.injEq] at h; obtain ⟨rfl, rfl⟩ := h; exact ⟨rfl, rfl⟩
  · simp at h)
end Go.L9

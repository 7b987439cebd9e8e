import Derived.Test.YtokkkmbdlolhnaaDoorL5pD
set_option linter.unusedVariables false
set_option linter.unusedSimpArgs false
set_option maxRecDepth 100000
namespace Go.L5p
open Go Go.Ev Go.Proofs Go.L5
theorem sqs {a b : Int} (ha : -2147483647 ≤ a ∧ a ≤ 2147483647) (hb : -2147483647 ≤ b ∧ b ≤ 2147483647) : 0 ≤ a * a ∧ 0 ≤ b * b ∧ a * a ≤ 4611686014132420609 ∧ b * b ≤ 4611686014132420609 := by
  have h1 := mul_rng (a := a) (b := a) (m := 2147483647) (n := 2147483647) (by omega) (by omega) (by omega) (by omega)
  have h2 := mul_rng (a := b) (b := b) (m := 2147483647) (n := 2147483647) (by omega) (by omega) (by omega) (by omega)
  have h3 : ∀ x : Int, 0 ≤ x * x := fun x => by
    rcases Int.le_total 0 x with h | h
    · exact Int.mul_nonneg h h
    · exact Int.mul_nonneg_of_nonpos_of_nonpos h h
  exact ⟨h3 a, h3 b, by omega, by omega⟩
theorem rt_small {n : Int} (h : 0 ≤ n) (h2 : n ≤ 9223372036854775807) : 0 ≤ rt n ∧ rt n ≤ 3037000499 := by
  obtain ⟨h0, h1, _⟩ := rt_spec h
  exact ⟨h0, small_root h0 h1 (by omega)⟩
theorem far_rng (x y : Int) : 0 ≤ far x y ∧ far x y ≤ 3037000499 := by
  have := sqs (bd_rng x) (bd_rng y)
  exact rt_small (by omega) (by omega)
theorem far_bd (x y : Int) : far (bd x) (bd y) = far x y := by unfold far; rw [bd_bd, bd_bd]
noncomputable def g42 : List AV → QR
  | [.agg [.int .i64 a, .int .i64 b]] => okIf (decide (-2147483647 ≤ a ∧ a ≤ 2147483647 ∧ -2147483647 ≤ b ∧ b ≤ 2147483647)) (i6 (rt (a * a + b * b)))
  | _ => none
noncomputable def C42 : Cfg := addP C25 42 g42
theorem run42 (a b : Int) : runP (withL C25 L42) (cF E5 Tryd.f42) [.agg [.int .i64 a, .int .i64 b]] H5 =
    .need (decide ((0:Int) = 0 ∧ (4294967296:Int) = 4294967296 ∧ 0 ≤ IntKind.u64.wrap (IntKind.u64.wrap (IntKind.i64.wrap (a * a)) + IntKind.u64.wrap (IntKind.i64.wrap (b * b))) ∧ IntKind.u64.wrap (IntKind.u64.wrap (IntKind.i64.wrap (a * a)) + IntKind.u64.wrap (IntKind.i64.wrap (b * b))) < 18446744073709551616)) (.leaf (i6 (IntKind.i64.wrap (rt (IntKind.u64.wrap (IntKind.u64.wrap (IntKind.i64.wrap (a * a)) + IntKind.u64.wrap (IntKind.i64.wrap (b * b)))))))) := by kernel_rfl
theorem ok42 : COK E5 C42 := ok25.add hlen hpl (by
  intro args cc v h hc
  unfold g42 at h
  split at h
  · rename_i a b
    simp only [okIf, Option.some.injEq, Prod.mk.injEq] at h; obtain ⟨rfl, rfl⟩ := h; have hcond : -2147483647 ≤ a ∧ a ≤ 2147483647 ∧ -2147483647 ≤ b ∧ b ≤ 2147483647 := by simpa using hc
    refine pureCall (ok25.withL L42) Tryd.func42 (by kernel_rfl) loops42 rfl rfl ?_
    rw [run42]
    have hs := sqs ⟨hcond.1, hcond.2.1⟩ ⟨hcond.2.2.1, hcond.2.2.2⟩
    have hr := rt_small (n := a * a + b * b) (by omega) (by omega)
    rw [wrap64 (x := a * a) (by omega) (by omega), wrap64 (x := b * b) (by omega) (by omega), wrapu (x := a * a) (by omega) (by omega), wrapu (x := b * b) (by omega) (by omega), wrapu (x := a * a + b * b) (by omega) (by omega), wrap64 (by omega) (by omega)]
    exact ⟨by simp; omega, rfl⟩
  · simp at h)
theorem comp53 : (compF E5 Tryd.f53).isSome = true := by kernel_rfl
noncomputable def g53 : List AV → QR
  | [.int .i64 a] => okIf (decide (0 ≤ a ∧ a ≤ 9223372036854775807)) (i6 (rt a))
  | _ => none
noncomputable def C53 : Cfg := addP C42 53 g53
theorem run53 (a : Int) : runP (withL C25 L53) (cF E5 Tryd.f53) [.int .i64 a] H5 =
    .need (decide ((0:Int) = 0 ∧ (2147483648:Int) = 2147483648 ∧ 0 ≤ a ∧ a < 9223372036854775808)) (.leaf (i6 (rt a))) := by kernel_rfl
theorem ok53 : COK E5 C53 := ok42.add hlen hpl (by
  intro args cc v h hc
  unfold g53 at h
  split at h
  · rename_i a
    simp only [okIf, Option.some.injEq, Prod.mk.injEq] at h; obtain ⟨rfl, rfl⟩ := h; have hcond : 0 ≤ a ∧ a ≤ 9223372036854775807 := by simpa using hc
    refine pureCall (ok25.withL L53) Tryd.func53 comp53 loops53 rfl rfl ?_
    rw [run53]
    exact ⟨by simp; omega, rfl⟩
  · simp at h)
noncomputable def g43 : List AV → QR
  | [.agg [.int .i64 a, .int .i64 b]] => ok (i6 (far a b))
  | _ => none
noncomputable def C43 : Cfg := addP C53 43 g43
theorem run43 (a b : Int) : runP C53 (cF E5 Tryd.f43) [.agg [.int .i64 a, .int .i64 b]] H5 =
    .need (decide (0 ≤ IntKind.i64.wrap (IntKind.i64.wrap (bd a * bd a) + IntKind.i64.wrap (bd b * bd b)) ∧ IntKind.i64.wrap (IntKind.i64.wrap (bd a * bd a) + IntKind.i64.wrap (bd b * bd b)) ≤ 9223372036854775807)) (.leaf (i6 (rt (IntKind.i64.wrap (IntKind.i64.wrap (bd a * bd a) + IntKind.i64.wrap (bd b * bd b)))))) := by kernel_rfl
theorem ok43 : COK E5 C43 := ok53.add hlen hpl (by
  intro args cc v h hc
  unfold g43 at h
  split at h
  · rename_i a b
    simp only [ok, Option.some.injEq, Prod.mk.injEq] at h; obtain ⟨rfl, rfl⟩ := h
    refine pureCall ok53 Tryd.func43 (by kernel_rfl) (loops_nil (by kernel_rfl)) rfl rfl ?_
    rw [run43]
    have hs := sqs (bd_rng a) (bd_rng b)
    rw [wrap64 (x := bd a * bd a) (by omega) (by omega), wrap64 (x := bd b * bd b) (by omega) (by omega), wrap64 (by omega) (by omega)]
    exact ⟨by simp; omega, rfl⟩
  · simp at h)
noncomputable def g12 : List AV → QR
  | [.agg [.int .i64 a, .int .i64 b]] => ok (i6 (bd (far a b)))
  | _ => none
noncomputable def C12 : Cfg := addP C43 12 g12
theorem run12 (a b : Int) : runP C43 (cF E5 Tryd.f12) [.agg [.int .i64 a, .int .i64 b]] H5 =
    .need (decide (-2147483647 ≤ bd a ∧ bd a ≤ 2147483647 ∧ -2147483647 ≤ bd b ∧ bd b ≤ 2147483647)) (.leaf (i6 (bd (rt (bd a * bd a + bd b * bd b))))) := by kernel_rfl
theorem ok12 : COK E5 C12 := ok43.add hlen hpl (by
  intro args cc v h hc
  unfold g12 at h
  split at h
  · rename_i a b
    simp only [ok, Option.some.injEq, Prod.mk.injEq] at h; obtain ⟨rfl, rfl⟩ := h
    refine pureCall ok43 Tryd.func12 (by kernel_rfl) (loops_nil (by kernel_rfl)) rfl rfl ?_
    rw [run12]
    have h1 := bd_rng a; have h2 := bd_rng b; exact ⟨by simp; omega, rfl⟩
  · simp at h)
noncomputable def g13 : List AV → QR
  | [.agg [.int .i64 a, .int .i64 b]] => ok (i6 (bd (far a b)))
  | _ => none
noncomputable def C13 : Cfg := addP C12 13 g13
theorem run13 (a b : Int) : runP C12 (cF E5 Tryd.f13) [.agg [.int .i64 a, .int .i64 b]] H5 =
    .leaf (i6 (bd (far a b))) := by kernel_rfl
theorem ok13 : COK E5 C13 := ok12.add hlen hpl (by
  intro args cc v h hc
  unfold g13 at h
  split at h
  · rename_i a b
    simp only [ok, Option.some.injEq, Prod.mk.injEq] at h; obtain ⟨rfl, rfl⟩ := h
    refine pureCall ok12 Tryd.func13 (by kernel_rfl) (loops_nil (by kernel_rfl)) rfl rfl ?_
    rw [run13]
    rfl
  · simp at h)
theorem cap_cell {x m f : Int} (hx : -2147483647 ≤ x ∧ x ≤ 2147483647) (hm : 0 ≤ m ∧ m ≤ 2147483647) (hf : 0 ≤ f ∧ f ≤ 3037000499) :
    IntKind.i64.wrap ((IntKind.i64.wrap (x * m)).tdiv (IntKind.i64.wrap (f + 1))) = (x * m).tdiv (f + 1) := by
  have h1 := mul_rng (a := x) (b := m) (m := 2147483647) (n := 2147483647) hx (by omega) (by omega) (by omega)
  rw [wrap64 (x := x * m) (by omega) (by omega), wrap64 (x := f + 1) (by omega) (by omega)]
  rw [tdiv_lit (by omega)]
  have hd : ∀ y : Int, 0 ≤ y → 0 ≤ y / (f + 1) ∧ y / (f + 1) ≤ y := fun y hy => ⟨Int.ediv_nonneg hy (by omega), Int.ediv_le_self _ hy⟩
  split
  · have := hd (-(x * m)) (by omega); exact wrap64 (by omega) (by omega)
  · have := hd (x * m) (by omega); exact wrap64 (by omega) (by omega)
theorem cap_case {a b c : Int} {f k : Int} (hf : f = far a b) (hk : k = cl c 0 2147483647) :
    (GT.case (decide (f ≤ k)) (.leaf (pt (bd a) (bd b))) (.need (!decide (IntKind.i64.wrap (f + 1) = 0)) (.need (!decide (IntKind.i64.wrap (f + 1) = 0))
      (.leaf (pt (IntKind.i64.wrap ((IntKind.i64.wrap (bd a * k)).tdiv (IntKind.i64.wrap (f + 1)))) (IntKind.i64.wrap ((IntKind.i64.wrap (bd b * k)).tdiv (IntKind.i64.wrap (f + 1))))))))).holds (fun v => v = pt (capx a b c) (capy a b c)) := by
  have hr := far_rng a b
  have hc := cl0_rng c
  rw [← hf] at hr
  rw [← hk] at hc
  refine ⟨fun e => ?_, fun e => ?_⟩
  · simp only [decide_eq_true_eq] at e
    unfold capx capy
    rw [← hf, ← hk, if_pos e, if_pos e]
    rfl
  · simp only [decide_eq_false_iff_not] at e
    have hw : IntKind.i64.wrap (f + 1) = f + 1 := wrap64 (by omega) (by omega)
    refine ⟨by rw [hw]; simp; omega, by rw [hw]; simp; omega, ?_⟩
    rw [cap_cell (bd_rng a) hc hr, cap_cell (bd_rng b) hc hr]
    unfold capx capy
    rw [← hf, ← hk, if_neg e, if_neg e]
    rfl
noncomputable def g14 : List AV → QR
  | [.agg [.int .i64 a, .int .i64 b], .int .i64 c] => ok (pt (capx a b c) (capy a b c))
  | _ => none
noncomputable def C14 : Cfg := addP C13 14 g14
theorem run14 (a b c : Int) : runP C13 (cF E5 Tryd.f14) [.agg [.int .i64 a, .int .i64 b], .int .i64 c] H5 =
    .need (decide (-2147483647 ≤ bd a ∧ bd a ≤ 2147483647 ∧ -2147483647 ≤ bd b ∧ bd b ≤ 2147483647)) (.case (decide (rt (bd a * bd a + bd b * bd b) ≤ mx 0 (bd c))) (.leaf (pt (bd a) (bd b))) (.need (!decide (IntKind.i64.wrap (rt (bd a * bd a + bd b * bd b) + 1) = 0)) (.need (!decide (IntKind.i64.wrap (rt (bd a * bd a + bd b * bd b) + 1) = 0)) (.leaf (pt (IntKind.i64.wrap ((IntKind.i64.wrap (bd a * mx 0 (bd c))).tdiv (IntKind.i64.wrap (rt (bd a * bd a + bd b * bd b) + 1)))) (IntKind.i64.wrap ((IntKind.i64.wrap (bd b * mx 0 (bd c))).tdiv (IntKind.i64.wrap (rt (bd a * bd a + bd b * bd b) + 1)))))))) ) := by kernel_rfl
theorem ok14 : COK E5 C14 := ok13.add hlen hpl (by
  intro args cc v h hc
  unfold g14 at h
  split at h
  · rename_i a b c
    simp only [ok, Option.some.injEq, Prod.mk.injEq] at h; obtain ⟨rfl, rfl⟩ := h
    refine pureCall ok13 Tryd.func14 (by kernel_rfl) (loops_nil (by kernel_rfl)) rfl rfl ?_
    rw [run14]
    have h1 := bd_rng a; have h2 := bd_rng b; exact ⟨by simp; omega, cap_case rfl (cl0 c)⟩
  · simp at h)
noncomputable def g15 : List AV → QR
  | [.agg [.int .i64 a, .int .i64 b], .int .i64 c] => ok (pt (capx a b c) (capy a b c))
  | _ => none
noncomputable def C15 : Cfg := addP C14 15 g15
theorem run15 (a b c : Int) : runP C14 (cF E5 Tryd.f15) [.agg [.int .i64 a, .int .i64 b], .int .i64 c] H5 =
    .case (decide (far (bd a) (bd b) ≤ cl c 0 2147483647)) (.leaf (pt (bd a) (bd b))) (.need (!decide (IntKind.i64.wrap (far (bd a) (bd b) + 1) = 0)) (.need (!decide (IntKind.i64.wrap (far (bd a) (bd b) + 1) = 0)) (.leaf (pt (IntKind.i64.wrap ((IntKind.i64.wrap (bd a * cl c 0 2147483647)).tdiv (IntKind.i64.wrap (far (bd a) (bd b) + 1)))) (IntKind.i64.wrap ((IntKind.i64.wrap (bd b * cl c 0 2147483647)).tdiv (IntKind.i64.wrap (far (bd a) (bd b) + 1))))))))  := by kernel_rfl
theorem ok15 : COK E5 C15 := ok14.add hlen hpl (by
  intro args cc v h hc
  unfold g15 at h
  split at h
  · rename_i a b c
    simp only [ok, Option.some.injEq, Prod.mk.injEq] at h; obtain ⟨rfl, rfl⟩ := h
    refine pureCall ok14 Tryd.func15 (by kernel_rfl) (loops_nil (by kernel_rfl)) rfl rfl ?_
    rw [run15]
    exact cap_case (far_bd a b) rfl
  · simp at h)
theorem met_iff {a b c d x y z w : Int} : met a b c d x y z w = true ↔ chk a b c d = 0 ∧ chk x y z w = 0 ∧ chk (mx a x) (mx b y) (mn c z) (mn d w) = 0 := by
  unfold met; rw [decide_eq_true_eq]; rfl
end Go.L5p

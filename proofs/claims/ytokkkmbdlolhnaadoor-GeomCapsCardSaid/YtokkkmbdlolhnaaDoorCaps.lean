import Derived.Test.YtokkkmbdlolhnaaDoorL5A
set_option linter.unusedVariables false
namespace Go.L5
open Go Go.Ev
theorem bd_small {x a : Int} (h : x.natAbs ≤ (bd a).natAbs) : bd x = x := by have := bd_rng a; exact bd_id (by omega) (by omega)
theorem far_bd {x y : Int} (hx : bd x = x) (hy : bd y = y) : far x y = rt (x * x + y * y) := by unfold far; rw [hx, hy]
theorem sq_nn (x : Int) : 0 ≤ x * x := by
  rcases Int.le_total 0 x with h | h
  · exact Int.mul_nonneg h h
  · exact Int.mul_nonneg_of_nonpos_of_nonpos h h
theorem far_spec (x y : Int) : 0 ≤ far x y ∧ far x y * far x y ≤ bd x * bd x + bd y * bd y ∧ bd x * bd x + bd y * bd y < (far x y + 1) * (far x y + 1) :=
  rt_spec (by have := sq_nn (bd x); have := sq_nn (bd y); omega)
theorem rt_le {n m : Int} (h : 0 ≤ n) (hm : 0 ≤ m) (hn : n ≤ m * m) : rt n ≤ m := by
  obtain ⟨h0, h1, h2⟩ := rt_spec h
  have : rt n < m + 1 := sq_lt (by omega) (by
    have e : (m + 1) * (m + 1) = m * m + 2 * m + 1 := by simp only [Int.add_mul, Int.mul_add]; omega
    rw [e]; omega)
  omega
theorem tdiv_abs (a : Int) {b : Int} (hb : 0 < b) : (a.tdiv b).natAbs * b.natAbs ≤ a.natAbs := by
  rw [Int.natAbs_tdiv]
  exact Nat.div_mul_le_self _ _
/-- A part of a way. -/
theorem part_abs {a m f : Int} (hm : 0 ≤ m) (hmf : m < f) : ((a * m).tdiv (f + 1)).natAbs ≤ a.natAbs := by
  have h := tdiv_abs (a * m) (b := f + 1) (by omega)
  rw [Int.natAbs_mul] at h
  have h1 : a.natAbs * m.natAbs ≤ a.natAbs * (f + 1).natAbs := Nat.mul_le_mul_left _ (by omega)
  exact Nat.le_of_mul_le_mul_right (Nat.le_trans h h1) (by omega)
theorem natAbs_sq (x : Int) : ((x.natAbs * x.natAbs : Nat) : Int) = x * x := by rw [← Int.natAbs_mul]; exact Int.natAbs_of_nonneg (sq_nn x)
theorem cap_short (x y f m : Int) (h0 : 0 ≤ f) (hm : 0 ≤ m) (h2 : x * x + y * y < (f + 1) * (f + 1)) :
    ((x * m).tdiv (f + 1)) * ((x * m).tdiv (f + 1)) + ((y * m).tdiv (f + 1)) * ((y * m).tdiv (f + 1)) ≤ m * m := by
  have hx := tdiv_abs (x * m) (b := f + 1) (by omega)
  have hy := tdiv_abs (y * m) (b := f + 1) (by omega)
  generalize (x * m).tdiv (f + 1) = u at *
  generalize (y * m).tdiv (f + 1) = v at *
  rw [Int.natAbs_mul] at hx hy
  have hx2 := Nat.mul_le_mul hx hx
  have hy2 := Nat.mul_le_mul hy hy
  have e1 : u.natAbs * (f + 1).natAbs * (u.natAbs * (f + 1).natAbs) = (u.natAbs * u.natAbs) * ((f + 1).natAbs * (f + 1).natAbs) := by ac_rfl
  have e2 : v.natAbs * (f + 1).natAbs * (v.natAbs * (f + 1).natAbs) = (v.natAbs * v.natAbs) * ((f + 1).natAbs * (f + 1).natAbs) := by ac_rfl
  have e3 : x.natAbs * m.natAbs * (x.natAbs * m.natAbs) = (x.natAbs * x.natAbs) * (m.natAbs * m.natAbs) := by ac_rfl
  have e4 : y.natAbs * m.natAbs * (y.natAbs * m.natAbs) = (y.natAbs * y.natAbs) * (m.natAbs * m.natAbs) := by ac_rfl
  rw [e1, e3] at hx2
  rw [e2, e4] at hy2
  have hs := Nat.add_le_add hx2 hy2
  rw [← Nat.add_mul, ← Nat.add_mul] at hs
  have hle : x.natAbs * x.natAbs + y.natAbs * y.natAbs ≤ (f + 1).natAbs * (f + 1).natAbs := by
    have := natAbs_sq x; have := natAbs_sq y; have := natAbs_sq (f + 1); omega
  have h3 := Nat.le_trans hs (Nat.mul_le_mul_right _ hle)
  rw [Nat.mul_comm] at h3
  have h4 := Nat.le_of_mul_le_mul_left h3 (Nat.mul_pos (by omega) (by omega))
  have := natAbs_sq u; have := natAbs_sq v; have := natAbs_sq m; omega
theorem cap_abs (x y m : Int) : (capx x y m).natAbs ≤ (bd x).natAbs ∧ (capy x y m).natAbs ≤ (bd y).natAbs := by
  have hm := cl0_rng m
  unfold capx capy
  split
  · exact ⟨Nat.le_refl _, Nat.le_refl _⟩
  · exact ⟨part_abs hm.1 (by omega), part_abs hm.1 (by omega)⟩
theorem cap_bd (x y m : Int) : bd (capx x y m) = capx x y m ∧ bd (capy x y m) = capy x y m :=
  ⟨bd_small (cap_abs x y m).1, bd_small (cap_abs x y m).2⟩
theorem cap_far (x y m : Int) : far (capx x y m) (capy x y m) ≤ cl m 0 2147483647 := by
  have hm := cl0_rng m
  by_cases h : far x y ≤ cl m 0 2147483647
  · rw [far_bd (cap_bd x y m).1 (cap_bd x y m).2]
    unfold capx capy
    rw [if_pos h, if_pos h]
    exact h
  · obtain ⟨f0, f1, f2⟩ := far_spec x y
    rw [far_bd (cap_bd x y m).1 (cap_bd x y m).2]
    unfold capx capy
    rw [if_neg h, if_neg h]
    exact rt_le (by have := sq_nn ((bd x * cl m 0 2147483647).tdiv (far x y + 1)); have := sq_nn ((bd y * cl m 0 2147483647).tdiv (far x y + 1)); omega) hm.1 (cap_short _ _ _ _ f0 hm.1 f2)
theorem capx_in {x y m : Int} (h : far x y ≤ cl m 0 2147483647) : capx x y m = bd x := by unfold capx; rw [if_pos h]
theorem capy_in {x y m : Int} (h : far x y ≤ cl m 0 2147483647) : capy x y m = bd y := by unfold capy; rw [if_pos h]
theorem cap_again (x y m : Int) : capx (capx x y m) (capy x y m) m = capx x y m ∧ capy (capx x y m) (capy x y m) m = capy x y m :=
  ⟨(capx_in (cap_far x y m)).trans (cap_bd x y m).1, (capy_in (cap_far x y m)).trans (cap_bd x y m).2⟩
theorem part_sign {a m f : Int} (hm : 0 ≤ m) (hf : 0 < f) (hne : (a * m).tdiv f ≠ 0) : ((a * m).tdiv f > 0 ↔ a > 0) ∧ a ≠ 0 := by
  refine ⟨?_, fun h => hne (by rw [h]; simp)⟩
  constructor
  · intro h
    rcases Int.lt_or_le 0 a with h' | h'
    · exact h'
    · exfalso
      have h1 : a * m ≤ 0 := Int.mul_nonpos_of_nonpos_of_nonneg h' hm
      have h2 : 0 ≤ (-(a * m)).tdiv f := Int.tdiv_nonneg (by omega) (by omega)
      rw [Int.neg_tdiv] at h2
      omega
  · intro h
    have : 0 ≤ (a * m).tdiv f := Int.tdiv_nonneg (Int.mul_nonneg (by omega) hm) (by omega)
    omega
theorem capx_sign (x y m : Int) : (capx x y m == 0 || decide (capx x y m > 0) == decide (bd x > 0) && bd x != 0) = true := by
  by_cases h0 : capx x y m = 0
  · simp [h0]
  · have hm := cl0_rng m
    have f0 := (far_spec x y).1
    have : (capx x y m > 0 ↔ bd x > 0) ∧ bd x ≠ 0 := by
      unfold capx at h0 ⊢
      split at h0
      · rename_i h; rw [if_pos h]; exact ⟨Iff.rfl, h0⟩
      · rename_i h; rw [if_neg h]; exact part_sign hm.1 (by omega) h0
    simp [h0, this.1, this.2]
theorem capy_sign (x y m : Int) : (capy x y m == 0 || decide (capy x y m > 0) == decide (bd y > 0) && bd y != 0) = true := by
  by_cases h0 : capy x y m = 0
  · simp [h0]
  · have hm := cl0_rng m
    have f0 := (far_spec x y).1
    have : (capy x y m > 0 ↔ bd y > 0) ∧ bd y ≠ 0 := by
      unfold capy at h0 ⊢
      split at h0
      · rename_i h; rw [if_pos h]; exact ⟨Iff.rfl, h0⟩
      · rename_i h; rw [if_neg h]; exact part_sign hm.1 (by omega) h0
    simp [h0, this.1, this.2]
theorem bd_le {n m : Int} (h : n ≤ m) (hm : 0 ≤ m) : bd n ≤ m := by unfold bd; split <;> (try split) <;> omega
/-! Ways add up. -/
theorem cauchy (a b c d : Int) : (a * c + b * d) * (a * c + b * d) ≤ (a * a + b * b) * (c * c + d * d) := by
  have h := sq_nn (a * d - b * c)
  have e : (a * a + b * b) * (c * c + d * d) = (a * c + b * d) * (a * c + b * d) + (a * d - b * c) * (a * d - b * c) := by
    simp only [Int.add_mul, Int.mul_add, Int.sub_mul, Int.mul_sub]
    have e1 : a * a * (c * c) = a * c * (a * c) := by ac_rfl
    have e2 : b * b * (d * d) = b * d * (b * d) := by ac_rfl
    have e3 : a * a * (d * d) = a * d * (a * d) := by ac_rfl
    have e4 : b * b * (c * c) = b * c * (b * c) := by ac_rfl
    have e5 : b * d * (a * c) = a * c * (b * d) := by ac_rfl
    have e6 : a * d * (b * c) = a * c * (b * d) := by ac_rfl
    have e7 : b * c * (a * d) = a * c * (b * d) := by ac_rfl
    rw [e1, e2, e3, e4, e5, e6, e7]; omega
  omega
theorem tri (a b c d : Int) : rt ((a + c) * (a + c) + (b + d) * (b + d)) ≤ rt (a * a + b * b) + rt (c * c + d * d) + 2 := by
  have hP : 0 ≤ a * a + b * b := by have := sq_nn a; have := sq_nn b; omega
  have hQ : 0 ≤ c * c + d * d := by have := sq_nn c; have := sq_nn d; omega
  obtain ⟨p0, p1, p2⟩ := rt_spec hP
  obtain ⟨q0, q1, q2⟩ := rt_spec hQ
  have hc := cauchy a b c d
  have eS : (a + c) * (a + c) + (b + d) * (b + d) = (a * a + b * b) + (c * c + d * d) + 2 * (a * c + b * d) := by
    simp only [Int.add_mul, Int.mul_add, Int.mul_comm c a, Int.mul_comm d b]; omega
  have hS := sq_nn (a + c)
  have hT := sq_nn (b + d)
  generalize a * c + b * d = k at *
  generalize a * a + b * b = P at *
  generalize c * c + d * d = Q at *
  generalize rt P = m at *
  generalize rt Q = n at *
  refine rt_le (by omega) (by omega) ?_
  rw [eS]
  have hk : k < (m + 1) * (n + 1) := by
    rcases Int.lt_or_le k 0 with h | h
    · have := Int.mul_nonneg (show 0 ≤ m + 1 by omega) (show 0 ≤ n + 1 by omega); omega
    · refine sq_lt (Int.mul_nonneg (by omega) (by omega)) ?_
      have h1 : P * Q ≤ P * ((n + 1) * (n + 1)) := Int.mul_le_mul_of_nonneg_left (by omega) hP
      have h2 : P * ((n + 1) * (n + 1)) < (m + 1) * (m + 1) * ((n + 1) * (n + 1)) := Int.mul_lt_mul_of_pos_right p2 (Int.mul_pos (by omega) (by omega))
      have e : (m + 1) * (n + 1) * ((m + 1) * (n + 1)) = (m + 1) * (m + 1) * ((n + 1) * (n + 1)) := by ac_rfl
      omega
  have e1 : (m + n + 2) * (m + n + 2) = (m + 1) * (m + 1) + (n + 1) * (n + 1) + 2 * ((m + 1) * (n + 1)) := by
    simp only [Int.add_mul, Int.mul_add, Int.mul_comm n m]; omega
  omega
theorem rt_small {x y : Int} (hx : -1073741823 ≤ x ∧ x ≤ 1073741823) (hy : -1073741823 ≤ y ∧ y ≤ 1073741823) : 0 ≤ rt (x * x + y * y) ∧ rt (x * x + y * y) ≤ 2147483646 := by
  have h1 := sq_nn x
  have h2 := sq_nn y
  have k1 := mul_rng (m := 1073741823) (n := 1073741823) hx hx (by omega) (by omega)
  have k2 := mul_rng (m := 1073741823) (n := 1073741823) hy hy (by omega) (by omega)
  exact ⟨(rt_spec (by omega)).1, rt_le (by omega) (by omega) (by omega)⟩
theorem adds (A B C D : Int) (hA : -1073741823 ≤ A ∧ A ≤ 1073741823) (hB : -1073741823 ≤ B ∧ B ≤ 1073741823) (hC : -1073741823 ≤ C ∧ C ≤ 1073741823) (hD : -1073741823 ≤ D ∧ D ≤ 1073741823) :
    (sb (ad A C) C == A && sb (ad B D) D == B && (sb (ad A C) A == C && sb (ad B D) B == D && (ad A C == ad C A && ad B D == ad D B)) && ((decide (bd (far A B) ≥ 0) && bif bd (far (ad A C) (ad B D)) == 2147483647 then bd (far (IntKind.i64.wrap (0 - A)) B) == bd (far A B) && bd (far B A) == bd (far A B) else decide (bd (far (ad A C) (ad B D)) ≤ IntKind.i64.wrap (IntKind.i64.wrap (bd (far A B) + bd (far C D)) + 2)) && (bd (far (IntKind.i64.wrap (0 - A)) B) == bd (far A B) && bd (far B A) == bd (far A B))) && (ml A 256 == A && ml B 256 == B))) = true := by
  have bA : bd A = A := bd_id (by omega) (by omega)
  have bB : bd B = B := bd_id (by omega) (by omega)
  have bC : bd C = C := bd_id (by omega) (by omega)
  have bD : bd D = D := bd_id (by omega) (by omega)
  have bAC : bd (A + C) = A + C := bd_id (by omega) (by omega)
  have bBD : bd (B + D) = B + D := bd_id (by omega) (by omega)
  have bn : bd (0 - A) = 0 - A := bd_id (by omega) (by omega)
  have e1 : ad A C = A + C := by unfold ad; rw [bA, bC, bAC]
  have e2 : ad B D = B + D := by unfold ad; rw [bB, bD, bBD]
  have e3 : ad C A = A + C := by unfold ad; rw [bA, bC, Int.add_comm, bAC]
  have e4 : ad D B = B + D := by unfold ad; rw [bB, bD, Int.add_comm, bBD]
  have s1 : sb (A + C) C = A := by unfold sb; rw [bAC, bC]; exact bd_id (by omega) (by omega) |>.trans (by omega)
  have s2 : sb (B + D) D = B := by unfold sb; rw [bBD, bD]; exact bd_id (by omega) (by omega) |>.trans (by omega)
  have s3 : sb (A + C) A = C := by unfold sb; rw [bAC, bA]; exact bd_id (by omega) (by omega) |>.trans (by omega)
  have s4 : sb (B + D) B = D := by unfold sb; rw [bBD, bB]; exact bd_id (by omega) (by omega) |>.trans (by omega)
  have m1 : ml A 256 = A := by
    unfold ml rnd
    rw [bA, show bd 256 = 256 by decide]
    split <;> exact bd_id (by omega) (by omega) |>.trans (by omega)
  have m2 : ml B 256 = B := by
    unfold ml rnd
    rw [bB, show bd 256 = 256 by decide]
    split <;> exact bd_id (by omega) (by omega) |>.trans (by omega)
  have w0 : IntKind.i64.wrap (0 - A) = 0 - A := wrap64 (by omega) (by omega)
  have r1 := rt_small hA hB
  have r2 := rt_small hC hD
  have f1 : far A B = rt (A * A + B * B) := far_bd bA bB
  have f2 : far C D = rt (C * C + D * D) := far_bd bC bD
  have f3 : far B A = rt (A * A + B * B) := by rw [far_bd bB bA, Int.add_comm]
  have f4 : far (0 - A) B = rt (A * A + B * B) := by rw [far_bd bn bB]; congr 2; rw [Int.zero_sub, Int.neg_mul_neg]
  have f5 : far (A + C) (B + D) = rt ((A + C) * (A + C) + (B + D) * (B + D)) := far_bd bAC bBD
  have ht := tri A B C D
  rw [e1, e2, e3, e4, s1, s2, s3, s4, m1, m2, w0, f1, f2, f3, f4, f5]
  have g1 : bd (rt (A * A + B * B)) = rt (A * A + B * B) := bd_id (by omega) (by omega)
  have g2 : bd (rt (C * C + D * D)) = rt (C * C + D * D) := bd_id (by omega) (by omega)
  have w1 : IntKind.i64.wrap (rt (A * A + B * B) + rt (C * C + D * D)) = rt (A * A + B * B) + rt (C * C + D * D) := wrap64 (by omega) (by omega)
  have w2 : IntKind.i64.wrap (rt (A * A + B * B) + rt (C * C + D * D) + 2) = rt (A * A + B * B) + rt (C * C + D * D) + 2 := wrap64 (by omega) (by omega)
  rw [g1, g2, w1, w2]
  have hb := bd_le ht (by omega)
  cases hx : (bd (rt ((A + C) * (A + C) + (B + D) * (B + D))) == 2147483647)
  · simp [hb, r1.1]
  · simp [r1.1]
end Go.L5

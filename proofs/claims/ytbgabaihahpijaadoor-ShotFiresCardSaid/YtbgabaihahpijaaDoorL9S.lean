import Derived.Test.YtbgabaihahpijaaDoorL9M
set_option linter.unusedVariables false
set_option linter.unusedSimpArgs false
set_option maxRecDepth 100000
namespace Go.L9
open Go Go.Ev Go.Proofs Go.L5
/-- Is a cell a wall? -/
def sol (q r : Int) (z : ByteArray) (a b : Int) : Bool := decide (a < 0 ∨ q ≤ a ∨ b < 0 ∨ r ≤ b ∨ (z.size : Int) ≤ b * q + a) || sg z (b * q + a) == 35
theorem sol_out {q r : Int} {z : ByteArray} {a b : Int} (h : a < 0 ∨ q ≤ a ∨ b < 0 ∨ r ≤ b ∨ (z.size : Int) ≤ b * q + a) : sol q r z a b = true := by
  unfold sol; rw [decide_eq_true h]; rfl
theorem sol_in {q r : Int} {z : ByteArray} {a b : Int} (h : ¬ (a < 0 ∨ q ≤ a ∨ b < 0 ∨ r ≤ b ∨ (z.size : Int) ≤ b * q + a)) : sol q r z a b = (sg z (b * q + a) == 35) := by
  unfold sol; rw [decide_eq_false h]; rfl
theorem solid_a {q r : Int} {z : ByteArray} {a b : Int} (hs : z.size ≤ 4611686018427387904) : (GT.need (decide (a < 0) || (decide (a ≥ q) || (decide (b < 0) || (decide (b ≥ r) || (decide (a ≥ (z.size : Int)) || !decide (q = 0)))))) (.case (decide (a < 0) || (decide (a ≥ q) || (decide (b < 0) || (decide (b ≥ r) || (decide (a ≥ (z.size : Int)) || decide (b > IntKind.i64.wrap ((IntKind.i64.wrap (IntKind.i64.wrap ((z.size : Int) - 1) - a)).tdiv q))))))) (.leaf .tt) (.need (decide (0 ≤ IntKind.i64.wrap (IntKind.i64.wrap (b * q) + a) ∧ IntKind.i64.wrap (IntKind.i64.wrap (b * q) + a) < (z.size : Int))) (.leaf (.bool (sg z (IntKind.i64.wrap (IntKind.i64.wrap (b * q) + a)) == 35)))))).holds (fun x => VW (.bool (sol q r z a b)) x) := by
  by_cases h : a < 0 ∨ a ≥ q ∨ b < 0 ∨ b ≥ r ∨ a ≥ (z.size : Int)
  · have hp : (decide (a < 0) || (decide (a ≥ q) || (decide (b < 0) || (decide (b ≥ r) || (decide (a ≥ (z.size : Int)) || decide (b > IntKind.i64.wrap ((IntKind.i64.wrap (IntKind.i64.wrap ((z.size : Int) - 1) - a)).tdiv q))))))) = true := by
      simp only [Bool.or_eq_true, decide_eq_true_eq]; omega
    have hs : sol q r z a b = true := by
      refine sol_out ?_
      rcases h with h | h | h | h | h
      · exact .inl h
      · exact .inr (.inl h)
      · exact .inr (.inr (.inl h))
      · exact .inr (.inr (.inr (.inl h)))
      · by_cases h1 : a < 0 ∨ q ≤ a ∨ b < 0
        · omega
        · have := Int.mul_nonneg (show 0 ≤ b by omega) (show 0 ≤ q by omega)
          omega
    refine ⟨by simp only [Bool.or_eq_true, Bool.not_eq_true', decide_eq_true_eq, decide_eq_false_iff_not]; omega, fun _ => VW.tt hs, fun hh => (by rw [hp] at hh; cases hh)⟩
  · have hq : 0 < q := by omega
    have hsz : 1 ≤ (z.size : Int) := by omega
    have e1 : IntKind.i64.wrap ((z.size : Int) - 1) = (z.size : Int) - 1 := wrap64 (by omega) (by omega)
    have e2 : IntKind.i64.wrap ((z.size : Int) - 1 - a) = (z.size : Int) - 1 - a := wrap64 (by omega) (by omega)
    have hd : 0 ≤ ((z.size : Int) - 1 - a) / q ∧ ((z.size : Int) - 1 - a) / q ≤ (z.size : Int) - 1 - a := ⟨Int.ediv_nonneg (by omega) (by omega), Int.ediv_le_self _ (by omega)⟩
    have e3 : IntKind.i64.wrap (((z.size : Int) - 1 - a).tdiv q) = ((z.size : Int) - 1 - a) / q := by rw [Int.tdiv_eq_ediv_of_nonneg (by omega)]; exact wrap64 (by omega) (by omega)
    rw [e1, e2, e3]
    refine ⟨by simp only [Bool.or_eq_true, Bool.not_eq_true', decide_eq_true_eq, decide_eq_false_iff_not]; omega, fun hh => ?_, fun hh => ?_⟩
    · simp only [Bool.or_eq_true, decide_eq_true_eq] at hh
      have hb : b > ((z.size : Int) - 1 - a) / q := by omega
      refine VW.tt (sol_out (.inr (.inr (.inr (.inr ?_)))))
      have h1 := Int.lt_ediv_add_one_mul_self ((z.size : Int) - 1 - a) hq
      have h2 := Int.mul_le_mul_of_nonneg_right (show ((z.size : Int) - 1 - a) / q + 1 ≤ b by omega) (show 0 ≤ q by omega)
      omega
    · simp only [Bool.or_eq_false_iff, decide_eq_false_iff_not] at hh
      have hb : b ≤ ((z.size : Int) - 1 - a) / q := by omega
      have h1 := Int.ediv_mul_le ((z.size : Int) - 1 - a) (show q ≠ 0 by omega)
      have h2 := Int.mul_le_mul_of_nonneg_right hb (show 0 ≤ q by omega)
      have h3 := Int.mul_nonneg (show 0 ≤ b by omega) (show 0 ≤ q by omega)
      have e4 : IntKind.i64.wrap (b * q) = b * q := wrap64 (by omega) (by omega)
      have e5 : IntKind.i64.wrap (b * q + a) = b * q + a := wrap64 (by omega) (by omega)
      rw [e4, e5]
      refine ⟨by simp; omega, VW.of_eq ?_⟩
      rw [sol_in (by omega)]
theorem solid_r {q r : Int} {z : ByteArray} {a b : Int} (hs : z.size ≤ 4611686018427387904) (ha0 : a < 9223372036854775808) : (GT.case (decide (a < 0) || (decide (a ≥ q) || (decide (b < 0) || (decide (b ≥ r) || decide (q > (z.size : Int)) && decide (b > 0))))) (.leaf .tt) (.need (!decide (q = 0)) (.case (decide (b > IntKind.i64.wrap (((z.size : Int)).tdiv q)) || decide (IntKind.i64.wrap (IntKind.i64.wrap (b * q) + a) ≥ (z.size : Int))) (.leaf .tt) (.need (decide (0 ≤ a ∧ 0 ≤ b ∧ 0 ≤ q ∧ b * q + a < (z.size : Int) ∧ z.size ≤ 4611686018427387904)) (.leaf (.bool (sg z (b * q + a) == 35))))))).holds (fun x => VW (.bool (sol q r z a b)) x) := by
  refine ⟨fun hh => ?_, fun hh => ?_⟩
  · simp only [Bool.or_eq_true, Bool.and_eq_true, decide_eq_true_eq] at hh
    refine VW.tt (sol_out ?_)
    by_cases h1 : a < 0 ∨ q ≤ a ∨ b < 0 ∨ r ≤ b
    · omega
    · have h2 := Int.mul_le_mul_of_nonneg_right (show 1 ≤ b by omega) (show 0 ≤ q by omega)
      omega
  · simp only [Bool.or_eq_false_iff, Bool.and_eq_false_iff, decide_eq_false_iff_not] at hh
    have hq : 0 < q := by omega
    refine ⟨by simp; omega, ?_⟩
    have hd : 0 ≤ (z.size : Int) / q ∧ (z.size : Int) / q ≤ (z.size : Int) := ⟨Int.ediv_nonneg (by omega) (by omega), Int.ediv_le_self _ (by omega)⟩
    have e3 : IntKind.i64.wrap (((z.size : Int)).tdiv q) = (z.size : Int) / q := by rw [Int.tdiv_eq_ediv_of_nonneg (by omega)]; exact wrap64 (by omega) (by omega)
    rw [e3]
    have h1 := Int.ediv_mul_le (z.size : Int) (show q ≠ 0 by omega)
    have h2 := Int.lt_ediv_add_one_mul_self (z.size : Int) hq
    have h3 := Int.mul_nonneg (show 0 ≤ b by omega) (show 0 ≤ q by omega)
    by_cases hb : b > (z.size : Int) / q
    · have h4 := Int.mul_le_mul_of_nonneg_right (show (z.size : Int) / q + 1 ≤ b by omega) (show 0 ≤ q by omega)
      refine ⟨fun _ => VW.tt (sol_out (.inr (.inr (.inr (.inr (by omega)))))), fun hf => ?_⟩
      simp only [Bool.or_eq_false_iff, decide_eq_false_iff_not] at hf
      omega
    · have h4 := Int.mul_le_mul_of_nonneg_right (show b ≤ (z.size : Int) / q by omega) (show 0 ≤ q by omega)
      have ha : b * q + a < 9223372036854775808 := by
        by_cases hb0 : b = 0
        · subst hb0; omega
        · omega
      have e4 : IntKind.i64.wrap (b * q) = b * q := wrap64 (by omega) (by omega)
      have e5 : IntKind.i64.wrap (b * q + a) = b * q + a := wrap64 (by omega) (by omega)
      rw [e4, e5]
      refine ⟨fun ht => ?_, fun hf => ?_⟩
      · simp only [Bool.or_eq_true, decide_eq_true_eq] at ht
        exact VW.tt (sol_out (.inr (.inr (.inr (.inr (by omega))))))
      · simp only [Bool.or_eq_false_iff, decide_eq_false_iff_not] at hf
        refine ⟨by simp; omega, VW.of_eq ?_⟩
        rw [sol_in (by omega)]
end Go.L9

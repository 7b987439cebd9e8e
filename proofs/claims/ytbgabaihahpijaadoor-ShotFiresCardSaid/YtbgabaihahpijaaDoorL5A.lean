import Derived.Test.YtbgabaihahpijaaDoorEvP
set_option linter.unusedVariables false
set_option linter.unusedSimpArgs false
namespace Go.L5
open Go Go.Ev
theorem wrap64 {x : Int} (h1 : -9223372036854775808 ≤ x) (h2 : x < 9223372036854775808) : IntKind.i64.wrap x = x := by
  unfold IntKind.wrap
  simp [IntKind.bits, IntKind.signed]
  omega
theorem wrapu {x : Int} (h1 : 0 ≤ x) (h2 : x < 18446744073709551616) : IntKind.u64.wrap x = x := by
  unfold IntKind.wrap
  simp [IntKind.bits, IntKind.signed]
  omega
def bd (n : Int) : Int := if n > 2147483647 then 2147483647 else if n < -2147483647 then -2147483647 else n
theorem bd_rng (n : Int) : -2147483647 ≤ bd n ∧ bd n ≤ 2147483647 := by unfold bd; split <;> (try split) <;> omega
theorem bd_id {n : Int} (h1 : -2147483647 ≤ n) (h2 : n ≤ 2147483647) : bd n = n := by unfold bd; split <;> (try split) <;> omega
theorem bd_bd (n : Int) : bd (bd n) = bd n := bd_id (bd_rng n).1 (bd_rng n).2
theorem mxmn (a : Int) : mx (-2147483647) (mn a 2147483647) = bd a := by unfold mx mn bd; split <;> split <;> (try split) <;> (try split) <;> omega
def dir (n : Int) : Int := n % 16
theorem tmod16 (a : Int) : a.tmod 16 = if a < 0 then -((-a) % 16) else a % 16 := by
  split
  · rename_i h
    have : a.tmod 16 = -((-a).tmod 16) := by rw [Int.neg_tmod]; omega
    rw [this, Int.tmod_eq_emod_of_nonneg (by omega)]
  · rw [Int.tmod_eq_emod_of_nonneg (by omega)]
theorem tdiv_lit {a b : Int} (hb : 0 < b) : a.tdiv b = if a < 0 then -((-a) / b) else a / b := by
  split
  · rename_i h
    have : a.tdiv b = -((-a).tdiv b) := by rw [Int.neg_tdiv]; omega
    rw [this, Int.tdiv_eq_ediv_of_nonneg (by omega)]
  · rw [Int.tdiv_eq_ediv_of_nonneg (by omega)]
def ad (x y : Int) : Int := bd (bd x + bd y)
def sb (x y : Int) : Int := bd (bd x - bd y)
/-- To the nearest, by 256. -/
def rnd (n : Int) : Int := if n < 0 then -((-n + 128) / 256) else (n + 128) / 256
def ml (x y : Int) : Int := bd (rnd (bd x * bd y))
theorem mul_rng {a b m n : Int} (ha : -m ≤ a ∧ a ≤ m) (hb : -n ≤ b ∧ b ≤ n) (hm : 0 ≤ m) (hn : 0 ≤ n) : -(m * n) ≤ a * b ∧ a * b ≤ m * n := by
  have h : (a * b).natAbs ≤ (m * n).natAbs := by
    rw [Int.natAbs_mul, Int.natAbs_mul]
    exact Nat.mul_le_mul (by omega) (by omega)
  have : 0 ≤ m * n := Int.mul_nonneg hm hn
  omega
theorem bdmul (x y : Int) : -4611686014132420609 ≤ bd x * bd y ∧ bd x * bd y ≤ 4611686014132420609 := by
  have := mul_rng (m := 2147483647) (n := 2147483647) ⟨by have := (bd_rng x).1; omega, (bd_rng x).2⟩ ⟨by have := (bd_rng y).1; omega, (bd_rng y).2⟩ (by omega) (by omega)
  omega
def cl (x lo hi : Int) : Int := if (if bd x < bd lo then bd lo else bd x) > bd hi then bd hi else if bd x < bd lo then bd lo else bd x
theorem cl0 (m : Int) : mx 0 (bd m) = cl m 0 2147483647 := by
  unfold cl mx
  have h1 : bd 0 = 0 := by decide
  have h2 : bd 2147483647 = 2147483647 := by decide
  have := bd_rng m
  rw [h1, h2]
  split <;> split <;> split <;> omega
theorem cl0_rng (m : Int) : 0 ≤ cl m 0 2147483647 ∧ cl m 0 2147483647 ≤ 2147483647 := by
  rw [← cl0]; unfold mx; have := bd_rng m; split <;> omega
open Classical in
/-- The root, downwards. -/
noncomputable def rt (n : Int) : Int := if h : ∃ r, 0 ≤ r ∧ r * r ≤ n ∧ n < (r + 1) * (r + 1) then h.choose else 0
theorem sq_mono {a b : Int} (ha : 0 ≤ a) (h : a ≤ b) : a * a ≤ b * b := Int.mul_le_mul h h ha (by omega)
theorem sq_lt {a b : Int} (hb : 0 ≤ b) (h : a * a < b * b) : a < b := by
  rcases Int.lt_or_le a b with h' | h'
  · exact h'
  · have := sq_mono hb h'; omega
theorem rt_eq {n r : Int} (h0 : 0 ≤ r) (h1 : r * r ≤ n) (h2 : n < (r + 1) * (r + 1)) : rt n = r := by
  have hx : ∃ r, 0 ≤ r ∧ r * r ≤ n ∧ n < (r + 1) * (r + 1) := ⟨r, h0, h1, h2⟩
  unfold rt
  rw [dif_pos hx]
  obtain ⟨k0, k1, k2⟩ := hx.choose_spec
  generalize hx.choose = s at *
  have a : s < r + 1 := sq_lt (by omega) (by omega)
  have b : r < s + 1 := sq_lt (by omega) (by omega)
  omega
theorem rt_ex (n : Nat) : ∃ r : Int, 0 ≤ r ∧ r * r ≤ n ∧ (n : Int) < (r + 1) * (r + 1) := by
  induction n with
  | zero => exact ⟨0, by omega, by omega, by decide⟩
  | succ n ih =>
    obtain ⟨r, h0, h1, h2⟩ := ih
    by_cases h : (r + 1) * (r + 1) ≤ ((n + 1 : Nat) : Int)
    · refine ⟨r + 1, by omega, h, ?_⟩
      have : (r + 1 + 1) * (r + 1 + 1) = (r + 1) * (r + 1) + 2 * r + 3 := by
        simp only [Int.add_mul, Int.mul_add]; omega
      omega
    · exact ⟨r, h0, by omega, by omega⟩
theorem rt_spec {n : Int} (h : 0 ≤ n) : 0 ≤ rt n ∧ rt n * rt n ≤ n ∧ n < (rt n + 1) * (rt n + 1) := by
  obtain ⟨r, h0, h1, h2⟩ := rt_ex n.toNat
  rw [show ((n.toNat : Nat) : Int) = n by omega] at h1 h2
  rw [rt_eq h0 h1 h2]
  exact ⟨h0, h1, h2⟩
def ux (i : Nat) : Int := selI [256, 237, 181, 98, 0, -98, -181, -237, -256, -237, -181, -98, 0, 98, 181, 237] i
def uy (i : Nat) : Int := selI [0, 98, 181, 237, 256, 237, 181, 98, 0, -98, -181, -237, -256, -237, -181, -98] i
noncomputable def far (x y : Int) : Int := rt (bd x * bd x + bd y * bd y)
noncomputable def capx (x y m : Int) : Int := if far x y ≤ cl m 0 2147483647 then bd x else (bd x * cl m 0 2147483647).tdiv (far x y + 1)
noncomputable def capy (x y m : Int) : Int := if far x y ≤ cl m 0 2147483647 then bd y else (bd y * cl m 0 2147483647).tdiv (far x y + 1)
/-- The first of the best. -/
def dot (x y : Int) (i : Nat) : Int := x * ux i + y * uy i
def hdN (x y : Int) : Nat → Nat
  | 0 => 0
  | k + 1 => if dot x y (k + 1) > dot x y (hdN x y k) then k + 1 else hdN x y k
def hd (x y : Int) : Int := hdN (bd x) (bd y) 15
def chk (a b c d : Int) : Int := if (bd a = a ∧ bd b = b ∧ bd c = c ∧ bd d = d) ∧ a ≤ c ∧ b ≤ d then 0 else 50
def lo2 (a x : Int) : Int := if a < x then x else a
def hi2 (a x : Int) : Int := if x < a then x else a
theorem mx_lo (a x : Int) : mx a x = lo2 a x := rfl
theorem mn_hi (a x : Int) : mn a x = hi2 a x := rfl
def met (a b c d x y z w : Int) : Bool := decide (chk a b c d = 0 ∧ chk x y z w = 0 ∧ chk (lo2 a x) (lo2 b y) (hi2 c z) (hi2 d w) = 0)
def m4 (t : Bool) (v : Int) : Int := if t = true then v else 0
def ins (a b c d x y : Int) : Bool := met a b c d x y x y
abbrev i6 (x : Int) : AV := .int .i64 x
abbrev pt (x y : Int) : AV := .agg [i6 x, i6 y]
abbrev bx (a b c d : Int) : AV := .agg [i6 a, i6 b, i6 c, i6 d]
end Go.L5

import Derived.Test.YtokkkmbdlolhnaaDoorL5pC
set_option linter.unusedVariables false
set_option linter.unusedSimpArgs false
set_option maxRecDepth 100000
namespace Go.L5p
open Go Go.Ev Go.Proofs Go.L5
noncomputable def L42 : Nat → Option (Nat × List Nat × (List AV → Heap → GT (AExit × List AV × Heap)))
  | 0 => some (37, [3, 4, 5], fun vs h => match vs with
    | [.int .u64 n, .int .u64 l, .int .u64 u] => .need (decide (l = 0 ∧ u = 4294967296 ∧ 0 ≤ n ∧ n < 18446744073709551616)) (.leaf (.exit 0, [.int .u64 n, .int .u64 (rt n), .int .u64 (rt n + 1)], h))
    | _ => .fail)
  | _ => none
noncomputable def ab42 : ACode := cB E5 (bodyOf Tryd.f42 0).1 (bodyOf Tryd.f42 0).2
theorem step42 (n lo hi : Int) (h : Heap) : lstep (withL C25 L42) ab42 37 [3, 4, 5] [.int .u64 n, .int .u64 lo, .int .u64 hi] h =
    .case (decide (IntKind.u64.wrap (hi - lo) > 1)) (.need (!decide ((2:Int) = 0)) (.leaf (.normal, [.int .u64 n,
      .int .u64 (bif decide (IntKind.u64.wrap (IntKind.u64.wrap ((IntKind.u64.wrap (lo + hi)).tdiv 2) * IntKind.u64.wrap ((IntKind.u64.wrap (lo + hi)).tdiv 2)) ≤ n) then IntKind.u64.wrap ((IntKind.u64.wrap (lo + hi)).tdiv 2) else lo),
      .int .u64 (bif decide (IntKind.u64.wrap (IntKind.u64.wrap ((IntKind.u64.wrap (lo + hi)).tdiv 2) * IntKind.u64.wrap ((IntKind.u64.wrap (lo + hi)).tdiv 2)) ≤ n) then hi else IntKind.u64.wrap ((IntKind.u64.wrap (lo + hi)).tdiv 2))], h)))
      (.leaf (.exit 0, [.int .u64 n, .int .u64 lo, .int .u64 hi], h)) := by kernel_rfl
theorem runs42 (m : Nat) (n : Int) (h : Heap) (Q : S3 → Prop) (hn : 0 ≤ n) (hQ : Q (.exit 0, [.int .u64 n, .int .u64 (rt n), .int .u64 (rt n + 1)], h)) : ∀ (d : Nat) (lo hi : Int), (hi - lo).toNat ≤ d →
    0 ≤ lo → lo * lo ≤ n → n < hi * hi → lo < hi → hi ≤ 4294967296 → ∃ N, RunsN (withL C25 L42) ab42 m 37 [3, 4, 5] Q N [.int .u64 n, .int .u64 lo, .int .u64 hi] h := by
  intro d
  induction d with
  | zero => intro lo hi hd h0 h1 h2 h3 h4; omega
  | succ d ih =>
    intro lo hi hd h0 h1 h2 h3 h4
    have e1 : IntKind.u64.wrap (hi - lo) = hi - lo := wrapu (by omega) (by omega)
    have e2 : IntKind.u64.wrap (lo + hi) = lo + hi := wrapu (by omega) (by omega)
    by_cases hgt : hi - lo > 1
    · have e3 : IntKind.u64.wrap ((lo + hi).tdiv 2) = (lo + hi) / 2 := by rw [Int.tdiv_eq_ediv_of_nonneg (by omega)]; exact wrapu (by omega) (by omega)
      have hmid : 0 ≤ (lo + hi) / 2 ∧ (lo + hi) / 2 ≤ 4294967295 := by omega
      have e4 : IntKind.u64.wrap ((lo + hi) / 2 * ((lo + hi) / 2)) = (lo + hi) / 2 * ((lo + hi) / 2) := by
        have := mul_rng (a := (lo + hi) / 2) (b := (lo + hi) / 2) (m := 4294967295) (n := 4294967295) (by omega) (by omega) (by omega) (by omega)
        exact wrapu (Int.mul_nonneg (by omega) (by omega)) (by omega)
      by_cases hle : (lo + hi) / 2 * ((lo + hi) / 2) ≤ n
      · obtain ⟨N, hN⟩ := ih ((lo + hi) / 2) hi (by omega) (by omega) hle h2 (by omega) h4
        refine ⟨N + 1, ?_⟩
        unfold RunsN
        rw [step42, e1, e2, e3, e4]
        refine ⟨fun _ => ⟨by decide, h, .inl rfl, ?_⟩, fun e => by simp at e; omega⟩
        simp only [hle, decide_true, cond_true]
        exact hN
      · obtain ⟨N, hN⟩ := ih lo ((lo + hi) / 2) (by omega) h0 h1 (by omega) (by omega) (by omega)
        refine ⟨N + 1, ?_⟩
        unfold RunsN
        rw [step42, e1, e2, e3, e4]
        refine ⟨fun _ => ⟨by decide, h, .inl rfl, ?_⟩, fun e => by simp at e; omega⟩
        simp only [hle, decide_false, cond_false]
        exact hN
    · refine ⟨1, ?_⟩
      unfold RunsN
      rw [step42, e1]
      refine ⟨fun e => by simp at e; omega, fun _ => ⟨h, .inl rfl, ?_⟩⟩
      have hh : hi = lo + 1 := by omega
      subst hh
      rw [rt_eq h0 h1 h2] at hQ
      exact hQ
theorem loops42 : ∀ p ∈ floops Tryd.f42, LoopOK E5 (withL C25 L42) p.1 p.2 := by
  refine loops_one (ok25.withL L42) (by kernel_rfl) (by kernel_rfl) (by kernel_rfl) rfl ?_
  intro nt ks F hF vs h Q hg hh
  have hb : (bodyOf Tryd.f42 0).1 = 0 := by kernel_rfl
  rw [hb] at hF
  simp only [withL, L42, Option.some.injEq, Prod.mk.injEq] at hF
  obtain ⟨rfl, rfl, rfl⟩ := hF
  simp only at hh
  split at hh
  · rename_i n l u
    simp only [GT.holds, decide_eq_true_eq] at hh
    obtain ⟨⟨rfl, rfl, h1, h2⟩, hQ⟩ := hh
    exact runs42 _ n h Q h1 hQ _ 0 4294967296 (Nat.le_refl _) (by omega) (by omega) (by omega) (by omega) (by omega)
  · exact hh.elim
noncomputable def L53 : Nat → Option (Nat × List Nat × (List AV → Heap → GT (AExit × List AV × Heap)))
  | 0 => some (28, [0, 3, 4], fun vs h => match vs with
    | [.int .i64 n, .int .i64 l, .int .i64 u] => .need (decide (l = 0 ∧ u = 2147483648 ∧ 0 ≤ n ∧ n < 9223372036854775808)) (.leaf (.exit 0, [.int .i64 n, .int .i64 (rt n), .int .i64 0], h))
    | _ => .fail)
  | _ => none
noncomputable def ab53 : ACode := cB E5 (bodyOf Tryd.f53 0).1 (bodyOf Tryd.f53 0).2
theorem step53 (n r b : Int) (h : Heap) : lstep (withL C25 L53) ab53 28 [0, 3, 4] [.int .i64 n, .int .i64 r, .int .i64 b] h =
    .case (decide (b > 0)) (.need (!decide ((2:Int) = 0)) (.leaf (.normal, [.int .i64 n,
      .int .i64 (bif decide (IntKind.i64.wrap (r + b) ≤ 3037000499) && decide (IntKind.i64.wrap (IntKind.i64.wrap (r + b) * IntKind.i64.wrap (r + b)) ≤ n) then IntKind.i64.wrap (r + b) else r),
      .int .i64 (IntKind.i64.wrap (b.tdiv 2))], h)))
      (.leaf (.exit 0, [.int .i64 n, .int .i64 r, .int .i64 b], h)) := by kernel_rfl
theorem small_root {r n : Int} (h0 : 0 ≤ r) (h1 : r * r ≤ n) (h2 : n < 9223372036854775808) : r ≤ 3037000499 := by
  have : r < 3037000500 := sq_lt (by omega) (by omega)
  omega
theorem last53 (m : Nat) (n r : Int) (h : Heap) (Q : S3 → Prop) (h0 : 0 ≤ r) (h1 : r * r ≤ n) (h2 : n < (r + 1) * (r + 1)) (hQ : Q (.exit 0, [.int .i64 n, .int .i64 (rt n), .int .i64 0], h)) :
    ∃ N, RunsN (withL C25 L53) ab53 m 28 [0, 3, 4] Q N [.int .i64 n, .int .i64 r, .int .i64 0] h := by
  refine ⟨1, ?_⟩
  unfold RunsN
  rw [step53]
  refine ⟨fun e => by simp at e, fun _ => ⟨h, .inl rfl, ?_⟩⟩
  rw [rt_eq h0 h1 h2] at hQ
  exact hQ
theorem runs53 (m : Nat) (n : Int) (h : Heap) (Q : S3 → Prop) (hn : 0 ≤ n) (hn2 : n < 9223372036854775808) (hQ : Q (.exit 0, [.int .i64 n, .int .i64 (rt n), .int .i64 0], h)) : ∀ (k : Nat) (r b : Int), k ≤ 31 → b = 2 ^ k →
    0 ≤ r → r * r ≤ n → n < (r + 2 * b) * (r + 2 * b) → ∃ N, RunsN (withL C25 L53) ab53 m 28 [0, 3, 4] Q N [.int .i64 n, .int .i64 r, .int .i64 b] h := by
  intro k
  induction k with
  | zero =>
    intro r b hk hb h0 h1 h2
    have hb : b = 1 := by simpa using hb
    subst hb
    have hr := small_root h0 h1 hn2
    have e1 : IntKind.i64.wrap (r + 1) = r + 1 := wrap64 (by omega) (by omega)
    have e3 : IntKind.i64.wrap ((1:Int).tdiv 2) = 0 := by decide
    have key : ∃ N, RunsN (withL C25 L53) ab53 m 28 [0, 3, 4] Q N [.int .i64 n, .int .i64 (bif decide (r + 1 ≤ 3037000499) && decide (IntKind.i64.wrap ((r + 1) * (r + 1)) ≤ n) then r + 1 else r), .int .i64 0] h := by
      by_cases hle : r + 1 ≤ 3037000499
      · have e2 : IntKind.i64.wrap ((r + 1) * (r + 1)) = (r + 1) * (r + 1) := by
          have := mul_rng (a := r + 1) (b := r + 1) (m := 3037000499) (n := 3037000499) (by omega) (by omega) (by omega) (by omega)
          exact wrap64 (by omega) (by omega)
        rw [e2]
        by_cases hsq : (r + 1) * (r + 1) ≤ n
        · simp only [hle, hsq, decide_true, Bool.and_self, cond_true]
          exact last53 m n (r + 1) h Q (by omega) hsq (by rw [show r + 1 + 1 = r + 2 * 1 by omega]; exact h2) hQ
        · simp only [hle, hsq, decide_true, decide_false, Bool.and_false, cond_false]
          exact last53 m n r h Q h0 h1 (by omega) hQ
      · simp only [hle, decide_false, Bool.false_and, cond_false]
        have := sq_mono (a := 3037000500) (b := r + 1) (by omega) (by omega)
        exact last53 m n r h Q h0 h1 (by omega) hQ
    obtain ⟨N, hN⟩ := key
    refine ⟨N + 1, ?_⟩
    unfold RunsN
    rw [step53, e1, e3]
    exact ⟨fun _ => ⟨by decide, h, .inl rfl, hN⟩, fun e => by simp at e⟩
  | succ k ih =>
    intro r b hk hb h0 h1 h2
    have hp : (2:Int) ^ (k + 1) = 2 * 2 ^ k := by rw [Int.pow_succ]; omega
    have hpos : (1:Int) ≤ 2 ^ k := by
      have : (0:Int) < 2 ^ k := Int.pow_pos (by omega)
      omega
    have hub : (2:Int) ^ k ≤ 2 ^ 30 := by
      have := Nat.pow_le_pow_right (n := 2) (by omega) (show k ≤ 30 by omega)
      exact_mod_cast this
    rw [hp] at hb
    have hr := small_root h0 h1 hn2
    have e1 : IntKind.i64.wrap (r + b) = r + b := wrap64 (by omega) (by omega)
    have e3 : IntKind.i64.wrap (b.tdiv 2) = 2 ^ k := by rw [Int.tdiv_eq_ediv_of_nonneg (by omega), wrap64 (by omega) (by omega)]; omega
    have key : ∃ N, RunsN (withL C25 L53) ab53 m 28 [0, 3, 4] Q N [.int .i64 n, .int .i64 (bif decide (r + b ≤ 3037000499) && decide (IntKind.i64.wrap ((r + b) * (r + b)) ≤ n) then r + b else r), .int .i64 (2 ^ k)] h := by
      by_cases hle : r + b ≤ 3037000499
      · have e2 : IntKind.i64.wrap ((r + b) * (r + b)) = (r + b) * (r + b) := by
          have := mul_rng (a := r + b) (b := r + b) (m := 3037000499) (n := 3037000499) (by omega) (by omega) (by omega) (by omega)
          exact wrap64 (by omega) (by omega)
        rw [e2]
        by_cases hsq : (r + b) * (r + b) ≤ n
        · simp only [hle, hsq, decide_true, Bool.and_self, cond_true]
          exact ih (r + b) _ (by omega) rfl (by omega) hsq (by rw [show r + b + 2 * 2 ^ k = r + 2 * b by omega]; exact h2)
        · simp only [hle, hsq, decide_true, decide_false, Bool.and_false, cond_false]
          exact ih r _ (by omega) rfl h0 h1 (by rw [show r + 2 * 2 ^ k = r + b by omega]; omega)
      · simp only [hle, decide_false, Bool.false_and, cond_false]
        have := sq_mono (a := 3037000500) (b := r + b) (by omega) (by omega)
        exact ih r _ (by omega) rfl h0 h1 (by rw [show r + 2 * 2 ^ k = r + b by omega]; omega)
    obtain ⟨N, hN⟩ := key
    refine ⟨N + 1, ?_⟩
    unfold RunsN
    rw [step53, e1, e3]
    exact ⟨fun _ => ⟨by decide, h, .inl rfl, hN⟩, fun e => by simp at e; omega⟩
theorem loops53 : ∀ p ∈ floops Tryd.f53, LoopOK E5 (withL C25 L53) p.1 p.2 := by
  refine loops_one (ok25.withL L53) (by kernel_rfl) (by kernel_rfl) (by kernel_rfl) rfl ?_
  intro nt ks F hF vs h Q hg hh
  have hb : (bodyOf Tryd.f53 0).1 = 0 := by kernel_rfl
  rw [hb] at hF
  simp only [withL, L53, Option.some.injEq, Prod.mk.injEq] at hF
  obtain ⟨rfl, rfl, rfl⟩ := hF
  simp only at hh
  split at hh
  · rename_i n l u
    simp only [GT.holds, decide_eq_true_eq] at hh
    obtain ⟨⟨rfl, rfl, h1, h2⟩, hQ⟩ := hh
    exact runs53 _ n h Q h1 h2 hQ 31 0 2147483648 (by omega) (by decide) (by omega) (by omega) (by omega)
  · exact hh.elim
end Go.L5p

import Derived.Test.YtokkkmbdlolhnaaDoorL5pB
set_option linter.unusedVariables false
set_option linter.unusedSimpArgs false
set_option maxRecDepth 100000
namespace Go.L5p
open Go Go.Ev Go.Proofs Go.L5
def sz (a : Int) : Int := if a < 0 then -a else a
theorem mxsz {a : Int} (h : -9223372036854775807 ≤ a) (h2 : a ≤ 9223372036854775807) : mx a (IntKind.i64.wrap (0 - a)) = sz a := by
  rw [wrap64 (by omega) (by omega)]; unfold mx sz; split <;> split <;> omega
noncomputable def g56 : List AV → QR
  | [.int .i64 a] => okIf (decide (-9223372036854775807 ≤ a ∧ a ≤ 9223372036854775807)) (i6 (sz a))
  | _ => none
noncomputable def C56 : Cfg := addP C37 56 g56
theorem run56 (a : Int) : runP C37 (cF E5 Tryd.f56) [.int .i64 a] H5 =
    .leaf (i6 (mx a (IntKind.i64.wrap (0 - a)))) := by kernel_rfl
theorem ok56 : COK E5 C56 := ok37.add hlen hpl (by
  intro args cc v h hc
  unfold g56 at h
  split at h
  · rename_i a
    simp only [okIf, Option.some.injEq, Prod.mk.injEq] at h; obtain ⟨rfl, rfl⟩ := h; have hcond : -9223372036854775807 ≤ a ∧ a ≤ 9223372036854775807 := by simpa using hc
    refine pureCall ok37 Tryd.func56 (by kernel_rfl) (loops_nil (by kernel_rfl)) rfl rfl ?_
    rw [run56]
    simp only [GT.holds]; rw [mxsz (by omega) (by omega)]
  · simp at h)
theorem rnd_eq {a : Int} (h1 : -4611686014132420609 ≤ a) (h2 : a ≤ 4611686014132420609) : (bif (256 : Int).tmod 2 == 1 then IntKind.i64.wrap ((IntKind.i64.wrap (IntKind.i64.wrap (2 * sz a) + 256)).tdiv (IntKind.i64.wrap (2 * 256))) else IntKind.i64.wrap ((IntKind.i64.wrap (sz a + IntKind.i64.wrap ((256 : Int).tdiv 2))).tdiv 256)) = (sz a + 128) / 256 := by
  have hs : 0 ≤ sz a ∧ sz a ≤ 4611686014132420609 := by unfold sz; split <;> omega
  have e1 : ((256 : Int).tmod 2 == 1) = false := by decide
  have e2 : IntKind.i64.wrap ((256 : Int).tdiv 2) = 128 := by decide
  rw [e1, e2, cond_false, wrap64 (x := sz a + 128) (by omega) (by omega), Int.tdiv_eq_ediv_of_nonneg (by omega), wrap64 (by omega) (by omega)]
noncomputable def g54 : List AV → QR
  | [.int .i64 a, .int .i64 b] => okIf (decide (b = 256 ∧ -4611686014132420609 ≤ a ∧ a ≤ 4611686014132420609)) (i6 (rnd a))
  | _ => none
noncomputable def C54 : Cfg := addP C56 54 g54
theorem run54 (a b : Int) : runP C56 (cF E5 Tryd.f54) [.int .i64 a, .int .i64 b] H5 =
    .need (decide (-9223372036854775807 ≤ a ∧ a ≤ 9223372036854775807)) (.need (!decide ((2:Int) = 0)) (.need (!decide (b = 0)) (.need (!decide ((2:Int) = 0)) (.need (!b.tmod 2 == 1 || decide (-9223372036854775807 ≤ a ∧ a ≤ 9223372036854775807) && !decide (IntKind.i64.wrap (2 * b) = 0)) (.case (decide (a < 0)) (.leaf (i6 (IntKind.i64.wrap (0 - bif b.tmod 2 == 1 then IntKind.i64.wrap ((IntKind.i64.wrap (IntKind.i64.wrap (2 * sz a) + b)).tdiv (IntKind.i64.wrap (2 * b))) else IntKind.i64.wrap ((IntKind.i64.wrap (sz a + IntKind.i64.wrap (b.tdiv 2))).tdiv b))))) (.leaf (i6 (bif b.tmod 2 == 1 then IntKind.i64.wrap ((IntKind.i64.wrap (IntKind.i64.wrap (2 * sz a) + b)).tdiv (IntKind.i64.wrap (2 * b))) else IntKind.i64.wrap ((IntKind.i64.wrap (sz a + IntKind.i64.wrap (b.tdiv 2))).tdiv b))))))))) := by kernel_rfl
theorem ok54 : COK E5 C54 := ok56.add hlen hpl (by
  intro args cc v h hc
  unfold g54 at h
  split at h
  · rename_i a b
    simp only [okIf, Option.some.injEq, Prod.mk.injEq] at h; obtain ⟨rfl, rfl⟩ := h; have hcond : b = 256 ∧ -4611686014132420609 ≤ a ∧ a ≤ 4611686014132420609 := by simpa using hc
    refine pureCall ok56 Tryd.func54 (by kernel_rfl) (loops_nil (by kernel_rfl)) rfl rfl ?_
    rw [run54]
    obtain ⟨rfl, h1, h2⟩ := hcond
    refine ⟨by simp; omega, by decide, by decide, by decide, by simp, fun hn => ?_, fun hn => ?_⟩
    · simp only [decide_eq_true_eq] at hn
      simp only [GT.holds]
      rw [rnd_eq h1 h2]
      unfold rnd sz
      rw [if_pos hn, wrap64 (by omega) (by omega), if_pos hn]
      congr 1; omega
    · simp only [decide_eq_false_iff_not] at hn
      simp only [GT.holds]
      rw [rnd_eq h1 h2]
      unfold rnd sz
      rw [if_neg hn, if_neg hn]
  · simp at h)
theorem near_eq {a : Int} (h1 : 0 ≤ a) (h2 : a ≤ 4611686014132420609) : (bif decide (IntKind.i64.wrap (2 * IntKind.i64.wrap (a - IntKind.i64.wrap (IntKind.i64.wrap (a.tdiv 256) * 256))) ≥ 256) then IntKind.i64.wrap (IntKind.i64.wrap (a.tdiv 256) + 1) else IntKind.i64.wrap (a.tdiv 256)) = rnd a := by
  rw [Int.tdiv_eq_ediv_of_nonneg h1, wrap64 (x := a / 256) (by omega) (by omega), wrap64 (x := a / 256 * 256) (by omega) (by omega), wrap64 (x := a - a / 256 * 256) (by omega) (by omega), wrap64 (by omega) (by omega), wrap64 (by omega) (by omega), Bool.cond_decide]
  unfold rnd
  rw [if_neg (show ¬ a < 0 by omega)]
  split <;> omega
noncomputable def g55a : List AV → QR
  | [.int .i64 a, .int .i64 b] => okIf (decide (b = 256 ∧ 0 ≤ a ∧ a ≤ 4611686014132420609)) (i6 (rnd a))
  | _ => none
noncomputable def C55a : Cfg := addP C54 55 g55a
theorem run55a (a b : Int) : runP C54 (cF E5 Tryd.f55) [.int .i64 a, .int .i64 b] H5 =
    .case (decide (a < 0)) .fail (.need (!decide (b = 0)) (.leaf (i6 (bif decide (IntKind.i64.wrap (2 * IntKind.i64.wrap (a - IntKind.i64.wrap (IntKind.i64.wrap (a.tdiv b) * b))) ≥ b) then IntKind.i64.wrap (IntKind.i64.wrap (a.tdiv b) + 1) else IntKind.i64.wrap (a.tdiv b))))) := by kernel_rfl
theorem ok55a : COK E5 C55a := ok54.add hlen hpl (by
  intro args cc v h hc
  unfold g55a at h
  split at h
  · rename_i a b
    simp only [okIf, Option.some.injEq, Prod.mk.injEq] at h; obtain ⟨rfl, rfl⟩ := h; have hcond : b = 256 ∧ 0 ≤ a ∧ a ≤ 4611686014132420609 := by simpa using hc
    refine pureCall ok54 Tryd.func55 (by kernel_rfl) (loops_nil (by kernel_rfl)) rfl rfl ?_
    rw [run55a]
    obtain ⟨rfl, h1, h2⟩ := hcond
    refine ⟨fun hn => by simp at hn; omega, fun hn => ⟨by decide, ?_⟩⟩
    simp only [GT.holds]
    rw [near_eq h1 h2]
  · simp at h)
noncomputable def g55 : List AV → QR
  | [.int .i64 a, .int .i64 b] => okIf (decide (b = 256 ∧ -4611686014132420609 ≤ a ∧ a ≤ 4611686014132420609)) (i6 (rnd a))
  | _ => none
noncomputable def C55 : Cfg := addP C55a 55 g55
theorem run55 (a b : Int) : runP C55a (cF E5 Tryd.f55) [.int .i64 a, .int .i64 b] H5 =
    .case (decide (a < 0)) (.need (decide (b = 256 ∧ 0 ≤ IntKind.i64.wrap (0 - a) ∧ IntKind.i64.wrap (0 - a) ≤ 4611686014132420609)) (.leaf (i6 (IntKind.i64.wrap (0 - rnd (IntKind.i64.wrap (0 - a))))))) (.need (!decide (b = 0)) (.leaf (i6 (bif decide (IntKind.i64.wrap (2 * IntKind.i64.wrap (a - IntKind.i64.wrap (IntKind.i64.wrap (a.tdiv b) * b))) ≥ b) then IntKind.i64.wrap (IntKind.i64.wrap (a.tdiv b) + 1) else IntKind.i64.wrap (a.tdiv b))))) := by kernel_rfl
theorem ok55 : COK E5 C55 := ok55a.add hlen hpl (by
  intro args cc v h hc
  unfold g55 at h
  split at h
  · rename_i a b
    simp only [okIf, Option.some.injEq, Prod.mk.injEq] at h; obtain ⟨rfl, rfl⟩ := h; have hcond : b = 256 ∧ -4611686014132420609 ≤ a ∧ a ≤ 4611686014132420609 := by simpa using hc
    refine pureCall ok55a Tryd.func55 (by kernel_rfl) (loops_nil (by kernel_rfl)) rfl rfl ?_
    rw [run55]
    obtain ⟨rfl, h1, h2⟩ := hcond
    have hw : IntKind.i64.wrap (0 - a) = -a := by rw [wrap64 (by omega) (by omega)]; omega
    refine ⟨fun hn => ?_, fun hn => ?_⟩
    · simp only [decide_eq_true_eq] at hn
      rw [hw]
      refine ⟨by simp; omega, ?_⟩
      simp only [GT.holds]
      congr 1
      unfold rnd
      rw [if_neg (by omega), if_pos hn, wrap64 (by omega) (by omega)]
      omega
    · simp only [decide_eq_false_iff_not] at hn
      refine ⟨by decide, ?_⟩
      simp only [GT.holds]
      rw [near_eq (by omega) h2]
  · simp at h)
noncomputable def g51 : List AV → QR
  | [.int .i64 a, .int .i64 b] => ok (i6 (ml a b))
  | _ => none
noncomputable def C51 : Cfg := addP C55 51 g51
theorem run51 (a b : Int) : runP C55 (cF E5 Tryd.f51) [.int .i64 a, .int .i64 b] H5 =
    .need (decide ((256:Int) = 256 ∧ -4611686014132420609 ≤ IntKind.i64.wrap (bd a * bd b) ∧ IntKind.i64.wrap (bd a * bd b) ≤ 4611686014132420609)) (.leaf (i6 (bd (rnd (IntKind.i64.wrap (bd a * bd b)))))) := by kernel_rfl
theorem ok51 : COK E5 C51 := ok55.add hlen hpl (by
  intro args cc v h hc
  unfold g51 at h
  split at h
  · rename_i a b
    simp only [ok, Option.some.injEq, Prod.mk.injEq] at h; obtain ⟨rfl, rfl⟩ := h
    refine pureCall ok55 Tryd.func51 (by kernel_rfl) (loops_nil (by kernel_rfl)) rfl rfl ?_
    rw [run51]
    have hb := bdmul a b
    rw [wrap64 (by omega) (by omega)]
    exact ⟨by simp; omega, rfl⟩
  · simp at h)
noncomputable def g52 : List AV → QR
  | [.int .i64 a, .int .i64 b] => ok (i6 (ml a b))
  | _ => none
noncomputable def C52 : Cfg := addP C51 52 g52
theorem run52 (a b : Int) : runP C51 (cF E5 Tryd.f52) [.int .i64 a, .int .i64 b] H5 =
    .need (decide ((256:Int) = 256 ∧ -4611686014132420609 ≤ IntKind.i64.wrap (bd a * bd b) ∧ IntKind.i64.wrap (bd a * bd b) ≤ 4611686014132420609)) (.leaf (i6 (bd (rnd (IntKind.i64.wrap (bd a * bd b)))))) := by kernel_rfl
theorem ok52 : COK E5 C52 := ok51.add hlen hpl (by
  intro args cc v h hc
  unfold g52 at h
  split at h
  · rename_i a b
    simp only [ok, Option.some.injEq, Prod.mk.injEq] at h; obtain ⟨rfl, rfl⟩ := h
    refine pureCall ok51 Tryd.func52 (by kernel_rfl) (loops_nil (by kernel_rfl)) rfl rfl ?_
    rw [run52]
    have hb := bdmul a b
    rw [wrap64 (by omega) (by omega)]
    exact ⟨by simp; omega, rfl⟩
  · simp at h)
noncomputable def g38 : List AV → QR
  | [.agg [.int .i64 a, .int .i64 b], .int .i64 c] => ok (pt (ml a c) (ml b c))
  | _ => none
noncomputable def C38 : Cfg := addP C52 38 g38
theorem run38 (a b c : Int) : runP C52 (cF E5 Tryd.f38) [.agg [.int .i64 a, .int .i64 b], .int .i64 c] H5 =
    .leaf (pt (ml a c) (ml b c)) := by kernel_rfl
theorem ok38 : COK E5 C38 := ok52.add hlen hpl (by
  intro args cc v h hc
  unfold g38 at h
  split at h
  · rename_i a b c
    simp only [ok, Option.some.injEq, Prod.mk.injEq] at h; obtain ⟨rfl, rfl⟩ := h
    refine pureCall ok52 Tryd.func38 (by kernel_rfl) (loops_nil (by kernel_rfl)) rfl rfl ?_
    rw [run38]
    rfl
  · simp at h)
noncomputable def g39 : List AV → QR
  | [.agg [.int .i64 a, .int .i64 b], .int .i64 c] => ok (pt (ml a c) (ml b c))
  | _ => none
noncomputable def C39 : Cfg := addP C38 39 g39
theorem run39 (a b c : Int) : runP C38 (cF E5 Tryd.f39) [.agg [.int .i64 a, .int .i64 b], .int .i64 c] H5 =
    .leaf (pt (ml a c) (ml b c)) := by kernel_rfl
theorem ok39 : COK E5 C39 := ok38.add hlen hpl (by
  intro args cc v h hc
  unfold g39 at h
  split at h
  · rename_i a b c
    simp only [ok, Option.some.injEq, Prod.mk.injEq] at h; obtain ⟨rfl, rfl⟩ := h
    refine pureCall ok38 Tryd.func39 (by kernel_rfl) (loops_nil (by kernel_rfl)) rfl rfl ?_
    rw [run39]
    rfl
  · simp at h)
noncomputable def g18 : List AV → QR
  | [.int .i64 a, .int .i64 b] => ok (i6 (dir (a + b)))
  | _ => none
noncomputable def C18 : Cfg := addP C39 18 g18
theorem run18 (a b : Int) : runP C39 (cF E5 Tryd.f18) [.int .i64 a, .int .i64 b] H5 =
    .leaf (i6 (dir (IntKind.i64.wrap (dir a + dir b)))) := by kernel_rfl
theorem ok18 : COK E5 C18 := ok39.add hlen hpl (by
  intro args cc v h hc
  unfold g18 at h
  split at h
  · rename_i a b
    simp only [ok, Option.some.injEq, Prod.mk.injEq] at h; obtain ⟨rfl, rfl⟩ := h
    refine pureCall ok39 Tryd.func18 (by kernel_rfl) (loops_nil (by kernel_rfl)) rfl rfl ?_
    rw [run18]
    simp only [GT.holds]; congr 1; unfold dir; rw [wrap64 (by omega) (by omega)]; omega
  · simp at h)
noncomputable def g19 : List AV → QR
  | [.int .i64 a, .int .i64 b] => ok (i6 (dir (a + b)))
  | _ => none
noncomputable def C19 : Cfg := addP C18 19 g19
theorem run19 (a b : Int) : runP C18 (cF E5 Tryd.f19) [.int .i64 a, .int .i64 b] H5 =
    .leaf (i6 (dir (IntKind.i64.wrap (dir a + dir b)))) := by kernel_rfl
theorem ok19 : COK E5 C19 := ok18.add hlen hpl (by
  intro args cc v h hc
  unfold g19 at h
  split at h
  · rename_i a b
    simp only [ok, Option.some.injEq, Prod.mk.injEq] at h; obtain ⟨rfl, rfl⟩ := h
    refine pureCall ok18 Tryd.func19 (by kernel_rfl) (loops_nil (by kernel_rfl)) rfl rfl ?_
    rw [run19]
    simp only [GT.holds]; congr 1; unfold dir; rw [wrap64 (by omega) (by omega)]; omega
  · simp at h)
noncomputable def g16 : List AV → QR
  | [.int .i64 a] => ok (pt (ux (dir a).toNat) (uy (dir a).toNat))
  | _ => none
noncomputable def C16 : Cfg := addP C19 16 g16
theorem run16 (a : Int) : runP C19 (cF E5 Tryd.f16) [.int .i64 a] H5 =
    .need (decide (0 ≤ dir a) && decide (dir a < ((16:Nat):Int))) (.need ((dir a).toNat.blt 16) (.leaf (pt (ux (dir a).toNat) (uy (dir a).toNat)))) := by kernel_rfl
theorem ok16 : COK E5 C16 := ok19.add hlen hpl (by
  intro args cc v h hc
  unfold g16 at h
  split at h
  · rename_i a
    simp only [ok, Option.some.injEq, Prod.mk.injEq] at h; obtain ⟨rfl, rfl⟩ := h
    refine pureCall ok19 Tryd.func16 (by kernel_rfl) (loops_nil (by kernel_rfl)) rfl rfl ?_
    rw [run16]
    have h : 0 ≤ dir a ∧ dir a < 16 := by unfold dir; omega
    exact ⟨by simp; omega, by rw [Nat.blt_eq]; omega, rfl⟩
  · simp at h)
theorem chk_case (p : Bool) {a b c d : Int} (h : p = true ↔ chk a b c d ≠ 0) : (GT.case p (.leaf (i6 50)) (.leaf (i6 0))).holds (fun v => v = i6 (chk a b c d)) := by
  have hv : chk a b c d = 0 ∨ chk a b c d = 50 := by unfold chk; split <;> simp
  refine ⟨fun e => ?_, fun e => ?_⟩
  · have := h.1 e; simp only [GT.holds]; congr 1; omega
  · have : ¬ (chk a b c d ≠ 0) := fun hh => by rw [h.2 hh] at e; cases e
    simp only [GT.holds]; congr 1; omega
theorem chk_ne {a b c d : Int} : chk a b c d ≠ 0 ↔ ¬ ((bd a = a ∧ bd b = b ∧ bd c = c ∧ bd d = d) ∧ a ≤ c ∧ b ≤ d) := by
  unfold chk; split <;> simp_all
noncomputable def g26 : List AV → QR
  | [.agg [.int .i64 a, .int .i64 b, .int .i64 c, .int .i64 d]] => ok (i6 (chk a b c d))
  | _ => none
noncomputable def C26 : Cfg := addP C16 26 g26
theorem run26 (a b c d : Int) : runP C16 (cF E5 Tryd.f26) [.agg [.int .i64 a, .int .i64 b, .int .i64 c, .int .i64 d]] H5 =
    .case (!(bd a == a && (bd b == b && (bd c == c && bd d == d))) || (decide (a > c) || decide (b > d))) (.leaf (i6 50)) (.leaf (i6 0)) := by kernel_rfl
theorem ok26 : COK E5 C26 := ok16.add hlen hpl (by
  intro args cc v h hc
  unfold g26 at h
  split at h
  · rename_i a b c d
    simp only [ok, Option.some.injEq, Prod.mk.injEq] at h; obtain ⟨rfl, rfl⟩ := h
    refine pureCall ok16 Tryd.func26 (by kernel_rfl) (loops_nil (by kernel_rfl)) rfl rfl ?_
    rw [run26]
    refine chk_case _ ?_
    rw [chk_ne]
    simp only [Bool.or_eq_true, Bool.not_eq_true', Bool.and_eq_false_iff, beq_eq_false_iff_ne, decide_eq_true_eq, ne_eq]
    omega
  · simp at h)
noncomputable def g27 : List AV → QR
  | [.agg [.int .i64 a, .int .i64 b, .int .i64 c, .int .i64 d]] => ok (i6 (chk a b c d))
  | _ => none
noncomputable def C27 : Cfg := addP C26 27 g27
theorem run27 (a b c d : Int) : runP C26 (cF E5 Tryd.f27) [.agg [.int .i64 a, .int .i64 b, .int .i64 c, .int .i64 d]] H5 =
    .case (!(bd a == a && bd b == b) || (!(bd c == c && bd d == d) || (decide (a > c) || decide (b > d)))) (.leaf (i6 50)) (.leaf (i6 0)) := by kernel_rfl
theorem ok27 : COK E5 C27 := ok26.add hlen hpl (by
  intro args cc v h hc
  unfold g27 at h
  split at h
  · rename_i a b c d
    simp only [ok, Option.some.injEq, Prod.mk.injEq] at h; obtain ⟨rfl, rfl⟩ := h
    refine pureCall ok26 Tryd.func27 (by kernel_rfl) (loops_nil (by kernel_rfl)) rfl rfl ?_
    rw [run27]
    refine chk_case _ ?_
    rw [chk_ne]
    simp only [Bool.or_eq_true, Bool.not_eq_true', Bool.and_eq_false_iff, beq_eq_false_iff_ne, decide_eq_true_eq, ne_eq]
    omega
  · simp at h)
noncomputable def g24 : List AV → QR
  | [.agg [.int .i64 a, .int .i64 b], .int .i64 c] => ok (bx (sb a (cl c 0 2147483647)) (sb b (cl c 0 2147483647)) (ad a (cl c 0 2147483647)) (ad b (cl c 0 2147483647)))
  | _ => none
noncomputable def C24 : Cfg := addP C27 24 g24
theorem run24 (a b c : Int) : runP C27 (cF E5 Tryd.f24) [.agg [.int .i64 a, .int .i64 b], .int .i64 c] H5 =
    .leaf (bx (sb a (mx 0 (bd c))) (sb b (mx 0 (bd c))) (ad a (mx 0 (bd c))) (ad b (mx 0 (bd c)))) := by kernel_rfl
theorem ok24 : COK E5 C24 := ok27.add hlen hpl (by
  intro args cc v h hc
  unfold g24 at h
  split at h
  · rename_i a b c
    simp only [ok, Option.some.injEq, Prod.mk.injEq] at h; obtain ⟨rfl, rfl⟩ := h
    refine pureCall ok27 Tryd.func24 (by kernel_rfl) (loops_nil (by kernel_rfl)) rfl rfl ?_
    rw [run24]
    simp only [GT.holds, cl0]
  · simp at h)
noncomputable def g25 : List AV → QR
  | [.agg [.int .i64 a, .int .i64 b], .int .i64 c] => ok (bx (sb a (cl c 0 2147483647)) (sb b (cl c 0 2147483647)) (ad a (cl c 0 2147483647)) (ad b (cl c 0 2147483647)))
  | _ => none
noncomputable def C25 : Cfg := addP C24 25 g25
theorem run25 (a b c : Int) : runP C24 (cF E5 Tryd.f25) [.agg [.int .i64 a, .int .i64 b], .int .i64 c] H5 =
    .leaf (bx (sb a (cl c 0 2147483647)) (sb b (cl c 0 2147483647)) (ad a (cl c 0 2147483647)) (ad b (cl c 0 2147483647))) := by kernel_rfl
theorem ok25 : COK E5 C25 := ok24.add hlen hpl (by
  intro args cc v h hc
  unfold g25 at h
  split at h
  · rename_i a b c
    simp only [ok, Option.some.injEq, Prod.mk.injEq] at h; obtain ⟨rfl, rfl⟩ := h
    refine pureCall ok24 Tryd.func25 (by kernel_rfl) (loops_nil (by kernel_rfl)) rfl rfl ?_
    rw [run25]
    rfl
  · simp at h)
end Go.L5p

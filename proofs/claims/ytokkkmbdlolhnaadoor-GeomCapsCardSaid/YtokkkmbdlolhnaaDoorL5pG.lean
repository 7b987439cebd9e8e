import Derived.Test.YtokkkmbdlolhnaaDoorL5pF
set_option linter.unusedVariables false
set_option linter.unusedSimpArgs false
set_option maxRecDepth 100000
namespace Go.L5p
open Go Go.Ev Go.Proofs Go.L5
abbrev metV (a b c d x y z w : Int) : AV := .tuple [bx (m4 (met a b c d x y z w) (mx a x)) (m4 (met a b c d x y z w) (mx b y)) (m4 (met a b c d x y z w) (mn c z)) (m4 (met a b c d x y z w) (mn d w)), .bool (met a b c d x y z w)]
theorem metF {a b c d x y z w : Int} (h : ¬ (chk a b c d = 0 ∧ chk x y z w = 0 ∧ chk (mx a x) (mx b y) (mn c z) (mn d w) = 0)) : VW (metV a b c d x y z w) (.tuple [bx 0 0 0 0, .ff]) := by
  have hm : met a b c d x y z w = false := by
    cases hh : met a b c d x y z w with
    | false => rfl
    | true => exact absurd (met_iff.1 hh) h
  unfold metV
  rw [hm]
  exact VW.tuple2 (VW.refl _) (VW.ff rfl)
theorem metT {a b c d x y z w p q r s : Int} (h : chk a b c d = 0 ∧ chk x y z w = 0) (hp : mx a x = p) (hq : mx b y = q) (hr : mn c z = r) (hs : mn d w = s) (hk : chk p q r s = 0) : VW (metV a b c d x y z w) (.tuple [bx p q r s, .tt]) := by
  subst hp hq hr hs
  have hm : met a b c d x y z w = true := met_iff.2 ⟨h.1, h.2, hk⟩
  unfold metV
  rw [hm]
  exact VW.tuple2 (VW.refl _) (VW.tt rfl)
theorem or_ne {p q : Int} : (p != 0 || q != 0) = false ↔ p = 0 ∧ q = 0 := by
  simp
theorem or_ne' {p q : Int} : (p != 0 || q != 0) = true ↔ ¬ (p = 0 ∧ q = 0) := by
  simp; omega
theorem meet_tail {a b c d x y z w p q r s : Int} (h : chk a b c d = 0 ∧ chk x y z w = 0) (hp : mx a x = p) (hq : mx b y = q) (hr : mn c z = r) (hs : mn d w = s) :
    (GT.case (chk p q r s != 0) (.leaf (.tuple [bx 0 0 0 0, .ff])) (.leaf (.tuple [bx p q r s, .tt]))).holds (fun v => VW (metV a b c d x y z w) v) := by
  refine ⟨fun e => ?_, fun e => ?_⟩
  · refine metF (fun hh => ?_)
    rw [hp, hq, hr, hs] at hh
    rw [hh.2.2] at e
    cases e
  · exact metT h hp hq hr hs (by simpa using e)
theorem mxp {a x : Int} (h : decide (x > a) = true) : mx a x = x := if_pos (of_decide_eq_true h)
theorem mxn {a x : Int} (h : decide (x > a) = false) : mx a x = a := if_neg (of_decide_eq_false h)
theorem mnp {a x : Int} (h : decide (x < a) = true) : mn a x = x := if_pos (of_decide_eq_true h)
theorem mnn {a x : Int} (h : decide (x < a) = false) : mn a x = a := if_neg (of_decide_eq_false h)
noncomputable def g22 : List AV → QR
  | [.agg [.int .i64 a, .int .i64 b, .int .i64 c, .int .i64 d], .agg [.int .i64 x, .int .i64 y, .int .i64 z, .int .i64 w]] => ok (metV a b c d x y z w)
  | _ => none
noncomputable def C22 : Cfg := addP C20 22 g22
theorem run22 (a b c d x y z w : Int) : runP C20 (cF E5 Tryd.f22) [.agg [.int .i64 a, .int .i64 b, .int .i64 c, .int .i64 d], .agg [.int .i64 x, .int .i64 y, .int .i64 z, .int .i64 w]] H5 =
    (.case (chk a b c d != 0 || chk x y z w != 0) (.leaf (.tuple [bx (0) (0) (0) (0), .ff])) (.case (chk (mx a x) (mx b y) (mn c z) (mn d w) != 0) (.leaf (.tuple [bx (0) (0) (0) (0), .ff])) (.leaf (.tuple [bx (mx a x) (mx b y) (mn c z) (mn d w), .tt])))) := by kernel_rfl
theorem ok22 : COK E5 C22 := ok20.add hlen hpl (by
  intro args cc v h hc
  unfold g22 at h
  split at h
  · rename_i a b c d x y z w
    simp only [ok, Option.some.injEq, Prod.mk.injEq] at h; obtain ⟨rfl, rfl⟩ := h
    refine pureCallW ok20 Tryd.func22 (by kernel_rfl) (loops_nil (by kernel_rfl)) rfl rfl ?_
    rw [run22]
    refine ⟨fun e => metF (fun hh => or_ne'.1 e ⟨hh.1, hh.2.1⟩), fun e => ?_⟩
    have e := or_ne.1 e
    exact meet_tail e rfl rfl rfl rfl
  · simp at h)
noncomputable def g23 : List AV → QR
  | [.agg [.int .i64 a, .int .i64 b, .int .i64 c, .int .i64 d], .agg [.int .i64 x, .int .i64 y, .int .i64 z, .int .i64 w]] => ok (metV a b c d x y z w)
  | _ => none
noncomputable def C23 : Cfg := addP C22 23 g23
theorem run23 (a b c d x y z w : Int) : runP C22 (cF E5 Tryd.f23) [.agg [.int .i64 a, .int .i64 b, .int .i64 c, .int .i64 d], .agg [.int .i64 x, .int .i64 y, .int .i64 z, .int .i64 w]] H5 =
    (.case (chk a b c d != 0 || chk x y z w != 0) (.leaf (.tuple [bx (0) (0) (0) (0), .ff])) (.case (decide (x > a)) (.case (decide (y > b)) (.case (decide (z < c)) (.case (decide (w < d)) (.case (chk x y z w != 0) (.leaf (.tuple [bx (0) (0) (0) (0), .ff])) (.leaf (.tuple [bx (x) (y) (z) (w), .tt]))) (.case (chk x y z d != 0) (.leaf (.tuple [bx (0) (0) (0) (0), .ff])) (.leaf (.tuple [bx (x) (y) (z) (d), .tt])))) (.case (decide (w < d)) (.case (chk x y c w != 0) (.leaf (.tuple [bx (0) (0) (0) (0), .ff])) (.leaf (.tuple [bx (x) (y) (c) (w), .tt]))) (.case (chk x y c d != 0) (.leaf (.tuple [bx (0) (0) (0) (0), .ff])) (.leaf (.tuple [bx (x) (y) (c) (d), .tt]))))) (.case (decide (z < c)) (.case (decide (w < d)) (.case (chk x b z w != 0) (.leaf (.tuple [bx (0) (0) (0) (0), .ff])) (.leaf (.tuple [bx (x) (b) (z) (w), .tt]))) (.case (chk x b z d != 0) (.leaf (.tuple [bx (0) (0) (0) (0), .ff])) (.leaf (.tuple [bx (x) (b) (z) (d), .tt])))) (.case (decide (w < d)) (.case (chk x b c w != 0) (.leaf (.tuple [bx (0) (0) (0) (0), .ff])) (.leaf (.tuple [bx (x) (b) (c) (w), .tt]))) (.case (chk x b c d != 0) (.leaf (.tuple [bx (0) (0) (0) (0), .ff])) (.leaf (.tuple [bx (x) (b) (c) (d), .tt])))))) (.case (decide (y > b)) (.case (decide (z < c)) (.case (decide (w < d)) (.case (chk a y z w != 0) (.leaf (.tuple [bx (0) (0) (0) (0), .ff])) (.leaf (.tuple [bx (a) (y) (z) (w), .tt]))) (.case (chk a y z d != 0) (.leaf (.tuple [bx (0) (0) (0) (0), .ff])) (.leaf (.tuple [bx (a) (y) (z) (d), .tt])))) (.case (decide (w < d)) (.case (chk a y c w != 0) (.leaf (.tuple [bx (0) (0) (0) (0), .ff])) (.leaf (.tuple [bx (a) (y) (c) (w), .tt]))) (.case (chk a y c d != 0) (.leaf (.tuple [bx (0) (0) (0) (0), .ff])) (.leaf (.tuple [bx (a) (y) (c) (d), .tt]))))) (.case (decide (z < c)) (.case (decide (w < d)) (.case (chk a b z w != 0) (.leaf (.tuple [bx (0) (0) (0) (0), .ff])) (.leaf (.tuple [bx (a) (b) (z) (w), .tt]))) (.case (chk a b z d != 0) (.leaf (.tuple [bx (0) (0) (0) (0), .ff])) (.leaf (.tuple [bx (a) (b) (z) (d), .tt])))) (.case (decide (w < d)) (.case (chk a b c w != 0) (.leaf (.tuple [bx (0) (0) (0) (0), .ff])) (.leaf (.tuple [bx (a) (b) (c) (w), .tt]))) (.case (chk a b c d != 0) (.leaf (.tuple [bx (0) (0) (0) (0), .ff])) (.leaf (.tuple [bx (a) (b) (c) (d), .tt])))))))) := by kernel_rfl
theorem ok23 : COK E5 C23 := ok22.add hlen hpl (by
  intro args cc v h hc
  unfold g23 at h
  split at h
  · rename_i a b c d x y z w
    simp only [ok, Option.some.injEq, Prod.mk.injEq] at h; obtain ⟨rfl, rfl⟩ := h
    refine pureCallW ok22 Tryd.func23 (by kernel_rfl) (loops_nil (by kernel_rfl)) rfl rfl ?_
    rw [run23]
    refine ⟨fun e => metF (fun hh => or_ne'.1 e ⟨hh.1, hh.2.1⟩), fun e => ?_⟩
    have e := or_ne.1 e
    exact ⟨fun h0 => ⟨fun h1 => ⟨fun h2 => ⟨fun h3 => meet_tail e (mxp h0) (mxp h1) (mnp h2) (mnp h3), fun h3 => meet_tail e (mxp h0) (mxp h1) (mnp h2) (mnn h3)⟩, fun h2 => ⟨fun h3 => meet_tail e (mxp h0) (mxp h1) (mnn h2) (mnp h3), fun h3 => meet_tail e (mxp h0) (mxp h1) (mnn h2) (mnn h3)⟩⟩, fun h1 => ⟨fun h2 => ⟨fun h3 => meet_tail e (mxp h0) (mxn h1) (mnp h2) (mnp h3), fun h3 => meet_tail e (mxp h0) (mxn h1) (mnp h2) (mnn h3)⟩, fun h2 => ⟨fun h3 => meet_tail e (mxp h0) (mxn h1) (mnn h2) (mnp h3), fun h3 => meet_tail e (mxp h0) (mxn h1) (mnn h2) (mnn h3)⟩⟩⟩, fun h0 => ⟨fun h1 => ⟨fun h2 => ⟨fun h3 => meet_tail e (mxn h0) (mxp h1) (mnp h2) (mnp h3), fun h3 => meet_tail e (mxn h0) (mxp h1) (mnp h2) (mnn h3)⟩, fun h2 => ⟨fun h3 => meet_tail e (mxn h0) (mxp h1) (mnn h2) (mnp h3), fun h3 => meet_tail e (mxn h0) (mxp h1) (mnn h2) (mnn h3)⟩⟩, fun h1 => ⟨fun h2 => ⟨fun h3 => meet_tail e (mxn h0) (mxn h1) (mnp h2) (mnp h3), fun h3 => meet_tail e (mxn h0) (mxn h1) (mnp h2) (mnn h3)⟩, fun h2 => ⟨fun h3 => meet_tail e (mxn h0) (mxn h1) (mnn h2) (mnp h3), fun h3 => meet_tail e (mxn h0) (mxn h1) (mnn h2) (mnn h3)⟩⟩⟩⟩
  · simp at h)
noncomputable def g30 : List AV → QR
  | [.agg [.int .i64 a, .int .i64 b, .int .i64 c, .int .i64 d], .agg [.int .i64 x, .int .i64 y, .int .i64 z, .int .i64 w]] => ok (.bool (met a b c d x y z w))
  | _ => none
noncomputable def C30 : Cfg := addP C23 30 g30
theorem run30 (a b c d x y z w : Int) : runP C23 (cF E5 Tryd.f30) [.agg [.int .i64 a, .int .i64 b, .int .i64 c, .int .i64 d], .agg [.int .i64 x, .int .i64 y, .int .i64 z, .int .i64 w]] H5 =
    .leaf (.bool (met a b c d x y z w)) := by kernel_rfl
theorem ok30 : COK E5 C30 := ok23.add hlen hpl (by
  intro args cc v h hc
  unfold g30 at h
  split at h
  · rename_i a b c d x y z w
    simp only [ok, Option.some.injEq, Prod.mk.injEq] at h; obtain ⟨rfl, rfl⟩ := h
    refine pureCall ok23 Tryd.func30 (by kernel_rfl) (loops_nil (by kernel_rfl)) rfl rfl ?_
    rw [run30]
    rfl
  · simp at h)
noncomputable def g31 : List AV → QR
  | [.agg [.int .i64 a, .int .i64 b, .int .i64 c, .int .i64 d], .agg [.int .i64 x, .int .i64 y, .int .i64 z, .int .i64 w]] => ok (.bool (met a b c d x y z w))
  | _ => none
noncomputable def C31 : Cfg := addP C30 31 g31
theorem run31 (a b c d x y z w : Int) : runP C30 (cF E5 Tryd.f31) [.agg [.int .i64 a, .int .i64 b, .int .i64 c, .int .i64 d], .agg [.int .i64 x, .int .i64 y, .int .i64 z, .int .i64 w]] H5 =
    .leaf (.bool (met a b c d x y z w)) := by kernel_rfl
theorem ok31 : COK E5 C31 := ok30.add hlen hpl (by
  intro args cc v h hc
  unfold g31 at h
  split at h
  · rename_i a b c d x y z w
    simp only [ok, Option.some.injEq, Prod.mk.injEq] at h; obtain ⟨rfl, rfl⟩ := h
    refine pureCall ok30 Tryd.func31 (by kernel_rfl) (loops_nil (by kernel_rfl)) rfl rfl ?_
    rw [run31]
    rfl
  · simp at h)
noncomputable def g28 : List AV → QR
  | [.agg [.int .i64 a, .int .i64 b, .int .i64 c, .int .i64 d], .agg [.int .i64 x, .int .i64 y]] => ok (.bool (met a b c d x y x y))
  | _ => none
noncomputable def C28 : Cfg := addP C31 28 g28
theorem run28 (a b c d x y : Int) : runP C31 (cF E5 Tryd.f28) [.agg [.int .i64 a, .int .i64 b, .int .i64 c, .int .i64 d], .agg [.int .i64 x, .int .i64 y]] H5 =
    .leaf (.bool (met a b c d x y x y)) := by kernel_rfl
theorem ok28 : COK E5 C28 := ok31.add hlen hpl (by
  intro args cc v h hc
  unfold g28 at h
  split at h
  · rename_i a b c d x y
    simp only [ok, Option.some.injEq, Prod.mk.injEq] at h; obtain ⟨rfl, rfl⟩ := h
    refine pureCall ok31 Tryd.func28 (by kernel_rfl) (loops_nil (by kernel_rfl)) rfl rfl ?_
    rw [run28]
    rfl
  · simp at h)
theorem chk_pt {x y : Int} : chk x y x y = 0 ↔ bd x = x ∧ bd y = y := by
  unfold chk; constructor
  · intro h; split at h
    · rename_i hh; exact ⟨hh.1.1, hh.1.2.1⟩
    · omega
  · intro h; rw [if_pos ⟨⟨h.1, h.2, h.1, h.2⟩, Int.le_refl _, Int.le_refl _⟩]
theorem chk_zero {a b c d : Int} : chk a b c d = 0 ↔ (bd a = a ∧ bd b = b ∧ bd c = c ∧ bd d = d) ∧ a ≤ c ∧ b ≤ d := by
  unfold chk; split <;> simp_all
theorem bd_mid {a x c : Int} (h1 : bd a = a) (h2 : bd c = c) (h : a ≤ x) (k : x ≤ c) : bd x = x := by
  have := bd_rng a; have := bd_rng c; exact bd_id (by omega) (by omega)
theorem met_in {a b c d x y : Int} : met a b c d x y x y = true ↔ chk a b c d = 0 ∧ a ≤ x ∧ x ≤ c ∧ b ≤ y ∧ y ≤ d := by
  rw [met_iff, chk_pt]
  constructor
  · rintro ⟨h1, h2, h3⟩
    have k := chk_zero.1 h3
    have e1 : mx a x = x ∨ mx a x = a := by unfold mx; split <;> simp
    unfold mx mn at k
    refine ⟨h1, ?_⟩
    obtain ⟨_, k1, k2⟩ := k
    have g := chk_zero.1 h1
    split at k1 <;> split at k1 <;> split at k2 <;> split at k2 <;> omega
  · rintro ⟨h1, h2, h3, h4, h5⟩
    have g := chk_zero.1 h1
    have ex := bd_mid g.1.1 g.1.2.2.1 h2 h3
    have ey := bd_mid g.1.2.1 g.1.2.2.2 h4 h5
    have m1 : mx a x = x := by unfold mx; split <;> omega
    have m2 : mx b y = y := by unfold mx; split <;> omega
    have m3 : mn c x = x := by unfold mn; split <;> omega
    have m4 : mn d y = y := by unfold mn; split <;> omega
    rw [m1, m2, m3, m4, chk_pt]
    exact ⟨h1, ⟨ex, ey⟩, ex, ey⟩
noncomputable def g29 : List AV → QR
  | [.agg [.int .i64 a, .int .i64 b, .int .i64 c, .int .i64 d], .agg [.int .i64 x, .int .i64 y]] => ok (.bool (met a b c d x y x y))
  | _ => none
noncomputable def C29 : Cfg := addP C28 29 g29
theorem run29 (a b c d x y : Int) : runP C28 (cF E5 Tryd.f29) [.agg [.int .i64 a, .int .i64 b, .int .i64 c, .int .i64 d], .agg [.int .i64 x, .int .i64 y]] H5 =
    .leaf (.bool (chk a b c d == 0 && (decide (x ≥ a) && (decide (x ≤ c) && (decide (y ≥ b) && decide (y ≤ d)))))) := by kernel_rfl
theorem ok29 : COK E5 C29 := ok28.add hlen hpl (by
  intro args cc v h hc
  unfold g29 at h
  split at h
  · rename_i a b c d x y
    simp only [ok, Option.some.injEq, Prod.mk.injEq] at h; obtain ⟨rfl, rfl⟩ := h
    refine pureCall ok28 Tryd.func29 (by kernel_rfl) (loops_nil (by kernel_rfl)) rfl rfl ?_
    rw [run29]
    simp only [GT.holds]
    congr 1
    rw [Bool.eq_iff_iff, met_in]
    simp only [Bool.and_eq_true, beq_iff_eq, decide_eq_true_eq, ge_iff_le]
  · simp at h)
end Go.L5p

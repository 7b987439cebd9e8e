import Derived.Test.YtbgabaihahpijaaDoorL9B
set_option linter.unusedVariables false
set_option linter.unusedSimpArgs false
set_option maxRecDepth 100000
namespace Go.L9
open Go Go.Ev Go.Proofs Go.L5
/-- The place of the j-th part of a way. -/
def rp (x u j n : Int) : Int := ad x (IntKind.i64.wrap ((IntKind.i64.wrap (u * j)).tdiv n))
structure RY where
  a : Int
  b : Int
  j : Int
  hit : Bool
/-- A ray, part by part. -/
def rayN (q r : Int) (z : ByteArray) (x y u v n : Int) : Nat → Int → Int → Int → RY
  | 0, j, a, b => ⟨a, b, j, false⟩
  | d + 1, j, a, b => bif sol q r z (rp x u j n / 4096) (rp y v j n / 4096) then ⟨a, b, j, true⟩ else rayN q r z x y u v n d (j + 1) (rp x u j n) (rp y v j n)
/-- How many parts. -/
def rn (u v : Int) : Int := (mx (sz (c2 u)) (sz (c2 v)) + 63) / 64
def ry (q r : Int) (z : ByteArray) (x y u v : Int) : RY := rayN q r z (bd x) (bd y) (c2 u) (c2 v) (rn u v) (rn u v).toNat 1 (bd x) (bd y)
theorem c2_rng (a : Int) : -2048 ≤ c2 a ∧ c2 a ≤ 2048 := by
  unfold c2 cl
  rw [show bd (-2048) = -2048 by decide, show bd 2048 = 2048 by decide]
  split <;> split <;> omega
theorem bd_c2 (a : Int) : bd (c2 a) = c2 a := by have := c2_rng a; exact bd_id (by omega) (by omega)
theorem sz_rng (a : Int) : 0 ≤ sz a ∧ (sz a = a ∨ sz a = -a) := by unfold sz; split <;> omega
theorem rn_rng (u v : Int) : 0 ≤ rn u v ∧ rn u v ≤ 32 := by
  have h1 := c2_rng u; have h2 := c2_rng v; have h3 := sz_rng (c2 u); have h4 := sz_rng (c2 v)
  unfold rn mx
  split <;> omega
theorem rn_p (u v : Int) : IntKind.i64.wrap ((IntKind.i64.wrap (IntKind.i64.wrap (mx (sz (bd (c2 u))) (sz (bd (c2 v))) + 64) - 1)).tdiv 64) = rn u v := by
  have h1 := c2_rng u; have h2 := c2_rng v; have h3 := sz_rng (c2 u); have h4 := sz_rng (c2 v)
  rw [bd_c2, bd_c2]
  have hm : 0 ≤ mx (sz (c2 u)) (sz (c2 v)) ∧ mx (sz (c2 u)) (sz (c2 v)) ≤ 2048 := by unfold mx; split <;> omega
  unfold rn
  generalize mx (sz (c2 u)) (sz (c2 v)) = m at *
  rw [wrap64 (x := m + 64) (by omega) (by omega), wrap64 (x := m + 64 - 1) (by omega) (by omega), Int.tdiv_eq_ediv_of_nonneg (by omega), wrap64 (by omega) (by omega)]
  omega
theorem rn_r (u v : Int) : IntKind.i64.wrap ((IntKind.i64.wrap ((bif decide (sz (bd (c2 v)) > sz (bd (c2 u))) then sz (bd (c2 v)) else sz (bd (c2 u))) + 63)).tdiv 64) = rn u v := by
  have h1 := c2_rng u; have h2 := c2_rng v; have h3 := sz_rng (c2 u); have h4 := sz_rng (c2 v)
  rw [bd_c2, bd_c2, Bool.cond_decide]
  have e : (if sz (c2 v) > sz (c2 u) then sz (c2 v) else sz (c2 u)) = mx (sz (c2 u)) (sz (c2 v)) := rfl
  rw [e]
  have hm : 0 ≤ mx (sz (c2 u)) (sz (c2 v)) ∧ mx (sz (c2 u)) (sz (c2 v)) ≤ 2048 := by unfold mx; split <;> omega
  unfold rn
  generalize mx (sz (c2 u)) (sz (c2 v)) = m at *
  rw [wrap64 (x := m + 63) (by omega) (by omega), Int.tdiv_eq_ediv_of_nonneg (by omega), wrap64 (by omega) (by omega)]
theorem ad_rng (x y : Int) : -2147483647 ≤ ad x y ∧ ad x y ≤ 2147483647 := bd_rng _
def RV (t : AV) (n j : Int) : List AV := [.ptr 3 0 0, .ptr 4 0 0, .ptr 5 0 0, .ptr 6 0 0, t, i6 n, .ptr 7 0 0, i6 j]
def RH (q r : Int) (z : ByteArray) (x y u v s t a b : Int) : Heap := H5 ++ [some ⟨37, true, 3, 1, fun _ => [i6 q, i6 r, .str z], false⟩, some ⟨23, true, 2, 1, fun _ => [i6 x, i6 y], false⟩, some ⟨23, true, 2, 1, fun _ => [i6 u, i6 v], false⟩, some ⟨23, true, 2, 1, fun _ => [i6 s, i6 t], false⟩, some ⟨23, true, 2, 1, fun _ => [i6 a, i6 b], false⟩]
def RB (a b : Int) : Heap := [some ⟨23, true, 2, 1, fun _ => [i6 a, i6 b], false⟩]
def RT (q r : Int) (z : ByteArray) (x y u v n : Int) (s : RY) : GT S3 := .case s.hit (.leaf (.ret, RV .tt n s.j, RH q r z x y u v s.a s.b s.a s.b)) (.leaf (.exit 0, RV .ff n s.j, RH q r z x y u v 0 0 s.a s.b))
theorem RH_bel (q r : Int) (z : ByteArray) (x y u v s t a b : Int) : belH 8 (RH q r z x y u v s t a b) :=
  ⟨fun _ => rfl, fun _ => rfl, fun _ => rfl, fun _ => rfl, fun _ => rfl, fun _ => rfl, trivial⟩
theorem RH_cut (q r : Int) (z : ByteArray) (x y u v s t a b c d : Int) (w : AV) (hw : bel 8 w = true) (n j : Int) : HW 8 (RV w n j) (RH q r z x y u v s t a b ++ RB c d) (RH q r z x y u v s t a b) :=
  .cut 8 rfl (Nat.le_refl _) (by simp [RV, bels, bel, hw, Nat.blt]) (RH_bel _ _ _ _ _ _ _ _ _ _ _)
noncomputable def L_arena_Ray (q r : Int) (z : ByteArray) (x y u v : Int) : LF := loop1 0 58 [3, 4, 5, 6, 7, 8, 9, 10] (RV .ff (rn u v) 1) (RH q r z (bd x) (bd y) (c2 u) (c2 v) 0 0 (bd x) (bd y)) (RT q r z (bd x) (bd y) (c2 u) (c2 v) (rn u v) (ry q r z x y u v)) noL
noncomputable def ab_arena_Ray : ACode := cB E5 (bodyOf Tryd.f58 0).1 (bodyOf Tryd.f58 0).2
theorem step_arena_Ray (l : LF) (q r : Int) (z : ByteArray) (x y u v a b n j : Int) : lstep (withL C_r06_Solid l) ab_arena_Ray 58 [3, 4, 5, 6, 7, 8, 9, 10] (RV .ff n j) (RH q r z x y u v 0 0 a b) =
    .case (decide (j ≤ n)) (.need (!decide (n = 0)) (.need (!decide (n = 0)) (.need (decide (z.size ≤ 4611686018427387904)) (.case (sol q r z (rp x u j n / 4096) (rp y v j n / 4096)) (.leaf (.ret, RV .tt n j, RH q r z x y u v a b a b ++ RB (rp x u j n) (rp y v j n))) (.leaf (.normal, RV .ff n (IntKind.i64.wrap (j + 1)), RH q r z x y u v 0 0 (rp x u j n) (rp y v j n) ++ RB (rp x u j n) (rp y v j n)))))))
      (.leaf (.exit 0, RV .ff n j, RH q r z x y u v 0 0 a b)) := by kernel_rfl
theorem runs_arena_Ray (l : LF) {q r : Int} {z : ByteArray} (hz : z.size ≤ 4611686018427387904) (x y u v n : Int) (hn : n ≤ 32) (Q : S3 → Prop) : ∀ (d : Nat) (j a b : Int), (n + 1 - j).toNat = d → 1 ≤ j → j ≤ n + 1 →
    (RT q r z x y u v n (rayN q r z x y u v n d j a b)).holds Q → ∃ N, RunsN (withL C_r06_Solid l) ab_arena_Ray 8 58 [3, 4, 5, 6, 7, 8, 9, 10] Q N (RV .ff n j) (RH q r z x y u v 0 0 a b) := by
  intro d
  induction d with
  | zero =>
    intro j a b hd h1 h2 hQ
    refine ⟨1, ?_⟩
    unfold RunsN
    rw [step_arena_Ray]
    exact ⟨fun e => by simp at e; omega, fun _ => ⟨_, .inl rfl, hQ.2 rfl⟩⟩
  | succ d ih =>
    intro j a b hd h1 h2 hQ
    have hw : IntKind.i64.wrap (j + 1) = j + 1 := wrap64 (by omega) (by omega)
    have hn0 : (!decide (n = 0)) = true := by simp; omega
    have hx := ad_rng x (IntKind.i64.wrap ((IntKind.i64.wrap (u * j)).tdiv n))
    have hy := ad_rng y (IntKind.i64.wrap ((IntKind.i64.wrap (v * j)).tdiv n))
    have hx : -2147483647 ≤ rp x u j n ∧ rp x u j n ≤ 2147483647 := hx
    have hy : -2147483647 ≤ rp y v j n ∧ rp y v j n ≤ 2147483647 := hy
    cases hs : sol q r z (rp x u j n / 4096) (rp y v j n / 4096) with
    | true =>
      refine ⟨1, ?_⟩
      unfold RunsN
      rw [step_arena_Ray, hs]
      simp only [rayN, hs, cond_true] at hQ
      refine ⟨fun _ => ⟨hn0, hn0, by simpa using hz, ⟨fun _ => ⟨_, RH_cut _ _ _ _ _ _ _ _ _ _ _ _ _ _ rfl _ _, hQ.1 rfl⟩, fun e => by cases e⟩⟩, fun e => by simp at e; omega⟩
    | false =>
      simp only [rayN, hs, cond_false] at hQ
      obtain ⟨N, hN⟩ := ih (j + 1) (rp x u j n) (rp y v j n) (by omega) (by omega) (by omega) hQ
      refine ⟨N + 1, ?_⟩
      unfold RunsN
      rw [step_arena_Ray, hs, hw]
      refine ⟨fun _ => ⟨hn0, hn0, by simpa using hz, ⟨fun e => (by cases e), fun _ => ⟨_, RH_cut _ _ _ _ _ _ _ _ _ _ _ _ _ _ rfl _ _, hN⟩⟩⟩, fun e => by simp at e; omega⟩
theorem loops_arena_Ray {q r : Int} {z : ByteArray} (hz : z.size ≤ 4611686018427387904) (x y u v : Int) : ∀ p ∈ floops Tryd.f58, LoopOK E5 (withL C_r06_Solid (L_arena_Ray q r z x y u v)) p.1 p.2 := by
  refine loops_1 (ok_r06_Solid.withL _) (by kernel_rfl) (by kernel_rfl) (in_nil (by kernel_rfl)) rfl (nt := 58) (ks := [3, 4, 5, 6, 7, 8, 9, 10]) (VS := RV .ff (rn u v) 1) (HS := RH q r z (bd x) (bd y) (c2 u) (c2 v) 0 0 (bd x) (bd y)) (T := RT q r z (bd x) (bd y) (c2 u) (c2 v) (rn u v) (ry q r z x y u v)) ?_ ?_
  · have hb : (bodyOf Tryd.f58 0).1 = 0 := by kernel_rfl
    rw [hb]; rfl
  · intro Q hQ
    have hr := rn_rng u v
    exact runs_arena_Ray _ hz _ _ _ _ _ (by omega) Q (rn u v).toNat 1 _ _ (by omega) (by omega) (by omega) hQ
noncomputable def g_arena_Ray : List AV → QR
  | [.agg [.int .i64 q, .int .i64 r, .str z], .agg [.int .i64 x, .int .i64 y], .agg [.int .i64 u, .int .i64 v]] => okIf (decide (z.size ≤ 4611686018427387904)) (.tuple [pt (ry q r z x y u v).a (ry q r z x y u v).b, .bool (ry q r z x y u v).hit])
  | _ => none
noncomputable def C_arena_Ray : Cfg := addP C_r06_Solid 58 (fun a => g_arena_Ray (normBs a))
theorem run_arena_Ray (q r : Int) (z : ByteArray) (x y u v : Int) : runP (withL C_r06_Solid (L_arena_Ray q r z x y u v)) (cF E5 Tryd.f58) [.agg [.int .i64 q, .int .i64 r, .str z], .agg [.int .i64 x, .int .i64 y], .agg [.int .i64 u, .int .i64 v]] H5 =
    .need (!decide ((64:Int) = 0)) (.need (same (RV .ff (IntKind.i64.wrap ((IntKind.i64.wrap (IntKind.i64.wrap (mx (sz (bd (c2 u))) (sz (bd (c2 v))) + 64) - 1)).tdiv 64)) 1) (RH q r z (bd x) (bd y) (c2 u) (c2 v) 0 0 (bd x) (bd y)) (RV .ff (rn u v) 1) (RH q r z (bd x) (bd y) (c2 u) (c2 v) 0 0 (bd x) (bd y))) (.case (ry q r z x y u v).hit (.leaf (.tuple [pt (ry q r z x y u v).a (ry q r z x y u v).b, .tt])) (.leaf (.tuple [pt (ry q r z x y u v).a (ry q r z x y u v).b, .ff])))) := by kernel_rfl
theorem ok_arena_Ray : COK E5 C_arena_Ray := ok_r06_Solid.addN hlen hpl (by
  intro args cc v h hc
  unfold g_arena_Ray at h
  split at h
  · rename_i q r z x y u v
    simp only [okIf, Option.some.injEq, Prod.mk.injEq] at h; obtain ⟨rfl, rfl⟩ := h; have hcond : z.size ≤ 4611686018427387904 := by simpa using hc
    refine pureCallW (ok_r06_Solid.withL (L_arena_Ray q r z x y u v)) Tryd.func58 (by kernel_rfl) (loops_arena_Ray hcond x y u v) rfl rfl ?_
    rw [run_arena_Ray]
    rw [rn_p, same_self]
    exact ⟨rfl, rfl, fun e => VW.norm (by simp [normB, normBs, e]), fun e => VW.norm (by simp [normB, normBs, e])⟩
  · simp at h)
theorem flat_arena_Ray : Flat C_arena_Ray := flat_r06_Solid.addN (by
  intro args cc v h hc
  unfold g_arena_Ray at h
  split at h
  · simp only [okIf, Option.some.injEq, Prod.mk.injEq] at h; obtain ⟨rfl, rfl⟩ := h; exact ⟨rfl, rfl⟩
  · simp at h)
noncomputable def L_r06_Ray (q r : Int) (z : ByteArray) (x y u v : Int) : LF := loop1 0 65 [3, 4, 5, 6, 7, 10, 11, 12] (RV .ff (rn u v) 1) (RH q r z (bd x) (bd y) (c2 u) (c2 v) 0 0 (bd x) (bd y)) (RT q r z (bd x) (bd y) (c2 u) (c2 v) (rn u v) (ry q r z x y u v)) noL
noncomputable def ab_r06_Ray : ACode := cB E5 (bodyOf Tryd.f32 0).1 (bodyOf Tryd.f32 0).2
theorem step_r06_Ray (l : LF) (q r : Int) (z : ByteArray) (x y u v a b n j : Int) : lstep (withL C_arena_Ray l) ab_r06_Ray 65 [3, 4, 5, 6, 7, 10, 11, 12] (RV .ff n j) (RH q r z x y u v 0 0 a b) =
    .case (decide (j ≤ n)) (.need (!decide (n = 0)) (.need (!decide (n = 0)) (.need (decide (-9223372036854775808 ≤ rp x u j n ∧ rp x u j n < 9223372036854775808)) (.need (decide (-9223372036854775808 ≤ rp y v j n ∧ rp y v j n < 9223372036854775808)) (.need (decide (z.size ≤ 4611686018427387904 ∧ rp x u j n / 4096 < 9223372036854775808)) (.case (sol q r z (rp x u j n / 4096) (rp y v j n / 4096)) (.leaf (.ret, RV .tt n j, RH q r z x y u v a b a b ++ RB (rp x u j n) (rp y v j n))) (.leaf (.normal, RV .ff n (IntKind.i64.wrap (j + 1)), RH q r z x y u v 0 0 (rp x u j n) (rp y v j n) ++ RB (rp x u j n) (rp y v j n)))))))))
      (.leaf (.exit 0, RV .ff n j, RH q r z x y u v 0 0 a b)) := by kernel_rfl
theorem runs_r06_Ray (l : LF) {q r : Int} {z : ByteArray} (hz : z.size ≤ 4611686018427387904) (x y u v n : Int) (hn : n ≤ 32) (Q : S3 → Prop) : ∀ (d : Nat) (j a b : Int), (n + 1 - j).toNat = d → 1 ≤ j → j ≤ n + 1 →
    (RT q r z x y u v n (rayN q r z x y u v n d j a b)).holds Q → ∃ N, RunsN (withL C_arena_Ray l) ab_r06_Ray 8 65 [3, 4, 5, 6, 7, 10, 11, 12] Q N (RV .ff n j) (RH q r z x y u v 0 0 a b) := by
  intro d
  induction d with
  | zero =>
    intro j a b hd h1 h2 hQ
    refine ⟨1, ?_⟩
    unfold RunsN
    rw [step_r06_Ray]
    exact ⟨fun e => by simp at e; omega, fun _ => ⟨_, .inl rfl, hQ.2 rfl⟩⟩
  | succ d ih =>
    intro j a b hd h1 h2 hQ
    have hw : IntKind.i64.wrap (j + 1) = j + 1 := wrap64 (by omega) (by omega)
    have hn0 : (!decide (n = 0)) = true := by simp; omega
    have hx := ad_rng x (IntKind.i64.wrap ((IntKind.i64.wrap (u * j)).tdiv n))
    have hy := ad_rng y (IntKind.i64.wrap ((IntKind.i64.wrap (v * j)).tdiv n))
    have hx : -2147483647 ≤ rp x u j n ∧ rp x u j n ≤ 2147483647 := hx
    have hy : -2147483647 ≤ rp y v j n ∧ rp y v j n ≤ 2147483647 := hy
    cases hs : sol q r z (rp x u j n / 4096) (rp y v j n / 4096) with
    | true =>
      refine ⟨1, ?_⟩
      unfold RunsN
      rw [step_r06_Ray, hs]
      simp only [rayN, hs, cond_true] at hQ
      refine ⟨fun _ => ⟨hn0, hn0, by simp; omega, by simp; omega, by simp; omega, ⟨fun _ => ⟨_, RH_cut _ _ _ _ _ _ _ _ _ _ _ _ _ _ rfl _ _, hQ.1 rfl⟩, fun e => by cases e⟩⟩, fun e => by simp at e; omega⟩
    | false =>
      simp only [rayN, hs, cond_false] at hQ
      obtain ⟨N, hN⟩ := ih (j + 1) (rp x u j n) (rp y v j n) (by omega) (by omega) (by omega) hQ
      refine ⟨N + 1, ?_⟩
      unfold RunsN
      rw [step_r06_Ray, hs, hw]
      refine ⟨fun _ => ⟨hn0, hn0, by simp; omega, by simp; omega, by simp; omega, ⟨fun e => (by cases e), fun _ => ⟨_, RH_cut _ _ _ _ _ _ _ _ _ _ _ _ _ _ rfl _ _, hN⟩⟩⟩, fun e => by simp at e; omega⟩
theorem loops_r06_Ray {q r : Int} {z : ByteArray} (hz : z.size ≤ 4611686018427387904) (x y u v : Int) : ∀ p ∈ floops Tryd.f32, LoopOK E5 (withL C_arena_Ray (L_r06_Ray q r z x y u v)) p.1 p.2 := by
  refine loops_1 (ok_arena_Ray.withL _) (by kernel_rfl) (by kernel_rfl) (in_nil (by kernel_rfl)) rfl (nt := 65) (ks := [3, 4, 5, 6, 7, 10, 11, 12]) (VS := RV .ff (rn u v) 1) (HS := RH q r z (bd x) (bd y) (c2 u) (c2 v) 0 0 (bd x) (bd y)) (T := RT q r z (bd x) (bd y) (c2 u) (c2 v) (rn u v) (ry q r z x y u v)) ?_ ?_
  · have hb : (bodyOf Tryd.f32 0).1 = 0 := by kernel_rfl
    rw [hb]; rfl
  · intro Q hQ
    have hr := rn_rng u v
    exact runs_r06_Ray _ hz _ _ _ _ _ (by omega) Q (rn u v).toNat 1 _ _ (by omega) (by omega) (by omega) hQ
noncomputable def g_r06_Ray : List AV → QR
  | [.agg [.int .i64 q, .int .i64 r, .str z], .agg [.int .i64 x, .int .i64 y], .agg [.int .i64 u, .int .i64 v]] => okIf (decide (z.size ≤ 4611686018427387904)) (.tuple [pt (ry q r z x y u v).a (ry q r z x y u v).b, .bool (ry q r z x y u v).hit])
  | _ => none
noncomputable def C_r06_Ray : Cfg := addP C_arena_Ray 32 (fun a => g_r06_Ray (normBs a))
theorem run_r06_Ray (q r : Int) (z : ByteArray) (x y u v : Int) : runP (withL C_arena_Ray (L_r06_Ray q r z x y u v)) (cF E5 Tryd.f32) [.agg [.int .i64 q, .int .i64 r, .str z], .agg [.int .i64 x, .int .i64 y], .agg [.int .i64 u, .int .i64 v]] H5 =
    .need (!decide ((64:Int) = 0)) (.need (same (RV .ff (IntKind.i64.wrap ((IntKind.i64.wrap ((bif decide (sz (bd (c2 v)) > sz (bd (c2 u))) then sz (bd (c2 v)) else sz (bd (c2 u))) + 63)).tdiv 64)) 1) (RH q r z (bd x) (bd y) (c2 u) (c2 v) 0 0 (bd x) (bd y)) (RV .ff (rn u v) 1) (RH q r z (bd x) (bd y) (c2 u) (c2 v) 0 0 (bd x) (bd y))) (.case (ry q r z x y u v).hit (.leaf (.tuple [pt (ry q r z x y u v).a (ry q r z x y u v).b, .tt])) (.leaf (.tuple [pt (ry q r z x y u v).a (ry q r z x y u v).b, .ff])))) := by kernel_rfl
theorem ok_r06_Ray : COK E5 C_r06_Ray := ok_arena_Ray.addN hlen hpl (by
  intro args cc v h hc
  unfold g_r06_Ray at h
  split at h
  · rename_i q r z x y u v
    simp only [okIf, Option.some.injEq, Prod.mk.injEq] at h; obtain ⟨rfl, rfl⟩ := h; have hcond : z.size ≤ 4611686018427387904 := by simpa using hc
    refine pureCallW (ok_arena_Ray.withL (L_r06_Ray q r z x y u v)) Tryd.func32 (by kernel_rfl) (loops_r06_Ray hcond x y u v) rfl rfl ?_
    rw [run_r06_Ray]
    rw [rn_r, same_self]
    exact ⟨rfl, rfl, fun e => VW.norm (by simp [normB, normBs, e]), fun e => VW.norm (by simp [normB, normBs, e])⟩
  · simp at h)
theorem flat_r06_Ray : Flat C_r06_Ray := flat_arena_Ray.addN (by
  intro args cc v h hc
  unfold g_r06_Ray at h
  split at h
  · simp only [okIf, Option.some.injEq, Prod.mk.injEq] at h; obtain ⟨rfl, rfl⟩ := h; exact ⟨rfl, rfl⟩
  · simp at h)
end Go.L9

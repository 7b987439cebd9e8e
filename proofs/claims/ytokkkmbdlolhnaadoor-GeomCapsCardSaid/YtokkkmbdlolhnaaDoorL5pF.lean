import Derived.Test.YtokkkmbdlolhnaaDoorL5pE
set_option linter.unusedVariables false
set_option linter.unusedSimpArgs false
set_option maxRecDepth 100000
namespace Go.L5p
open Go Go.Ev Go.Proofs Go.L5
noncomputable def row32 : List AV := rowsAll (fun i => [i6 (ux i), i6 (uy i)]) 16
def H20 (x y : Int) : Heap := H5 ++ [some ⟨23, true, 2, 1, fun _ => [i6 x, i6 y], false⟩]
def P20 (vs : List AV) (h : Heap) (x y : Int) : Prop := vs = [.ptr 3 0 0, i6 0, i6 0, .agg row32, i6 0] ∧ h = H20 x y ∧ (-2147483647 ≤ x ∧ x ≤ 2147483647) ∧ (-2147483647 ≤ y ∧ y ≤ 2147483647)
open Classical in
noncomputable def D20 (vs : List AV) (h : Heap) (x y : Int) : Bool := decide (P20 vs h x y)
noncomputable def L20 : Nat → Option (Nat × List Nat × (List AV → Heap → GT (AExit × List AV × Heap)))
  | 0 => some (37, [1, 3, 4, 10, 11], fun vs h => match nth h 3 with
    | some (some B) => (match B.f 0 with
      | [.int .i64 x, .int .i64 y] => .need (D20 vs h x y) (.leaf (.exit 0, [.ptr 3 0 0, i6 (dot x y (hdN x y 15)), i6 (hdN x y 15), .agg row32, i6 16], h))
      | _ => .fail)
    | _ => .fail)
  | _ => none
noncomputable def ab20 : ACode := cB E5 (bodyOf Tryd.f20 0).1 (bodyOf Tryd.f20 0).2
abbrev dt (x y i : Int) : Int := IntKind.i64.wrap (IntKind.i64.wrap (x * ux i.toNat) + IntKind.i64.wrap (y * uy i.toNat))
theorem step20 (x y be at_ i : Int) : lstep (withL C15 L20) ab20 37 [1, 3, 4, 10, 11] [.ptr 3 0 0, i6 be, i6 at_, .agg row32, i6 i] (H20 x y) =
    .case (decide (i < 16)) (.need (decide (0 ≤ i) && decide (i < ((16:Nat):Int))) (.leaf (.normal, [.ptr 3 0 0, i6 (bif i == 0 || decide (dt x y i > be) then dt x y i else be), i6 (bif i == 0 || decide (dt x y i > be) then i else at_), .agg row32, i6 (IntKind.i64.wrap (i + 1))],
      H20 x y ++ [some ⟨23, true, 2, 1, fun _ => [i6 (ux i.toNat), i6 (uy i.toNat)], false⟩])))
      (.leaf (.exit 0, [.ptr 3 0 0, i6 be, i6 at_, .agg row32, i6 i], H20 x y)) := by kernel_rfl
theorem run20 (a b : Int) : runP (withL C15 L20) (cF E5 Tryd.f20) [.agg [.int .i64 a, .int .i64 b]] H5 =
    .need (Nat.blt 0 16) (.need (D20 [.ptr 3 0 0, i6 0, i6 0, .agg row32, i6 0] (H20 (bd a) (bd b)) (bd a) (bd b)) (.leaf (i6 (hdN (bd a) (bd b) 15)))) := by kernel_rfl
theorem uxy_rng (i : Nat) : (-256 ≤ ux i ∧ ux i ≤ 256) ∧ (-256 ≤ uy i ∧ uy i ≤ 256) := by
  by_cases h : i < 16
  · have : ∀ j : Fin 16, (-256 ≤ ux j.1 ∧ ux j.1 ≤ 256) ∧ (-256 ≤ uy j.1 ∧ uy j.1 ≤ 256) := by decide
    exact this ⟨i, h⟩
  · have hx : ∀ (l : List Int) (n : Nat), l.length ≤ n → selI l n = 0 := by
      intro l
      induction l with
      | nil => intro n _; rfl
      | cons a l ih => intro n hn; cases n with
        | zero => simp at hn
        | succ n => exact ih n (by simpa using hn)
    unfold ux uy
    rw [hx _ i (by simp; omega), hx _ i (by simp; omega)]
    omega
theorem dt_eq {x y : Int} (hx : -2147483647 ≤ x ∧ x ≤ 2147483647) (hy : -2147483647 ≤ y ∧ y ≤ 2147483647) (k : Nat) : dt x y (k : Int) = dot x y k := by
  have hu := uxy_rng k
  have h1 := mul_rng hx hu.1 (by omega) (by omega)
  have h2 := mul_rng hy hu.2 (by omega) (by omega)
  show IntKind.i64.wrap (IntKind.i64.wrap (x * ux k) + IntKind.i64.wrap (y * uy k)) = x * ux k + y * uy k
  rw [wrap64 (x := x * ux k) (by omega) (by omega), wrap64 (x := y * uy k) (by omega) (by omega), wrap64 (by omega) (by omega)]
theorem hdN_le (x y : Int) : ∀ k, hdN x y k ≤ k
  | 0 => Nat.le_refl _
  | k + 1 => by unfold hdN; split <;> have := hdN_le x y k <;> omega
theorem H20_plain (x y : Int) (b : Nat) (B : Blk) (hB : nth (H20 x y) b = some (some B)) (i j : Nat) (v : AV) (hv : nth (B.f i) j = some v) : bel 4 v = true := by
  match b with
  | 0 =>
    have hp' : some (some (⟨23, false, 2, 16, fun i => [i6 (ux i), i6 (uy i)], true⟩ : Blk)) = some (some B) := hB
    simp at hp'; subst hp'
    match j with
    | 0 => simp [nth] at hv; subst hv; rfl
    | 1 => simp [nth] at hv; subst hv; rfl
    | j + 2 => simp [nth] at hv
  | 1 => exact absurd hB (by intro h; cases h)
  | 2 => exact absurd hB (by intro h; cases h)
  | 3 =>
    have hp' : some (some (⟨23, true, 2, 1, fun _ => [i6 x, i6 y], false⟩ : Blk)) = some (some B) := hB
    simp at hp'; subst hp'
    match j with
    | 0 => simp [nth] at hv; subst hv; rfl
    | 1 => simp [nth] at hv; subst hv; rfl
    | j + 2 => simp [nth] at hv
  | p + 4 => exact absurd hB (by intro h; cases h)
def bestI (x y : Int) : Nat → Int | 0 => 0 | k + 1 => dot x y (hdN x y k)
def atI (x y : Int) : Nat → Int | 0 => 0 | k + 1 => hdN x y k
theorem runs20 {x y : Int} (hx : -2147483647 ≤ x ∧ x ≤ 2147483647) (hy : -2147483647 ≤ y ∧ y ≤ 2147483647) (Q : S3 → Prop) (hQ : Q (.exit 0, [.ptr 3 0 0, i6 (dot x y (hdN x y 15)), i6 (hdN x y 15), .agg row32, i6 16], H20 x y)) :
    ∀ (d k : Nat), k + d = 16 → ∃ N, RunsN (withL C15 L20) ab20 4 37 [1, 3, 4, 10, 11] Q N [.ptr 3 0 0, i6 (bestI x y k), i6 (atI x y k), .agg row32, i6 k] (H20 x y) := by
  intro d
  induction d with
  | zero =>
    intro k hk
    have : k = 16 := by omega
    subst this
    refine ⟨1, ?_⟩
    unfold RunsN
    rw [step20]
    exact ⟨fun e => by simp at e, fun _ => ⟨_, .inl rfl, hQ⟩⟩
  | succ d ih =>
    intro k hk
    obtain ⟨N, hN⟩ := ih (k + 1) (by omega)
    refine ⟨N + 1, ?_⟩
    unfold RunsN
    rw [step20, dt_eq hx hy]
    have hw : IntKind.i64.wrap ((k : Int) + 1) = ((k + 1 : Nat) : Int) := by rw [wrap64 (by omega) (by omega)]; omega
    have hb : (bif (k : Int) == 0 || decide (dot x y k > bestI x y k) then dot x y k else bestI x y k) = bestI x y (k + 1) ∧ (bif (k : Int) == 0 || decide (dot x y k > bestI x y k) then (k : Int) else atI x y k) = atI x y (k + 1) := by
      cases k with
      | zero => exact ⟨rfl, rfl⟩
      | succ j =>
        have hz : (((j + 1 : Nat) : Int) == 0) = false := by simp; omega
        rw [hz, Bool.false_or, Bool.cond_decide, Bool.cond_decide]
        simp only [bestI, atI, hdN]
        by_cases hgt : dot x y (j + 1) > dot x y (hdN x y j)
        · simp only [hgt, if_true, and_self]
        · simp only [hgt, if_false, and_self]
    rw [hb.1, hb.2, hw]
    refine ⟨fun _ => ⟨by simp; omega, H20 x y, .inr ⟨4, rfl, Nat.le_refl _, rfl, H20_plain x y⟩, hN⟩, fun e => by simp at e; omega⟩
theorem loops20 : ∀ p ∈ floops Tryd.f20, LoopOK E5 (withL C15 L20) p.1 p.2 := by
  refine loops_one (ok15.withL L20) (by kernel_rfl) (by kernel_rfl) (by kernel_rfl) rfl ?_
  intro nt ks F hF vs h Q hg hh
  have hb : (bodyOf Tryd.f20 0).1 = 0 := by kernel_rfl
  rw [hb] at hF
  simp only [withL, L20, Option.some.injEq, Prod.mk.injEq] at hF
  obtain ⟨rfl, rfl, rfl⟩ := hF
  simp only at hh
  split at hh
  · split at hh
    · rename_i x y hxy
      obtain ⟨hd, hQ⟩ := hh
      have hP : P20 vs h x y := by unfold D20 at hd; exact @of_decide_eq_true _ (Classical.propDecidable _) hd
      obtain ⟨rfl, rfl, hx, hy⟩ := hP
      exact runs20 hx hy Q hQ 16 0 rfl
    · exact hh.elim
  · exact hh.elim
def g20 : List AV → QR
  | [.agg [.int .i64 a, .int .i64 b]] => ok (i6 (hd a b))
  | _ => none
noncomputable def C20 : Cfg := addP C15 20 g20
theorem ok20 : COK E5 C20 := ok15.add hlen hpl (by
  intro args cc v h hc
  unfold g20 at h
  split at h
  · rename_i a b
    simp only [ok, Option.some.injEq, Prod.mk.injEq] at h; obtain ⟨rfl, rfl⟩ := h
    refine pureCall (ok15.withL L20) Tryd.func20 (by kernel_rfl) loops20 rfl rfl ?_
    rw [run20]
    have : D20 [.ptr 3 0 0, i6 0, i6 0, .agg row32, i6 0] (H20 (bd a) (bd b)) (bd a) (bd b) = true := by
      unfold D20; exact @decide_eq_true _ (Classical.propDecidable _) ⟨rfl, rfl, bd_rng a, bd_rng b⟩
    exact ⟨rfl, this, rfl⟩
  · simp at h)
end Go.L5p

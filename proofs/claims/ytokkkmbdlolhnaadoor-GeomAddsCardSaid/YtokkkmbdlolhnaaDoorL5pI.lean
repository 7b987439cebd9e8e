import Derived.Test.YtokkkmbdlolhnaaDoorL5pG
import Derived.Test.YtokkkmbdlolhnaaDoorL5H
set_option linter.unusedVariables false
set_option linter.unusedSimpArgs false
set_option maxRecDepth 100000
namespace Go.L5p
open Go Go.Ev Go.Proofs Go.L5 Go.ChangeShapes Go.WideShapes Go.RowKit
def startMap : Map := [⟨0, 0, 2, 16⟩, ⟨1, 0, 1, 16⟩, ⟨2, 0, 1, 16⟩]
/-- The world of the call, as the evaluator sees it. -/
theorem start {W : World} {rest : List (String × DataW Unit)} (h : laidMet Tryd.prog (("echelon/geom.units", YtokkkmbdlolhnaaDoor.Rows.laid_echelon_geom_units) :: rest) W) : R E5.g startMap startMap E5.Gc W W where
  below := Below.refl _ _
  len := rfl
  pre := Pre.refl _
  glob := by
    intro p g hp
    match p with
    | 0 => exact ⟨_, rfl, by simp [Env.g, E5] at hp; simp [hp], rfl⟩
    | 1 => exact ⟨_, rfl, by simp [Env.g, E5] at hp; simp [hp], rfl⟩
    | 2 => exact ⟨_, rfl, by simp [Env.g, E5] at hp; simp [hp], rfl⟩
    | p + 3 => simp [Env.g, E5] at hp
  blk := by
    intro b B hB
    match b with
    | 0 =>
      have hp' : some (some (⟨23, false, 2, 16, fun i => [i6 (ux i), i6 (uy i)], true⟩ : Blk)) = some (some B) := hB
      simp at hp'; subst hp'
      refine ⟨_, rfl, { sz := rfl, room := Nat.le_refl _, len := fun i _ => rfl, cell := fun i j v hi hv => ?_, rw_ := fun hf => (by cases hf), ro := fun _ => ?_ }⟩
      · have hc := units_cells h i hi
        match j with
        | 0 => simp [nth] at hv; subst hv; exact ⟨_, by simpa using hc.1, .int _ _⟩
        | 1 => simp [nth] at hv; subst hv; exact ⟨_, by simpa using hc.2, .int _ _⟩
        | j + 2 => simp [nth] at hv
      · have hc := (units_cells h 0 (by omega)).1
        rcases Nat.eq_zero_or_pos W.heap.size with h0 | h0
        · simp [World.cell?, h0] at hc
        · exact h0
    | 1 => exact absurd hB (by intro h; cases h)
    | 2 => exact absurd hB (by intro h; cases h)
    | p + 3 => exact absurd hB (by intro h; cases h)
  dist := by
    intro a b A B p q hA hrw
    rw [(hpl a A hA).1] at hrw; cases hrw
  held := fun p B hp => ⟨(hpl p B hp).1, hp⟩
noncomputable def awakeX : Bool := bd (far 3 4) == 5 && (capx 300 400 250 == 149 && capy 300 400 250 == 199) && (ux (dir 3).toNat == 98 && uy (dir 3).toNat == 237 && (dir (15 + 2) == 1 && hd 5 5 == 2) && (ad 1 2 == 3 && ad 0 0 == 0 && (sb 1 2 == -1 && sb 0 0 == 0) && (met (sb 0 (cl 5 0 2147483647)) (sb 0 (cl 5 0 2147483647)) (ad 0 (cl 5 0 2147483647)) (ad 0 (cl 5 0 2147483647)) 5 (-5) 5 (-5) && (met (sb 0 (cl 5 0 2147483647)) (sb 0 (cl 5 0 2147483647)) (ad 0 (cl 5 0 2147483647)) (ad 0 (cl 5 0 2147483647)) (sb 0 (cl 5 0 2147483647)) (sb 0 (cl 5 0 2147483647)) (ad 0 (cl 5 0 2147483647)) (ad 0 (cl 5 0 2147483647)) && (met (sb 0 (cl 5 0 2147483647)) (sb 0 (cl 5 0 2147483647)) (ad 0 (cl 5 0 2147483647)) (ad 0 (cl 5 0 2147483647)) (sb 0 (cl 5 0 2147483647)) (sb 0 (cl 5 0 2147483647)) (ad 0 (cl 5 0 2147483647)) (ad 0 (cl 5 0 2147483647)) && (m4 (met (sb 0 (cl 5 0 2147483647)) (sb 0 (cl 5 0 2147483647)) (ad 0 (cl 5 0 2147483647)) (ad 0 (cl 5 0 2147483647)) (sb 0 (cl 5 0 2147483647)) (sb 0 (cl 5 0 2147483647)) (ad 0 (cl 5 0 2147483647)) (ad 0 (cl 5 0 2147483647))) (mx (sb 0 (cl 5 0 2147483647)) (sb 0 (cl 5 0 2147483647))) == sb 0 (cl 5 0 2147483647) && (m4 (met (sb 0 (cl 5 0 2147483647)) (sb 0 (cl 5 0 2147483647)) (ad 0 (cl 5 0 2147483647)) (ad 0 (cl 5 0 2147483647)) (sb 0 (cl 5 0 2147483647)) (sb 0 (cl 5 0 2147483647)) (ad 0 (cl 5 0 2147483647)) (ad 0 (cl 5 0 2147483647))) (mx (sb 0 (cl 5 0 2147483647)) (sb 0 (cl 5 0 2147483647))) == sb 0 (cl 5 0 2147483647) && (m4 (met (sb 0 (cl 5 0 2147483647)) (sb 0 (cl 5 0 2147483647)) (ad 0 (cl 5 0 2147483647)) (ad 0 (cl 5 0 2147483647)) (sb 0 (cl 5 0 2147483647)) (sb 0 (cl 5 0 2147483647)) (ad 0 (cl 5 0 2147483647)) (ad 0 (cl 5 0 2147483647))) (mn (ad 0 (cl 5 0 2147483647)) (ad 0 (cl 5 0 2147483647))) == ad 0 (cl 5 0 2147483647) && m4 (met (sb 0 (cl 5 0 2147483647)) (sb 0 (cl 5 0 2147483647)) (ad 0 (cl 5 0 2147483647)) (ad 0 (cl 5 0 2147483647)) (sb 0 (cl 5 0 2147483647)) (sb 0 (cl 5 0 2147483647)) (ad 0 (cl 5 0 2147483647)) (ad 0 (cl 5 0 2147483647))) (mn (ad 0 (cl 5 0 2147483647)) (ad 0 (cl 5 0 2147483647))) == ad 0 (cl 5 0 2147483647))) && chk 1 0 0 0 == 50))))))
theorem far34 : far 3 4 = 5 := rt_eq (by decide) (by decide) (by decide)
theorem far34h : far 300 400 = 500 := rt_eq (by decide) (by decide) (by decide)
theorem cx : capx 300 400 250 = 149 := by unfold capx; rw [far34h]; decide
theorem cy : capy 300 400 250 = 199 := by unfold capy; rw [far34h]; decide
theorem awake_true : awakeX = true := by
  unfold awakeX
  rw [far34, cx, cy]
  kernel_rfl
theorem run11 : runP C29 (cF E5 Tryd.f11) [] H5 = .leaf (.bool awakeX) := by kernel_rfl
def g11 : List AV → QR
  | [] => ok (.bool true)
  | _ => none
noncomputable def C11 : Cfg := addP C29 11 g11
theorem ok11 : COK E5 C11 := ok29.add hlen hpl (by
  intro args cc v h hc
  unfold g11 at h
  split at h
  · simp only [ok, Option.some.injEq, Prod.mk.injEq] at h; obtain ⟨rfl, rfl⟩ := h
    refine pureCall ok29 Tryd.func11 (by kernel_rfl) (loops_nil (by kernel_rfl)) rfl rfl ?_
    rw [run11, awake_true]
    rfl
  · simp at h)
end Go.L5p

import Derived.Test.YtbgabaihahpijaaDoorEvS
import Derived.Test.YtbgabaihahpijaaDoorRows
import Derived.ProofKit
import Derived.Stop.LaidErr
import Derived.Deep.DeepHandedRow
import Derived.Lib.LaidTab
import Derived.Test.YtbgabaihahpijaaDoorL9W
set_option linter.unusedVariables false
set_option linter.unusedSimpArgs false
set_option maxRecDepth 100000
namespace Go.L9
open Go Go.Ev Go.Proofs Go.L5 Go.ChangeShapes Go.WideShapes Go.RowKit
theorem fire_no (a b d : Int) : (decide (a < 0) || (decide (a > 5) || (decide (b < 1) || (decide (b > 3) || (decide (d < 1) || decide (d > 1099511627776)))))) = !okF a b d := by
  rw [Bool.eq_iff_iff]
  simp only [okF, bt, Bool.or_eq_true, Bool.not_eq_true', Bool.and_eq_false_iff, decide_eq_true_eq, decide_eq_false_iff_not]
  omega
def H6 : Heap := [some ⟨23, false, 2, 16, fun i => [i6 (ux i), i6 (uy i)], true⟩, some ⟨3, false, 1, 16, fun i => [i6 (ux i)], true⟩, some ⟨3, false, 1, 16, fun i => [i6 (uy i)], true⟩]
noncomputable def E6 : Env := { P := Tryd.prog, G := [0, 1, 2], Gc := H6, pure := E5.pure }
theorem hlen_E6 : E6.Gc.length = E6.G.length := rfl
theorem hpl_E6 : plainHeld E6.Gc := by
  intro p B hp
  match p with
  | 0 =>
    have hp' : some (some (⟨23, false, 2, 16, fun i => [i6 (ux i), i6 (uy i)], true⟩ : Blk)) = some (some B) := hp
    simp at hp'; subst hp'
    refine ⟨rfl, fun i j v hv => ?_⟩
    match j with
    | 0 => simp [nth] at hv; subst hv; rfl
    | 1 => simp [nth] at hv; subst hv; rfl
    | j + 2 => simp [nth] at hv
  | 1 =>
    have hp' : some (some (⟨3, false, 1, 16, fun i => [i6 (ux i)], true⟩ : Blk)) = some (some B) := hp
    simp at hp'; subst hp'
    refine ⟨rfl, fun i j v hv => ?_⟩
    match j with
    | 0 => simp [nth] at hv; subst hv; rfl
    | j + 1 => simp [nth] at hv
  | 2 =>
    have hp' : some (some (⟨3, false, 1, 16, fun i => [i6 (uy i)], true⟩ : Blk)) = some (some B) := hp
    simp at hp'; subst hp'
    refine ⟨rfl, fun i j v hv => ?_⟩
    match j with
    | 0 => simp [nth] at hv; subst hv; rfl
    | j + 1 => simp [nth] at hv
  | p + 3 => exact absurd hp (by intro h; cases h)
theorem pureCallW_E6 {C : Cfg} (hOK : COK E6 C) {f : FuncId} {fn : Func} (hf : E6.P.funcs[f]? = some fn) (hc : (compF E6 fn).isSome = true) (hl : ∀ p ∈ floops fn, LoopOK E6 C p.1 p.2)
    {args : List AV} {v : AV} (hv : bel 0 v = true) (ha : bels 0 args = true) (hh : (runP C (cF E6 fn) args H6).holds (fun x => VW v x)) :
    CallsA E6 f args E6.Gc (fun s => VW v s.1) ∧ bel 0 v = true ∧ bels 0 args = true :=
  ⟨callsP hOK hf hc hl (Q := fun x => VW v x) hh, hv, ha⟩
theorem sub56 : ∀ p B, nth H5 p = some (some B) → nth H6 p = some (some B) := by
  intro p B hp
  match p with
  | 0 => exact hp
  | 1 => exact absurd hp (by intro h; cases h)
  | 2 => exact absurd hp (by intro h; cases h)
  | p + 3 => exact absurd hp (by intro h; cases h)
theorem to6 {C : Cfg} (hF : Flat C) (h : COK E5 C) : COK E6 C := COK.lift (P := Tryd.prog) (G := [0, 1, 2]) (Gc := H5) (Gc' := H6) (pu := E5.pure) sub56 hlen hpl hF h
theorem ok6 : COK E6 C_l09_awake := to6 flat_l09_awake ok_l09_awake
noncomputable def g_r05_Unit : List AV → QR
  | [.int .i64 a] => ok (pt (ux (dir a).toNat) (uy (dir a).toNat))
  | _ => none
noncomputable def C_r05_Unit : Cfg := addP C_l09_awake 28 (fun a => g_r05_Unit (normBs a))
theorem run_r05_Unit (a : Int) : runP C_l09_awake (cF E6 Tryd.f28) [.int .i64 a] H6 =
    (.need (decide (0 ≤ dir a) && decide (dir a < (16 : Int))) (.need ((dir a).toNat.blt 16) (.need (decide (0 ≤ dir a) && decide (dir a < (16 : Int))) (.need ((dir a).toNat.blt 16) (.leaf (.agg [(.int .i64 (ux (dir a).toNat)), (.int .i64 (uy (dir a).toNat))])))))) := by kernel_rfl
theorem ok_r05_Unit : COK E6 C_r05_Unit := ok6.addN hlen_E6 hpl_E6 (by
  intro args cc v h hc
  unfold g_r05_Unit at h
  split at h
  · rename_i a
    simp only [ok, Option.some.injEq, Prod.mk.injEq] at h; obtain ⟨rfl, rfl⟩ := h
    refine pureCallW_E6 ok6 Tryd.func28 (by kernel_rfl) (loops_nil (by kernel_rfl)) rfl rfl ?_
    rw [run_r05_Unit]
    have h : 0 ≤ dir a ∧ dir a < 16 := by unfold dir; omega
    exact ⟨by simp; omega, by rw [Nat.blt_eq]; omega, by simp; omega, by rw [Nat.blt_eq]; omega, VW.refl _⟩
  · simp at h)
theorem flat_r05_Unit : Flat C_r05_Unit := flat_l09_awake.addN (by
  intro args cc v h hc
  unfold g_r05_Unit at h
  split at h
  · simp only [ok, Option.some.injEq, Prod.mk.injEq] at h; obtain ⟨rfl, rfl⟩ := h; exact ⟨rfl, rfl⟩
  · simp at h)
noncomputable def g_r09_Fire : List AV → QR
  | [.agg [.int .i64 x, .int .i64 y, .int .i64 sx, .int .i64 sy, .int .i64 px, .int .i64 py, .int .i64 f, .int .i64 h, .int .i64 e, .bool sh, .int .i64 c, .int .i64 o, .int .i64 s], .int .i64 a, .int .i64 b, .int .i64 d] => ok (.tuple [.agg [i6 (gi (okM x y sx sy px py f h e sh c o s && okF a b d) d), i6 (gi (okM x y sx sy px py f h e sh c o s && okF a b d) a), i6 (gi (okM x y sx sy px py f h e sh c o s && okF a b d) b), i6 (gi (okM x y sx sy px py f h e sh c o s && okF a b d) (ad x (ml (ux (dir f).toNat) 1792))), i6 (gi (okM x y sx sy px py f h e sh c o s && okF a b d) (ad y (ml (uy (dir f).toNat) 1792))), i6 (gi (okM x y sx sy px py f h e sh c o s && okF a b d) (ml (ux (dir f).toNat) (256 * (7 - b)))), i6 (gi (okM x y sx sy px py f h e sh c o s && okF a b d) (ml (uy (dir f).toNat) (256 * (7 - b)))), i6 (gi (okM x y sx sy px py f h e sh c o s && okF a b d) 40)], i6 (bif okM x y sx sy px py f h e sh c o s then er (okF a b d) 1 else 80)])
  | _ => none
noncomputable def C_r09_Fire : Cfg := addP C_r05_Unit 14 (fun a => g_r09_Fire (normBs a))
theorem run_r09_Fire (x y sx sy px py f h e : Int) (sh : Bool) (c o s : Int) (a b d : Int) : runP C_r05_Unit (cF E6 Tryd.f14) [.agg [.int .i64 x, .int .i64 y, .int .i64 sx, .int .i64 sy, .int .i64 px, .int .i64 py, .int .i64 f, .int .i64 h, .int .i64 e, .bool sh, .int .i64 c, .int .i64 o, .int .i64 s], .int .i64 a, .int .i64 b, .int .i64 d] H6 =
    (.case (er (okM x y sx sy px py f h e sh c o s) 80 != 0) (.leaf (.tuple [(.agg [(.int .i64 (0)), (.int .i64 (0)), (.int .i64 (0)), (.int .i64 (0)), (.int .i64 (0)), (.int .i64 (0)), (.int .i64 (0)), (.int .i64 (0))]), (.int .i64 (er (okM x y sx sy px py f h e sh c o s) 80))])) (.case (decide (a < 0) || (decide (a > 5) || (decide (b < 1) || (decide (b > 3) || (decide (d < 1) || decide (d > 1099511627776)))))) (.leaf (.tuple [(.agg [(.int .i64 (0)), (.int .i64 (0)), (.int .i64 (0)), (.int .i64 (0)), (.int .i64 (0)), (.int .i64 (0)), (.int .i64 (0)), (.int .i64 (0))]), (.int .i64 (1))])) (.leaf (.tuple [(.agg [(.int .i64 (d)), (.int .i64 (a)), (.int .i64 (b)), (.int .i64 (ad x (ml (ux (dir f).toNat) 1792))), (.int .i64 (ad y (ml (uy (dir f).toNat) 1792))), (.int .i64 (ml (ux (dir f).toNat) (IntKind.i64.wrap (256 * IntKind.i64.wrap (7 - b))))), (.int .i64 (ml (uy (dir f).toNat) (IntKind.i64.wrap (256 * IntKind.i64.wrap (7 - b))))), (.int .i64 (40))]), (.int .i64 (0))])))) := by kernel_rfl
theorem ok_r09_Fire : COK E6 C_r09_Fire := ok_r05_Unit.addN hlen_E6 hpl_E6 (by
  intro args cc v h hc
  unfold g_r09_Fire at h
  split at h
  · rename_i x y sx sy px py f h e sh c o s a b d
    simp only [ok, Option.some.injEq, Prod.mk.injEq] at h; obtain ⟨rfl, rfl⟩ := h
    refine pureCallW_E6 ok_r05_Unit Tryd.func14 (by kernel_rfl) (loops_nil (by kernel_rfl)) rfl rfl ?_
    rw [run_r09_Fire]
    refine ⟨fun e => ?_, fun e => ⟨fun e2 => ?_, fun e2 => ?_⟩⟩
    · have k0 := (er_t (by omega)).1 e
      exact VW.norm (by simp [normB, normBs, gi, k0, er])
    · have k0 := (er_t (by omega)).2 e
      rw [fire_no, Bool.not_eq_true'] at e2
      exact VW.norm (by simp [normB, normBs, gi, k0, e2, er])
    · have k0 := (er_t (by omega)).2 e
      rw [fire_no, Bool.not_eq_false'] at e2
      have hb := bt_iff.1 (okF_b e2)
      rw [wrap64 (x := 7 - b) (by omega) (by omega), wrap64 (x := 256 * (7 - b)) (by omega) (by omega)]
      exact VW.norm (by simp [normB, normBs, gi, k0, e2, er])
  · simp at h)
theorem flat_r09_Fire : Flat C_r09_Fire := flat_r05_Unit.addN (by
  intro args cc v h hc
  unfold g_r09_Fire at h
  split at h
  · simp only [ok, Option.some.injEq, Prod.mk.injEq] at h; obtain ⟨rfl, rfl⟩ := h; exact ⟨rfl, rfl⟩
  · simp at h)

theorem start6 {W : World} {rest : List (String × DataW Unit)} (h : laidMet Tryd.prog (("echelon/geom.units", YtbgabaihahpijaaDoor.Rows.laid_echelon_geom_units) :: rest) W)
    (hx : ∀ i, i < 16 → W.cell? ⟨1, i, none⟩ = some (.int .i64 (ux i))) (hy : ∀ i, i < 16 → W.cell? ⟨2, i, none⟩ = some (.int .i64 (uy i))) : R E6.g startMap startMap E6.Gc W W where
  below := Below.refl _ _
  len := rfl
  pre := Pre.refl _
  glob := by
    intro p g hp
    match p with
    | 0 => exact ⟨_, rfl, by simp [Env.g, E6] at hp; simp [hp], rfl⟩
    | 1 => exact ⟨_, rfl, by simp [Env.g, E6] at hp; simp [hp], rfl⟩
    | 2 => exact ⟨_, rfl, by simp [Env.g, E6] at hp; simp [hp], rfl⟩
    | p + 3 => simp [Env.g, E6] at hp
  blk := by
    intro b B hB
    match b with
    | 0 =>
      have hp' : some (some (⟨23, false, 2, 16, fun i => [i6 (ux i), i6 (uy i)], true⟩ : Blk)) = some (some B) := hB
      simp at hp'; subst hp'
      refine ⟨_, rfl, { sz := rfl, room := Nat.le_refl _, len := fun i _ => rfl, cell := fun i j v hi hv => ?_, rw_ := fun hf => (by cases hf), ro := fun _ => ?_ }⟩
      · have hc := units_cells h i hi
        match j with
        | 0 => simp [nth] at hv; subst hv; exact ⟨_, by simpa using hc.1, .int _ _⟩
        | 1 => simp [nth] at hv; subst hv; exact ⟨_, by simpa using hc.2, .int _ _⟩
        | j + 2 => simp [nth] at hv
      · have hc := (units_cells h 0 (by omega)).1
        rcases Nat.eq_zero_or_pos W.heap.size with h0 | h0
        · simp [World.cell?, h0] at hc
        · exact h0
    | 1 =>
      have hp' : some (some (⟨3, false, 1, 16, fun i => [i6 (ux i)], true⟩ : Blk)) = some (some B) := hB
      simp at hp'; subst hp'
      refine ⟨_, rfl, { sz := rfl, room := Nat.le_refl _, len := fun i _ => rfl, cell := fun i j v hi hv => ?_, rw_ := fun hf => (by cases hf), ro := fun _ => ?_ }⟩
      · have hc := hx i hi
        match j with
        | 0 => simp [nth] at hv; subst hv; exact ⟨_, by simpa using hc, .int _ _⟩
        | j + 1 => simp [nth] at hv
      · have hc := hx 0 (by omega)
        rcases Nat.lt_or_ge 1 W.heap.size with h0 | h0
        · exact h0
        · simp [World.cell?, Array.getElem?_eq_none h0] at hc
    | 2 =>
      have hp' : some (some (⟨3, false, 1, 16, fun i => [i6 (uy i)], true⟩ : Blk)) = some (some B) := hB
      simp at hp'; subst hp'
      refine ⟨_, rfl, { sz := rfl, room := Nat.le_refl _, len := fun i _ => rfl, cell := fun i j v hi hv => ?_, rw_ := fun hf => (by cases hf), ro := fun _ => ?_ }⟩
      · have hc := hy i hi
        match j with
        | 0 => simp [nth] at hv; subst hv; exact ⟨_, by simpa using hc, .int _ _⟩
        | j + 1 => simp [nth] at hv
      · have hc := hy 0 (by omega)
        rcases Nat.lt_or_ge 2 W.heap.size with h0 | h0
        · exact h0
        · simp [World.cell?, Array.getElem?_eq_none h0] at hc
    | p + 3 => exact absurd hB (by intro h; cases h)
  dist := by
    intro a b A B p q hA hrw
    rw [(hpl_E6 a A hA).1] at hrw; cases hrw
  held := fun p B hp => ⟨(hpl_E6 p B hp).1, hp⟩
theorem gX : Tryd.prog.globalNamed "echelon/echelonref05.unitX" = some 1 := by kernel_rfl
theorem gY : Tryd.prog.globalNamed "echelon/echelonref05.unitY" = some 2 := by kernel_rfl
theorem gXt : (Tryd.prog.globals[1]?).map (·.type) = some 68 := by kernel_rfl
theorem gYt : (Tryd.prog.globals[2]?).map (·.type) = some 68 := by kernel_rfl
theorem und68 : Tryd.prog.underlying 68 = some (.array 16 3) := by kernel_rfl
theorem cells68 : Tryd.prog.cellsOf 68 = 16 := by kernel_rfl
theorem selI_getD : ∀ (l : List Int) (i : Nat), selI l i = l.getD i 0
  | [], i => rfl
  | x :: l, 0 => rfl
  | x :: l, i + 1 => by simpa [selI] using selI_getD l i
theorem begin6 {W : World} (hL : laidMet Tryd.prog [("echelon/echelonref05.unitX", YtbgabaihahpijaaDoor.Rows.laid_echelon_echelonref05_unitX), ("echelon/echelonref05.unitY", YtbgabaihahpijaaDoor.Rows.laid_echelon_echelonref05_unitY), ("echelon/geom.units", YtbgabaihahpijaaDoor.Rows.laid_echelon_geom_units)] W) : R E6.g startMap startMap E6.Gc W W := by
  have h2 : laidMet Tryd.prog (("echelon/echelonref05.unitY", YtbgabaihahpijaaDoor.Rows.laid_echelon_echelonref05_unitY) :: [("echelon/geom.units", YtbgabaihahpijaaDoor.Rows.laid_echelon_geom_units)]) W := laidMet.tail hL
  refine start6 (rest := []) (laidMet.tail h2) (fun i hi => ?_) (fun i hi => ?_)
  · have := (Lib.tabIs_of_head (zs := [256, 237, 181, 98, 0, -98, -181, -237, -256, -237, -181, -98, 0, 98, 181, 237]) (rest := [("echelon/echelonref05.unitY", YtbgabaihahpijaaDoor.Rows.laid_echelon_echelonref05_unitY), ("echelon/geom.units", YtbgabaihahpijaaDoor.Rows.laid_echelon_geom_units)]) gX gXt und68 und3 cells3 cells68 hL).cell gX i (by exact hi)
    rw [this, ← selI_getD]; rfl
  · have := (Lib.tabIs_of_head (zs := [0, 98, 181, 237, 256, 237, 181, 98, 0, -98, -181, -237, -256, -237, -181, -98]) (rest := [("echelon/geom.units", YtbgabaihahpijaaDoor.Rows.laid_echelon_geom_units)]) gY gYt und68 und3 cells3 cells68 h2).cell gY i (by exact hi)
    rw [this, ← selI_getD]; rfl
end Go.L9

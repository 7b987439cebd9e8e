import Derived.Test.YtbgabaihahpijaaDoorEvS
import Derived.Test.YtbgabaihahpijaaDoorRows
import Derived.ProofKit
import Derived.Deep.DeepHandedRow
import Derived.Lib.LaidTab
import Derived.Test.YtbgabaihahpijaaDoorL9F
set_option linter.unusedVariables false
set_option linter.unusedSimpArgs false
set_option maxRecDepth 100000
namespace Go.L9
open Go Go.Ev Go.Proofs Go.L5 Go.ChangeShapes Go.WideShapes Go.RowKit
noncomputable def g_l09_awake : List AV → QR
  | [] => ok (.bool true)
  | _ => none
noncomputable def C_l09_awake : Cfg := addP C_shot_Fire 8 (fun a => g_l09_awake (normBs a))
theorem run_l09_awake  : runP C_shot_Fire (cF E5 Tryd.f8) [] H5 =
    (.need (decide ((ByteArray.mk #[46, 46, 46, 46, 46, 46, 46, 46, 46]).size ≤ 4611686018427387904)) (.leaf (.bool (gi (okM (bd 0) (bd 0) 0 0 0 0 (dir 2) 100 50 false 0 0 0 && okF 1 3 7) 7 == 7 && (gi (okM (bd 0) (bd 0) 0 0 0 0 (dir 2) 100 50 false 0 0 0 && okF 1 3 7) 1 == 1 && (gi (okM (bd 0) (bd 0) 0 0 0 0 (dir 2) 100 50 false 0 0 0 && okF 1 3 7) 3 == 3 && (gi (okM (bd 0) (bd 0) 0 0 0 0 (dir 2) 100 50 false 0 0 0 && okF 1 3 7) (ad (bd 0) (ml (ux (dir (dir 2)).toNat) 1792)) == 1267 && (gi (okM (bd 0) (bd 0) 0 0 0 0 (dir 2) 100 50 false 0 0 0 && okF 1 3 7) (ad (bd 0) (ml (uy (dir (dir 2)).toNat) 1792)) == 1267 && (gi (okM (bd 0) (bd 0) 0 0 0 0 (dir 2) 100 50 false 0 0 0 && okF 1 3 7) (ml (ux (dir (dir 2)).toNat) (256 * ((7:Int) - 3))) == 724 && (gi (okM (bd 0) (bd 0) 0 0 0 0 (dir 2) 100 50 false 0 0 0 && okF 1 3 7) (ml (uy (dir (dir 2)).toNat) (256 * ((7:Int) - 3))) == 724 && gi (okM (bd 0) (bd 0) 0 0 0 0 (dir 2) 100 50 false 0 0 0 && okF 1 3 7) 40 == 40)))))) && (bif okM (bd 0) (bd 0) 0 0 0 0 (dir 2) 100 50 false 0 0 0 then er (okF 1 3 7) 1 else 80) == 0 && (okS 1 0 1 100 100 64 0 2 && gon 3 3 (ByteArray.mk #[46, 46, 46, 46, 46, 46, 46, 46, 46]) 100 100 64 0 2 && (er (okS 1 0 1 100 100 64 0 2) 90 == 0 && (gi (okS 1 0 1 100 100 64 0 2 && gon 3 3 (ByteArray.mk #[46, 46, 46, 46, 46, 46, 46, 46, 46]) 100 100 64 0 2) ((2:Int) - 1) == 1 && (gi (okS 1 0 1 100 100 64 0 2 && gon 3 3 (ByteArray.mk #[46, 46, 46, 46, 46, 46, 46, 46, 46]) 100 100 64 0 2) (ry 3 3 (ByteArray.mk #[46, 46, 46, 46, 46, 46, 46, 46, 46]) 100 100 64 0).a == 164 && gi (okS 1 0 1 100 100 64 0 2 && gon 3 3 (ByteArray.mk #[46, 46, 46, 46, 46, 46, 46, 46, 46]) 100 100 64 0 2) (ry 3 3 (ByteArray.mk #[46, 46, 46, 46, 46, 46, 46, 46, 46]) 100 100 64 0).b == 100 && ((bif bt 2 1 3 then 15 * 2 else 0) == 30 && er (okS 0 0 0 0 0 0 0 0) 90 == 90))))))))) := by kernel_rfl
theorem ok_l09_awake : COK E5 C_l09_awake := ok_shot_Fire.addN hlen hpl (by
  intro args cc v h hc
  unfold g_l09_awake at h
  split at h
  · simp only [ok, Option.some.injEq, Prod.mk.injEq] at h; obtain ⟨rfl, rfl⟩ := h
    refine pureCallW ok_shot_Fire Tryd.func8 (by kernel_rfl) (loops_nil (by kernel_rfl)) rfl rfl ?_
    rw [run_l09_awake]
    exact ⟨by kernel_rfl, VW.of_eq (by kernel_rfl)⟩
  · simp at h)
theorem flat_l09_awake : Flat C_l09_awake := flat_shot_Fire.addN (by
  intro args cc v h hc
  unfold g_l09_awake at h
  split at h
  · simp only [ok, Option.some.injEq, Prod.mk.injEq] at h; obtain ⟨rfl, rfl⟩ := h; exact ⟨rfl, rfl⟩
  · simp at h)

theorem cells3 : Tryd.prog.cellsOf 3 = 1 := by kernel_rfl
theorem und3 : Tryd.prog.underlying 3 = some (.int .i64) := by kernel_rfl
theorem lv23 : leavesOf Tryd.prog 10 23 = some [.int .i64, .int .i64] := by kernel_rfl
theorem cells23 : Tryd.prog.cellsOf 23 = 2 := by kernel_rfl
section
variable {H : Type} {enc : TypeId × Value → H} {w : World} {base : Nat} {sp : Nat → Bool} {held : Bool}
theorem pt_cells {fuel : Nat} {cs : List Value} {x : DataW H × List MemPlace} (h : DataW.trod enc Tryd.prog w base sp held fuel 23 cs = some x) :
    ∃ a b, cs = [.int .i64 a, .int .i64 b] ∧ x.1 = .agg [.lit (.int .i64 a), .lit (.int .i64 b)] := by
  have hu : ∃ f0 f1 : Field, Tryd.prog.underlying 23 = some (.struct #[f0, f1]) ∧ f0.type = 3 ∧ f0.offset = 0 ∧ f1.type = 3 ∧ f1.offset = 1 := ⟨_, _, Tryd.underlying23, rfl, rfl, rfl, rfl⟩
  obtain ⟨f0, f1, hu, t0, o0, t1, o1⟩ := hu
  obtain ⟨y0, y1, n, rfl, hl, h0, h1⟩ := trod_struct2 hu h
  rw [t0, o0, cells3] at h0
  rw [t1, o1, cells3] at h1
  obtain ⟨a, ha, rfl, _⟩ := DataW.trod_int und3 h0
  obtain ⟨b, hb, rfl, _⟩ := DataW.trod_int und3 h1
  rw [cells23] at hl
  match cs, hl with
  | [u, v], _ =>
    simp at ha hb
    exact ⟨a, b, by rw [ha, hb], rfl⟩
end
theorem units_cells {W : World} {rest : List (String × DataW Unit)} (h : laidMet Tryd.prog (("echelon/geom.units", YtbgabaihahpijaaDoor.Rows.laid_echelon_geom_units) :: rest) W) (i : Nat) (hi : i < 16) :
    W.cell? ⟨0, i * 2, none⟩ = some (.int .i64 (ux i)) ∧ W.cell? ⟨0, i * 2 + 1, none⟩ = some (.int .i64 (uy i)) := by
  obtain ⟨ps, ⟨g', t', cs, fuel, p, q, hg', ht', hvar, hd, _, _⟩, _⟩ := h
  have hg : Tryd.prog.globalNamed "echelon/geom.units" = some 0 := by kernel_rfl
  have hty : (Tryd.prog.globals[0]?).map (·.type) = some 65 := by kernel_rfl
  obtain rfl := Option.some.inj (hg.symm.trans hg')
  obtain rfl := Option.some.inj (hty.symm.trans ht')
  obtain ⟨xs, m, _, hx, hl, hxl, hel⟩ := DataW.trod_array Tryd.underlying65 hd
  have hxs : xs.map (·.1) = (List.range 16).map fun j => (.agg [.lit (.int .i64 (ux j)), .lit (.int .i64 (uy j))] : DataW Unit) := by
    have := congrArg Prod.fst hx
    have h2 : (YtbgabaihahpijaaDoor.Rows.laid_echelon_geom_units : DataW Unit) = .agg ((List.range 16).map fun j => (.agg [.lit (.int .i64 (ux j)), .lit (.int .i64 (uy j))] : DataW Unit)) := rfl
    rw [h2] at this
    exact (DataW.agg.inj this).symm
  have hi' : i < xs.length := by rw [hxl]; exact hi
  have he := hel i hi
  rw [List.getElem?_eq_getElem hi', cells23] at he
  obtain ⟨a, b, hcs, hd2⟩ := pt_cells he
  have h3 : (xs.map (·.1))[i]? = some (xs[i].1) := by simp [hi']
  rw [hxs] at h3
  simp only [List.getElem?_map, List.getElem?_range hi, Option.map_some, Option.some.injEq] at h3
  rw [hd2] at h3
  simp only [DataW.agg.injEq, List.cons.injEq, DataW.lit.injEq, Lit.int.injEq, true_and, and_true] at h3
  obtain ⟨ha, hb⟩ := h3
  subst ha hb
  have c0 := congrArg (·[0]?) hcs
  have c1 := congrArg (·[1]?) hcs
  simp only [List.getElem?_take, List.getElem?_drop] at c0 c1
  rw [World.var?_cell hg hvar, World.var?_cell hg hvar, ← Array.getElem?_toList, ← Array.getElem?_toList]
  exact ⟨by simpa using c0, by simpa using c1⟩
def startMap : Map := [⟨0, 0, 2, 16⟩, ⟨1, 0, 1, 16⟩, ⟨2, 0, 1, 16⟩]
/-- The world of the call, as the evaluator sees it. -/
theorem begin_ {W : World} {rest : List (String × DataW Unit)} (h : laidMet Tryd.prog (("echelon/geom.units", YtbgabaihahpijaaDoor.Rows.laid_echelon_geom_units) :: rest) W) : R E5.g startMap startMap E5.Gc W W where
  below := Below.refl _ _
  len := rfl
  pre := Pre.refl _
  glob := by
    intro p g hp
    match p with
    | 0 => exact ⟨_, rfl, by simp [Env.g, E5] at hp; simp [hp], rfl⟩
    | 1 => exact ⟨_, rfl, by simp [Env.g, E5] at hp; simp [hp], rfl⟩
    | 2 => exact ⟨_, rfl, by simp [Env.g, E5] at hp; simp [hp], rfl⟩
    | p + 3 => simp [Env.g, E5] at hp
  blk := by
    intro b B hB
    match b with
    | 0 =>
      have hp' : some (some (⟨23, false, 2, 16, fun i => [i6 (ux i), i6 (uy i)], true⟩ : Blk)) = some (some B) := hB
      simp at hp'; subst hp'
      refine ⟨_, rfl, { sz := rfl, room := Nat.le_refl _, len := fun i _ => rfl, cell := fun i j v hi hv => ?_, rw_ := fun hf => (by cases hf), ro := fun _ => ?_ }⟩
      · have hc := units_cells h i hi
        match j with
        | 0 => simp [nth] at hv; subst hv; exact ⟨_, by simpa using hc.1, .int _ _⟩
        | 1 => simp [nth] at hv; subst hv; exact ⟨_, by simpa using hc.2, .int _ _⟩
        | j + 2 => simp [nth] at hv
      · have hc := (units_cells h 0 (by omega)).1
        rcases Nat.eq_zero_or_pos W.heap.size with h0 | h0
        · simp [World.cell?, h0] at hc
        · exact h0
    | 1 => exact absurd hB (by intro h; cases h)
    | 2 => exact absurd hB (by intro h; cases h)
    | p + 3 => exact absurd hB (by intro h; cases h)
  dist := by
    intro a b A B p q hA hrw
    rw [(hpl a A hA).1] at hrw; cases hrw
  held := fun p B hp => ⟨(hpl p B hp).1, hp⟩
end Go.L9

import Derived.Test.YtokkkmbdlolhnaaDoorL5A
import Derived.Test.YtokkkmbdlolhnaaDoorEvQ
import Derived.Test.YtokkkmbdlolhnaaDoorRows
import Derived.ProofKit
import Derived.Deep.DeepHandedRow
import Derived.Lib.LaidTab
set_option linter.unusedVariables false
set_option linter.unusedSimpArgs false
set_option maxRecDepth 100000
namespace Go.L5
open Go Go.Ev Go.Proofs Go.ChangeShapes Go.WideShapes Go.RowKit
section
variable {H : Type} {enc : TypeId × Value → H} {w : World} {base : Nat} {sp : Nat → Bool} {held : Bool}
theorem cells3 : Tryd.prog.cellsOf 3 = 1 := by kernel_rfl
theorem cells23 : Tryd.prog.cellsOf 23 = 2 := by kernel_rfl
theorem cells32 : Tryd.prog.cellsOf 32 = 4 := by kernel_rfl
theorem cells49 : Tryd.prog.cellsOf 49 = 32 := by kernel_rfl
theorem und3 : Tryd.prog.underlying 3 = some (.int .i64) := by kernel_rfl
theorem und23 : ∃ f0 f1 : Field, Tryd.prog.underlying 23 = some (.struct #[f0, f1]) ∧ f0.type = 3 ∧ f0.offset = 0 ∧ f1.type = 3 ∧ f1.offset = 1 := ⟨_, _, Tryd.underlying23, rfl, rfl, rfl, rfl⟩
theorem und32 : ∃ f0 f1 : Field, Tryd.prog.underlying 32 = some (.struct #[f0, f1]) ∧ f0.type = 23 ∧ f0.offset = 0 ∧ f1.type = 23 ∧ f1.offset = 2 := ⟨_, _, Tryd.underlying32, rfl, rfl, rfl, rfl⟩
theorem pt_cells {fuel : Nat} {cs : List Value} {x : DataW H × List MemPlace} (h : DataW.trod enc Tryd.prog w base sp held fuel 23 cs = some x) :
    ∃ a b, cs = [.int .i64 a, .int .i64 b] ∧ x.1 = .agg [.lit (.int .i64 a), .lit (.int .i64 b)] := by
  obtain ⟨f0, f1, hu, t0, o0, t1, o1⟩ := und23
  obtain ⟨y0, y1, n, rfl, hl, h0, h1⟩ := trod_struct2 hu h
  rw [t0, o0, cells3] at h0
  rw [t1, o1, cells3] at h1
  obtain ⟨a, ha, rfl, _⟩ := DataW.trod_int und3 h0
  obtain ⟨b, hb, rfl, _⟩ := DataW.trod_int und3 h1
  rw [cells23] at hl
  match cs, hl with
  | [u, v], _ =>
    simp at ha hb
    exact ⟨a, b, by rw [ha, hb], rfl⟩
theorem bx_cells {fuel : Nat} {cs : List Value} {x : DataW H × List MemPlace} (h : DataW.trod enc Tryd.prog w base sp held fuel 32 cs = some x) :
    ∃ a b c d, cs = [.int .i64 a, .int .i64 b, .int .i64 c, .int .i64 d] := by
  obtain ⟨f0, f1, hu, t0, o0, t1, o1⟩ := und32
  obtain ⟨y0, y1, n, rfl, hl, h0, h1⟩ := trod_struct2 hu h
  rw [t0, o0, cells23] at h0
  rw [t1, o1, cells23] at h1
  obtain ⟨a, b, ha, _⟩ := pt_cells h0
  obtain ⟨c, d, hb, _⟩ := pt_cells h1
  rw [cells32] at hl
  match cs, hl with
  | [u, v, u', v'], _ =>
    simp at ha hb
    exact ⟨a, b, c, d, by rw [ha.1, ha.2, hb.1, hb.2]⟩
theorem open_pt {r : Reach} {b0 : Nat} {v : Value} {d : DataW H} {ps : List MemPlace} (hval : Value.okWide Tryd.prog w r b0 23 v) (hd : DataW.Trod enc Tryd.prog w base sp held 23 v d ps) :
    ∃ a b, v = .agg #[.int .i64 a, .int .i64 b] := by
  obtain ⟨f0, f1, hu, _⟩ := und23
  obtain ⟨cs, rfl, _⟩ := okWide_struct hu hval
  obtain ⟨fuel, hf⟩ := hd
  obtain ⟨a, b, h, _⟩ := pt_cells hf
  have h : cs.toList = _ := h
  exact ⟨a, b, by rw [← Array.toArray_toList (xs := cs), h]⟩
theorem open_bx {r : Reach} {b0 : Nat} {v : Value} {d : DataW H} {ps : List MemPlace} (hval : Value.okWide Tryd.prog w r b0 32 v) (hd : DataW.Trod enc Tryd.prog w base sp held 32 v d ps) :
    ∃ a b c d, v = .agg #[.int .i64 a, .int .i64 b, .int .i64 c, .int .i64 d] := by
  obtain ⟨f0, f1, hu, _⟩ := und32
  obtain ⟨cs, rfl, _⟩ := okWide_struct hu hval
  obtain ⟨fuel, hf⟩ := hd
  obtain ⟨a, b, c, d, h⟩ := bx_cells hf
  have h : cs.toList = _ := h
  exact ⟨a, b, c, d, by rw [← Array.toArray_toList (xs := cs), h]⟩
end
theorem units_cells {W : World} {rest : List (String × DataW Unit)} (h : laidMet Tryd.prog (("echelon/geom.units", YtokkkmbdlolhnaaDoor.Rows.laid_echelon_geom_units) :: rest) W) (i : Nat) (hi : i < 16) :
    W.cell? ⟨0, i * 2, none⟩ = some (.int .i64 (ux i)) ∧ W.cell? ⟨0, i * 2 + 1, none⟩ = some (.int .i64 (uy i)) := by
  obtain ⟨ps, ⟨g', t', cs, fuel, p, q, hg', ht', hvar, hd, _, _⟩, _⟩ := h
  have hg : Tryd.prog.globalNamed "echelon/geom.units" = some 0 := by kernel_rfl
  have hty : (Tryd.prog.globals[0]?).map (·.type) = some 49 := by kernel_rfl
  obtain rfl := Option.some.inj (hg.symm.trans hg')
  obtain rfl := Option.some.inj (hty.symm.trans ht')
  obtain ⟨xs, m, _, hx, hl, hxl, hel⟩ := DataW.trod_array Tryd.underlying49 hd
  have hxs : xs.map (·.1) = (List.range 16).map fun j => (.agg [.lit (.int .i64 (ux j)), .lit (.int .i64 (uy j))] : DataW Unit) := by
    have := congrArg Prod.fst hx
    have h2 : (YtokkkmbdlolhnaaDoor.Rows.laid_echelon_geom_units : DataW Unit) = .agg ((List.range 16).map fun j => (.agg [.lit (.int .i64 (ux j)), .lit (.int .i64 (uy j))] : DataW Unit)) := rfl
    rw [h2] at this
    exact (DataW.agg.inj this).symm
  have hi' : i < xs.length := by rw [hxl]; exact hi
  have he := hel i hi
  rw [List.getElem?_eq_getElem hi', cells23] at he
  obtain ⟨a, b, hcs, hd2⟩ := pt_cells he
  have h3 : (xs.map (·.1))[i]? = some (xs[i].1) := by simp [hi']
  rw [hxs] at h3
  simp only [List.getElem?_map, List.getElem?_range hi, Option.map_some, Option.some.injEq] at h3
  rw [hd2] at h3
  simp only [DataW.agg.injEq, List.cons.injEq, DataW.lit.injEq, Lit.int.injEq, true_and, and_true] at h3
  obtain ⟨ha, hb⟩ := h3
  subst ha hb
  have c0 := congrArg (·[0]?) hcs
  have c1 := congrArg (·[1]?) hcs
  simp only [List.getElem?_take, List.getElem?_drop] at c0 c1
  rw [World.var?_cell hg hvar, World.var?_cell hg hvar, ← Array.getElem?_toList, ← Array.getElem?_toList]
  exact ⟨by simpa using c0, by simpa using c1⟩
end Go.L5

import Derived.Test.YtbgabaihahpijaaDoorEvD
set_option linter.unusedVariables false
set_option linter.unusedSimpArgs false
namespace Go.Ev
open Go Go.RowKit

theorem addr_add (b o k : Nat) : (⟨b, o, none⟩ : Addr).add k = ⟨b, o + k, none⟩ := by unfold Addr.add; split <;> simp_all
theorem list_of {ρ : Map} : ∀ (vs : List AV) (f : Nat → Option Value), (∀ (k : Nat) (v : AV), vs[k]? = some v → ∃ u, f k = some u ∧ VRel ρ v u) →
    ∃ us, VRels ρ vs us ∧ ∀ (k : Nat) (u : Value), us[k]? = some u → f k = some u
  | [], f, _ => ⟨[], .nil, fun k u h => by simp at h⟩
  | v :: vs, f, h => by
    obtain ⟨u, hu, hr⟩ := h 0 v (by simp)
    obtain ⟨us, hus, hf⟩ := list_of vs (fun k => f (k + 1)) (fun k x hx => h (k + 1) x (by simpa using hx))
    refine ⟨u :: us, .cons _ _ _ _ hr hus, ?_⟩
    rintro (_ | k) y hy
    · simp at hy; subst hy; exact hu
    · exact hf k y (by simpa using hy)
theorem run_sizeOf' (P : Program) (t : TypeId) (inf : TypeInfo) (hi : P.info? t = some inf) (w : World) : (sizeOf t).run P w = .ok (P.cellsOf t) w := by
  simp [sizeOf, typeInfo, Program.cellsOf, hi]
theorem load_run {P : Program} {ρ : Map} {w0 w : World} {p : Pl} {B : Blk} (hB : BRel ρ w0 w p B) {i : Nat} (hi : i < B.n) {agg : Bool} {n j : Nat} {v : AV} (hcut : cut agg n j (B.f i) = some v)
    (t : TypeId) (hu : (P.underlying t).isSome) (inf : TypeInfo) (hinf : P.info? t = some inf) (hag : isAggP P t = agg) (hn : P.cellsOf t = n) :
    ∃ u, (loadVar t ⟨p.blk, p.shift + (i * p.sz + j), none⟩).run P w = .ok u w ∧ VRel ρ v u := by
  unfold loadVar
  simp only [Sem.run_bind, run_isAgg P t hu, Result.andThen_ok, hag]
  cases agg with
  | false =>
    simp only [cut] at hcut
    obtain ⟨u, hu', hr⟩ := hB.cell i j v hi hcut
    refine ⟨u, ?_, hr⟩
    simp [hu']
  | true =>
    simp only [cut] at hcut
    split at hcut
    · rename_i hl
      simp at hcut; subst hcut
      rw [lenEq_iff] at hl
      rw [takeN_eq, dropN_eq] at hl ⊢
      obtain ⟨us, hus, hf⟩ := list_of (((B.f i).drop j).take n) (fun k => w.cell? ⟨p.blk, p.shift + (i * p.sz + j) + k, none⟩) (fun k x hx => by
        rw [List.getElem?_take] at hx
        split at hx
        · rw [List.getElem?_drop, ← nth_eq] at hx
          obtain ⟨u, hu', hr⟩ := hB.cell i (j + k) x hi hx
          exact ⟨u, by rw [← hu']; congr 2; omega, hr⟩
        · simp at hx)
      refine ⟨.agg us.toArray, ?_, .agg _ _ hus⟩
      have hlen : us.length = n := by rw [← hus.length]; exact hl
      simp only [if_true, Sem.run_bind, run_sizeOf' P t inf hinf, Result.andThen_ok, hn]
      rw [← hlen, run_loadCells_list w _ us (fun k u hk => by rw [addr_add]; exact hf k u hk)]
      simp
    · simp at hcut

theorem VRel.ptrInv {ρ : Map} {b i j : Nat} {u : Value} (h : VRel ρ (.ptr b i j) u) : ∃ p, nth ρ b = some p ∧ u = .pointer (some ⟨p.blk, p.shift + (i * p.sz + j), none⟩) := by
  cases h; exact ⟨_, by assumption, rfl⟩
theorem bget_some {h : Heap} {b : Nat} {B : Blk} (hb : bget h b = some B) : nth h b = some (some B) := by
  unfold bget at hb
  split at hb
  · rename_i B' hB'; simp at hb; subst hb; exact hB'
  · simp at hb
section
variable {E : Env} {C : Cfg} {ρ0 ρ : Map} {h : Heap} {w0 w : World} {ts : List AV} {a : Act}
theorem R.at_ (hR : R E.g ρ0 ρ h w0 w) {b : Nat} {B : Blk} (hb : bget h b = some B) {p : Pl} (hp : nth ρ b = some p) : BRel ρ w0 w p B := by
  obtain ⟨q, hq, hB⟩ := hR.blk b B (bget_some hb)
  rw [hp] at hq; simp at hq; subst hq; exact hB
theorem binInt_run {op : BinOp} {k : IntKind} {x y : Int} {c : Option Bool} {v : AV} (hb : binInt op k x y = some (c, v)) (hc : c ≠ some false) (t : TypeId) :
    ∃ u, (binOp op t (.int k x) (.int k y)).run E.P w = .ok u w ∧ VRel ρ v u := by
  cases op <;> simp only [binInt, ok, okIf, Option.some.injEq, Prod.mk.injEq] at hb <;> obtain ⟨rfl, rfl⟩ := hb <;> (refine ⟨_, ?_, by first | exact VRel.int _ _ | exact VRel.bool _⟩) <;>
    simp [binOp, Op.intArith, Op.intDiv, Op.intBits, Op.intCmp, Op.shift, bits] at hc ⊢ <;> (first | rfl | exact hc | omega | (intro hx; omega) | skip)
theorem shift_run {op : BinOp} (hop : op = .shl ∨ op = .shr) {k k' : IntKind} {x y : Int} {c : Option Bool} {v : AV} (hb : binInt op k x y = some (c, v)) (hc : c ≠ some false) (t : TypeId) :
    ∃ u, (binOp op t (.int k x) (.int k' y)).run E.P w = .ok u w ∧ VRel ρ v u := by
  rcases hop with rfl | rfl <;> simp only [binInt, ok, okIf, Option.some.injEq, Prod.mk.injEq] at hb <;> obtain ⟨rfl, rfl⟩ := hb <;> (refine ⟨_, ?_, VRel.int _ _⟩) <;> simp [binOp, Op.shift] at hc ⊢ <;> omega
end
end Go.Ev

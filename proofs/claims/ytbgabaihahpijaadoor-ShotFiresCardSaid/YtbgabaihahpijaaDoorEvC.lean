import Derived.Test.YtbgabaihahpijaaDoorEvB
import Derived.Laws.Tables
set_option linter.unusedVariables false
set_option linter.unusedSimpArgs false
namespace Go.Ev
open Go Go.RowKit

theorem ofV_rel (ρ : Map) (v : Value) : VRel ρ (ofV v) v := by
  unfold ofV
  split
  · rename_i b; cases b
    · exact .ff
    · exact .tt
  · exact .int _ _
  · exact .str _
  · exact .nilp
  · exact .nils
  · exact .nili
  · exact .nilf
  · exact .junk _
theorem idxOf_get (g : Nat) : ∀ (l : List Nat) (i p : Nat), idxOf g l i = some p → i ≤ p ∧ l[p - i]? = some g
  | [], i, p, h => by simp [idxOf] at h
  | x :: xs, i, p, h => by
    simp only [idxOf] at h
    split at h
    · rename_i hx; simp at h; subst h; simp [Nat.eq_of_beq_eq_true hx]
    · obtain ⟨h1, h2⟩ := idxOf_get g xs (i + 1) p h
      refine ⟨by omega, ?_⟩
      rw [show p - i = (p - (i + 1)) + 1 by omega]; simpa using h2
section
variable {E : Env} {ρ0 ρ : Map} {h : Heap} {w0 w : World} {ts : List AV} {a : Act}
theorem opd_rel (hR : R E.g ρ0 ρ h w0 w) (hT : TRel ρ ts a) {x : Operand} {y : AOpd} (hx : opd E x = some y) : VRel ρ (ev ts y) (a.eval x) := by
  cases x with
  | tmp t => simp [opd] at hx; subst hx; exact hT.get t
  | const v => simp [opd] at hx; subst hx; exact ofV_rel ρ v
  | func f => simp [opd] at hx; subst hx; exact .func _ _ _ [] [] .nil .nil
  | global g =>
    simp only [opd, Option.map_eq_some_iff] at hx
    obtain ⟨p, hp, rfl⟩ := hx
    obtain ⟨_, hg⟩ := idxOf_get g E.G 0 p hp
    obtain ⟨q, hq, h1, h2⟩ := hR.glob p g (by simpa [Env.g] using hg)
    have := VRel.ptr p 0 0 q hq
    simpa [ev, Act.eval, h1, h2] using this
theorem opds_rel (hR : R E.g ρ0 ρ h w0 w) (hT : TRel ρ ts a) : ∀ {xs : List Operand} {ys : List AOpd}, opds E xs = some ys → VRels ρ (evs ts ys) (xs.map a.eval)
  | [], ys, hx => by simp [opds] at hx; subst hx; exact .nil
  | x :: xs, ys, hx => by
    simp only [opds] at hx
    split at hx
    · rename_i y ys' h1 h2; simp at hx; subst hx
      exact .cons _ _ _ _ (opd_rel hR hT h1) (opds_rel hR hT h2)
    · simp at hx
end

theorem overlay_rel {ρ : Map} : ∀ {vs : List AV} {us : List Value}, VRels ρ vs us → ∀ {cs : List AV} {ds : List Value}, VRels ρ cs ds → ∀ (off k : Nat),
    VRels ρ (overlay cs (off + k) vs) ((us.zipIdx k).foldl (fun cs p => cs.set (off + p.2) p.1) ds)
  | _, _, .nil, cs, ds, h, off, k => by simpa [overlay] using h
  | _, _, .cons v u vs us h1 h2, cs, ds, h, off, k => by
    simp only [overlay, List.zipIdx_cons, List.foldl_cons, setN_eq]
    exact overlay_rel h2 (h.set (off + k) h1) off (k + 1)
theorem foldl_toList (off : Nat) : ∀ (l : List (Value × Nat)) (cs : Array Value), (l.foldl (fun cs p => cs.setIfInBounds (off + p.2) p.1) cs).toList = l.foldl (fun cs p => cs.set (off + p.2) p.1) cs.toList
  | [], cs => rfl
  | p :: l, cs => by simp only [List.foldl_cons]; rw [foldl_toList off l]; simp
theorem VRel.cellsLen {ρ : Map} {v : AV} {u : Value} (h : VRel ρ v u) (n : Nat) (hl : lenEq (cellsOf v) n = true) (hj : v ≠ .junk) : u.cells.size = n := by
  rw [lenEq_iff] at hl
  have := (h.cells hj).length
  simp at this; omega

theorem fillV_rel {ρ : Map} {E : Env} {ts : List AV} {a : Act} (place : Nat → Option (Nat × Nat)) (hop : ∀ x y, opd E x = some y → VRel ρ (ev ts y) (a.eval x)) :
    ∀ (ps : List (Nat × Operand)) (qs : List (Nat × Nat × AOpd)) (cs : List AV) (ds : Array Value) (r : List AV), partsOf E place ps = some qs → VRels ρ cs ds.toList →
      fillV cs (parts ts qs) = some r → ∃ d, Instr.fill place ds (ps.map fun p => (p.1, a.eval p.2)) = some d ∧ VRels ρ r d.toList
  | [], qs, cs, ds, r, hp, hc, hf => by
    simp [partsOf] at hp; subst hp
    simp [parts, fillV] at hf; subst hf
    exact ⟨ds, by simp [Instr.fill], hc⟩
  | (i, x) :: ps, qs, cs, ds, r, hp, hc, hf => by
    simp only [partsOf] at hp
    split at hp
    · rename_i off n y r' h1 h2 h3
      simp at hp; subst hp
      simp only [parts, fillV] at hf
      split at hf
      · rename_i hb
        simp only [Bool.and_eq_true] at hb
        have hx := hop x y h2
        have hj : ev ts y ≠ .junk := fun e => by simp [e, known] at hb
        have hlen := hx.cellsLen n hb.2.1 hj
        have hle : off + n ≤ cs.length := Nat.le_of_ble_eq_true hb.2.2
        have hsz := hc.length
        simp at hsz
        have hrel := overlay_rel (hx.cells hj) hc off 0
        obtain ⟨d, hd, hr⟩ := fillV_rel place hop ps r' _ ((a.eval x).cells.zipIdx.foldl (fun cs (c, j) => cs.setIfInBounds (off + j) c) ds) r h3 (by
          rw [← Array.foldl_toList, foldl_toList, Array.toList_zipIdx]
          exact hrel) hf
        refine ⟨d, ?_, hr⟩
        simp only [List.map_cons, Instr.fill, h1]
        rw [if_neg (by simp [hlen]; omega)]
        exact hd
      · simp at hf
    · simp at hp

theorem mergeV_rel {ρ : Map} {x y : AV} {u : Value} {c : Bool} (hx : c = true → VRel ρ x u) (hy : c = false → VRel ρ y u) : VRel ρ (mergeV c x y) u := by
  cases c with
  | true =>
    have h := hx rfl
    clear hx hy
    cases h <;> (unfold mergeV; split <;> (try contradiction) <;> (try simp_all) <;> (try subst_vars) <;> first | exact .junk _ | constructor | skip)
  | false =>
    have h := hy rfl
    clear hx hy
    cases h <;> (unfold mergeV; split <;> (try contradiction) <;> (try simp_all) <;> (try subst_vars) <;> first | exact .junk _ | constructor | skip)
theorem asB_rel {ρ : Map} {v : AV} {u : Value} {b : Bool} (h : VRel ρ v u) (hb : asB v = some b) : u = .bool b := by
  cases h <;> simp [asB] at hb <;> subst hb <;> rfl
end Go.Ev

import Derived.Test.YtbgabaihahpijaaDoorEvF
set_option linter.unusedVariables false
set_option linter.unusedSimpArgs false
namespace Go.Ev
open Go Go.RowKit
theorem rowsAll_get {sz : Nat} {f : Nat → List AV} : ∀ (n : Nat), (∀ i, i < n → (f i).length = sz) → (rowsAll f n).length = n * sz ∧
    ∀ (k : Nat) (v : AV), (rowsAll f n)[k]? = some v → ∃ i j, i < n ∧ j < sz ∧ k = i * sz + j ∧ nth (f i) j = some v
  | 0, _ => ⟨by simp [rowsAll], fun k v h => by simp [rowsAll] at h⟩
  | n + 1, h => by
    obtain ⟨h1, h2⟩ := rowsAll_get n (fun i hi => h i (by omega))
    have hn := h n (by omega)
    refine ⟨by simp [rowsAll, h1, hn, Nat.add_mul], fun k v hk => ?_⟩
    simp only [rowsAll] at hk
    by_cases hlt : k < (rowsAll f n).length
    · rw [List.getElem?_append_left hlt] at hk
      obtain ⟨i, j, a, b, c, d⟩ := h2 k v hk
      exact ⟨i, j, by omega, b, c, d⟩
    · rw [List.getElem?_append_right (by omega)] at hk
      have hj := (List.getElem?_eq_some_iff.1 hk).1
      refine ⟨n, k - (rowsAll f n).length, by omega, by omega, by omega, by rw [nth_eq]; exact hk⟩
theorem loadV_run {P : Program} {ρ : Map} {w0 w : World} {p : Pl} {B : Blk} (hB : BRel ρ w0 w p B) {i : Nat} (hi : i < B.n) {agg : Bool} {n j : Nat} {v : AV} (hcut : loadV agg n B i j = some v)
    (t : TypeId) (hu : (P.underlying t).isSome) (inf : TypeInfo) (hinf : P.info? t = some inf) (hag : isAggP P t = agg) (hn : P.cellsOf t = n) :
    ∃ u, (loadVar t ⟨p.blk, p.shift + (i * p.sz + j), none⟩).run P w = .ok u w ∧ VRel ρ v u := by
  unfold loadV at hcut
  split at hcut
  · rename_i v' hc
    simp at hcut; subst hcut
    exact load_run hB hi hc t hu inf hinf hag hn
  · split at hcut
    · split at hcut
      · rename_i hnn
        simp at hcut hnn
        subst hcut
        obtain ⟨hl, hg⟩ := rowsAll_get B.n hB.len
        obtain ⟨us, hus, hf⟩ := list_of (rowsAll B.f B.n) (fun k => w.cell? ⟨p.blk, p.shift + (0 * p.sz + 0) + k, none⟩) (fun k x hx => by
          obtain ⟨i', j', a, b, c, d⟩ := hg k x hx
          obtain ⟨u, hu', hr⟩ := hB.cell i' j' x a d
          refine ⟨u, ?_, hr⟩
          rw [← hu', c, ← hB.sz]
          congr 2
          omega)
        have hlen : us.length = n := by rw [← hus.length, hl, hnn]
        refine ⟨.agg us.toArray, ?_, .agg _ _ hus⟩
        unfold loadVar
        simp only [Sem.run_bind, run_isAgg P t hu, Result.andThen_ok, hag, if_true, run_sizeOf' P t inf hinf, hn]
        rw [← hlen, run_loadCells_list w _ us (fun k u hk => by rw [addr_add]; exact hf k u hk)]
        simp
      · simp at hcut
    · simp at hcut
theorem allInt_get {kd : IntKind} : ∀ {l : List AV} {r : List Int}, allInt kd l = some r → ∀ k, k < l.length → l[k]? = some (.int kd (selI r k))
  | [], r, h, k, hk => by simp at hk
  | v :: l, r, h, k, hk => by
    cases v <;> simp only [allInt] at h <;> first | (exfalso; revert h; simp; done) | skip
    split at h
    · rename_i l' hd hl
      simp at h; subst h
      simp at hd; subst hd
      cases k with
      | zero => simp [selI]
      | succ k => simpa [selI] using allInt_get hl k (by simpa using hk)
    · simp at h
theorem allB_get : ∀ {l : List AV} {r : List Bool}, allB l = some r → ∀ k, k < l.length → ∃ w, l[k]? = some w ∧ asB w = some (selB r k)
  | [], r, h, k, hk => by simp at hk
  | v :: l, r, h, k, hk => by
    simp only [allB] at h
    split at h
    · rename_i b l' hd hl
      simp at h; subst h
      cases k with
      | zero => exact ⟨v, by simp, by simpa [selB] using hd⟩
      | succ k => simpa [selB] using allB_get hl k (by simpa using hk)
    · simp at h
theorem selCol_weak {col : List AV} {k : Nat} {v : AV} (h : selCol col k = some v) (hk : k < col.length) : ∃ w, col[k]? = some w ∧ ∀ (ρ : Map) (u : Value), VRel ρ w u → VRel ρ v u := by
  unfold selCol at h
  split at h
  · split at h
    · rename_i l hl
      simp at h; subst h
      exact ⟨_, allInt_get hl k hk, fun _ _ h => h⟩
    · simp at h
  · split at h
    · rename_i l hl
      simp at h; subst h
      obtain ⟨w, hw, hb⟩ := allB_get hl k hk
      refine ⟨w, hw, fun ρ u hu => ?_⟩
      rw [asB_rel hu hb]
      exact .bool _
    · simp at h
theorem colOf_get (s j : Nat) : ∀ (n : Nat) (cs : List AV) (k : Nat), k < n → (colOf s j n cs)[k]? = some ((nth (cs.drop (k * s)) j).getD .junk)
  | 0, cs, k, hk => by omega
  | n + 1, cs, 0, hk => by simp only [colOf, Nat.zero_mul, List.drop_zero, List.getElem?_cons_zero]; cases nth cs j <;> rfl
  | n + 1, cs, k + 1, hk => by
    simp only [colOf, List.getElem?_cons_succ, dropN_eq]
    rw [colOf_get s j n _ k (by omega), List.drop_drop]
    congr 4
    rw [Nat.add_mul]; omega
theorem colOf_len (s j : Nat) : ∀ (n : Nat) (cs : List AV), (colOf s j n cs).length = n
  | 0, cs => rfl
  | n + 1, cs => by simp [colOf, colOf_len s j n]
theorem selRow_rel {ρ : Map} {s len : Nat} {cs : List AV} {ds : List Value} {k : Nat} (hr : VRels ρ cs ds) (hk : k < len) (hl : cs.length = len * s) : ∀ (m j : Nat) (row : List AV), j + m ≤ s → selRow s len cs k j m = some row → VRels ρ row ((ds.drop (k * s + j)).take m)
  | 0, j, row, hj, h => by simp [selRow] at h; subst h; simp; exact .nil
  | m + 1, j, row, hj, h => by
    simp only [selRow] at h
    split at h
    · rename_i v r hv hrr
      simp at h; subst h
      have ih := selRow_rel hr hk hl m (j + 1) r (by omega) hrr
      obtain ⟨w, hw, hweak⟩ := selCol_weak hv (by rw [colOf_len]; exact hk)
      rw [colOf_get s j len cs k hk] at hw
      have hlt : k * s + j < cs.length := by
        rw [hl]
        have := Nat.mul_le_mul_right s (show k + 1 ≤ len from hk)
        rw [Nat.add_mul] at this
        omega
      have hlt' : k * s + j < ds.length := by rw [← hr.length]; exact hlt
      have hn : nth (cs.drop (k * s)) j = some cs[k * s + j] := by
        rw [nth_eq, List.getElem?_drop]; simp [hlt]
      rw [hn] at hw
      simp at hw
      obtain ⟨u, hu, hrel⟩ := hr.get (k * s + j) cs[k * s + j] (by simp [hlt])
      rw [List.getElem?_eq_getElem hlt'] at hu
      simp at hu
      rw [List.drop_eq_getElem_cons hlt', List.take_succ_cons, hu]
      refine .cons _ _ _ _ (hweak ρ u (hw ▸ hrel)) ?_
      rw [show k * s + j + 1 = k * s + (j + 1) by omega]
      exact ih
    · simp at h
end Go.Ev

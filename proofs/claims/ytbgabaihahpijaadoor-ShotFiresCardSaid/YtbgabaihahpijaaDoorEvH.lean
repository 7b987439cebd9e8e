import Derived.Test.YtbgabaihahpijaaDoorEvG
import Derived.Laws.CopyRow
import Derived.Laws.Rows
import Derived.Laws.CopyOwn
set_option linter.unusedVariables false
set_option linter.unusedSimpArgs false
namespace Go.Ev
open Go Go.RowKit
def callable (P : Program) (f : FuncId) : Prop := ∃ fn, P.funcs[f]? = some fn ∧ fn.body.isSome = true ∧ (fn.name == "runtime.NumGoroutine") = false
/-- What a call comes to, over the abstraction. -/
def CallsA (E : Env) (f : FuncId) (args : List AV) (h : Heap) (Q : AV × Heap → Prop) : Prop :=
  callable E.P f ∧ ∀ ρ w0 w (vs : List Value), R E.g ρ ρ h w0 w → VRels ρ args vs →
    Calls E.P f vs.toArray w (fun e w' => ∃ s : AV × Heap, Q s ∧ ∃ ρ' v, R E.g ρ ρ' s.2 w0 w' ∧ VRel ρ' s.1 v ∧ e = .returned v)
structure COK (E : Env) (C : Cfg) : Prop where
  Γ : ∀ f args h c v, C.Γ f args h = some (c, v) → c ≠ some false → CallsA E f args h (fun s => s = (v, h))
  Δ : ∀ f args h Q, (C.Δ f args h).holds Q → CallsA E f args h Q
  mix : E.P.follows .mixedOrders = true
  mono : ∀ f args h x r, C.Γ f args h = some r → C.Γ f args (h ++ [x]) = some r
theorem CallsA.mono {E : Env} {f : FuncId} {args : List AV} {h : Heap} {Q Q' : AV × Heap → Prop} (hc : CallsA E f args h Q) (hq : ∀ s, Q s → Q' s) : CallsA E f args h Q' :=
  ⟨hc.1, fun ρ w0 w vs hR hv => (hc.2 ρ w0 w vs hR hv).mono fun e w' ⟨s, hs, r⟩ => ⟨s, hq s hs, r⟩⟩
section
variable {E : Env} {C : Cfg} {ρ0 ρ : Map} {h : Heap} {w0 w : World} {ts : List AV} {a : Act}
theorem nth_append_lt {α : Type} {l : List α} {x : List α} {b : Nat} (h : b < l.length) : nth (l ++ x) b = nth l b := by
  rw [nth_eq, nth_eq, List.getElem?_append_left h]
theorem nth_append_eq {α : Type} {l : List α} {y : α} : nth (l ++ [y]) l.length = some y := by
  rw [nth_eq]; simp
theorem nth_lt {α : Type} {l : List α} {b : Nat} {x : α} (h : nth l b = some x) : b < l.length := by
  rw [nth_eq] at h; exact (List.getElem?_eq_some_iff.1 h).1
theorem BRel.move {ρ ρ' : Map} {w0 w w' : World} {p : Pl} {B : Blk} (hB : BRel ρ w0 w p B) (hρ : Pre ρ ρ') (hb : w'.heap[p.blk]? = w.heap[p.blk]?) : BRel ρ' w0 w' p B where
  sz := hB.sz
  room := hB.room
  len := hB.len
  cell := fun i j v hi hn => by
    obtain ⟨u, hu, hr⟩ := hB.cell i j v hi hn
    exact ⟨u, by rw [World.cell?_of_block (w := w) hb]; exact hu, hr.mono hρ⟩
  rw_ := fun hr => by
    obtain ⟨h1, h2, ds, h3, h4⟩ := hB.rw_ hr
    exact ⟨h1, h2, ds, by rw [hb]; exact h3, h4⟩
  ro := hB.ro
/-- A new block. -/
theorem R.alloc (hR : R E.g ρ0 ρ h w0 w) (B : Blk) (ds : Array Value) (hrw : B.rw = true) (hl : ∀ i, i < B.n → (B.f i).length = B.sz) (hsz : B.n * B.sz ≤ ds.size)
    (hc : ∀ i j v, i < B.n → nth (B.f i) j = some v → ∃ u, ds[i * B.sz + j]? = some u ∧ VRel ρ v u) :
    R E.g ρ0 (ρ ++ [⟨w.heap.size, 0, B.sz, B.n⟩]) (h ++ [some B]) w0 (w.alloc (.cells ds B.e)) := by
  have hpre : Pre ρ (ρ ++ [⟨w.heap.size, 0, B.sz, B.n⟩]) := ⟨_, rfl⟩
  have hold : ∀ k, k < w.heap.size → (w.alloc (.cells ds B.e)).heap[k]? = w.heap[k]? := fun k hk => Below.heap_alloc _ _ _ hk
  have hnew : (w.alloc (.cells ds B.e)).heap[w.heap.size]? = some (.cells ds B.e (0, 0)) := heap_alloc_new w _
  have hB0 : BRel (ρ ++ [⟨w.heap.size, 0, B.sz, B.n⟩]) w0 (w.alloc (.cells ds B.e)) ⟨w.heap.size, 0, B.sz, B.n⟩ B := {
    sz := rfl
    room := Nat.le_refl _
    len := hl
    cell := fun i j v hi hn => by
      obtain ⟨u, hu, hr⟩ := hc i j v hi hn
      refine ⟨u, ?_, hr.mono hpre⟩
      simp only [World.cell?, hnew, Nat.zero_add]
      exact hu
    rw_ := fun _ => ⟨rfl, hR.below.size, ds, hnew, hsz⟩
    ro := fun hf => by rw [hrw] at hf; cases hf }
  refine { below := hR.below.alloc hR.below.size _, len := by simp [hR.len], pre := hR.pre.trans hpre, glob := fun p g hg => ?_, blk := fun b B' hb => ?_, dist := ?_, held := fun p B' hp => ⟨(hR.held p B' hp).1, by rw [nth_append_lt (nth_lt (hR.held p B' hp).2)]; exact (hR.held p B' hp).2⟩ }
  · obtain ⟨q, hq, r⟩ := hR.glob p g hg
    exact ⟨q, hpre.nth hq, r⟩
  · by_cases hlt : b < h.length
    · rw [nth_append_lt hlt] at hb
      obtain ⟨p, hp, hBR⟩ := hR.blk b B' hb
      refine ⟨p, hpre.nth hp, hBR.move hpre (hold _ ?_)⟩
      by_cases hrw' : B'.rw = true
      · obtain ⟨_, _, ds', h3, _⟩ := hBR.rw_ hrw'
        exact (Array.getElem?_eq_some_iff.1 h3).1
      · have := hBR.ro (by simpa using hrw')
        exact Nat.lt_of_lt_of_le this hR.below.size
    · have hbl : b = h.length := by have := nth_lt hb; simp at this; omega
      subst hbl
      rw [nth_append_eq] at hb
      simp at hb; subst hb
      exact ⟨_, by rw [← hR.len]; exact nth_append_eq, hB0⟩
  · have hlow : ∀ b B' p, nth h b = some (some B') → B'.rw = true → nth ρ b = some p → p.blk < w.heap.size := by
      intro b B' p hb hr hp
      obtain ⟨q, hq, hBR⟩ := hR.blk b B' hb
      rw [hp] at hq; simp at hq; subst hq
      obtain ⟨_, _, ds', h3, _⟩ := hBR.rw_ hr
      exact (Array.getElem?_eq_some_iff.1 h3).1
    intro x y X Y p q hx hX hy hY hp hq hpq
    have hlen := hR.len
    by_cases hxl : x < h.length <;> by_cases hyl : y < h.length
    · rw [nth_append_lt hxl] at hx; rw [nth_append_lt hyl] at hy
      rw [nth_append_lt (by omega)] at hp hq
      exact hR.dist x y X Y p q hx hX hy hY hp hq hpq
    · have : y = h.length := by have := nth_lt hy; simp at this; omega
      subst this
      rw [nth_append_lt hxl] at hx; rw [nth_append_lt (by omega)] at hp
      rw [← hlen, nth_append_eq] at hq
      simp at hq; subst hq
      have := hlow x X p hx hX hp
      simp at hpq; omega
    · have : x = h.length := by have := nth_lt hx; simp at this; omega
      subst this
      rw [nth_append_lt hyl] at hy; rw [nth_append_lt (by omega)] at hq
      rw [← hlen, nth_append_eq] at hp
      simp at hp; subst hp
      have := hlow y Y q hy hY hq
      simp at hpq; omega
    · have h1 := nth_lt hx; have h2 := nth_lt hy; simp at h1 h2; omega
theorem overlay_get : ∀ (vs : List AV) (row : List AV) (j k : Nat), j + vs.length ≤ row.length → (overlay row j vs)[k]? = if j ≤ k ∧ k < j + vs.length then vs[k - j]? else row[k]?
  | [], row, j, k, h => by simp [overlay]; omega
  | v :: vs, row, j, k, h => by
    simp only [overlay, setN_eq]
    rw [overlay_get vs _ _ _ (by simp at h ⊢; omega)]
    simp only [List.length_cons, List.getElem?_set] at h ⊢
    by_cases h1 : j = k
    · subst h1
      rw [if_neg (by omega), if_pos rfl, if_pos (by omega), if_pos (by omega)]
      simp
    · by_cases h2 : j + 1 ≤ k ∧ k < j + 1 + vs.length
      · rw [if_pos h2, if_pos (by omega), show k - j = (k - (j + 1)) + 1 by omega]
        simp
      · rw [if_neg h2, if_neg h1, if_neg (by omega)]
theorem overlay_len : ∀ (vs : List AV) (row : List AV) (j : Nat), (overlay row j vs).length = row.length
  | [], row, j => rfl
  | v :: vs, row, j => by simp only [overlay]; rw [overlay_len vs]; simp [setN_eq]
theorem updRow_f (B : Blk) (i : Nat) (row : List AV) (hi : i < B.n) (x : Nat) (hx : x < B.n) : (updRow B i row).f x = if x = i then row else B.f x := by
  unfold updRow
  split
  · split
    · rename_i hn
      have := Nat.eq_of_beq_eq_true hn
      rw [if_pos (by omega)]
    · rfl
  · rfl
theorem updRow_same (B : Blk) (i : Nat) (row : List AV) : (updRow B i row).e = B.e ∧ (updRow B i row).rw = B.rw ∧ (updRow B i row).sz = B.sz ∧ (updRow B i row).n = B.n := by
  unfold updRow; split <;> (try split) <;> simp
theorem row_apart {x i sz k o len : Nat} (hx : x ≠ i) (hk : k < sz) (ho : i * sz ≤ o) (hl : o + len ≤ i * sz + sz) : ¬ (o ≤ x * sz + k ∧ x * sz + k < o + len) := by
  rcases Nat.lt_or_gt_of_ne hx with h | h
  · have := Nat.mul_le_mul_right sz (show x + 1 ≤ i by omega)
    rw [Nat.add_mul] at this
    omega
  · have := Nat.mul_le_mul_right sz (show i + 1 ≤ x by omega)
    rw [Nat.add_mul] at this
    omega
/-- A store into a block of one's own. -/
theorem R.store (hR : R E.g ρ0 ρ h w0 w) {b i j : Nat} {B : Blk} (hb : nth h b = some (some B)) {p : Pl} (hp : nth ρ b = some p) (hrw : B.rw = true) (hi : i < B.n) {cs : List AV} {vs : List Value} (hv : VRels ρ cs vs) (hj : j + cs.length ≤ B.sz)
    {ds : Array Value} (hds : w.heap[p.blk]? = some (.cells ds B.e (0, 0))) :
    R E.g ρ0 ρ (setN h b (some (updRow B i (overlay (B.f i) j cs)))) w0 (w.setRow p.blk (ds.toList.take (p.shift + (i * p.sz + j)) ++ vs ++ ds.toList.drop (p.shift + (i * p.sz + j) + vs.length)).toArray) ∧ p.shift + (i * p.sz + j) + vs.length ≤ ds.size := by
  obtain ⟨q, hq, hBR⟩ := hR.blk b B hb
  rw [hp] at hq; simp at hq; subst hq
  obtain ⟨hs0, hge, ds', hds', hroom⟩ := hBR.rw_ hrw
  rw [hds] at hds'; simp at hds'; subst hds'
  have hlen := hv.length
  have hsz := hBR.sz
  have hin : i * p.sz + p.sz ≤ ds.size := by
    have h1 := Nat.mul_le_mul_right p.sz (show i + 1 ≤ p.room from Nat.le_trans hi hBR.room)
    rw [Nat.add_mul] at h1
    omega
  have hle : p.shift + (i * p.sz + j) + vs.length ≤ ds.size := by rw [hs0]; omega
  refine ⟨?_, hle⟩
  generalize ho : p.shift + (i * p.sz + j) = o at *
  have hnew := setRow_heap w p.blk ds (ds.toList.take o ++ vs ++ ds.toList.drop (o + vs.length)).toArray B.e (0, 0) hds
  have hother : ∀ k, k ≠ p.blk → (w.setRow p.blk (ds.toList.take o ++ vs ++ ds.toList.drop (o + vs.length)).toArray).heap[k]? = w.heap[k]? := fun k hk => setRow_other w p.blk k _ hk
  have hget : ∀ m, (ds.toList.take o ++ vs ++ ds.toList.drop (o + vs.length))[m]? = if o ≤ m ∧ m < o + vs.length then vs[m - o]? else ds.toList[m]? := by
    intro m
    have hto : (ds.toList.take o).length = o := by simp; omega
    by_cases h1 : m < o
    · rw [if_neg (by omega), List.append_assoc, List.getElem?_append_left (by omega), List.getElem?_take, if_pos h1]
    · by_cases h2 : m < o + vs.length
      · rw [if_pos (by omega), List.append_assoc, List.getElem?_append_right (by omega), hto, List.getElem?_append_left (by omega)]
      · rw [if_neg (by omega), List.getElem?_append_right (by simp; omega), List.getElem?_drop]
        congr 1
        simp; omega
  obtain ⟨e1, e2, e3, e4⟩ := updRow_same B i (overlay (B.f i) j cs)
  have hBnew : BRel ρ w0 (w.setRow p.blk (ds.toList.take o ++ vs ++ ds.toList.drop (o + vs.length)).toArray) p (updRow B i (overlay (B.f i) j cs)) := {
    sz := by rw [e3]; exact hsz
    room := by rw [e4]; exact hBR.room
    len := fun x hx => by
      rw [e4] at hx
      rw [updRow_f B i _ hi x hx, e3]
      split
      · rw [overlay_len]; exact hBR.len i hi
      · exact hBR.len x hx
    cell := fun x k v hx hn => by
      rw [e4] at hx
      rw [updRow_f B i _ hi x hx] at hn
      have hkl : k < B.sz := by
        have := nth_lt hn
        split at this
        · rw [overlay_len, hBR.len i hi] at this; exact this
        · rw [hBR.len x hx] at this; exact this
      have hcellnew : ∀ m, (w.setRow p.blk (ds.toList.take o ++ vs ++ ds.toList.drop (o + vs.length)).toArray).cell? ⟨p.blk, m, none⟩ = (ds.toList.take o ++ vs ++ ds.toList.drop (o + vs.length))[m]? := by
        intro m
        rw [cell_setRow_same w p.blk m ds _ B.e (0, 0) hds]
        simp
      have hcellold : ∀ m, w.cell? ⟨p.blk, m, none⟩ = ds.toList[m]? := by
        intro m; simp [World.cell?, hds]
      rw [hcellnew, hget]
      rw [hs0, Nat.zero_add]
      have ho' : i * p.sz + j = o := by rw [hs0] at ho; omega
      by_cases hxi : x = i
      · subst hxi
        rw [if_pos rfl, nth_eq, overlay_get cs (B.f x) j k (by rw [hBR.len x hi]; omega)] at hn
        by_cases hk : j ≤ k ∧ k < j + cs.length
        · rw [if_pos hk] at hn
          rw [if_pos (by omega)]
          obtain ⟨u, hu, hr⟩ := hv.get (k - j) v hn
          exact ⟨u, by rw [← hu]; congr 1; omega, hr⟩
        · rw [if_neg hk, ← nth_eq] at hn
          rw [if_neg (by omega)]
          obtain ⟨u, hu, hr⟩ := hBR.cell x k v hi hn
          refine ⟨u, ?_, hr⟩
          rw [← hcellold, ← hu, hs0, Nat.zero_add]
      · rw [if_neg hxi] at hn
        rw [if_neg (row_apart hxi (by omega) (by omega) (by omega))]
        obtain ⟨u, hu, hr⟩ := hBR.cell x k v hx hn
        refine ⟨u, ?_, hr⟩
        rw [← hcellold, ← hu, hs0, Nat.zero_add]
    rw_ := fun _ => ⟨hs0, hge, _, by rw [e1]; exact hnew, by
      simp only [List.size_toArray, List.length_append, List.length_take, List.length_drop, Array.length_toList]
      omega⟩
    ro := fun hf => by rw [e2, hrw] at hf; cases hf }
  have hnthset : ∀ x, nth (setN h b (some (updRow B i (overlay (B.f i) j cs)))) x = if x = b then some (some (updRow B i (overlay (B.f i) j cs))) else nth h x := by
    intro x
    rw [nth_eq, setN_eq, nth_eq, List.getElem?_set]
    have := nth_lt hb
    by_cases hx : b = x
    · subst hx; simp [this]
    · rw [if_neg hx, if_neg (fun e => hx e.symm)]
  refine { below := below_setRow hR.below hge _, len := by rw [setN_eq]; simp [hR.len], pre := hR.pre, glob := hR.glob, blk := fun x X hx => ?_, dist := ?_, held := fun x X hx => ⟨(hR.held x X hx).1, by
    rw [hnthset, if_neg]
    · exact (hR.held x X hx).2
    · intro e; subst e
      obtain ⟨k1, k2⟩ := hR.held x X hx
      rw [hb] at k2; simp at k2; subst k2; rw [hrw] at k1; cases k1⟩ }
  · rw [hnthset] at hx
    split at hx
    · rename_i hxb; subst hxb; simp at hx; subst hx; exact ⟨p, hp, hBnew⟩
    · rename_i hxb
      obtain ⟨q, hq, hX⟩ := hR.blk x X hx
      refine ⟨q, hq, hX.move (Pre.refl _) (hother _ ?_)⟩
      intro heq
      by_cases hXr : X.rw = true
      · exact hxb (hR.dist x b X B q p hx hXr hb hrw hq hp heq)
      · have := hX.ro (by simpa using hXr); omega
  · intro x y X Y q r hx hX hy hY hq hr hqr
    have back : ∀ z Z, nth (setN h b (some (updRow B i (overlay (B.f i) j cs)))) z = some (some Z) → Z.rw = true → ∃ Z', nth h z = some (some Z') ∧ Z'.rw = true := by
      intro z Z hz hZ
      rw [hnthset] at hz
      split at hz
      · rename_i hzb; subst hzb; exact ⟨B, hb, hrw⟩
      · exact ⟨Z, hz, hZ⟩
    obtain ⟨X', hx', hX'⟩ := back x X hx hX
    obtain ⟨Y', hy', hY'⟩ := back y Y hy hY
    exact hR.dist x y X' Y' q r hx' hX' hy' hY' hq hr hqr
end
end Go.Ev

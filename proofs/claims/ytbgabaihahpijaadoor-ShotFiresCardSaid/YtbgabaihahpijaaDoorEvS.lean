import Derived.Test.YtbgabaihahpijaaDoorEvR
import Derived.Test.YtbgabaihahpijaaDoorEvQ
set_option linter.unusedVariables false
set_option linter.unusedSimpArgs false
namespace Go.Ev
open Go Go.RowKit Go.ChangeShapes Go.WideShapes
/-- A leaf as it may come in. -/
def Leaf (B : Nat) : LK → Value → Prop
  | .int k, v => ∃ n, v = .int k n ∧ k.min ≤ n ∧ n ≤ k.max
  | .str, v => ∃ s, v = .string s ∧ s.size ≤ B
  | .bool, v => ∃ b, v = .bool b
inductive Leaves (B : Nat) : List LK → List Value → Prop
  | nil : Leaves B [] []
  | cons (l : LK) (v : Value) (ls : List LK) (vs : List Value) : Leaf B l v → Leaves B ls vs → Leaves B (l :: ls) (v :: vs)
theorem Leaves.append {B : Nat} : ∀ {l m : List LK} {us vs : List Value}, Leaves B l us → Leaves B m vs → Leaves B (l ++ m) (us ++ vs)
  | _, _, _, _, .nil, h => h
  | _, _, _, _, .cons a b c d h1 h2, h => .cons _ _ _ _ h1 (h2.append h)
theorem Leaves.length {B : Nat} : ∀ {l : List LK} {us : List Value}, Leaves B l us → us.length = l.length
  | _, _, .nil => rfl
  | _, _, .cons a b c d h1 h2 => by simp [h2.length]
theorem Leaves.uncons {B : Nat} {l : LK} {ls : List LK} {vs : List Value} (h : Leaves B (l :: ls) vs) : ∃ v us, vs = v :: us ∧ Leaf B l v ∧ Leaves B ls us := by
  cases h with
  | cons _ v _ us h1 h2 => exact ⟨v, us, rfl, h1, h2⟩
theorem Leaves.unnil {B : Nat} {vs : List Value} (h : Leaves B [] vs) : vs = [] := by cases h; rfl
section
variable {H : Type} {enc : TypeId × Value → H} {P : Program} {w : World} {base : Nat} {sp : Nat → Bool} {held : Bool} {B : Nat}
theorem open_fields (n : Nat) (ih : ∀ t ls, leavesOf P n t = some ls → P.cellsOf t = ls.length → ∀ fuel cs (x : DataW H × List MemPlace), DataW.trod enc P w base sp held fuel t cs = some x → (x.1.weights P t).all (· ≤ B) = true → Leaves B ls cs) (fuel : Nat) (cs : List Value) :
    ∀ (fs : List Field) (off : Nat) (ls : List LK) (xs : List (DataW H × List MemPlace)), leavesFs P (leavesOf P n) off fs = some ls → xs.length = fs.length →
      (∀ (i : Nat) (f : Field), fs[i]? = some f → DataW.trod enc P w base sp held fuel f.type ((cs.drop f.offset).take (P.cellsOf f.type)) = xs[i]?) →
      (DataW.weightsEach P (fs.map (·.type)) (xs.map (·.1))).all (· ≤ B) = true → off ≤ cs.length → off + ls.length ≤ cs.length → Leaves B ls ((cs.drop off).take ls.length)
  | [], off, ls, xs, h, hl, hx, hw, _, _ => by simp [leavesFs] at h; subst h; simp; exact .nil
  | f :: fs, off, ls, [], h, hl, hx, hw, _, _ => by simp at hl
  | f :: fs, off, ls, x :: xs, h, hl, hx, hw, h1, h2 => by
    simp only [leavesFs] at h
    split at h
    · rename_i l i hl' hi
      split at h
      · rename_i hc
        simp only [Bool.and_eq_true, bne_iff_ne, ne_eq] at hc
        obtain ⟨hn, ho, hs⟩ := hc
        have ho := Nat.eq_of_beq_eq_true ho
        have hs := Nat.eq_of_beq_eq_true hs
        split at h
        · rename_i r hr
          simp at h; subst h
          have hcl : P.cellsOf f.type = l.length := by simp [Program.cellsOf, hi, hs]
          have h0 := hx 0 f (by simp)
          rw [ho, hcl] at h0
          simp only [List.map_cons, DataW.weightsEach, List.all_append, Bool.and_eq_true] at hw
          have hA := ih f.type l hl' hcl fuel _ x (by simpa using h0) hw.1
          have hB := open_fields n ih fuel cs fs (off + l.length) r xs hr (by simpa using hl) (fun i g hg => by
            have := hx (i + 1) g (by simpa using hg)
            simpa using this) hw.2 (by simp at h2; omega) (by simp at h2; omega)
          have := hA.append hB
          have e : (cs.drop off).take l.length ++ (cs.drop (off + l.length)).take r.length = (cs.drop off).take (l ++ r).length := by
            rw [List.length_append, List.take_add, List.drop_drop]
          rw [e] at this
          exact this
        · simp at h
      · simp at h
    · simp at h
theorem open_leaves : ∀ (n : Nat) (t : TypeId) (ls : List LK), leavesOf P n t = some ls → P.cellsOf t = ls.length → ∀ fuel cs (x : DataW H × List MemPlace), DataW.trod enc P w base sp held fuel t cs = some x → (x.1.weights P t).all (· ≤ B) = true → Leaves B ls cs
  | 0, t, ls, h => by simp [leavesOf] at h
  | n + 1, t, ls, h => by
    intro hsz fuel cs x hx hw
    simp only [leavesOf] at h
    split at h
    · rename_i k hu
      simp at h; subst h
      obtain ⟨m, rfl, rfl, hwf⟩ := DataW.trod_int hu hx
      simp only [Lit.wf, Bool.and_eq_true, decide_eq_true_eq] at hwf
      exact .cons _ _ _ _ ⟨m, rfl, hwf.1, hwf.2⟩ .nil
    · rename_i hu
      simp at h; subst h
      obtain ⟨s, rfl, rfl, hs⟩ := DataW.trod_string hu hx
      simp only [DataW.weights, List.all_cons, List.all_nil, Bool.and_true, decide_eq_true_eq] at hw
      exact .cons _ _ _ _ ⟨s, rfl, by simpa using hw⟩ .nil
    · rename_i hu
      simp at h; subst h
      obtain ⟨b, rfl, rfl⟩ := DataW.trod_bool hu hx
      exact .cons _ _ _ _ ⟨b, rfl⟩ .nil
    · rename_i fs hu
      split at h
      · simp at h
      · obtain ⟨xs, m, rfl, rfl, hl, hxl, hf⟩ := DataW.trod_struct hu hx
        simp only [DataW.weights, hu] at hw
        have := open_fields (B := B) n (open_leaves n) m cs fs.toList 0 ls xs h (by simpa using hxl) (fun i f hi => hf i f (by simpa using hi)) hw (by omega) (by omega)
        rw [List.drop_zero, List.take_of_length_le (by omega)] at this
        exact this
    · simp at h
/-- A struct as it comes in. -/
theorem open_agg {r : Reach} {b0 : Nat} {t : TypeId} {v : Value} {d : DataW H} {ps : List MemPlace} {ls : List LK} (hst : ∃ fs, P.underlying t = some (.struct fs)) (hls : leavesOf P 10 t = some ls) (hsz : P.cellsOf t = ls.length)
    (hval : Value.okWide P w r b0 t v) (hd : DataW.Trod enc P w base sp held t v d ps) (hw : (d.weights P t).all (· ≤ B) = true) : ∃ us : List Value, v = .agg us.toArray ∧ Leaves B ls us := by
  obtain ⟨fs, hu⟩ := hst
  obtain ⟨cs, rfl, _⟩ := okWide_struct hu hval
  obtain ⟨fuel, hf⟩ := hd
  have hf' : DataW.trod enc P w base sp held fuel t cs.toList = some (d, ps) := hf
  exact ⟨cs.toList, by simp, open_leaves 10 t ls hls hsz fuel _ _ hf' hw⟩
theorem open_leaf {r : Reach} {b0 : Nat} {t : TypeId} {v : Value} {d : DataW H} {ps : List MemPlace} {l : LK} (hls : leavesOf P 10 t = some [l]) (hsz : P.cellsOf t = 1) (hns : isAggP P t = false)
    (hval : Value.okWide P w r b0 t v) (hd : DataW.Trod enc P w base sp held t v d ps) (hw : (d.weights P t).all (· ≤ B) = true) : Leaf B l v := by
  obtain ⟨fuel, hf⟩ := hd
  have hf' : DataW.trod enc P w base sp held fuel t v.cells.toList = some (d, ps) := hf
  have hL := open_leaves (B := B) 10 t [l] hls (by simpa using hsz) fuel _ _ hf' hw
  obtain ⟨u, us, he, h1, h2⟩ := hL.uncons
  have := h2.unnil
  subst this
  have hv : v.cells = #[v] := by
    cases v <;> try rfl
    rename_i cs
    exfalso
    unfold Value.okWide at hval
    unfold isAggP at hns
    split at hval
    · rename_i hu; rw [hu] at hns; simp at hns
    · rename_i hu; rw [hu] at hns; simp at hns
    · unfold Cell.okWide at hval
      split at hval <;> try (rename_i h; cases h; done)
      · unfold Cell.ok at hval
        split at hval <;> simp_all
  rw [hv] at he
  simp at he
  subst he
  exact h1
end
end Go.Ev

import Derived.Test.YtbgabaihahpijaaDoorEvC
import Derived.Laws.StructEq
set_option linter.unusedVariables false
set_option linter.unusedSimpArgs false
namespace Go.Ev
open Go Go.RowKit

def eqv1 : LK → Value → Value → Option Bool
  | .int k, .int i a, .int j b => if i = k ∧ j = k then some (a == b) else none
  | .str, .string a, .string b => some (a.toList == b.toList)
  | .bool, .bool a, .bool b => some (a == b)
  | _, _, _ => none
def eqvs : List LK → List Value → List Value → Option Bool
  | [], [], [] => some true
  | l :: ls, x :: xs, y :: ys => (match eqv1 l x y, eqvs ls xs ys with | some a, some r => some (a && r) | _, _ => none)
  | _, _, _ => none
theorem eqvs_append : ∀ (l m : List LK) (xs ys : List Value) (b : Bool), eqvs (l ++ m) xs ys = some b →
    ∃ c d, eqvs l (xs.take l.length) (ys.take l.length) = some c ∧ eqvs m (xs.drop l.length) (ys.drop l.length) = some d ∧ b = (c && d)
  | [], m, xs, ys, b, h => ⟨true, b, by simp [eqvs], by simpa using h, by simp⟩
  | l :: ls, m, [], ys, b, h => by simp [eqvs] at h
  | l :: ls, m, x :: xs, [], b, h => by simp [eqvs] at h
  | l :: ls, m, x :: xs, y :: ys, b, h => by
    simp only [List.cons_append, eqvs] at h
    split at h
    · rename_i a r h1 h2
      obtain ⟨c, d, hc, hd, he⟩ := eqvs_append ls m xs ys r h2
      refine ⟨a && c, d, by simp [eqvs, h1, hc], by simpa using hd, ?_⟩
      simp at h; subst h; subst he; simp [Bool.and_assoc]
    · simp at h
theorem eqvs_length : ∀ (l : List LK) (xs ys : List Value) (b : Bool), eqvs l xs ys = some b → xs.length = l.length ∧ ys.length = l.length
  | [], [], [], b, h => by simp
  | [], _ :: _, _, b, h => by simp [eqvs] at h
  | [], [], _ :: _, b, h => by simp [eqvs] at h
  | l :: ls, [], ys, b, h => by simp [eqvs] at h
  | l :: ls, x :: xs, [], b, h => by simp [eqvs] at h
  | l :: ls, x :: xs, y :: ys, b, h => by
    simp only [eqvs] at h
    split at h
    · rename_i a r h1 h2
      have := eqvs_length ls xs ys r h2
      simp; omega
    · simp at h
theorem eqvs_one {l : LK} {us vs : List Value} {b : Bool} (h : eqvs [l] us vs = some b) : ∃ x y, us = [x] ∧ vs = [y] ∧ eqv1 l x y = some b := by
  obtain ⟨h1, h2⟩ := eqvs_length _ _ _ _ h
  match us, vs, h1, h2 with
  | [x], [y], _, _ =>
    refine ⟨x, y, rfl, rfl, ?_⟩
    simp only [eqvs] at h
    split at h
    · rename_i a r ha hr; simp at hr; subst hr; simpa [ha] using h
    · simp at h
theorem eqv1_int {k : IntKind} {x y : Value} {b : Bool} (h : eqv1 (.int k) x y = some b) : ∃ a c, x = .int k a ∧ y = .int k c ∧ b = (a == c) := by
  unfold eqv1 at h
  split at h
  · rename_i k' i a j c hk
    cases hk
    split at h
    · rename_i hc; obtain ⟨rfl, rfl⟩ := hc; simp at h; exact ⟨_, _, rfl, rfl, h.symm⟩
    · simp at h
  · rename_i hk; cases hk
  · rename_i hk; cases hk
  · simp at h
theorem eqv1_str {x y : Value} {b : Bool} (h : eqv1 .str x y = some b) : ∃ a c, x = .string a ∧ y = .string c ∧ b = (a.toList == c.toList) := by
  unfold eqv1 at h
  split at h
  · rename_i hk; cases hk
  · simp at h; exact ⟨_, _, rfl, rfl, h.symm⟩
  · rename_i hk; cases hk
  · simp at h
theorem eqv1_bool {x y : Value} {b : Bool} (h : eqv1 .bool x y = some b) : ∃ a c, x = .bool a ∧ y = .bool c ∧ b = (a == c) := by
  unfold eqv1 at h
  split at h
  · rename_i hk; cases hk
  · rename_i hk; cases hk
  · simp at h; exact ⟨_, _, rfl, rfl, h.symm⟩
  · simp at h
/-- A value of a type out of its cells. -/
def valOf (agg : Bool) (us : List Value) : Value := match agg with | true => .agg us.toArray | false => us.headD undef
theorem run_isAgg (P : Program) (t : TypeId) (hu : (P.underlying t).isSome) (w : World) : (isAgg t).run P w = .ok (isAggP P t) w := by
  obtain ⟨d, hd⟩ := Option.isSome_iff_exists.1 hu
  unfold isAgg isAggP
  simp only [Sem.run_bind, run_underlying hd, Result.andThen_ok, hd]
  cases d <;> rfl
theorem run_part (P : Program) (t : TypeId) (hu : (P.underlying t).isSome) (i : TypeInfo) (hi : P.info? t = some i) (xs : List Value) (off : Nat) (l : Nat) (hl : i.size = l) (h1 : isAggP P t = false → l = 1) (hlen : off + l ≤ xs.length) (w : World) :
    (part t xs.toArray off).run P w = .ok (valOf (isAggP P t) ((xs.drop off).take l)) w := by
  unfold part
  simp only [Sem.run_bind, run_isAgg P t hu, Result.andThen_ok]
  cases hb : isAggP P t with
  | true =>
    simp only [if_true, sizeOf, typeInfo, Sem.run_bind, run_program, Result.andThen_ok, hi, Sem.run_pure, valOf, hl]
    congr 1
    congr 1
    apply Array.ext'
    simp [Array.toList_extract, List.extract_eq_take_drop]
  | false =>
    have h1' := h1 hb
    subst h1'
    have hlt : off < xs.length := by omega
    simp only [Bool.false_eq_true, if_false, valOf]
    rw [List.getElem?_toArray, List.getElem?_eq_getElem hlt]
    rw [List.drop_eq_getElem_cons hlt]
    rfl
theorem eqFields_leaves (P : Program) (d n : Nat) (w : World)
    (ih : ∀ t ls, leavesOf P n t = some ls → ∀ us vs b, eqvs ls us vs = some b → (Op.equalIn d t (valOf (isAggP P t) us) (valOf (isAggP P t) vs)).run P w = .ok b w)
    (hag : ∀ t ls, leavesOf P n t = some ls → (P.underlying t).isSome ∧ (isAggP P t = false → ls.length = 1)) :
    ∀ (fs : List Field) (off : Nat) (ls : List LK), leavesFs P (leavesOf P n) off fs = some ls → ∀ (us vs : List Value) (b : Bool), eqvs ls (us.drop off) (vs.drop off) = some b → off ≤ us.length → off ≤ vs.length →
      (Op.eqFields d us.toArray vs.toArray fs).run P w = .ok b w
  | [], off, ls, h, us, vs, b, hb, _, _ => by
    simp [leavesFs] at h; subst h
    have := eqvs_length _ _ _ _ hb
    have hb' : b = true := by
      cases hx : us.drop off with
      | nil => cases hy : vs.drop off with
        | nil => rw [hx, hy] at hb; simpa [eqvs] using hb.symm
        | cons _ _ => rw [hy] at this; simp at this
      | cons _ _ => rw [hx] at this; simp at this
    subst hb'
    simp [Op.eqFields]
  | f :: fs, off, ls, h, us, vs, b, hb, h1, h2 => by
    simp only [leavesFs] at h
    split at h
    · rename_i l i hl hi
      split at h
      · rename_i hc
        simp only [Bool.and_eq_true, bne_iff_ne, ne_eq] at hc
        obtain ⟨hn, ho, hs⟩ := hc
        have ho := Nat.eq_of_beq_eq_true ho
        have hs := Nat.eq_of_beq_eq_true hs
        split at h
        · rename_i r hr
          simp at h; subst h
          obtain ⟨c, e, hc1, he1, rfl⟩ := eqvs_append l r _ _ b hb
          have hL := eqvs_length _ _ _ _ hc1
          simp at hL
          obtain ⟨hag1, hag2⟩ := hag f.type l hl
          have hp1 := run_part P f.type hag1 i hi us f.offset l.length hs hag2 (by omega) w
          have hp2 := run_part P f.type hag1 i hi vs f.offset l.length hs hag2 (by omega) w
          have hq := ih f.type l hl _ _ c hc1
          simp only [List.drop_drop] at he1
          have hrec := eqFields_leaves P d n w ih hag fs (off + l.length) r hr us vs e he1 (by omega) (by omega)
          rw [ho] at hp1 hp2
          simp only [Op.eqFields, ne_eq, hn, not_false_eq_true, if_true, Sem.run_bind, ho, hp1, hp2, Result.andThen_ok, hq]
          cases c
          · simp
          · simpa using hrec
        · simp at h
      · simp at h
    · simp at h
theorem eq_leaves (P : Program) (w : World) : ∀ (n : Nat) (t : TypeId) (ls : List LK), leavesOf P n t = some ls →
    ((P.underlying t).isSome ∧ (isAggP P t = false → ls.length = 1)) ∧ ∀ d, n ≤ d → ∀ us vs b, eqvs ls us vs = some b → (Op.equalIn d t (valOf (isAggP P t) us) (valOf (isAggP P t) vs)).run P w = .ok b w
  | 0, t, ls, h => by simp [leavesOf] at h
  | n + 1, t, ls, h => by
    simp only [leavesOf] at h
    split at h
    · rename_i k hu
      simp at h; subst h
      refine ⟨⟨by simp [hu], fun _ => rfl⟩, ?_⟩
      rintro (_ | d) hd us vs b hb
      · omega
      · have hag : isAggP P t = false := by simp [isAggP, hu]
        rw [hag]
        obtain ⟨x, y, rfl, rfl, hb1⟩ := eqvs_one hb
        obtain ⟨a, c, rfl, rfl, rfl⟩ := eqv1_int hb1
        simpa [valOf] using run_equalIn_int w d t _ _ _ _ hu
    · rename_i hu
      simp at h; subst h
      refine ⟨⟨by simp [hu], fun _ => rfl⟩, ?_⟩
      rintro (_ | d) hd us vs b hb
      · omega
      · have hag : isAggP P t = false := by simp [isAggP, hu]
        rw [hag]
        obtain ⟨x, y, rfl, rfl, hb1⟩ := eqvs_one hb
        obtain ⟨a, c, rfl, rfl, rfl⟩ := eqv1_str hb1
        simpa [valOf] using run_equalIn_string w d t _ _ hu
    · rename_i hu
      simp at h; subst h
      refine ⟨⟨by simp [hu], fun _ => rfl⟩, ?_⟩
      rintro (_ | d) hd us vs b hb
      · omega
      · have hag : isAggP P t = false := by simp [isAggP, hu]
        rw [hag]
        obtain ⟨x, y, rfl, rfl, hb1⟩ := eqvs_one hb
        obtain ⟨a, c, rfl, rfl, rfl⟩ := eqv1_bool hb1
        simpa [valOf] using run_equalIn_bool' w d t _ _ hu
    · rename_i fs hu
      split at h
      · simp at h
      · rename_i hst
        have hag : isAggP P t = true := by simp [isAggP, hu]
        refine ⟨⟨by simp [hu], by simp [hag]⟩, ?_⟩
        rintro (_ | d) hd us vs b hb
        · omega
        · rw [hag]
          have hf : P.fieldsOf t = fs := by simp [Program.fieldsOf, hu]
          simp only [valOf]
          rw [run_equalIn_struct (P := P) w d t _ _ (by rw [hf]; exact hu) hst, hf]
          exact eqFields_leaves P d n w (fun t ls h us vs b hb => (eq_leaves P w n t ls h).2 d (by omega) us vs b hb) (fun t ls h => (eq_leaves P w n t ls h).1) fs.toList 0 ls h us vs b (by simpa using hb) (by omega) (by omega)
    · simp at h
theorem eqCells_rel {ρ : Map} : ∀ {ls : List LK} {xs ys : List AV} {us vs : List Value} {b : Bool}, VRels ρ xs us → VRels ρ ys vs → eqCells ls xs ys = some b → eqvs ls us vs = some b := by
  have h1 : ∀ {l : LK} {x y : AV} {u v : Value} {b : Bool}, VRel ρ x u → VRel ρ y v → eq1 l x y = some b → eqv1 l u v = some b := by
    intro l x y u v b hx hy h
    cases l with
    | int k =>
      cases hx <;> cases hy <;> simp [eq1] at h
      split at h
      · rename_i hc; simp at hc h; subst h; simp [eqv1, hc]
      · simp at h
    | str => cases hx <;> cases hy <;> simp [eq1] at h <;> subst h <;> rfl
    | bool =>
      simp only [eq1] at h
      split at h
      · rename_i a c ha hc
        rw [asB_rel hx ha, asB_rel hy hc]
        simpa [eqv1] using h
      · simp at h
  intro ls
  induction ls with
  | nil => intro xs ys us vs b hx hy h; simp [eqCells] at h
  | cons l ls ih =>
    intro xs ys us vs b hx hy h
    cases hx with
    | nil => simp [eqCells] at h
    | cons x u xs us hx1 hx2 =>
      cases hy with
      | nil => simp [eqCells] at h
      | cons y v ys vs hy1 hy2 =>
        by_cases hn : ls = [] ∧ xs = [] ∧ ys = []
        · obtain ⟨rfl, rfl, rfl⟩ := hn
          cases hx2; cases hy2
          simp only [eqCells] at h
          simp [eqvs, h1 hx1 hy1 h]
        · have he : eqCells (l :: ls) (x :: xs) (y :: ys) = (match eq1 l x y, eqCells ls xs ys with | some a, some r => some (a && r) | _, _ => none) := by
            cases ls <;> cases xs <;> cases ys <;> first | rfl | exact absurd ⟨rfl, rfl, rfl⟩ hn
          rw [he] at h
          split at h
          · rename_i a r ha hr
            simp [eqvs, h1 hx1 hy1 ha, ih hx2 hy2 hr]
            simpa using h
          · simp at h
end Go.Ev

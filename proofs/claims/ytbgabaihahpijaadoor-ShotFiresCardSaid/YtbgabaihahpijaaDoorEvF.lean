import Derived.Test.YtbgabaihahpijaaDoorEvE
import Derived.Laws.Cover1
set_option linter.unusedVariables false
set_option linter.unusedSimpArgs false
namespace Go.Ev
open Go Go.RowKit
section
variable {E : Env} {C : Cfg} {ρ0 ρ : Map} {h : Heap} {w0 w : World} {ts : List AV} {a : Act}
theorem eqIn_pn (d : Nat) (t e : TypeId) (he : E.P.underlying t = some (.pointer e)) (p : Addr) : (Op.equalIn (d + 1) t (.pointer (some p)) (.pointer none)).run E.P w = .ok false w := by
  simp [Op.equalIn, run_underlying he]
theorem eqIn_nn (d : Nat) (t e : TypeId) (he : E.P.underlying t = some (.pointer e)) : (Op.equalIn (d + 1) t (.pointer none) (.pointer none)).run E.P w = .ok true w := by
  simp [Op.equalIn, run_underlying he]
theorem eqIn_sn (d : Nat) (t e : TypeId) (he : E.P.underlying t = some (.slice e)) (p : Addr) (n c : Nat) : (Op.equalIn (d + 1) t (.slice (some p) n c) (.slice none 0 0)).run E.P w = .ok false w := by
  simp [Op.equalIn, run_underlying he]
theorem eqIn_snn (d : Nat) (t e : TypeId) (he : E.P.underlying t = some (.slice e)) : (Op.equalIn (d + 1) t (.slice none 0 0) (.slice none 0 0)).run E.P w = .ok true w := by
  simp [Op.equalIn, run_underlying he]
theorem eqRun (t : TypeId) (x y : Value) (r : Bool) (hb : ∀ op, (op = .eql ∨ op = .neq) → (binOp op t x y) = (do let b ← Op.equalIn (9999 + 1) t x y; pure (.bool (if op = .neq then !b else b))))
    (h : (Op.equalIn (9999 + 1) t x y).run E.P w = .ok r w) : (binOp .eql t x y).run E.P w = .ok (.bool r) w ∧ (binOp .neq t x y).run E.P w = .ok (.bool (!r)) w := by
  rw [hb .eql (.inl rfl), hb .neq (.inr rfl)]
  simp [h]
theorem binV_run (tk : TK) (t : TypeId) {x y : AV} {u z : Value} (hx : VRel ρ x u) (hy : VRel ρ y z) {op : BinOp} {c : Option Bool} {v : AV} (hc : c ≠ some false)
    (hb : binV tk op x y = some (c, v))
    (ht : match tk with | .num => True | .str => True | .bool => E.P.underlying t = some .bool | .ptr => ∃ e, E.P.underlying t = some (.pointer e) | .sl => ∃ e, E.P.underlying t = some (.slice e)) :
    ∃ r, (binOp op t u z).run E.P w = .ok r w ∧ VRel ρ v r := by
  have fin : ∀ r, (binOp .eql t u z).run E.P w = .ok (.bool r) w ∧ (binOp .neq t u z).run E.P w = .ok (.bool (!r)) w →
      ((op = .eql ∧ VRel ρ v (.bool r)) ∨ (op = .neq ∧ VRel ρ v (.bool (!r)))) → ∃ r, (binOp op t u z).run E.P w = .ok r w ∧ VRel ρ v r := by
    intro r h1 h2
    rcases h2 with ⟨rfl, h2⟩ | ⟨rfl, h2⟩
    · exact ⟨_, h1.1, h2⟩
    · exact ⟨_, h1.2, h2⟩
  cases tk with
  | num =>
    clear fin
    simp only [binV] at hb
    split at hb
    · rename_i k a k' b
      cases hx; cases hy
      by_cases h1 : op = .shl
      · subst h1; exact shift_run (.inl rfl) hb hc t
      by_cases h2 : op = .shr
      · subst h2; exact shift_run (.inr rfl) hb hc t
      by_cases hk : k = k'
      · subst hk
        exact binInt_run (by clear hc; cases k <;> cases op <;> first | exact hb | exact absurd rfl h1 | exact absurd rfl h2) hc t
      · exfalso; have hd : decide (k = k') = false := by simpa using hk
        cases op <;> simp only [hd, reduceCtorEq] at hb <;> contradiction
    · simp at hb
  | str =>
    clear fin
    simp only [binV] at hb
    split at hb
    · rename_i a b
      cases hx; cases hy
      cases op <;> simp only [ok, okIf, Option.some.injEq, Prod.mk.injEq, reduceCtorEq] at hb <;> obtain ⟨rfl, rfl⟩ := hb
      · refine ⟨.string (a ++ b), ?_, VRel.str _⟩
        simp at hc
        simp only [binOp, Op.stringOp]
        rw [if_neg (by simp [IntKind.max, IntKind.signed, IntKind.bits]; omega)]
        rfl
      · refine ⟨_, ?_, VRel.bool _⟩; simp [binOp, Op.stringOp]
      · refine ⟨_, ?_, VRel.bool _⟩; simp [binOp, Op.stringOp]
    · simp at hb
  | bool =>
    simp only [binV] at hb
    split at hb
    · rename_i a b ha hbb
      rw [asB_rel hx ha, asB_rel hy hbb] at *
      have := eqRun (w := w) (E := E) t (.bool a) (.bool b) (a == b) (fun op ho => by rcases ho with rfl | rfl <;> rfl) (run_equalIn_bool' w 9999 t a b ht)
      cases op <;> simp only [ok, Option.some.injEq, Prod.mk.injEq, reduceCtorEq] at hb <;> obtain ⟨rfl, rfl⟩ := hb
      · exact ⟨_, this.1, .bool _⟩
      · exact ⟨_, this.2, .bool _⟩
    · simp at hb
  | ptr =>
    obtain ⟨e, he⟩ := ht
    simp only [binV] at hb
    split at hb <;> simp only [ok, Option.some.injEq, Prod.mk.injEq, reduceCtorEq] at hb <;> obtain ⟨rfl, rfl⟩ := hb <;> cases hx <;> cases hy
    · exact fin false (eqRun t _ _ false (fun op ho => by rcases ho with rfl | rfl <;> rfl) (eqIn_pn 9999 t e he _)) (.inl ⟨rfl, .ff⟩)
    · exact fin false (eqRun t _ _ false (fun op ho => by rcases ho with rfl | rfl <;> rfl) (eqIn_pn 9999 t e he _)) (.inr ⟨rfl, .tt⟩)
    · exact fin true (eqRun t _ _ true (fun op ho => by rcases ho with rfl | rfl <;> rfl) (eqIn_nn 9999 t e he)) (.inl ⟨rfl, .tt⟩)
    · exact fin true (eqRun t _ _ true (fun op ho => by rcases ho with rfl | rfl <;> rfl) (eqIn_nn 9999 t e he)) (.inr ⟨rfl, .ff⟩)
  | sl =>
    obtain ⟨e, he⟩ := ht
    simp only [binV] at hb
    split at hb <;> simp only [ok, Option.some.injEq, Prod.mk.injEq, reduceCtorEq] at hb <;> obtain ⟨rfl, rfl⟩ := hb <;> cases hx <;> cases hy
    · exact fin false (eqRun t _ _ false (fun op ho => by rcases ho with rfl | rfl <;> rfl) (eqIn_sn 9999 t e he _ _ _)) (.inl ⟨rfl, .ff⟩)
    · exact fin false (eqRun t _ _ false (fun op ho => by rcases ho with rfl | rfl <;> rfl) (eqIn_sn 9999 t e he _ _ _)) (.inr ⟨rfl, .tt⟩)
    · exact fin true (eqRun t _ _ true (fun op ho => by rcases ho with rfl | rfl <;> rfl) (eqIn_snn 9999 t e he)) (.inl ⟨rfl, .tt⟩)
    · exact fin true (eqRun t _ _ true (fun op ho => by rcases ho with rfl | rfl <;> rfl) (eqIn_snn 9999 t e he)) (.inr ⟨rfl, .ff⟩)
theorem maxV_run : ∀ (vs : List AV) (us : List Value) (v : AV) (u : Value) (c : Option Bool) (r : AV), VRel ρ v u → VRels ρ vs us → maxV v vs = some (c, r) → c = none ∧ ∃ z, (us.foldlM Builtin.max2 u).run E.P w = .ok z w ∧ VRel ρ r z
  | [], us, v, u, c, r, hv, hvs, h => by
    cases hvs; simp only [maxV, ok, Option.some.injEq, Prod.mk.injEq] at h; obtain ⟨rfl, rfl⟩ := h; exact ⟨rfl, u, by simp, hv⟩
  | x :: vs, us, v, u, c, r, hv, hvs, h => by
    cases hvs with
    | cons _ y _ us' h1 h2 =>
      unfold maxV at h
      split at h
      · rename_i heq; simp at heq
      · rename_i k a j b vs' heq; simp at heq; obtain ⟨rfl, rfl⟩ := heq
        cases hv; cases h1
        obtain ⟨hc, z, hz, hr⟩ := maxV_run vs us' _ (.int k (mx a b)) c r (.int _ _) h2 h
        refine ⟨hc, z, ?_, hr⟩
        rw [List.foldlM_cons]
        simpa [Builtin.max2, mx] using hz
      · simp at h
theorem minV_run : ∀ (vs : List AV) (us : List Value) (v : AV) (u : Value) (c : Option Bool) (r : AV), VRel ρ v u → VRels ρ vs us → minV v vs = some (c, r) → c = none ∧ ∃ z, (us.foldlM Builtin.min2 u).run E.P w = .ok z w ∧ VRel ρ r z
  | [], us, v, u, c, r, hv, hvs, h => by
    cases hvs; simp only [minV, ok, Option.some.injEq, Prod.mk.injEq] at h; obtain ⟨rfl, rfl⟩ := h; exact ⟨rfl, u, by simp, hv⟩
  | x :: vs, us, v, u, c, r, hv, hvs, h => by
    cases hvs with
    | cons _ y _ us' h1 h2 =>
      unfold minV at h
      split at h
      · rename_i heq; simp at heq
      · rename_i k a j b vs' heq; simp at heq; obtain ⟨rfl, rfl⟩ := heq
        cases hv; cases h1
        obtain ⟨hc, z, hz, hr⟩ := minV_run vs us' _ (.int k (mn a b)) c r (.int _ _) h2 h
        refine ⟨hc, z, ?_, hr⟩
        rw [List.foldlM_cons]
        simpa [Builtin.min2, mn] using hz
      · simp at h
end
end Go.Ev

import Derived.Test.YtbgabaihahpijaaDoorEvO
set_option linter.unusedVariables false
set_option linter.unusedSimpArgs false
namespace Go.Ev
open Go Go.RowKit
def noC : Cfg := { Γ := fun _ _ _ => none, Δ := fun _ _ _ => .fail, Λ := fun _ => none }
/-- One more function that gives plain data and changes nothing. -/
def addP (C : Cfg) (f : FuncId) (g : List AV → QR) : Cfg := { C with Γ := fun f' args h => match Nat.beq f' f with | true => g args | false => C.Γ f' args h }
def withL (C : Cfg) (L : Nat → Option (Nat × List Nat × (List AV → Heap → GT (AExit × List AV × Heap)))) : Cfg := { C with Λ := L }
theorem COK.no {E : Env} (hmix : E.P.follows .mixedOrders = true) : COK E noC :=
  { Γ := fun f args h c v hh => by simp [noC] at hh
    Δ := fun f args h Q hh => hh.elim
    mix := hmix
    mono := fun f args h x r hh => by simp [noC] at hh }
theorem COK.withL {E : Env} {C : Cfg} (hOK : COK E C) (L) : COK E (withL C L) := { Γ := hOK.Γ, Δ := hOK.Δ, mix := hOK.mix, mono := hOK.mono }
theorem COK.add {E : Env} {C : Cfg} (hOK : COK E C) (hlen : E.Gc.length = E.G.length) (hpl : plainHeld E.Gc) {f : FuncId} {g : List AV → QR}
    (hg : ∀ args c v, g args = some (c, v) → c ≠ some false → CallsA E f args E.Gc (fun s => VW v s.1) ∧ bel 0 v = true ∧ bels 0 args = true) : COK E (addP C f g) :=
  { Γ := fun f' args h c v hh hc => by
      simp only [addP] at hh
      split at hh
      · rename_i he
        simp at he; subst he
        obtain ⟨h1, h2, h3⟩ := hg args c v hh hc
        exact pure_calls hlen hpl h1 (fun s hs => hs) h2 h3 h
      · exact hOK.Γ f' args h c v hh hc
    Δ := hOK.Δ
    mix := hOK.mix
    mono := fun f' args h x r hh => by
      simp only [addP] at hh ⊢
      split at hh
      · rename_i he; exact hh
      · exact hOK.mono f' args h x r hh }
def loopsOf (at_ : Nat) : Code → List (Nat × Code)
  | .seq a b => loopsOf at_ a ++ loopsOf at_ b
  | .cond _ a b => loopsOf at_ a ++ loopsOf at_ b
  | .block id b => loopsOf id b
  | .loop b => [(at_, b)]
  | _ => []
theorem LOK.of {E : Env} {C : Cfg} : ∀ (c : Code) (at_ : Nat), (∀ p ∈ loopsOf at_ c, LoopOK E C p.1 p.2) → LOK E C at_ c := by
  intro c
  induction c with
  | seq a b iha ihb => intro at_ h; exact ⟨iha at_ (fun p hp => h p (by simp [loopsOf, hp])), ihb at_ (fun p hp => h p (by simp [loopsOf, hp]))⟩
  | cond o a b iha ihb => intro at_ h; exact ⟨iha at_ (fun p hp => h p (by simp [loopsOf, hp])), ihb at_ (fun p hp => h p (by simp [loopsOf, hp]))⟩
  | block id b ih => intro at_ h; exact ih id h
  | loop b ih => intro at_ h; exact h (at_, b) (by simp [loopsOf])
  | _ => intro at_ h; trivial
/-- The loops of a function. -/
def floops (f : Func) : List (Nat × Code) := match f.body with | some c => loopsOf 1000000 c | none => []
theorem LOK.fn {E : Env} {C : Cfg} {f : Func} (h : ∀ p ∈ floops f, LoopOK E C p.1 p.2) : ∀ c, f.body = some c → LOK E C 1000000 c := by
  intro c hc
  refine LOK.of c _ (fun p hp => h p ?_)
  unfold floops
  rw [hc]
  exact hp
theorem LOK.none {E : Env} {C : Cfg} {f : Func} (h : floops f = []) : ∀ c, f.body = some c → LOK E C 1000000 c :=
  LOK.fn (fun p hp => by rw [h] at hp; simp at hp)
noncomputable def cF (E : Env) (f : Func) : AFn := (compF E f).getD default
theorem cF_eq {E : Env} {f : Func} (h : (compF E f).isSome = true) : compF E f = some (cF E f) := by
  unfold cF
  cases hc : compF E f with
  | none => rw [hc] at h; cases h
  | some x => rfl
noncomputable def cB (E : Env) (at_ : Nat) (b : Code) : ACode := (comp E at_ b).getD .skip
theorem cB_eq {E : Env} {at_ : Nat} {b : Code} (h : (comp E at_ b).isSome = true) : comp E at_ b = some (cB E at_ b) := by
  unfold cB
  cases hc : comp E at_ b with
  | none => rw [hc] at h; cases h
  | some x => rfl
/-- A function without loops. -/
theorem calls {E : Env} {C : Cfg} (hOK : COK E C) {f : FuncId} {fn : Func} (hf : E.P.funcs[f]? = some fn) (hc : (compF E fn).isSome = true) (hl : ∀ p ∈ floops fn, LoopOK E C p.1 p.2)
    {args : List AV} {h : Heap} {Q : AV × Heap → Prop} (hh : (runF C (cF E fn) args h).holds Q) : CallsA E f args h Q :=
  runF_sound hOK hf (cF_eq hc) (LOK.fn hl) hh
theorem callsP {E : Env} {C : Cfg} (hOK : COK E C) {f : FuncId} {fn : Func} (hf : E.P.funcs[f]? = some fn) (hc : (compF E fn).isSome = true) (hl : ∀ p ∈ floops fn, LoopOK E C p.1 p.2)
    {args : List AV} {h : Heap} {Q : AV → Prop} (hh : (runP C (cF E fn) args h).holds Q) : CallsA E f args h (fun s => Q s.1) := by
  refine calls hOK hf hc hl ?_
  unfold runP at hh
  rw [GT.holds_bind] at hh
  exact hh
theorem loops_nil {E : Env} {C : Cfg} {fn : Func} (h : floops fn = []) : ∀ p ∈ floops fn, LoopOK E C p.1 p.2 := fun p hp => by rw [h] at hp; simp at hp
/-- The only loop of a function, with none within. -/
noncomputable def bodyOf (fn : Func) (i : Nat) : Nat × Code := (floops fn).getD i (0, .skip)
theorem loops_one {E : Env} {C : Cfg} (hOK : COK E C) {fn : Func} (hn : (floops fn).length = 1) (hc : (comp E (bodyOf fn 0).1 (bodyOf fn 0).2).isSome = true) (hin : loopsOf (bodyOf fn 0).1 (bodyOf fn 0).2 = [])
    (hlenG : E.Gc.length = E.G.length)
    (H : ∀ nt ks F, C.Λ (bodyOf fn 0).1 = some (nt, ks, F) → ∀ vs h Q, E.G.length ≤ h.length → (F vs h).holds Q → ∃ n, RunsN C (cB E (bodyOf fn 0).1 (bodyOf fn 0).2) h.length nt ks Q n vs h) : ∀ p ∈ floops fn, LoopOK E C p.1 p.2 := by
  intro p hp
  have : p = bodyOf fn 0 := by
    unfold bodyOf
    cases hx : floops fn with
    | nil => rw [hx] at hp; simp at hp
    | cons q l =>
      rw [hx] at hn hp
      cases l with
      | nil => simp at hp; simp [hp]
      | cons _ _ => simp at hn
  subst this
  exact LoopOK.mk hOK (cB_eq hc) (LOK.of _ _ (fun p hp => by rw [hin] at hp; simp at hp)) hlenG H
end Go.Ev

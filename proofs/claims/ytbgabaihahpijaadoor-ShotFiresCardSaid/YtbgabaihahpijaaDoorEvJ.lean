import Derived.Test.YtbgabaihahpijaaDoorEvI
set_option linter.unusedVariables false
set_option linter.unusedSimpArgs false
namespace Go.Ev
open Go Go.RowKit
theorem GT.holds_mono {α : Type} {Q Q' : α → Prop} (hq : ∀ x, Q x → Q' x) : ∀ {t : GT α}, t.holds Q → t.holds Q'
  | .leaf a, h => hq a h
  | .fail, h => h
  | .case b x y, h => ⟨fun e => GT.holds_mono hq (h.1 e), fun e => GT.holds_mono hq (h.2 e)⟩
  | .need b x, h => ⟨h.1, GT.holds_mono hq h.2⟩
theorem GT.holds_bind {α β : Type} {Q : β → Prop} {f : α → GT β} : ∀ {t : GT α}, (t.bind f).holds Q ↔ t.holds (fun a => (f a).holds Q)
  | .leaf a => Iff.rfl
  | .fail => Iff.rfl
  | .case b x y => by
    simp only [GT.bind, GT.holds]
    rw [GT.holds_bind, GT.holds_bind]
  | .need b x => by
    simp only [GT.bind, GT.holds]
    rw [GT.holds_bind]
def GT.all {α : Type} (Q : α → Prop) : GT α → Prop
  | .leaf a => Q a
  | .fail => True
  | .case _ x y => x.all Q ∧ y.all Q
  | .need _ x => x.all Q
theorem GT.all_mono {α : Type} {Q Q' : α → Prop} (hq : ∀ x, Q x → Q' x) : ∀ {t : GT α}, t.all Q → t.all Q'
  | .leaf a, h => hq a h
  | .fail, h => trivial
  | .case b x y, h => ⟨GT.all_mono hq h.1, GT.all_mono hq h.2⟩
  | .need b x, h => GT.all_mono (t := x) hq h
theorem GT.all_bind {α β : Type} {Q : β → Prop} {f : α → GT β} : ∀ {t : GT α}, t.all (fun a => (f a).all Q) → (t.bind f).all Q
  | .leaf a, h => h
  | .fail, h => trivial
  | .case b x y, h => ⟨GT.all_bind h.1, GT.all_bind h.2⟩
  | .need b x, h => GT.all_bind (t := x) h
section
variable {E : Env} {C : Cfg} {ρ0 ρ : Map} {h : Heap} {w0 w : World} {ts : List AV} {a : Act}
theorem adoV (hOK : COK E C) (hR : R E.g ρ0 ρ h w0 w) (hT : TRel ρ ts a) {o : Oper} {ao : AOper} (hcp : comp1 E o.op = some ao.op) (hd : ao.dst = o.dst) {Q : S2 → Prop} (ha : (adoOp C ao ts h).holds Q) {next : Act → World → Prop} {Qx : Exit → Act → World → Prop}
    (hnext : ∀ ts' h' a' w' ρ', Q (ts', h') → R E.g ρ0 ρ' h' w0 w' → Pre ρ ρ' → TRel ρ' ts' a' → next a' w') : o.wp E.P a w next Qx := by
  unfold adoOp at ha
  rw [GT.holds_bind] at ha
  unfold core at ha
  split at ha
  · rename_i hq
    cases hv : aq C ts h ao.op with
    | none => rw [hv] at ha; simp [GT.holds] at ha
    | some r =>
      obtain ⟨c, v⟩ := r
      have hcq : c ≠ some false ∧ Q (putO ts ao.dst v, h) := by
        rw [hv] at ha
        cases c with
        | none => exact ⟨by simp, ha⟩
        | some b => simp only [GT.holds] at ha; exact ⟨by simp [ha.1], ha.2⟩
      by_cases hp : ∃ f xs, ao.op = .pcall f xs
      · obtain ⟨f, xs, hp⟩ := hp
        rw [hp] at hv hcp
        simp only [aq] at hv
        have hc := hOK.Γ f _ h c v hv hcq.1
        obtain ⟨dst, op', ty, pos, after, guard⟩ := o
        simp only at hcp hd
        cases op' with
        | call cl =>
          simp only [comp1, compCall] at hcp
          obtain ⟨callee, args, argTypes⟩ := cl
          simp only at hcp
          split at hcp
          · rename_i g
            split at hcp
            · rename_i ys hys
              simp at hcp
              split at hcp
              · simp at hcp
                obtain ⟨rfl, rfl⟩ := hcp
                refine call_wp hR (opds_rel hR hT hys) hc (o := { dst := dst, op := Op.call { callee := .value (.func g), args := args, argTypes := argTypes }, type := ty, pos := pos, after := after, guard := guard }) ?_ ?_
                · have e1 : (args.toList.map a.eval).toArray = args.map a.eval := by apply Array.ext'; simp
                  rw [e1]
                  simp [execOp, resolve, Act.eval, Deferred.ofValue, invoke]
                · intro v' h' u w' ρ' he hR' hpre hr
                  simp at he
                  obtain ⟨rfl, rfl⟩ := he
                  refine hnext _ _ _ _ ρ' hcq.2 hR' hpre ?_
                  rw [hd]
                  exact (hT.mono hpre).put _ hr
              · simp at hcp
            · simp at hcp
          all_goals (first | done | simp at hcp | ((repeat' split at hcp) <;> simp at hcp))
        | _ =>
          simp only [comp1] at hcp
          first
            | (simp at hcp; done)
            | (simp only [Option.map_eq_some_iff] at hcp; obtain ⟨_, _, hcp⟩ := hcp; simp at hcp; done)
            | ((repeat' split at hcp) <;> simp at hcp; done)
            | ((repeat' split at hcp) <;> first | (simp at hcp; done) | contradiction)
      · obtain ⟨u, hu, hr⟩ := quietV hR hT hcp hq (fun f xs he => hp ⟨f, xs, he⟩) hv hcq.1
        unfold Oper.wp
        rw [hu, Oper.upon_value]
        refine hnext _ _ _ _ ρ hcq.2 hR (Pre.refl _) ?_
        rw [hd]
        exact hT.put _ hr
  · rename_i hq
    refine loudV hOK hR hT hcp hq ha (fun v h' u w' ρ' hQ hR' hpre hr => ?_)
    have hQ' : Q (putO ts ao.dst v, h') := hQ
    refine hnext _ _ _ _ ρ' hQ' hR' hpre ?_
    rw [hd]
    exact (hT.mono hpre).put _ hr
/-- A slot that a guard looks at. -/
theorem wanted_eq {ops : Array Oper} {o : Oper} {j : Nat} {want : Bool} (hg : o.guard = some (j, want)) {p : Oper} (hp : ops[j]? = some p) {t : Nat} (ht : p.dst = some t) {b : Bool} (hb : a.tmps.getD t undef = .bool b) :
    Region.wanted o (yielded ops a.tmps) = (b == want) := by
  have hget : a.tmps[t]? = some (.bool b) := by
    rw [Array.getD_eq_getD_getElem?] at hb
    cases hx : a.tmps[t]? with
    | none => rw [hx] at hb; simp [undef] at hb
    | some v => rw [hx] at hb; simp at hb; rw [hb]
  unfold Region.wanted
  rw [hg]
  simp only [yielded, hp, Option.bind_some, ht, hget]
  cases b <;> cases want <;> rfl
theorem stepV (hOK : COK E C) (hR : R E.g ρ0 ρ h w0 w) (hT : TRel ρ ts a) {opsA : Array Oper} {i : Nat} {o : Oper} (hi : opsA[i]? = some o) {ao : AOper} (hcp : comp1 E o.op = some ao.op) (hd : ao.dst = o.dst) (hg : guardOf opsA.toList o = some ao.guard) {Q : S2 → Prop} (ha : (astep C ao ts h).holds Q) {next : Act → World → Prop} {Qx : Exit → Act → World → Prop}
    (hnext : ∀ ts' h' a' w' ρ', Q (ts', h') → R E.g ρ0 ρ' h' w0 w' → Pre ρ ρ' → TRel ρ' ts' a' → next a' w') : wpOp E.P opsA Qx i next a w := by
  unfold wpOp
  simp only [hi]
  cases hgo : o.guard with
  | none =>
    simp only [guardOf, hgo, Option.some.injEq] at hg
    have hw : Region.wanted o (yielded opsA a.tmps) = true := by simp [Region.wanted, hgo]
    rw [if_pos hw]
    left
    simp only [astep, ← hg] at ha
    exact adoV hOK hR hT hcp hd ha hnext
  | some g =>
    obtain ⟨j, want⟩ := g
    simp only [guardOf, hgo] at hg
    split at hg
    · rename_i p hp
      split at hg
      · rename_i t ht
        simp at hg
        rw [nth_eq, Array.getElem?_toList] at hp
        simp only [astep, ← hg] at ha
        have hget := hT.get t
        -- what happens when the slot holds b
        have main : ∀ (b : Bool) (ts1 : List AV), a.tmps.getD t undef = .bool b → TRel ρ ts1 a → (aguard C ao ts1 h (b == want)).holds Q →
            if Region.wanted o (yielded opsA a.tmps) = true then o.wp E.P a w next Qx ∨ (o.asks E.P a w ∧ LetsOut Qx) else next (a.put o.dst undef) w := by
          intro b ts1 hb hT1 hh
          rw [wanted_eq hgo hp ht hb]
          cases hbw : (b == want) with
          | true =>
            rw [hbw] at hh
            simp only [aguard] at hh
            rw [if_pos rfl]
            exact .inl (adoV hOK hR hT1 hcp hd hh hnext)
          | false =>
            rw [hbw] at hh
            simp only [aguard, GT.holds] at hh
            rw [if_neg (by simp)]
            refine hnext _ _ _ _ ρ hh hR (Pre.refl _) ?_
            rw [hd]
            exact hT1.put _ (.tuple [] [] .nil)
        split at ha
        · rename_i he
          rw [he] at hget
          have hb := asB_rel (b := true) hget rfl
          refine main true ts hb hT ?_
          cases want <;> exact ha
        · rename_i he
          rw [he] at hget
          have hb := asB_rel (b := false) hget rfl
          refine main false ts hb hT ?_
          cases want <;> exact ha
        · rename_i c he
          rw [he] at hget
          have hb := asB_rel (b := c) hget rfl
          simp only [GT.holds] at ha
          cases c with
          | true =>
            refine main true (setN ts t .tt) hb (hT.setSame t (by rw [hb]; exact .tt)) ?_
            have := ha.1 rfl
            cases want <;> exact this
          | false =>
            refine main false (setN ts t .ff) hb (hT.setSame t (by rw [hb]; exact .ff)) ?_
            have := ha.2 rfl
            cases want <;> exact this
        · rename_i he
          rw [he] at hget
          have hu : a.tmps.getD t undef = .tuple #[] := by
            obtain ⟨ds, hds, hu⟩ := hget.tupleInv
            cases hds
            exact hu
          have hw : Region.wanted o (yielded opsA a.tmps) = false := by
            unfold Region.wanted
            rw [hgo]
            simp only [yielded, hp, Option.bind_some, ht]
            rw [Array.getD_eq_getD_getElem?] at hu
            cases hx : a.tmps[t]? with
            | none => rfl
            | some v => rw [hx] at hu; simp at hu; rw [hu]; rfl
          rw [hw, if_neg (by simp)]
          simp only [aguard, GT.holds] at ha
          refine hnext _ _ _ _ ρ ha hR (Pre.refl _) ?_
          rw [hd]
          exact hT.put _ (.tuple [] [] .nil)
        · simp [GT.holds] at ha
      · simp at hg
    · simp at hg
end
end Go.Ev

import Derived.Test.YtbgabaihahpijaaDoorEvM
set_option linter.unusedVariables false
set_option linter.unusedSimpArgs false
namespace Go.Ev
open Go Go.RowKit
def Wf : ACode → Prop
  | .reg ops mg => mg = regMg ops
  | .seq a b => Wf a ∧ Wf b
  | .cond _ a b mg => mg = condMg a b ∧ Wf a ∧ Wf b
  | .block _ b => Wf b
  | .loop _ b => Wf b
  | _ => True
theorem comp_wf (E : Env) : ∀ (c : Code) (at_ : Nat) (ac : ACode), comp E at_ c = some ac → Wf ac := by
  intro c
  induction c with
  | region id ops draw =>
    intro at_ ac h
    simp only [comp] at h
    split at h
    · simp at h; subst h; rfl
    · simp at h
  | seq a b iha ihb =>
    intro at_ ac h
    simp only [comp] at h
    split at h
    · rename_i x y hx hy; simp at h; subst h; exact ⟨iha _ _ hx, ihb _ _ hy⟩
    · simp at h
  | cond c a b iha ihb =>
    intro at_ ac h
    simp only [comp] at h
    split at h
    · rename_i d x y hd hx hy; simp at h; subst h; exact ⟨rfl, iha _ _ hx, ihb _ _ hy⟩
    · simp at h
  | block id b ih =>
    intro at_ ac h
    simp only [comp] at h
    split at h
    · rename_i x hx; simp at h; subst h; show Wf x; exact ih _ _ hx
    · simp at h
  | loop b ih =>
    intro at_ ac h
    simp only [comp] at h
    split at h
    · rename_i x hx; simp at h; subst h; show Wf x; exact ih _ _ hx
    · simp at h
  | skip => intro at_ ac h; simp [comp] at h; subst h; trivial
  | exit id => intro at_ ac h; simp [comp] at h; subst h; trivial
  | ret => intro at_ ac h; simp [comp] at h; subst h; trivial
  | _ => intro at_ ac h; simp [comp] at h
section
variable {C : Cfg}
theorem putO_agree (ts : List AV) (d : Option Nat) (v : AV) : Agree (match d with | some d => [d] | none => []) (putO ts d v) ts := by
  refine ⟨putO_len _ _ _, fun k hk => ?_⟩
  rw [tget_putO, if_neg]
  rintro ⟨h, _⟩
  rw [h] at hk
  simp at hk
theorem astep_quiet {o : AOper} (hq : isQuiet o.op = true) (ts : List AV) (h : Heap) : (astep C o ts h).all (SameOut (dsts1 o) ts h) := by
  have hput : ∀ (ts1 : List AV) v, Agree (match o.guard with | some (t, _) => [t] | none => []) ts1 ts → SameOut (dsts1 o) ts h (putO ts1 o.dst v, h) := by
    intro ts1 v ha
    refine ⟨rfl, ?_⟩
    have := (putO_agree ts1 o.dst v).trans ha
    refine this.mono (fun k hk => ?_)
    unfold dsts1
    rcases List.mem_append.1 hk with hk | hk
    · exact List.mem_append.2 (.inr hk)
    · exact List.mem_append.2 (.inl hk)
  have hado : ∀ ts1, Agree (match o.guard with | some (t, _) => [t] | none => []) ts1 ts → (adoOp C o ts1 h).all (SameOut (dsts1 o) ts h) := by
    intro ts1 ha
    unfold adoOp core
    rw [hq]
    simp only
    split
    · exact hput _ _ ha
    · exact hput _ _ ha
    · trivial
  have hag : ∀ ts1 g, Agree (match o.guard with | some (t, _) => [t] | none => []) ts1 ts → (aguard C o ts1 h g).all (SameOut (dsts1 o) ts h) := by
    intro ts1 g ha
    cases g with
    | true => exact hado _ ha
    | false => exact hput _ _ ha
  unfold astep
  cases hg : o.guard with
  | none =>
    rw [hg] at hado
    exact hado _ (Agree.refl _ _)
  | some p =>
    obtain ⟨t, want⟩ := p
    rw [hg] at hag
    have hs : ∀ v, Agree [t] (setN ts t v) ts := fun v => putO_agree ts (some t) v
    simp only
    split
    · exact hag _ _ (Agree.refl _ _)
    · exact hag _ _ (Agree.refl _ _)
    · exact ⟨hag _ _ (hs _), hag _ _ (hs _)⟩
    · exact hag _ _ (Agree.refl _ _)
    · trivial
theorem arun_quiet : ∀ {os : List AOper}, os.all (fun o => isQuiet o.op) = true → ∀ (ts : List AV) (h : Heap), (arun C os ts h).all (SameOut (dstsOf os) ts h)
  | [], _, ts, h => ⟨rfl, Agree.refl _ _⟩
  | o :: os, hq, ts, h => by
    simp only [List.all_cons, Bool.and_eq_true] at hq
    simp only [arun]
    refine GT.all_bind (GT.all_mono (fun s hs => ?_) (astep_quiet hq.1 ts h))
    obtain ⟨h1, h2⟩ := hs
    rw [h1]
    refine GT.all_mono (fun s' hs' => ?_) (arun_quiet hq.2 s.1 h)
    exact ⟨hs'.1, hs'.2.trans h2⟩
theorem reg_quiet {os : List AOper} (hq : os.all (fun o => isQuiet o.op) = true) (ts : List AV) (h : Heap) : (mergeR (regMg os) h (arun C os ts h)).all (SameOut (dstsOf os) ts h) := by
  refine mergeR_all (fun d hd => ?_) (arun_quiet hq ts h)
  unfold regMg at hd
  split at hd
  · simp at hd; exact hd.symm
  · simp at hd
theorem plain_all : ∀ (ac : ACode) (ds : List Nat), Wf ac → plainC ac = some ds → ∀ ts h, (aev C ac ts h).all (fun s => SameOut ds ts h s.2) := by
  intro ac
  induction ac with
  | skip => intro ds _ _ ts h; exact ⟨rfl, Agree.refl _ _⟩
  | reg os mg =>
    intro ds hw hp ts h
    simp only [plainC] at hp
    split at hp
    · rename_i hq
      simp at hp; subst hp
      simp only [Wf] at hw
      subst hw
      simp only [aev]
      exact GT.all_bind (GT.all_mono (fun s hs => hs) (reg_quiet hq ts h))
    · simp at hp
  | seq a b iha ihb =>
    intro ds hw hp ts h
    simp only [plainC] at hp
    split at hp
    · rename_i x y hx hy
      simp at hp; subst hp
      simp only [aev]
      refine GT.all_bind (GT.all_mono (fun s hs => ?_) (iha _ hw.1 hx ts h))
      obtain ⟨e, ts', h'⟩ := s
      obtain ⟨h1, h2⟩ := hs
      simp only at h1 h2
      subst h1
      cases e with
      | normal => exact GT.all_mono (fun s' hs' => ⟨hs'.1, hs'.2.trans h2⟩) (ihb _ hw.2 hy ts' h')
      | exit i => exact ⟨rfl, h2.mono (fun k hk => by simp [hk])⟩
      | ret => exact ⟨rfl, h2.mono (fun k hk => by simp [hk])⟩
    · simp at hp
  | cond c a b mg iha ihb =>
    intro ds hw hp ts h
    simp only [plainC] at hp
    split at hp
    · rename_i x y hx hy
      simp at hp; subst hp
      have h1 : (aev C a ts h).all (fun s => SameOut (x ++ y) ts h s.2) := GT.all_mono (fun s hs => ⟨hs.1, hs.2.mono (fun k hk => by simp [hk])⟩) (iha _ hw.2.1 hx ts h)
      have h2 : (aev C b ts h).all (fun s => SameOut (x ++ y) ts h s.2) := GT.all_mono (fun s hs => ⟨hs.1, hs.2.mono (fun k hk => by simp [hk])⟩) (ihb _ hw.2.2 hy ts h)
      simp only [aev]
      split
      · exact h1
      · exact h2
      · rename_i t ht
        have h3 : (GT.case t (aev C a ts h) (aev C b ts h)).all (fun s => SameOut (x ++ y) ts h s.2) := ⟨h1, h2⟩
        unfold mergeE
        have hmg : mg = some (x ++ y) := by rw [hw.1]; unfold condMg; rw [hx, hy]
        rw [hmg]
        simp only
        split
        · rename_i u hu
          refine GT.all_bind (GT.all_mono (fun s hs => hs) (mergeR_all (ds := x ++ y) (fun d hd => by simp at hd; exact hd.symm) (normals_all hu h3)))
        · exact h3
      · trivial
    · simp at hp
  | _ => intro ds _ hp; simp [plainC] at hp
end
inductive ERel : AExit → Exit → Prop
  | normal : ERel .normal .normal
  | exit (i : Nat) : ERel (.exit i) (.exit i)
  | ret : ERel .ret .ret
def Post (E : Env) (ρ0 : Map) (w0 : World) (Q : S3 → Prop) (e : Exit) (a : Act) (w : World) : Prop :=
  ∃ s ρ', Q s ∧ ERel s.1 e ∧ R E.g ρ0 ρ' s.2.2 w0 w ∧ TRel ρ' s.2.1 a
theorem Post.mono {E : Env} {ρ0 : Map} {w0 : World} {Q Q' : S3 → Prop} (hq : ∀ s, Q s → ∃ t, Q' (s.1, t, s.2.2) ∧ TWeak t s.2.1) {e : Exit} {a : Act} {w : World} (h : Post E ρ0 w0 Q e a w) : Post E ρ0 w0 Q' e a w := by
  obtain ⟨s, ρ', h1, h2, h3, h4⟩ := h
  obtain ⟨t, k1, k2⟩ := hq s h1
  exact ⟨_, ρ', k1, h2, h3, k2.rel h4⟩
/-- What the loops must do. -/
def LoopOK (E : Env) (C : Cfg) (at_ : Nat) (b : Code) : Prop :=
  ∀ nt ks F, C.Λ at_ = some (nt, ks, F) → ∀ ts h (Q : S3 → Prop) ρ0 w0 ρ a w, ts.length = nt → R E.g ρ0 ρ h w0 w → TRel ρ ts a →
    (F (picks ts ks) h).holds (fun s => Q (s.1, fills (jk nt) ks s.2.1, s.2.2)) → (Code.loop b).wp E.P (Post E ρ0 w0 Q) a w
def LOK (E : Env) (C : Cfg) : Nat → Code → Prop
  | at_, .seq a b => LOK E C at_ a ∧ LOK E C at_ b
  | at_, .cond _ a b => LOK E C at_ a ∧ LOK E C at_ b
  | _, .block id b => LOK E C id b
  | at_, .loop b => LoopOK E C at_ b
  | _, _ => True
theorem aev_sound {E : Env} {C : Cfg} (hOK : COK E C) {ρ0 : Map} {w0 : World} : ∀ (c : Code) (at_ : Nat) (ac : ACode), comp E at_ c = some ac → LOK E C at_ c →
    ∀ (ts : List AV) (h : Heap) (Q : S3 → Prop) (ρ : Map) (a : Act) (w : World), R E.g ρ0 ρ h w0 w → TRel ρ ts a → (aev C ac ts h).holds Q → c.wp E.P (Post E ρ0 w0 Q) a w := by
  intro c
  induction c with
  | skip =>
    intro at_ ac hc hl ts h Q ρ a w hR hT hh
    simp [comp] at hc; subst hc
    exact wp_skip ⟨_, ρ, hh, .normal, hR, hT⟩
  | exit id =>
    intro at_ ac hc hl ts h Q ρ a w hR hT hh
    simp [comp] at hc; subst hc
    exact wp_exit ⟨_, ρ, hh, .exit _, hR, hT⟩
  | ret =>
    intro at_ ac hc hl ts h Q ρ a w hR hT hh
    simp [comp] at hc; subst hc
    exact wp_ret ⟨_, ρ, hh, .ret, hR, hT⟩
  | region id ops draw =>
    intro at_ ac hc hl ts h Q ρ a w hR hT hh
    simp only [comp] at hc
    split at hc
    · rename_i r hr
      simp at hc; subst hc
      simp only [aev] at hh
      rw [GT.holds_bind] at hh
      have hm : ∀ ds, regMg r = some ds → (arun C r ts h).all (SameOut ds ts h) := by
        intro ds hd
        unfold regMg at hd
        split at hd
        · rename_i hq
          simp at hd; subst hd
          simp only [Bool.and_eq_true] at hq
          exact arun_quiet hq.1 ts h
        · simp at hd
      refine region_wp hOK hR hT hr ?_ (mergeR_sound hm hh)
      intro ts' h' a' w' ρ' hQ hR' hT'
      obtain ⟨s, hs, hw⟩ := hQ
      exact ⟨_, ρ', hs, .normal, hR', hw.rel hT'⟩
    · simp at hc
  | seq x y ihx ihy =>
    intro at_ ac hc hl ts h Q ρ a w hR hT hh
    simp only [comp] at hc
    split at hc
    · rename_i ax ay hax hay
      simp at hc; subst hc
      simp only [aev] at hh
      rw [GT.holds_bind] at hh
      refine wp_seq (wp_mono (ihx at_ ax hax hl.1 ts h _ ρ a w hR hT hh) ?_)
      rintro e a' w' ⟨⟨e', ts', h'⟩, ρ', hq, he, hR', hT'⟩
      cases he with
      | normal => exact ihy at_ ay hay hl.2 ts' h' Q ρ' a' w' hR' hT' hq
      | exit i => exact ⟨_, ρ', hq, .exit _, hR', hT'⟩
      | ret => exact ⟨_, ρ', hq, .ret, hR', hT'⟩
    · simp at hc
  | cond o x y ihx ihy =>
    intro at_ ac hc hl ts h Q ρ a w hR hT hh
    have hwf := comp_wf E _ _ _ hc
    simp only [comp] at hc
    split at hc
    · rename_i co ax ay hco hax hay
      simp at hc; subst hc
      have hrel := opd_rel hR hT hco
      simp only [aev] at hh
      split at hh
      · rename_i he
        rw [he] at hrel
        exact wp_cond_true (asB_rel (b := true) hrel rfl) (ihx at_ ax hax hl.1 ts h Q ρ a w hR hT hh)
      · rename_i he
        rw [he] at hrel
        exact wp_cond_false (asB_rel (b := false) hrel rfl) (ihy at_ ay hay hl.2 ts h Q ρ a w hR hT hh)
      · rename_i t he
        rw [he] at hrel
        have hk : (GT.case t (aev C ax ts h) (aev C ay ts h)).holds fun s => ∃ t, Q (s.1, t, s.2.2) ∧ TWeak t s.2.1 := by
          unfold mergeE at hh
          split at hh
          · exact GT.holds_mono (fun s hs => ⟨s.2.1, hs, TWeak.refl _⟩) hh
          · rename_i ds hds
            split at hh
            · rename_i u hu
              rw [GT.holds_bind] at hh
              have hpl : (GT.case t (aev C ax ts h) (aev C ay ts h)).all (fun s => SameOut ds ts h s.2) := by
                unfold condMg at hds
                split at hds
                · rename_i p q hp hq
                  simp at hds; subst hds
                  exact ⟨GT.all_mono (fun s hs => ⟨hs.1, hs.2.mono (fun k hk => by simp [hk])⟩) (plain_all ax p hwf.2.1 hp ts h), GT.all_mono (fun s hs => ⟨hs.1, hs.2.mono (fun k hk => by simp [hk])⟩) (plain_all ay q hwf.2.2 hq ts h)⟩
                · simp at hds
              have := mergeR_sound (fun d hd => by simp at hd; subst hd; exact normals_all hu hpl) hh
              refine GT.holds_mono (fun s hs => ?_) (normals_holds hu this)
              obtain ⟨h1, t', h2, h3⟩ := hs
              exact ⟨t', by rw [h1]; exact h2, h3⟩
            · exact GT.holds_mono (fun s hs => ⟨s.2.1, hs, TWeak.refl _⟩) hh
        refine wp_cond_split (asB_rel (b := t) hrel rfl) (fun e => ?_) (fun e => ?_)
        · exact wp_mono (ihx at_ ax hax hl.1 ts h _ ρ a w hR hT (hk.1 e)) (fun e' a' w' hp => Post.mono (fun s hs => hs) hp)
        · exact wp_mono (ihy at_ ay hay hl.2 ts h _ ρ a w hR hT (hk.2 e)) (fun e' a' w' hp => Post.mono (fun s hs => hs) hp)
      · simp [GT.holds] at hh
    · simp at hc
  | block id b ih =>
    intro at_ ac hc hl ts h Q ρ a w hR hT hh
    simp only [comp] at hc
    split at hc
    · rename_i ab hab
      simp at hc; subst hc
      simp only [aev] at hh
      rw [GT.holds_bind] at hh
      refine wp_block (wp_mono (ih id ab hab hl ts h _ ρ a w hR hT hh) ?_)
      rintro e a' w' ⟨⟨e', ts', h'⟩, ρ', hq, he, hR', hT'⟩
      cases he with
      | normal => exact ⟨_, ρ', hq, .normal, hR', hT'⟩
      | exit i =>
        simp only [Exit.inBlock]
        simp only at hq
        split at hq
        · rename_i hi
          rw [if_pos (by simpa using hi)]
          exact ⟨_, ρ', hq, .normal, hR', hT'⟩
        · rename_i hi
          rw [if_neg (by intro e; subst e; simp at hi)]
          exact ⟨_, ρ', hq, .exit _, hR', hT'⟩
      | ret => exact ⟨_, ρ', hq, .ret, hR', hT'⟩
    · simp at hc
  | loop b ih =>
    intro at_ ac hc hl ts h Q ρ a w hR hT hh
    simp only [comp] at hc
    split at hc
    · rename_i ab hab
      simp at hc; subst hc
      simp only [aev] at hh
      split at hh
      · rename_i nt ks F hF
        split at hh
        · rename_i hlen
          rw [GT.holds_bind] at hh
          exact hl nt ks F hF ts h Q ρ0 w0 ρ a w ((lenEq_iff _ _).1 hlen) hR hT hh
        · simp [GT.holds] at hh
      · simp [GT.holds] at hh
    · simp at hc
  | _ => intro at_ ac hc; simp [comp] at hc
/-! From a body to a call. -/
section
variable {E : Env} {C : Cfg}
theorem jk_rel (ρ : Map) : ∀ n, VRels ρ (jk n) (List.replicate n undef)
  | 0 => .nil
  | n + 1 => .cons _ _ _ _ (.junk _) (jk_rel ρ n)
theorem ptr_inv {ρ : Map} {b i j : Nat} {v : Value} (h : VRel ρ (.ptr b i j) v) : ∃ q, nth ρ b = some q ∧ v = .pointer (some ⟨q.blk, q.shift + (i * q.sz + j), none⟩) := by
  cases h with
  | ptr _ _ _ q hq => exact ⟨q, hq, rfl⟩
theorem res_rel {ρ0 ρ : Map} {h : Heap} {w0 w : World} {ts : List AV} {a : Act} (hR : R E.g ρ0 ρ h w0 w) (hT : TRel ρ ts a) : ∀ {rs : List ResultVar} {cs : List (Nat × Option (Bool × Nat))} {vs : List AV},
    compRes E rs = some cs → ress ts h cs = some vs → ∃ us, (rs.mapM (fun | .tmp t => pure (a.tmps.getD t undef) | .cell b t => do loadVar t (← asAddr (a.tmps.getD b undef)) : ResultVar → Sem Value)).run E.P w = .ok us w ∧ VRels ρ vs us
  | [], cs, vs, hc, hv => by
    simp [compRes] at hc; subst hc
    simp [ress] at hv; subst hv
    exact ⟨[], rfl, .nil⟩
  | .tmp t :: rs, cs, vs, hc, hv => by
    simp only [compRes] at hc
    split at hc
    · rename_i r hr
      simp at hc; subst hc
      simp only [ress, res1] at hv
      split at hv
      · rename_i v vs' h1 h2
        simp at hv; subst hv
        simp at h1; subst h1
        obtain ⟨us, hu, hrel⟩ := res_rel hR hT hr h2
        refine ⟨a.tmps.getD t undef :: us, ?_, .cons _ _ _ _ (hT.get t) hrel⟩
        rw [List.mapM_cons]
        simp only [Sem.run_bind, Sem.run_pure, Result.andThen_ok, hu]
      · simp at hv
    · simp at hc
  | .cell b t :: rs, cs, vs, hc, hv => by
    simp only [compRes] at hc
    split at hc
    · rename_i inf un r hinf hun hr
      simp at hc; subst hc
      simp only [ress] at hv
      split at hv
      · rename_i v vs' h1 h2
        simp at hv; subst hv
        obtain ⟨us, hu, hrel⟩ := res_rel hR hT hr h2
        have hb := hT.get b
        simp only [res1] at h1
        split at h1
        · rename_i blk j he
          rw [he] at hb
          split at h1
          · rename_i B hB
            split at h1
            · rename_i n hn
              obtain ⟨p, hp, hBR⟩ := hR.blk blk B (by unfold bget at hB; split at hB <;> simp_all)
              obtain ⟨u, hl, hr'⟩ := load_run hBR (i := 0) (by omega) h1 t (by simp [hun]) inf hinf rfl rfl
              refine ⟨u :: us, ?_, .cons _ _ _ _ hr' hrel⟩
              obtain ⟨q, hq, hqv⟩ := ptr_inv hb
              rw [hp] at hq
              simp at hq
              subst hq
              rw [List.mapM_cons]
              simp only [Sem.run_bind, hqv, asAddr, Sem.run_pure, Result.andThen_ok, hl]
              erw [hu]
              rfl
            · simp at h1
          · simp at h1
        · simp at h1
      · simp at hv
    · simp at hc
theorem pack_rel {ρ : Map} {vs : List AV} {us : List Value} (h : VRels ρ vs us) : VRel ρ (pack vs) (if h : us.toArray.size = 1 then us.toArray[0] else .tuple us.toArray) := by
  cases h with
  | nil => exact .tuple _ _ .nil
  | cons v u vs us hv hs =>
    cases hs with
    | nil => exact hv
    | cons v' u' vs us hv' hs => exact .tuple _ _ (.cons _ _ _ _ hv (.cons _ _ _ _ hv' hs))
theorem runF_sound (hOK : COK E C) {f : FuncId} {fn : Func} {af : AFn} (hf : E.P.funcs[f]? = some fn) (hc : compF E fn = some af) (hl : ∀ c, fn.body = some c → LOK E C 1000000 c)
    {args : List AV} {h : Heap} {Q : AV × Heap → Prop} (hh : (runF C af args h).holds Q) : CallsA E f args h Q := by
  unfold compF at hc
  split at hc
  · simp at hc
  · rename_i hname
    split at hc
    · rename_i c hb
      split at hc
      · rename_i ab rs hab hrs
        simp at hc
        subst hc
        refine ⟨⟨fn, hf, by simp [hb], hname⟩, fun ρ w0 w vs hR hv => ?_⟩
        refine calls_of_wp hf hb ?_
        unfold runF at hh
        rw [GT.holds_bind] at hh
        simp only at hh
        have hT : TRel ρ (args ++ jk (fn.ntmps - args.length)) { tmps := vs.toArray ++ Array.replicate (fn.ntmps - vs.toArray.size) undef, defers := [] } := by
          refine ⟨rfl, ?_⟩
          simp only [Array.toList_append, Array.toList_replicate, List.size_toArray]
          rw [← hv.length]
          exact hv.append (jk_rel ρ _)
        refine wp_mono (aev_sound hOK c 1000000 ab hab (hl c hb) _ h _ ρ _ w hR hT hh) ?_
        rintro e a' w' ⟨⟨e', ts', h'⟩, ρ', hq, he, hR', hT'⟩
        have key : ∀ (_ : e' = .normal ∨ e' = .ret), a'.defers = [] ∧ ∃ v, (results fn a'.tmps).run E.P w' = .ok v w' ∧ ∃ s : AV × Heap, Q s ∧ ∃ ρ' v', R E.g ρ ρ' s.2 w0 w' ∧ VRel ρ' s.1 v' ∧ Ending.returned v = .returned v' := by
          intro hx
          refine ⟨hT'.defers, ?_⟩
          have hq' : (match ress ts' h' rs with | some vs => GT.leaf (pack vs, h') | none => .fail).holds Q := by
            rcases hx with rfl | rfl <;> exact hq
          split at hq'
          · rename_i us hus
            obtain ⟨us', hrun, hrel⟩ := res_rel hR' hT' hrs hus
            refine ⟨_, ?_, _, hq', ρ', _, hR', pack_rel hrel, rfl⟩
            unfold results
            rw [Array.mapM_eq_mapM_toList]
            simp only [Sem.run_bind, map_eq_pure_bind, Sem.run_pure]
            erw [hrun]
            rfl
          · simp [GT.holds] at hq'
        cases he with
        | normal => exact key (.inl rfl)
        | exit i => simp [finish, GT.holds] at hq
        | ret => exact key (.inr rfl)
      · simp at hc
    · simp at hc
end
end Go.Ev

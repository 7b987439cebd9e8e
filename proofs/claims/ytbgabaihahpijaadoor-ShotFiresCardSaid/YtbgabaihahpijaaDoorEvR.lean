import Derived.Test.YtbgabaihahpijaaDoorEvP
set_option linter.unusedVariables false
set_option linter.unusedSimpArgs false
namespace Go.Ev
open Go Go.RowKit
/-! Truth values in one form. -/
mutual
def normB : AV → AV
  | .tt => .bool true
  | .ff => .bool false
  | .agg cs => .agg (normBs cs)
  | .tuple cs => .tuple (normBs cs)
  | v => v
def normBs : List AV → List AV
  | [] => []
  | v :: vs => normB v :: normBs vs
end
mutual
theorem VRel.norm {ρ : Map} : ∀ {v : AV} {u : Value}, VRel ρ v u → VRel ρ (normB v) u
  | _, _, .junk u => .junk u
  | _, _, .tt => .bool true
  | _, _, .ff => .bool false
  | _, _, .bool b => .bool b
  | _, _, .int k n => .int k n
  | _, _, .str s => .str s
  | _, _, .nilp => .nilp
  | _, _, .ptr b i j p hb => .ptr b i j p hb
  | _, _, .nils => .nils
  | _, _, .slice b lo len oc p ad cap hb h1 h2 h3 => .slice b lo len oc p ad cap hb h1 h2 h3
  | _, _, .func fn a c xs ys h1 h2 => .func fn a c xs ys h1 h2
  | _, _, .nilf => .nilf
  | _, _, .iface t v u h1 => .iface t v u h1
  | _, _, .nili => .nili
  | _, _, .agg cs ds h1 => .agg _ _ (VRels.norm h1)
  | _, _, .tuple cs ds h1 => .tuple _ _ (VRels.norm h1)
theorem VRels.norm {ρ : Map} : ∀ {v : List AV} {u : List Value}, VRels ρ v u → VRels ρ (normBs v) u
  | _, _, .nil => .nil
  | _, _, .cons v u vs us h1 h2 => .cons _ _ _ _ (VRel.norm h1) (VRels.norm h2)
end
theorem VW.norm {v v' : AV} (h : normB v' = v) : VW v v' := fun ρ u hr => h ▸ hr.norm
mutual
theorem bel_norm (k : Nat) : ∀ v, bel k (normB v) = bel k v
  | .tt => rfl
  | .ff => rfl
  | .agg cs => by simp only [normB, bel]; exact bels_norm k cs
  | .tuple cs => by simp only [normB, bel]; exact bels_norm k cs
  | .junk => rfl
  | .bool _ => rfl
  | .int _ _ => rfl
  | .str _ => rfl
  | .nilp => rfl
  | .ptr _ _ _ => rfl
  | .nils => rfl
  | .slice _ _ _ _ => rfl
  | .func _ _ _ => rfl
  | .nilf => rfl
  | .iface _ _ => rfl
  | .nili => rfl
theorem bels_norm (k : Nat) : ∀ vs, bels k (normBs vs) = bels k vs
  | [] => rfl
  | v :: vs => by simp only [normBs, bels]; rw [bel_norm k v, bels_norm k vs]
end
theorem CallsA.norm {E : Env} {f : FuncId} {args : List AV} {h : Heap} {Q : AV × Heap → Prop} (hc : CallsA E f (normBs args) h Q) : CallsA E f args h Q :=
  ⟨hc.1, fun ρ w0 w vs hR hv => hc.2 ρ w0 w vs hR hv.norm⟩
/-- One more function, its arguments in one form. -/
theorem COK.addN {E : Env} {C : Cfg} (hOK : COK E C) (hlen : E.Gc.length = E.G.length) (hpl : plainHeld E.Gc) {f : FuncId} {g : List AV → QR}
    (hg : ∀ args c v, g args = some (c, v) → c ≠ some false → CallsA E f args E.Gc (fun s => VW v s.1) ∧ bel 0 v = true ∧ bels 0 args = true) : COK E (addP C f (fun a => g (normBs a))) :=
  hOK.add hlen hpl (fun args c v h hc => by
    obtain ⟨h1, h2, h3⟩ := hg _ c v h hc
    exact ⟨h1.norm, h2, by rw [bels_norm] at h3; exact h3⟩)
/-! What is told with fewer variables known holds with more. -/
/-- The functions of a configuration do not look at the memory, and take and give plain data. -/
structure Flat (C : Cfg) : Prop where
  Γ : ∀ f args h c v, C.Γ f args h = some (c, v) → c ≠ some false → bel 0 v = true ∧ bels 0 args = true ∧ ∀ h', C.Γ f args h' = some (c, v)
  Δ : ∀ f args h, C.Δ f args h = .fail
theorem Flat.no : Flat noC := ⟨fun f args h c v hh => by simp [noC] at hh, fun _ _ _ => rfl⟩
theorem Flat.add {C : Cfg} (hF : Flat C) {f : FuncId} {g : List AV → QR} (hg : ∀ args c v, g args = some (c, v) → c ≠ some false → bel 0 v = true ∧ bels 0 args = true) : Flat (addP C f g) :=
  ⟨fun f' args h c v hh hc => by
      simp only [addP] at hh ⊢
      split at hh
      · rename_i he
        obtain ⟨h1, h2⟩ := hg args c v hh hc
        exact ⟨h1, h2, fun h' => hh⟩
      · obtain ⟨h1, h2, h3⟩ := hF.Γ f' args h c v hh hc
        exact ⟨h1, h2, h3⟩, hF.Δ⟩
theorem Flat.addN {C : Cfg} (hF : Flat C) {f : FuncId} {g : List AV → QR} (hg : ∀ args c v, g args = some (c, v) → c ≠ some false → bel 0 v = true ∧ bels 0 args = true) : Flat (addP C f (fun a => g (normBs a))) :=
  hF.add (fun args c v h hc => by
    obtain ⟨h1, h2⟩ := hg _ c v h hc
    exact ⟨h1, by rw [bels_norm] at h2; exact h2⟩)
theorem R.env {P : Program} {G : List Nat} {Gc Gc' : Heap} {pu : List FuncId} (hsub : ∀ p B, nth Gc p = some (some B) → nth Gc' p = some (some B)) {ρ0 ρ : Map} {h : Heap} {w0 w : World}
    (hR : R (Env.g { P := P, G := G, Gc := Gc', pure := pu }) ρ0 ρ h w0 w) : R (Env.g { P := P, G := G, Gc := Gc, pure := pu }) ρ0 ρ h w0 w :=
  { below := hR.below, len := hR.len, pre := hR.pre, glob := hR.glob, blk := hR.blk, dist := hR.dist, held := fun p B hp => hR.held p B (hsub p B hp) }
theorem COK.lift {P : Program} {G : List Nat} {Gc Gc' : Heap} {pu : List FuncId} (hsub : ∀ p B, nth Gc p = some (some B) → nth Gc' p = some (some B))
    (hlen : Gc.length = G.length) (hpl : plainHeld Gc) {C : Cfg} (hF : Flat C) (hOK : COK { P := P, G := G, Gc := Gc, pure := pu } C) : COK { P := P, G := G, Gc := Gc', pure := pu } C :=
  { Γ := fun f args h c v hh hc => by
      obtain ⟨hv, ha, hany⟩ := hF.Γ f args h c v hh hc
      have h1 := hOK.Γ f args Gc c v (hany _) hc
      refine ⟨h1.1, fun ρ w0 w vs hR hvs => ?_⟩
      have hR' := hR.env hsub
      have h2 := h1.2 _ _ _ vs (hR'.only hlen hpl) (hvs.low (k := 0) (fun b hb => by omega) ha)
      refine h2.mono ?_
      rintro e w' ⟨s, hs, ρ', u, hR'', hrel, rfl⟩
      subst hs
      exact ⟨(v, h), rfl, ρ, u, hR.frame hR''.below, hrel.low (k := 0) (fun b hb => by omega) hv, rfl⟩
    Δ := fun f args h Q hh => by rw [hF.Δ] at hh; exact hh.elim
    mix := hOK.mix
    mono := hOK.mono }
theorem R.nil {E : Env} {ρ0 ρ : Map} {h : Heap} {w0 w : World} (hR : R E.g ρ0 ρ h w0 w) (hh : E.Gc = []) : R E.g ρ0 ρ h w0 w := hR
/-! A loop, round by round. -/
def iter (C : Cfg) (ab : ACode) (nt : Nat) (ks : List Nat) : Nat → List AV → Heap → GT S3
  | 0, _, _ => .fail
  | n + 1, vs, h => (lstep C ab nt ks vs h).bind fun s => match s with
    | (.normal, vs, h) => iter C ab nt ks n vs h
    | (.exit i, s) => .leaf (.exit i, s)
    | (.ret, s) => .leaf (.ret, s)
theorem iter_runs {C : Cfg} {ab : ACode} {m nt : Nat} {ks : List Nat} {Q : S3 → Prop} : ∀ (n : Nat) (vs : List AV) (h : Heap), (iter C ab nt ks n vs h).holds Q → RunsN C ab m nt ks Q n vs h
  | 0, _, _, hh => hh.elim
  | n + 1, vs, h, hh => by
    simp only [iter, GT.holds_bind] at hh
    unfold RunsN
    refine GT.holds_mono ?_ hh
    rintro ⟨e, vs', h'⟩ hs
    cases e with
    | normal => exact ⟨h', .inl rfl, iter_runs n vs' h' hs⟩
    | exit i => exact ⟨h', .inl rfl, hs⟩
    | ret => exact ⟨h', .inl rfl, hs⟩
/-! A loop from one state on. -/
abbrev LF := Nat → Option (Nat × List Nat × (List AV → Heap → GT S3))
def noL : LF := fun _ => none
def sameP (vs : List AV) (h : Heap) (VS : List AV) (HS : Heap) : Prop := vs = VS ∧ h = HS
open Classical in
noncomputable def same (vs : List AV) (h : Heap) (VS : List AV) (HS : Heap) : Bool := decide (sameP vs h VS HS)
theorem same_self (vs : List AV) (h : Heap) : same vs h vs h = true := by unfold same; exact @decide_eq_true _ (Classical.propDecidable _) ⟨rfl, rfl⟩
theorem same_eq {vs VS : List AV} {h HS : Heap} (hs : same vs h VS HS = true) : vs = VS ∧ h = HS := by unfold same at hs; exact @of_decide_eq_true _ (Classical.propDecidable _) hs
/-- The loop at a place, from one state on. -/
noncomputable def loop1 (at_ nt : Nat) (ks : List Nat) (VS : List AV) (HS : Heap) (T : GT S3) (rest : LF) : LF := fun i => match Nat.beq i at_ with
  | true => some (nt, ks, fun vs h => .need (same vs h VS HS) T)
  | false => rest i
theorem LoopOK.one {E : Env} {C : Cfg} (hOK : COK E C) {at_ : Nat} {b : Code} (hc : (comp E at_ b).isSome = true) (hl : LOK E C at_ b) (hlenG : E.Gc.length = E.G.length) {nt : Nat} {ks : List Nat} {VS : List AV} {HS : Heap} {T : GT S3}
    (hL : C.Λ at_ = some (nt, ks, fun vs h => .need (same vs h VS HS) T)) (H : ∀ Q, T.holds Q → ∃ n, RunsN C (cB E at_ b) HS.length nt ks Q n VS HS) : LoopOK E C at_ b := by
  refine LoopOK.mk hOK (cB_eq hc) hl hlenG ?_
  intro nt' ks' F hF vs h Q hg hh
  rw [hL] at hF
  simp only [Option.some.injEq, Prod.mk.injEq] at hF
  obtain ⟨rfl, rfl, rfl⟩ := hF
  obtain ⟨hs, hT⟩ := hh
  obtain ⟨rfl, rfl⟩ := same_eq hs
  exact H Q hT
theorem loops_1 {E : Env} {C : Cfg} (hOK : COK E C) {fn : Func} (hn : (floops fn).length = 1) (hc : (comp E (bodyOf fn 0).1 (bodyOf fn 0).2).isSome = true) (hin : ∀ p ∈ loopsOf (bodyOf fn 0).1 (bodyOf fn 0).2, LoopOK E C p.1 p.2)
    (hlenG : E.Gc.length = E.G.length) {nt : Nat} {ks : List Nat} {VS : List AV} {HS : Heap} {T : GT S3} (hL : C.Λ (bodyOf fn 0).1 = some (nt, ks, fun vs h => .need (same vs h VS HS) T))
    (H : ∀ Q, T.holds Q → ∃ n, RunsN C (cB E (bodyOf fn 0).1 (bodyOf fn 0).2) HS.length nt ks Q n VS HS) : ∀ p ∈ floops fn, LoopOK E C p.1 p.2 := by
  intro p hp
  have : p = bodyOf fn 0 := by
    unfold bodyOf
    cases hx : floops fn with
    | nil => rw [hx] at hp; simp at hp
    | cons q l =>
      rw [hx] at hn hp
      cases l with
      | nil => simp at hp; simp [hp]
      | cons _ _ => simp at hn
  subst this
  exact LoopOK.one hOK hc (LOK.of _ _ hin) hlenG hL H
theorem in_nil {E : Env} {C : Cfg} {l : List (Nat × Code)} (h : l = []) : ∀ p ∈ l, LoopOK E C p.1 p.2 := fun p hp => by rw [h] at hp; simp at hp
/-- The blocks point at none from k on. -/
def belH (k : Nat) : Heap → Prop
  | [] => True
  | none :: r => belH k r
  | some B :: r => (∀ i, bels k (B.f i) = true) ∧ belH k r
theorem bels_nth {k : Nat} : ∀ {vs : List AV} {j : Nat} {v : AV}, bels k vs = true → nth vs j = some v → bel k v = true
  | [], j, v, _, h => by simp [nth] at h
  | x :: vs, 0, v, hb, h => by simp only [bels, Bool.and_eq_true] at hb; simp [nth] at h; subst h; exact hb.1
  | x :: vs, j + 1, v, hb, h => by simp only [bels, Bool.and_eq_true] at hb; exact bels_nth hb.2 h
theorem belH_get {k : Nat} : ∀ {h : Heap} {b : Nat} {B : Blk}, belH k h → nth h b = some (some B) → ∀ i, bels k (B.f i) = true
  | [], b, B, _, hn => by simp [nth] at hn
  | none :: r, 0, B, _, hn => by simp [nth] at hn
  | some X :: r, 0, B, hb, hn => by simp [nth] at hn; subst hn; exact hb.1
  | none :: r, b + 1, B, hb, hn => belH_get (h := r) hb hn
  | some X :: r, b + 1, B, hb, hn => belH_get (h := r) hb.2 hn
/-- What a round has made is left behind. -/
theorem HW.cut {m : Nat} {vs : List AV} {h h' : Heap} (k : Nat) (hk : h' = h.take k) (hm : m ≤ k) (hv : bels k vs = true) (hb : belH k h') : HW m vs h h' :=
  .inr ⟨k, hk, hm, hv, fun b B hB i j v hn => bels_nth (belH_get hb hB i) hn⟩
end Go.Ev

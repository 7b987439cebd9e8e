import Derived.Test.YtbgabaihahpijaaDoorEvN
set_option linter.unusedVariables false
set_option linter.unusedSimpArgs false
namespace Go.Ev
open Go Go.RowKit
/-! A value that points at no block from k on. -/
mutual
def bel (k : Nat) : AV → Bool
  | .ptr b _ _ => Nat.blt b k
  | .slice b _ _ _ => Nat.blt b k
  | .func _ a c => bels k a && bels k c
  | .iface _ v => bel k v
  | .agg cs => bels k cs
  | .tuple cs => bels k cs
  | _ => true
def bels (k : Nat) : List AV → Bool
  | [] => true
  | v :: vs => bel k v && bels k vs
end
mutual
theorem VRel.low {ρ ρ' : Map} {k : Nat} (h : ∀ b, b < k → nth ρ' b = nth ρ b) : ∀ {v : AV} {u : Value}, VRel ρ v u → bel k v = true → VRel ρ' v u
  | _, _, .junk u, _ => .junk u
  | _, _, .tt, _ => .tt
  | _, _, .ff, _ => .ff
  | _, _, .bool b, _ => .bool b
  | _, _, .int i n, _ => .int i n
  | _, _, .str s, _ => .str s
  | _, _, .nilp, _ => .nilp
  | _, _, .ptr b i j p hb, hl => .ptr b i j p (by rw [h b (by simpa [bel] using hl)]; exact hb)
  | _, _, .nils, _ => .nils
  | _, _, .slice b lo len oc p ad cap hb h1 h2 h3, hl => .slice b lo len oc p ad cap (by rw [h b (by simpa [bel] using hl)]; exact hb) h1 h2 h3
  | _, _, .func fn a c xs ys h1 h2, hl => by
    simp only [bel, Bool.and_eq_true] at hl
    exact .func fn a c xs ys (VRels.low h h1 hl.1) (VRels.low h h2 hl.2)
  | _, _, .nilf, _ => .nilf
  | _, _, .iface t v u h1, hl => .iface t v u (VRel.low h h1 (by simpa only [bel] using hl))
  | _, _, .nili, _ => .nili
  | _, _, .agg cs ds h1, hl => .agg cs ds (VRels.low h h1 (by simpa only [bel] using hl))
  | _, _, .tuple cs ds h1, hl => .tuple cs ds (VRels.low h h1 (by simpa only [bel] using hl))
theorem VRels.low {ρ ρ' : Map} {k : Nat} (h : ∀ b, b < k → nth ρ' b = nth ρ b) : ∀ {v : List AV} {u : List Value}, VRels ρ v u → bels k v = true → VRels ρ' v u
  | _, _, .nil, _ => .nil
  | _, _, .cons v u vs us h1 h2, hl => by
    simp only [bels, Bool.and_eq_true] at hl
    exact .cons v u vs us (VRel.low h h1 hl.1) (VRels.low h h2 hl.2)
end
theorem nth_take {α : Type} {l : List α} {k b : Nat} (h : b < k) : nth (l.take k) b = nth l b := by
  rw [nth_eq, nth_eq, List.getElem?_take, if_pos h]
/-- Memory that stays below stays in its abstraction. -/
theorem R.frame {g : Glob} {ρ0 ρ : Map} {h : Heap} {w0 w w' : World} (hR : R g ρ0 ρ h w0 w) (hb : Below w.heap.size w w') : R g ρ0 ρ h w0 w' := by
  have hlt : ∀ b B p, nth h b = some (some B) → nth ρ b = some p → BRel ρ w0 w p B → p.blk < w.heap.size := by
    intro b B p _ _ hBR
    by_cases hrw : B.rw = true
    · obtain ⟨_, _, ds', h3, _⟩ := hBR.rw_ hrw
      exact (Array.getElem?_eq_some_iff.1 h3).1
    · exact Nat.lt_of_lt_of_le (hBR.ro (by simpa using hrw)) hR.below.size
  refine { below := hR.below.trans (hb.mono hR.below.size), len := hR.len, pre := hR.pre, glob := hR.glob, blk := fun b B hB => ?_, dist := hR.dist, held := hR.held }
  obtain ⟨p, hp, hBR⟩ := hR.blk b B hB
  exact ⟨p, hp, hBR.move (Pre.refl _) (hb.block _ (hlt b B p hB hp hBR))⟩
/-- What the held globals hold is plain. -/
def plainHeld (hs : Heap) : Prop := ∀ p B, nth hs p = some (some B) → B.rw = false ∧ ∀ i j v, nth (B.f i) j = some v → bel 0 v = true
/-- The globals alone. -/
theorem R.only {g : Glob} {ρ0 ρ : Map} {h : Heap} {w0 w : World} (hR : R g ρ0 ρ h w0 w) (hlen : g.held.length = g.ids.length) (hpl : plainHeld g.held) :
    R g (ρ.take g.held.length) (ρ.take g.held.length) g.held w w := by
  have hk : g.held.length ≤ ρ.length := by
    rcases Nat.eq_zero_or_pos g.held.length with h0 | h0
    · omega
    · obtain ⟨q, hq, _⟩ := hR.glob (g.held.length - 1) (g.ids[g.held.length - 1]'(by omega)) (by simp)
      have := nth_lt hq
      omega
  refine { below := Below.refl _ _, len := by simp; omega, pre := Pre.refl _, glob := fun p x hx => ?_, blk := fun b B hB => ?_, dist := ?_, held := fun p B hB => ⟨(hpl p B hB).1, hB⟩ }
  · obtain ⟨q, hq, h1⟩ := hR.glob p x hx
    have : p < g.ids.length := (List.getElem?_eq_some_iff.1 hx).1
    exact ⟨q, by rw [nth_take (by omega)]; exact hq, h1⟩
  · obtain ⟨hrw, hBh⟩ := hR.held b B hB
    obtain ⟨p, hp, hBR⟩ := hR.blk b B hBh
    refine ⟨p, by rw [nth_take (nth_lt hB)]; exact hp, hBR.sz, hBR.room, hBR.len, fun i j v hi hn => ?_, fun hf => (by rw [hrw] at hf; cases hf), fun _ => Nat.lt_of_lt_of_le (hBR.ro hrw) hR.below.size⟩
    obtain ⟨u, hu, hr⟩ := hBR.cell i j v hi hn
    exact ⟨u, hu, hr.low (k := 0) (fun b hb => by omega) ((hpl b B hB).2 i j v hn)⟩
  · intro a b A B p q hA hrw
    rw [(hpl a A hA).1] at hrw; cases hrw
/-- What says less of a value. -/
def VW (v v' : AV) : Prop := ∀ (ρ : Map) (u : Value), VRel ρ v' u → VRel ρ v u
theorem VW.of_eq {v v' : AV} (h : v' = v) : VW v v' := fun _ _ hr => h ▸ hr
theorem VW.refl (v : AV) : VW v v := fun _ _ hr => hr
theorem VW.tt {b : Bool} (h : b = true) : VW (.bool b) .tt := fun _ _ hr => by cases hr; rw [h]; exact .bool _
theorem VW.ff {b : Bool} (h : b = false) : VW (.bool b) .ff := fun _ _ hr => by cases hr; rw [h]; exact .bool _
theorem VW.tuple2 {a a' b b' : AV} (h : VW a a') (k : VW b b') : VW (.tuple [a, b]) (.tuple [a', b']) := fun ρ u hr => by
  cases hr with
  | tuple _ ds hds =>
    cases hds with
    | cons _ u1 _ us h1 hs =>
      cases hs with
      | cons _ u2 _ us2 h2 hs2 =>
        cases hs2
        exact .tuple _ _ (.cons _ _ _ _ (h _ _ h1) (.cons _ _ _ _ (k _ _ h2) .nil))
/-- A function that gives plain data and changes nothing may be called anywhere. -/
theorem pure_calls {E : Env} (hlen : E.Gc.length = E.G.length) (hpl : plainHeld E.Gc) {f : FuncId} {args : List AV} {v : AV} {Q : AV × Heap → Prop} (hc : CallsA E f args E.Gc Q) (hq : ∀ s, Q s → VW v s.1) (hv : bel 0 v = true) (ha : bels 0 args = true) (h : Heap) :
    CallsA E f args h (fun s => s = (v, h)) := by
  refine ⟨hc.1, fun ρ w0 w vs hR hvs => ?_⟩
  have h1 := hc.2 _ _ _ vs (hR.only hlen hpl) (hvs.low (k := 0) (fun b hb => by omega) ha)
  refine h1.mono ?_
  rintro e w' ⟨s, hs, ρ', u, hR', hrel, rfl⟩
  refine ⟨(v, h), rfl, ρ, u, hR.frame hR'.below, ?_, rfl⟩
  exact (hq s hs _ _ hrel).low (k := 0) (fun b hb => by omega) hv
/-! Loops. -/
/-- The memory without the blocks that a round has made. -/
def HW (m : Nat) (vs : List AV) (h h' : Heap) : Prop :=
  h' = h ∨ ∃ k, h' = h.take k ∧ m ≤ k ∧ bels k vs = true ∧ ∀ b B, nth h' b = some (some B) → ∀ i j v, nth (B.f i) j = some v → bel k v = true
theorem HW.rel {g : Glob} {m : Nat} {vs : List AV} {h h' : Heap} (hw : HW m vs h h') {ρ0 ρ : Map} {w0 w : World} (hm : ρ0.length ≤ m) (hg : g.ids.length ≤ m) (hgh : g.held.length ≤ m) (hR : R g ρ0 ρ h w0 w) :
    ∃ ρ', R g ρ0 ρ' h' w0 w ∧ ∀ us, VRels ρ vs us → VRels ρ' vs us := by
  rcases hw with rfl | ⟨k, rfl, hmk, hvs, hbl⟩
  · exact ⟨ρ, hR, fun _ h => h⟩
  · have hl : ∀ b, b < k → nth (ρ.take k) b = nth ρ b := fun b hb => nth_take hb
    refine ⟨ρ.take k, { below := hR.below, len := by simp [hR.len], pre := ?_, glob := fun p x hx => ?_, blk := fun b B hB => ?_, dist := ?_, held := fun p B hB => ?_ }, fun us hus => hus.low (fun b hb => hl b hb) hvs⟩
    · obtain ⟨τ, hτ⟩ := hR.pre
      exact ⟨τ.take (k - ρ0.length), by rw [hτ, List.take_append, List.take_of_length_le (by omega)]⟩
    · obtain ⟨q, hq, h1⟩ := hR.glob p x hx
      have : p < g.ids.length := (List.getElem?_eq_some_iff.1 hx).1
      exact ⟨q, by rw [hl p (by omega)]; exact hq, h1⟩
    · have hbk : b < k := by have := nth_lt hB; simp at this; omega
      have hB' := hB
      rw [nth_take hbk] at hB
      obtain ⟨p, hp, hBR⟩ := hR.blk b B hB
      refine ⟨p, by rw [hl b hbk]; exact hp, hBR.sz, hBR.room, hBR.len, fun i j v hi hn => ?_, hBR.rw_, hBR.ro⟩
      obtain ⟨u, hu, hr⟩ := hBR.cell i j v hi hn
      exact ⟨u, hu, hr.low (fun b hb => hl b hb) (hbl b B hB' i j v hn)⟩
    · intro a b A B p q hA hrA hB hrB hp hq
      have hak : a < k := by have := nth_lt hA; simp at this; omega
      have hbk : b < k := by have := nth_lt hB; simp at this; omega
      rw [nth_take hak] at hA hp
      rw [nth_take hbk] at hB hq
      exact hR.dist a b A B p q hA hrA hB hrB hp hq
    · obtain ⟨h1, h2⟩ := hR.held p B hB
      exact ⟨h1, by rw [nth_take (by have := nth_lt hB; omega)]; exact h2⟩
/-- One round. -/
def lstep (C : Cfg) (ab : ACode) (nt : Nat) (ks : List Nat) (vs : List AV) (h : Heap) : GT S3 :=
  (aev C ab (fills (jk nt) ks vs) h).bind fun s => match lenEq s.2.1 nt with
    | true => .leaf (s.1, picks s.2.1 ks, s.2.2)
    | false => .fail
def RunsN (C : Cfg) (ab : ACode) (m nt : Nat) (ks : List Nat) (Q : S3 → Prop) : Nat → List AV → Heap → Prop
  | 0, _, _ => False
  | n + 1, vs, h => (lstep C ab nt ks vs h).holds fun s =>
    match s.1 with
    | .normal => ∃ h', HW m s.2.1 s.2.2 h' ∧ RunsN C ab m nt ks Q n s.2.1 h'
    | e => ∃ h', HW m s.2.1 s.2.2 h' ∧ Q (e, s.2.1, h')
theorem jk_len : ∀ n, (jk n).length = n
  | 0 => rfl
  | n + 1 => by simp [jk, jk_len n]
theorem fills_len : ∀ (ks : List Nat) (vs ts : List AV), (fills ts ks vs).length = ts.length
  | [], vs, ts => by simp [fills]
  | k :: ks, [], ts => by simp [fills]
  | k :: ks, v :: vs, ts => by simp only [fills]; rw [fills_len ks vs, setN_len]
theorem fills_rel {ρ : Map} {a : Act} {ts : List AV} : ∀ (ks : List Nat) (vs xs : List AV), TRel ρ xs a → (∀ (i k : Nat) (v : AV), ks[i]? = some k → vs[i]? = some v → VRel ρ v (a.tmps.getD k undef)) → TRel ρ (fills xs ks vs) a
  | [], vs, xs, hT, _ => by simpa [fills] using hT
  | k :: ks, [], xs, hT, _ => by simpa [fills] using hT
  | k :: ks, v :: vs, xs, hT, h => by
    simp only [fills]
    exact fills_rel (ts := ts) ks vs _ (hT.setSame k (h 0 k v rfl rfl)) (fun i k v hk hv => h (i + 1) k v hk hv)
theorem picks_get (ts : List AV) : ∀ (ks : List Nat) (i k : Nat) (v : AV), ks[i]? = some k → (picks ts ks)[i]? = some v → v = tget ts k
  | [], i, k, v, hk, hv => by simp at hk
  | x :: ks, 0, k, v, hk, hv => by simp [picks] at hk hv; rw [← hv, hk]
  | x :: ks, i + 1, k, v, hk, hv => picks_get ts ks i k v (by simpa using hk) (by simpa [picks] using hv)
theorem picks_rel {ρ : Map} {ts : List AV} {a : Act} (hT : TRel ρ ts a) : ∀ (ks : List Nat), VRels ρ (picks ts ks) (ks.map fun k => a.tmps.getD k undef)
  | [] => .nil
  | k :: ks => .cons _ _ _ _ (hT.get k) (picks_rel hT ks)
theorem jk_TRel {ρ : Map} {a : Act} (hd : a.defers = []) : TRel ρ (jk a.tmps.size) a := by
  refine ⟨hd, VRels.of_get _ _ (by simp [jk_len]) (fun i v hv => ?_)⟩
  have hi : i < a.tmps.toList.length := by
    have := (List.getElem?_eq_some_iff.1 hv).1
    simpa [jk_len] using this
  refine ⟨a.tmps.toList[i], by simp, ?_⟩
  have : ∀ (n i : Nat) (v : AV), (jk n)[i]? = some v → v = .junk := by
    intro n
    induction n with
    | zero => intro i v h; simp [jk] at h
    | succ n ih => intro i v h; cases i with
      | zero => simp [jk] at h; exact h.symm
      | succ i => exact ih i v (by simpa [jk] using h)
  rw [this _ _ _ hv]
  exact .junk _
/-- The slots that are looked at, under another map. -/
theorem forget {ρ ρ' : Map} {ts : List AV} {a : Act} {nt : Nat} {ks : List Nat} (hT : TRel ρ ts a) (hl : ts.length = nt) (hv : ∀ us, VRels ρ (picks ts ks) us → VRels ρ' (picks ts ks) us) : TRel ρ' (fills (jk nt) ks (picks ts ks)) a := by
  have hsz : nt = a.tmps.size := by rw [← hl]; have := hT.vals.length; simpa using this
  subst hsz
  refine fills_rel (ts := ts) _ _ _ (jk_TRel hT.defers) (fun i k v hk hv' => ?_)
  have hrel := hv _ (picks_rel hT ks)
  obtain ⟨u, hu, hr⟩ := hrel.get i v hv'
  rw [List.getElem?_map, hk] at hu
  simp at hu
  rw [Array.getD_eq_getD_getElem?, hu]
  exact hr
theorem loop_runs {E : Env} {C : Cfg} (hOK : COK E C) {at_ : Nat} {b : Code} {ab : ACode} (hc : comp E at_ b = some ab) (hl : LOK E C at_ b) {m nt : Nat} {ks : List Nat} {Q : S3 → Prop} {ρ0 : Map} {w0 : World}
    (hm : ρ0.length ≤ m) (hg : E.G.length ≤ m) (hgh : E.Gc.length ≤ m) {ts : List AV} {h : Heap} {a : Act} {w : World} {ρ : Map} (n : Nat) (hlen : ts.length = nt) (hR : R E.g ρ0 ρ h w0 w) (hT : TRel ρ ts a)
    (hr : RunsN C ab m nt ks Q n (picks ts ks) h) :
    (Code.loop b).wp E.P (Post E ρ0 w0 fun s => ∃ vs, s.2.1 = fills (jk nt) ks vs ∧ Q (s.1, vs, s.2.2)) a w := by
  let J : Nat → Act → World → Prop := fun n a w => ∃ vs h ρ, RunsN C ab m nt ks Q n vs h ∧ R E.g ρ0 ρ h w0 w ∧ TRel ρ (fills (jk nt) ks vs) a
  have hJ0 : J n a w := ⟨_, h, ρ, hr, hR, forget hT hlen (fun _ h => h)⟩
  classical
  have least : ∀ a w, (∃ n, J n a w) → ∃ n, J n a w ∧ ∀ k, J k a w → n ≤ k := by
    intro a w ⟨n, hn⟩
    induction n using Nat.strongRecOn with
    | _ n ih =>
      by_cases hx : ∃ k, k < n ∧ J k a w
      · obtain ⟨k, hk, hJ⟩ := hx; exact ih k hk hJ
      · exact ⟨n, hn, fun k hk => by
          rcases Nat.lt_or_ge k n with h | h
          · exact absurd ⟨k, h, hk⟩ hx
          · exact h⟩
  let μ : Act → World → Nat := fun a w => if hx : ∃ n, J n a w then (least a w hx).choose else 0
  have hμ : ∀ a w n, J n a w → J (μ a w) a w ∧ μ a w ≤ n := by
    intro a w n hn
    have hx : ∃ n, J n a w := ⟨n, hn⟩
    have hd : μ a w = (least a w hx).choose := by show dite _ _ _ = _; rw [dif_pos hx]
    have := (least a w hx).choose_spec
    rw [hd]
    exact ⟨this.1, this.2 n hn⟩
  refine wp_loop (fun a w => ∃ n, J n a w) μ ⟨n, hJ0⟩ ?_
  rintro a1 w1 ⟨n1, hn1⟩
  obtain ⟨hJ, _⟩ := hμ a1 w1 n1 hn1
  generalize hN : μ a1 w1 = N at hJ
  obtain ⟨vs, h1, ρ1, hruns, hR1, hT1⟩ := hJ
  cases N with
  | zero => exact hruns.elim
  | succ N =>
    simp only [RunsN, lstep] at hruns
    rw [GT.holds_bind] at hruns
    refine wp_mono (aev_sound hOK b at_ ab hc hl _ h1 _ ρ1 a1 w1 hR1 hT1 hruns) ?_
    rintro e a2 w2 ⟨⟨e', ts', h'⟩, ρ2, hq, he, hR2, hT2⟩
    simp only at hq
    cases hlen' : lenEq ts' nt with
    | false => rw [hlen'] at hq; exact hq.elim
    | true =>
      rw [hlen'] at hq
      simp only [GT.holds] at hq
      have hl' := (lenEq_iff _ _).1 hlen'
      have exits : ∀ (hx : ∃ h'', HW m (picks ts' ks) h' h'' ∧ Q (e', picks ts' ks, h'')), Post E ρ0 w0 (fun s => ∃ vs, s.2.1 = fills (jk nt) ks vs ∧ Q (s.1, vs, s.2.2)) e a2 w2 := by
        rintro ⟨h'', hw, hQ⟩
        obtain ⟨ρ3, hR3, hv3⟩ := hw.rel hm (g := E.g) hg hgh hR2
        exact ⟨(e', _, h''), ρ3, ⟨_, rfl, hQ⟩, he, hR3, forget hT2 hl' hv3⟩
      cases he with
      | normal =>
        obtain ⟨h'', hw, hQ⟩ := hq
        obtain ⟨ρ3, hR3, hv3⟩ := hw.rel hm (g := E.g) hg hgh hR2
        have hJ2 : J N a2 w2 := ⟨_, h'', ρ3, hQ, hR3, forget hT2 hl' hv3⟩
        refine ⟨⟨N, hJ2⟩, ?_⟩
        have := (hμ a2 w2 N hJ2).2
        omega
      | exit i => exact exits hq
      | ret => exact exits hq
theorem LoopOK.mk {E : Env} {C : Cfg} (hOK : COK E C) {at_ : Nat} {b : Code} {ab : ACode} (hc : comp E at_ b = some ab) (hl : LOK E C at_ b)
    (hlenG : E.Gc.length = E.G.length) (H : ∀ nt ks F, C.Λ at_ = some (nt, ks, F) → ∀ vs h Q, E.G.length ≤ h.length → (F vs h).holds Q → ∃ n, RunsN C ab h.length nt ks Q n vs h) : LoopOK E C at_ b := by
  intro nt ks F hF ts h Q ρ0 w0 ρ a w hlen hR hT hh
  have hpl : ρ0.length ≤ h.length := by
    obtain ⟨τ, hτ⟩ := hR.pre
    rw [← hR.len, hτ]; simp
  have hg : E.G.length ≤ h.length := by
    rcases Nat.eq_zero_or_pos E.G.length with h0 | h0
    · omega
    · obtain ⟨q, hq, _⟩ := hR.glob (E.G.length - 1) (E.G[E.G.length - 1]'(by omega)) (by simp [Env.g])
      have := nth_lt hq
      rw [hR.len] at this
      omega
  have hgh : E.Gc.length ≤ h.length := by omega
  obtain ⟨n, hn⟩ := H nt ks F hF _ h _ hg hh
  refine wp_mono (loop_runs hOK hc hl hpl hg hgh n hlen hR hT hn) ?_
  rintro e a' w' ⟨s, ρ', ⟨vs, hvs, hQ⟩, he, hR', hT'⟩
  exact ⟨s, ρ', by rw [← hvs] at hQ; exact hQ, he, hR', hT'⟩
end Go.Ev

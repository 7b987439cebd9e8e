import Derived.Test.YtbgabaihahpijaaDoorEvK
set_option linter.unusedVariables false
set_option linter.unusedSimpArgs false
namespace Go.Ev
open Go Go.RowKit
def arunI (C : Cfg) (os : List AOper) : List Nat → List AV → Heap → GT S2
  | [], ts, h => .leaf (ts, h)
  | i :: is, ts, h => match nth os i with
    | some o => (astep C o ts h).bind fun s => arunI C os is s.1 s.2
    | none => .fail
theorem pickAll_run {C : Cfg} {os : List AOper} : ∀ {is : List Nat} {r : List AOper}, pickAll os is = some r → ∀ ts h, arun C r ts h = arunI C os is ts h
  | [], r, hp, ts, h => by simp [pickAll] at hp; subst hp; rfl
  | i :: is, r, hp, ts, h => by
    simp only [pickAll] at hp
    split at hp
    · rename_i o r' ho hr
      simp at hp
      subst hp
      simp only [arun, arunI, ho]
      congr 1
      funext s
      exact pickAll_run hr _ _
    · simp at hp
theorem pickAll_get {os : List AOper} : ∀ {is : List Nat} {r : List AOper}, pickAll os is = some r → ∀ i ∈ is, ∃ o, nth os i = some o
  | [], r, hp, i, hi => by simp at hi
  | j :: is, r, hp, i, hi => by
    simp only [pickAll] at hp
    split at hp
    · rename_i o r' ho hr
      rcases List.mem_cons.1 hi with rfl | hi
      · exact ⟨o, ho⟩
      · exact pickAll_get hr i hi
    · simp at hp
theorem pull {C : Cfg} (hm : ∀ f args h x r, C.Γ f args h = some r → C.Γ f args (h ++ [x]) = some r) {os : List AOper} {i : Nat} {l2 : List Nat} {Q : S2 → Prop} :
    ∀ {l1 : List Nat}, (∀ j ∈ l1, ∃ x y, nth os j = some x ∧ nth os i = some y ∧ commA x y = true) → ∀ {ts : List AV} {h : Heap},
      (arunI C os (l1 ++ i :: l2) ts h).holds Q → (arunI C os (i :: (l1 ++ l2)) ts h).holds Q
  | [], _, ts, h, hh => hh
  | j :: l1, hc, ts, h, hh => by
    obtain ⟨x, y, hx, hy, hxy⟩ := hc j (by simp)
    have hc' : ∀ k ∈ l1, ∃ x y, nth os k = some x ∧ nth os i = some y ∧ commA x y = true := fun k hk => hc k (by simp [hk])
    simp only [List.cons_append, arunI, hx, GT.holds_bind] at hh
    simp only [arunI, hy, hx, List.cons_append, GT.holds_bind]
    have h1 : (astep C x ts h).holds fun s => (astep C y s.1 s.2).holds fun s' => (arunI C os (l1 ++ l2) s'.1 s'.2).holds Q := by
      refine GT.holds_mono (fun s hs => ?_) hh
      have := pull hm hc' hs
      simp only [arunI, hy, GT.holds_bind] at this
      exact this
    exact swap hm hxy h1
/-! What comes before what. -/
theorem foldl_bit (acc : List Nat) (j : Nat) : ∀ (l : List Nat) (s : Nat), (l.foldl (fun s e => s ||| 2 ^ e ||| ((nth acc e).getD 0)) s).testBit j = true →
    s.testBit j = true ∨ ∃ e ∈ l, e = j ∨ ((nth acc e).getD 0).testBit j = true
  | [], s, h => .inl h
  | e :: l, s, h => by
    rw [List.foldl_cons] at h
    rcases foldl_bit acc j l _ h with h | ⟨e', he, h⟩
    · rw [Nat.testBit_or, Nat.testBit_or, Bool.or_eq_true, Bool.or_eq_true] at h
      rcases h with (h | h) | h
      · exact .inl h
      · refine .inr ⟨e, by simp, .inl ?_⟩
        rw [Nat.testBit_two_pow] at h
        exact of_decide_eq_true h
      · exact .inr ⟨e, by simp, .inr h⟩
    · exact .inr ⟨e', by simp [he], h⟩
def GoodT (ops : List Oper) (T : List Nat) : Prop := ∀ i v j, nth T i = some v → v.testBit j = true →
  ∃ o, nth ops i = some o ∧ ∃ e ∈ preds o, e = j ∨ (e < i ∧ ((nth T e).getD 0).testBit j = true)
theorem befores_good (ops : List Oper) : ∀ (os : List Oper) (acc : List Nat), (∀ k, nth os k = nth ops (acc.length + k)) → GoodT ops acc → GoodT ops (befores os acc)
  | [], acc, _, h => h
  | o :: os, acc, hs, h => by
    unfold befores
    refine befores_good ops os _ (fun k => ?_) ?_
    · have := hs (k + 1)
      simp only [nth, List.length_append, List.length_singleton] at this ⊢
      rw [this, show acc.length + 1 + k = acc.length + (k + 1) by omega]
    · intro i v j hv hb
      by_cases hi : i < acc.length
      · rw [nth_append_lt hi] at hv
        obtain ⟨o', ho', e, he, h'⟩ := h i v j hv hb
        refine ⟨o', ho', e, he, ?_⟩
        rcases h' with h' | ⟨h1, h2⟩
        · exact .inl h'
        · exact .inr ⟨h1, by rw [nth_append_lt (by omega)]; exact h2⟩
      · have hi' : i = acc.length := by
          have := nth_lt hv
          simp at this
          omega
        subst hi'
        rw [nth_append_eq] at hv
        simp at hv
        subst hv
        have h0 := hs 0
        simp only [nth, Nat.add_zero] at h0
        refine ⟨o, h0.symm, ?_⟩
        rcases foldl_bit acc j _ _ hb with hb | ⟨e, he, hb⟩
        · simp at hb
        · refine ⟨e, he, ?_⟩
          rcases hb with hb | hb
          · exact .inl hb
          · right
            have he : e < acc.length := by
              rcases Nat.lt_or_ge e acc.length with h | h
              · exact h
              · rw [nth_eq, List.getElem?_eq_none h] at hb; simp at hb
            exact ⟨he, by rw [nth_append_lt he]; exact hb⟩
theorem mem_preds {o : Oper} {e : Nat} : e ∈ preds o ↔ ∃ d ∈ o.after, Region.binds .any d = true ∧ d.on = e := by
  simp only [preds, List.mem_map, List.mem_filter, Array.mem_toList_iff]
  constructor
  · rintro ⟨d, ⟨h1, h2⟩, h3⟩; exact ⟨d, h1, h2, h3⟩
  · rintro ⟨d, h1, h2, h3⟩; exact ⟨d, ⟨h1, h2⟩, h3⟩
/-- The state of a region under way. -/
structure Inv (ops : List Oper) (os : List AOper) (T : List Nat) (rem : List Nat) (listed : Array Bool) : Prop where
  nodup : rem.Nodup
  lt : ∀ k ∈ rem, k < ops.length
  size : listed.size = ops.length
  lst : ∀ k, k < ops.length → (listed.getD k true = false ↔ k ∈ rem)
  down : ∀ k o, nth ops k = some o → k ∉ rem → ∀ e ∈ preds o, e ∉ rem
  lin : rem.Pairwise fun j i => ∀ o, nth ops j = some o → i ∉ preds o
  self : ∀ j ∈ rem, ∀ o, nth ops j = some o → j ∉ preds o ∧ ∀ e ∈ preds o, e < ops.length
  prs : rem.Pairwise fun j i => ((nth T i).getD 0).testBit j = true ∨ ∃ x y, nth os j = some x ∧ nth os i = some y ∧ commA x y = true
  pre : ∀ i (o : Oper) (a : AOper), nth ops i = some o → nth os i = some a → True
theorem free_of {ops : List Oper} {T rem : List Nat} (hT : GoodT ops T) (hd : ∀ k o, nth ops k = some o → k ∉ rem → ∀ e ∈ preds o, e ∉ rem) (i : Nat) :
    (∀ o, nth ops i = some o → ∀ e ∈ preds o, e ∉ rem) → ∀ j, ((nth T i).getD 0).testBit j = true → j ∉ rem := by
  induction i using Nat.strongRecOn with
  | _ i ih =>
    intro hi j hb
    cases hv : nth T i with
    | none => rw [hv] at hb; simp at hb
    | some v =>
      rw [hv] at hb
      obtain ⟨o, ho, e, he, h⟩ := hT i v j hv hb
      have her := hi o ho e he
      rcases h with rfl | ⟨hlt, hb'⟩
      · exact her
      · exact ih e hlt (fun o' ho' => hd e o' ho' her) j hb'
section
variable {E : Env} {C : Cfg} {ρ0 ρ : Map} {h : Heap} {w0 w : World} {ts : List AV} {a : Act}
/-- The operations of a region stand in both forms. -/
structure Both (E : Env) (ops : List Oper) (os : List AOper) : Prop where
  get : ∀ i o, nth ops i = some o → ∃ ao, nth os i = some ao ∧ comp1 E o.op = some ao.op ∧ ao.dst = o.dst ∧ guardOf ops o = some ao.guard
theorem listed_set {listed : Array Bool} {i k : Nat} (hi : i < listed.size) (d : Bool) : (listed.setIfInBounds i true).getD k d = if k = i then true else listed.getD k d := by
  by_cases h : k = i
  · subst h; simp [hi]
  · rw [if_neg h, getD_set_ne d (fun e => h e.symm)]
theorem region_any (hOK : COK E C) {opsA : Array Oper} {os : List AOper} {T : List Nat} (hb : Both E opsA.toList os) (hT : GoodT opsA.toList T) {Q : S2 → Prop} {Qx : Exit → Act → World → Prop}
    (hq : ∀ ts h a w ρ, Q (ts, h) → R E.g ρ0 ρ h w0 w → TRel ρ ts a → Qx .normal a w) :
    ∀ (fuel : Nat) (rem : List Nat) (listed : Array Bool) (ts : List AV) (h : Heap) (a : Act) (w : World) (ρ : Map), rem.length ≤ fuel → Inv opsA.toList os T rem listed →
      R E.g ρ0 ρ h w0 w → TRel ρ ts a → (arunI C os rem ts h).holds Q → wpAny E.P .any opsA Qx fuel listed a w := by
  have hready : ∀ rem listed i, Inv opsA.toList os T rem listed → (i ∈ Region.ready .any opsA listed ↔ i ∈ rem ∧ ∀ o, nth opsA.toList i = some o → ∀ e ∈ preds o, e ∉ rem ∧ e < opsA.toList.length) := by
    intro rem listed i hI
    rw [mem_ready]
    constructor
    · rintro ⟨h1, o, ho, hall⟩
      have hilt : i < opsA.toList.length := by simp [(Array.getElem?_eq_some_iff.1 ho).1]
      refine ⟨(hI.lst i hilt).1 h1, fun o' ho' e he => ?_⟩
      rw [nth_eq, Array.getElem?_toList, ho] at ho'
      simp at ho'
      subst ho'
      obtain ⟨d, hd, hbd, rfl⟩ := mem_preds.1 he
      have hl := hall d hd hbd
      have hlt : d.on < opsA.toList.length := by
        rw [← hI.size]
        rcases Nat.lt_or_ge d.on listed.size with h' | h'
        · exact h'
        · simp [Array.getElem?_eq_none h'] at hl
      refine ⟨fun hm => ?_, hlt⟩
      have h0 := (hI.lst _ hlt).2 hm
      have hsz : d.on < listed.size := by rw [hI.size]; exact hlt
      simp [hsz] at h0 hl
      rw [h0] at hl; cases hl
    · rintro ⟨hm, hp⟩
      have hilt := hI.lt i hm
      have hilt' : i < opsA.size := by simpa using hilt
      refine ⟨(hI.lst i hilt).2 hm, opsA[i], by simp [hilt'], fun d hd hbd => ?_⟩
      have hn : nth opsA.toList i = some opsA[i] := by rw [nth_eq, Array.getElem?_toList]; simp [hilt']
      obtain ⟨hnm, hlt⟩ := hp _ hn d.on (mem_preds.2 ⟨d, hd, hbd, rfl⟩)
      have h0 : ¬ (listed.getD d.on true = false) := fun e => hnm ((hI.lst _ hlt).1 e)
      have hsz : d.on < listed.size := by rw [hI.size]; exact hlt
      simp [hsz] at h0 ⊢
      exact h0
  intro fuel
  induction fuel with
  | zero =>
    intro rem listed ts h a w ρ hl hI hR hT' hh
    have : rem = [] := by cases rem <;> simp_all
    subst this
    refine ⟨?_, hq _ _ _ _ ρ hh hR hT'⟩
    cases hr : Region.ready .any opsA listed with
    | nil => rfl
    | cons i l =>
      have := (hready [] listed i hI).1 (by rw [hr]; simp)
      simp at this
  | succ fuel ih =>
    intro rem listed ts h a w ρ hl hI hR hT' hh
    refine ⟨fun hr => ?_, fun i hi => ?_⟩
    · cases rem with
      | nil => exact hq _ _ _ _ ρ hh hR hT'
      | cons j rest =>
        exfalso
        have : j ∈ Region.ready .any opsA listed := by
          rw [hready _ _ _ hI]
          refine ⟨by simp, fun o ho e he => ⟨fun hm => ?_, ((hI.self j (by simp) o ho).2 e he)⟩⟩
          rcases List.mem_cons.1 hm with rfl | hm
          · exact (hI.self e (by simp) o ho).1 he
          · exact (List.pairwise_cons.1 hI.lin).1 e hm o ho he
        rw [hr] at this
        simp at this
    · obtain ⟨him, hip⟩ := (hready _ _ _ hI).1 hi
      obtain ⟨l1, l2, rfl⟩ := List.append_of_mem him
      have hilt := hI.lt i him
      have hilt' : i < opsA.size := by simpa using hilt
      have ho : opsA[i]? = some opsA[i] := by simp [hilt']
      have hn : nth opsA.toList i = some opsA[i] := by rw [nth_eq, Array.getElem?_toList, ho]
      obtain ⟨ao, hao, hcp, hd, hg⟩ := hb.get i _ hn
      have hfree := free_of hT hI.down i (fun o ho e he => (hip o ho e he).1)
      have hcomm : ∀ j ∈ l1, ∃ x y, nth os j = some x ∧ nth os i = some y ∧ commA x y = true := by
        intro j hj
        rcases (List.pairwise_append.1 hI.prs).2.2 j hj i (by simp) with hb | hb
        · exact absurd (by simp [hj]) (hfree j hb)
        · exact hb
      have hp := pull hOK.mono hcomm hh
      simp only [arunI, hao, GT.holds_bind] at hp
      have hni : i ∉ l1 ++ l2 := by
        have := hI.nodup
        rw [List.nodup_append] at this
        obtain ⟨n1, n2, n3⟩ := this
        intro hm
        rcases List.mem_append.1 hm with hm | hm
        · exact n3 i hm i (by simp) rfl
        · exact (List.nodup_cons.1 n2).1 hm
      have hsub : (l1 ++ l2).Sublist (l1 ++ i :: l2) := List.Sublist.append (List.Sublist.refl _) (List.sublist_cons_self _ _)
      have hmem : ∀ k, k ∈ l1 ++ i :: l2 ↔ k = i ∨ k ∈ l1 ++ l2 := by
        intro k; simp only [List.mem_append, List.mem_cons]
        constructor
        · rintro (h | h | h)
          · exact .inr (.inl h)
          · exact .inl h
          · exact .inr (.inr h)
        · rintro (h | h | h)
          · exact .inr (.inl h)
          · exact .inl h
          · exact .inr (.inr h)
      have hI' : Inv opsA.toList os T (l1 ++ l2) (listed.setIfInBounds i true) := by
        refine ⟨hI.nodup.sublist hsub, fun k hk => hI.lt k (hsub.subset hk), by simp [← hI.size], fun k hk => ?_, fun k o hk hkm e he => ?_, hI.lin.sublist hsub, fun j hj => hI.self j (hsub.subset hj), hI.prs.sublist hsub, fun _ _ _ _ _ => trivial⟩
        · rw [listed_set (by rw [hI.size]; exact hilt)]
          by_cases hki : k = i
          · subst hki; simp only [if_true, Bool.true_eq_false, false_iff]; exact hni
          · rw [if_neg hki, hI.lst k hk, hmem]
            simp [hki]
        · by_cases hki : k = i
          · subst hki
            exact fun hm => (hip o hk e he).1 (hsub.subset hm)
          · exact fun hm => hI.down k o hk (fun h => (by rcases (hmem k).1 h with h | h; exact hki h; exact hkm h)) e he (hsub.subset hm)
      refine stepV hOK hR hT' ho hcp hd hg hp (fun ts' h' a' w' ρ' hQ hR' hpre hT'' => ?_)
      refine ih (l1 ++ l2) _ ts' h' a' w' ρ' ?_ hI' hR' hT'' hQ
      simp at hl ⊢
      omega
end
end Go.Ev

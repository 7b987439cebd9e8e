import Derived.Test.YtbgabaihahpijaaDoorEvL
set_option linter.unusedVariables false
set_option linter.unusedSimpArgs false
namespace Go.Ev
open Go Go.RowKit
section
variable {E : Env} {C : Cfg} {ρ0 ρ : Map} {h : Heap} {w0 w : World} {ts : List AV} {a : Act}
theorem R.drew (hR : R E.g ρ0 ρ h w0 w) : R E.g ρ0 ρ h w0 { w with drawn := w.drawn + 1 } :=
  { below := ⟨hR.below.os, hR.below.tape, hR.below.output, hR.below.size, hR.below.block⟩
    len := hR.len
    pre := hR.pre
    glob := hR.glob
    blk := fun b B hb => by
      obtain ⟨p, hp, hB⟩ := hR.blk b B hb
      exact ⟨p, hp, hB.sz, hB.room, hB.len, hB.cell, hB.rw_, hB.ro⟩
    dist := hR.dist
    held := hR.held }
theorem text_get {ops : List Oper} : ∀ {os' : List Oper} {as' : List AOp} {r : List AOper}, comps E os' = some as' → textReg ops os' as' = some r →
    r.length = os'.length ∧ ∀ i o, nth os' i = some o → ∃ ao, nth r i = some ao ∧ comp1 E o.op = some ao.op ∧ ao.dst = o.dst ∧ guardOf ops o = some ao.guard
  | [], as', r, hc, ht => by
    simp [comps] at hc; subst hc
    simp [textReg] at ht; subst ht
    exact ⟨rfl, fun i o h => by simp [nth] at h⟩
  | o :: os', as', r, hc, ht => by
    simp only [comps] at hc
    split at hc
    · rename_i x xs hx hxs
      simp at hc; subst hc
      simp only [textReg] at ht
      split at ht
      · rename_i g r' hg hr
        simp at ht; subst ht
        obtain ⟨h1, h2⟩ := text_get hxs hr
        refine ⟨by simp [h1], fun i o' ho' => ?_⟩
        cases i with
        | zero => simp only [nth, Option.some.injEq] at ho'; subst ho'; exact ⟨_, rfl, hx, rfl, hg⟩
        | succ i => exact h2 i o' ho'
      · simp at ht
    · simp at hc
theorem region_list (hOK : COK E C) {opsA : Array Oper} {os : List AOper} (hb : Both E opsA.toList os) {Q : S2 → Prop} {Qx : Exit → Act → World → Prop}
    (hq : ∀ ts h a w ρ, Q (ts, h) → R E.g ρ0 ρ h w0 w → TRel ρ ts a → Qx .normal a w) :
    ∀ (l : List Nat) (ts : List AV) (h : Heap) (a : Act) (w : World) (ρ : Map), (∀ i ∈ l, i < opsA.size) → R E.g ρ0 ρ h w0 w → TRel ρ ts a → (arunI C os l ts h).holds Q → wpOps E.P opsA Qx l a w
  | [], ts, h, a, w, ρ, _, hR, hT, hh => hq _ _ _ _ ρ hh hR hT
  | i :: l, ts, h, a, w, ρ, hl, hR, hT, hh => by
    rw [wpOps_cons]
    have hi := hl i (by simp)
    have ho : opsA[i]? = some opsA[i] := by simp [hi]
    have hn : nth opsA.toList i = some opsA[i] := by rw [nth_eq, Array.getElem?_toList, ho]
    obtain ⟨ao, hao, hcp, hd, hg⟩ := hb.get i _ hn
    simp only [arunI, hao, GT.holds_bind] at hh
    exact stepV hOK hR hT ho hcp hd hg hh (fun ts' h' a' w' ρ' hQ hR' hpre hT' => region_list hOK hb hq l ts' h' a' w' ρ' (fun k hk => hl k (by simp [hk])) hR' hT' hQ)
theorem arunI_range {os : List AOper} : ∀ (m k : Nat), k + m = os.length → ∀ ts h, arunI C os (List.range' k m) ts h = arun C (os.drop k) ts h
  | 0, k, hk, ts, h => by rw [List.drop_of_length_le (by omega)]; rfl
  | m + 1, k, hk, ts, h => by
    have hlt : k < os.length := by omega
    rw [List.drop_eq_getElem_cons hlt, List.range'_succ]
    have hn : nth os k = some os[k] := by rw [nth_eq]; simp [hlt]
    simp only [arunI, arun, hn]
    congr 1
    funext s
    exact arunI_range m (k + 1) (by omega) _ _
theorem lin_spec (pr : List (List Nat)) : ∀ (c done : List Nat), linOK pr done c = true →
    c.Nodup ∧ (∀ j ∈ c, j ∉ done) ∧ c.Pairwise (fun j i => i ∉ (nth pr j).getD []) ∧ ∀ j ∈ c, j ∉ (nth pr j).getD [] ∧ ∀ e ∈ (nth pr j).getD [], e ∈ done ∨ e ∈ c
  | [], done, _ => ⟨by simp, by simp, by simp, by simp⟩
  | j :: c, done, h => by
    simp only [linOK, Bool.and_eq_true, List.all_eq_true, Bool.not_eq_true'] at h
    obtain ⟨h1, h2, h3⟩ := h
    obtain ⟨k1, k2, k3, k4⟩ := lin_spec pr c (j :: done) h3
    have hp : ∀ e ∈ (nth pr j).getD [], e ∈ done := fun e he => memN_iff.1 (h1 e he)
    have hjd : j ∉ done := fun hm => by rw [memN_iff.2 hm] at h2; cases h2
    refine ⟨List.nodup_cons.2 ⟨fun hm => k2 j hm (by simp), k1⟩, fun i hi => ?_, List.pairwise_cons.2 ⟨fun i hi he => ?_, k3⟩, fun i hi => ?_⟩
    · rcases List.mem_cons.1 hi with rfl | hi
      · exact hjd
      · exact fun hm => k2 i hi (by simp [hm])
    · exact k2 i hi (by simp [hp i he])
    · rcases List.mem_cons.1 hi with rfl | hi
      · exact ⟨fun hm => hjd (hp _ hm), fun e he => .inl (hp e he)⟩
      · obtain ⟨l1, l2⟩ := k4 i hi
        refine ⟨l1, fun e he => ?_⟩
        rcases l2 e he with hm | hm
        · rcases List.mem_cons.1 hm with rfl | hm
          · exact .inr (by simp)
          · exact .inl hm
        · exact .inr (by simp [hm])
theorem pairs_spec (T : List Nat) (os : List AOper) : ∀ (c : List Nat), pairsOK T os c = true →
    c.Pairwise fun j i => ((nth T i).getD 0).testBit j = true ∨ ∃ x y, nth os j = some x ∧ nth os i = some y ∧ commA x y = true
  | [], _ => by simp
  | j :: c, h => by
    simp only [pairsOK, Bool.and_eq_true, List.all_eq_true, Bool.or_eq_true] at h
    refine List.pairwise_cons.2 ⟨fun i hi => ?_, pairs_spec T os c h.2⟩
    rcases h.1 i hi with h' | h'
    · exact .inl h'
    · right
      split at h'
      · rename_i x y hx hy; exact ⟨x, y, hx, hy, h'⟩
      · cases h'
theorem region_wp (hOK : COK E C) (hR : R E.g ρ0 ρ h w0 w) (hT : TRel ρ ts a) {id : Nat} {opsA : Array Oper} {draw : Bool} {r : List AOper} (hc : compReg E opsA.toList draw = some r) {Q : S2 → Prop} {Qx : Exit → Act → World → Prop}
    (hq : ∀ ts h a w ρ, Q (ts, h) → R E.g ρ0 ρ h w0 w → TRel ρ ts a → Qx .normal a w) (hh : (arun C r ts h).holds Q) : (Code.region id opsA draw).wp E.P Qx a w := by
  unfold compReg at hc
  split at hc
  · simp at hc
  · rename_i as has
    split at hc
    · simp at hc
    · rename_i os hos
      obtain ⟨hlen, hget⟩ := text_get has hos
      have hb : Both E opsA.toList os := ⟨hget⟩
      have hsz : os.length = opsA.size := by simpa using hlen
      cases draw with
      | false =>
        simp at hc
        subst hc
        refine wp_region ?_
        refine region_list hOK hb hq _ ts h a w ρ (fun i hi => by simpa using hi) hR hT ?_
        rw [List.range_eq_range', arunI_range _ _ (by omega)]
        exact hh
      | true =>
        simp only at hc
        split at hc
        · rename_i hck
          simp only [Bool.and_eq_true] at hck
          obtain ⟨hl, hall, hlin, hprs⟩ := hck
          refine wp_region_any hOK.mix ?_
          rw [pickAll_run hc] at hh
          obtain ⟨k1, k2, k3, k4⟩ := lin_spec _ _ _ hlin
          have hmem : ∀ i, i < opsA.toList.length → i ∈ order opsA.toList.length (opsA.toList.map preds) (as.map isQuiet) opsA.toList.length (List.range opsA.toList.length) [] := by
            intro i hi
            rw [List.all_eq_true] at hall
            exact memN_iff.1 (hall i (by simpa using hi))
          have hpr : ∀ j o, nth opsA.toList j = some o → (nth (opsA.toList.map preds) j).getD [] = preds o := by
            intro j o ho
            rw [nth_eq] at ho ⊢
            rw [List.getElem?_map, ho]
            rfl
          have hlt : ∀ k ∈ order opsA.toList.length (opsA.toList.map preds) (as.map isQuiet) opsA.toList.length (List.range opsA.toList.length) [], k < opsA.toList.length := by
            intro k hk
            obtain ⟨o, ho⟩ := pickAll_get hc k hk
            have := nth_lt ho
            simp at this ⊢
            omega
          refine region_any hOK hb (T := befores opsA.toList []) (befores_good _ _ [] (fun k => by simp) (fun i v j hv => by simp [nth] at hv)) hq _ _ _ ts h a _ ρ ?_ ?_ hR.drew hT hh
          · have : (order opsA.toList.length (opsA.toList.map preds) (as.map isQuiet) opsA.toList.length (List.range opsA.toList.length) []).length = opsA.toList.length := by simpa using hl
            rw [this]; simp
          · refine ⟨k1, hlt, by simp, fun k hk => ?_, fun k o hk hkm => ?_, ?_, fun j hj o ho => ?_, pairs_spec _ _ _ hprs, fun _ _ _ _ _ => trivial⟩
            · have hk' : k < opsA.size := by simpa using hk
              exact ⟨fun _ => hmem k hk, fun _ => by simp [hk']⟩
            · exact absurd (hmem k (nth_lt hk)) hkm
            · refine k3.imp (fun {j i} hji o ho => ?_)
              rw [hpr j o ho] at hji
              exact hji
            · obtain ⟨l1, l2⟩ := k4 j hj
              rw [hpr j o ho] at l1 l2
              refine ⟨l1, fun e he => ?_⟩
              rcases l2 e he with hm | hm
              · simp at hm
              · exact hlt e hm
        · simp at hc
end
/-! Merging. -/
def TWeak (x y : List AV) : Prop := x.length = y.length ∧ ∀ k ρ u, VRel ρ (tget y k) u → VRel ρ (tget x k) u
theorem TWeak.refl (x : List AV) : TWeak x x := ⟨rfl, fun _ _ _ h => h⟩
theorem TWeak.trans {x y z : List AV} (h : TWeak x y) (k : TWeak y z) : TWeak x z := ⟨h.1.trans k.1, fun i ρ u hv => h.2 i ρ u (k.2 i ρ u hv)⟩
theorem TWeak.rel {x y : List AV} (h : TWeak x y) {ρ : Map} {a : Act} (hT : TRel ρ y a) : TRel ρ x a := by
  refine ⟨hT.defers, VRels.of_get _ _ (by rw [h.1]; exact hT.vals.length) (fun i v hv => ?_)⟩
  have hi : i < x.length := (List.getElem?_eq_some_iff.1 hv).1
  have hiy : i < y.length := by rw [← h.1]; exact hi
  obtain ⟨u, hu, hr⟩ := hT.vals.get i y[i] (by simp [hiy])
  refine ⟨u, hu, ?_⟩
  have := h.2 i ρ u (by rw [tget_eq]; simpa [hiy] using hr)
  rw [tget_eq, hv] at this
  exact this
def Agree (ds : List Nat) (s t : List AV) : Prop := s.length = t.length ∧ ∀ k, k ∉ ds → tget s k = tget t k
theorem Agree.refl (ds : List Nat) (s : List AV) : Agree ds s s := ⟨rfl, fun _ _ => rfl⟩
theorem Agree.trans {d1 d2 : List Nat} {a b c : List AV} (h : Agree d2 a b) (k : Agree d1 b c) : Agree (d1 ++ d2) a c :=
  ⟨h.1.trans k.1, fun i hi => (h.2 i (fun e => hi (by simp [e]))).trans (k.2 i (fun e => hi (by simp [e])))⟩
theorem Agree.mono {d1 d2 : List Nat} {a b : List AV} (h : Agree d1 a b) (hs : ∀ k ∈ d1, k ∈ d2) : Agree d2 a b := ⟨h.1, fun i hi => h.2 i (fun e => hi (hs i e))⟩
theorem mergeTs_len (c : Bool) (x y : List AV) : ∀ ds, (mergeTs c x y ds).length = x.length
  | [] => rfl
  | d :: ds => by simp only [mergeTs]; rw [setN_len]; exact mergeTs_len c x y ds
theorem mergeTs_get (c : Bool) (x y : List AV) (k : Nat) : ∀ ds, tget (mergeTs c x y ds) k = if k ∈ ds ∧ k < x.length then mergeV c (tget x k) (tget y k) else tget x k
  | [] => by simp [mergeTs]
  | d :: ds => by
    simp only [mergeTs]
    rw [tget_setN, mergeTs_len, mergeTs_get c x y k ds]
    by_cases h : k = d
    · subst h
      by_cases hl : k < x.length
      · simp [hl]
      · simp [hl]
    · simp [h]
theorem mergeG_agree {ds : List Nat} {t0 : List AV} : ∀ {t : GT S2} {c : Option Bool} {s : List AV}, t.all (fun x => Agree ds x.1 t0) → mergeG ds t = some (c, s) → Agree ds s t0
  | .leaf x, c, s, ha, hm => by simp [mergeG] at hm; obtain ⟨_, rfl⟩ := hm; exact ha
  | .fail, c, s, ha, hm => by simp [mergeG] at hm
  | .need b x, c, s, ha, hm => by
    simp only [mergeG] at hm
    split at hm
    · rename_i c' s' hx
      simp at hm
      obtain ⟨_, rfl⟩ := hm
      exact mergeG_agree (t := x) ha hx
    · simp at hm
  | .case b x y, c, s, ha, hm => by
    simp only [mergeG] at hm
    split at hm
    · rename_i p s1 q s2 hx hy
      simp at hm
      obtain ⟨_, rfl⟩ := hm
      have h1 := mergeG_agree ha.1 hx
      refine ⟨by rw [mergeTs_len]; exact h1.1, fun k hk => ?_⟩
      rw [mergeTs_get, if_neg (fun e => hk e.1)]
      exact h1.2 k hk
    · simp at hm
theorem mergeG_sound {ds : List Nat} {t0 : List AV} : ∀ {t : GT S2} {c : Option Bool} {s : List AV}, t.all (fun x => Agree ds x.1 t0) → mergeG ds t = some (c, s) → c ≠ some false →
    t.holds (fun x => TWeak s x.1)
  | .leaf x, c, s, ha, hm, hn => by simp [mergeG] at hm; obtain ⟨_, rfl⟩ := hm; exact TWeak.refl _
  | .fail, c, s, ha, hm, hn => by simp [mergeG] at hm
  | .need b x, c, s, ha, hm, hn => by
    simp only [mergeG] at hm
    split at hm
    · rename_i c' s' hx
      simp at hm
      obtain ⟨rfl, rfl⟩ := hm
      have hb : b = true ∧ c' ≠ some false := by
        cases c' with
        | none => simp [andC] at hn; exact ⟨hn, by simp⟩
        | some d => simp [andC] at hn; exact ⟨hn.1, by simp [hn.2]⟩
      exact ⟨hb.1, mergeG_sound (t := x) ha hx hb.2⟩
    · simp at hm
  | .case b x y, c, s, ha, hm, hn => by
    simp only [mergeG] at hm
    split at hm
    · rename_i p s1 q s2 hx hy
      simp at hm
      obtain ⟨rfl, rfl⟩ := hm
      have a1 := mergeG_agree ha.1 hx
      have a2 := mergeG_agree ha.2 hy
      refine ⟨fun e => ?_, fun e => ?_⟩
      · subst e
        have hp : p ≠ some false := by
          rintro rfl
          cases q <;> simp [mergeC] at hn
        refine GT.holds_mono (fun z hz => TWeak.trans ?_ hz) (mergeG_sound ha.1 hx hp)
        refine ⟨mergeTs_len _ _ _ _, fun k ρ u hu => ?_⟩
        rw [mergeTs_get]
        split
        · exact mergeV_rel (fun _ => hu) (fun e => by cases e)
        · exact hu
      · subst e
        have hp : q ≠ some false := by
          rintro rfl
          cases p <;> simp [mergeC] at hn
        refine GT.holds_mono (fun z hz => TWeak.trans ?_ hz) (mergeG_sound ha.2 hy hp)
        refine ⟨by rw [mergeTs_len, a1.1, a2.1], fun k ρ u hu => ?_⟩
        rw [mergeTs_get]
        split
        · exact mergeV_rel (fun e => by cases e) (fun _ => hu)
        · rename_i hk
          by_cases hkd : k ∈ ds
          · rw [tget_out (fun e => hk ⟨hkd, e⟩)]; exact .junk _
          · rw [a1.2 k hkd, ← a2.2 k hkd]; exact hu
    · simp at hm
theorem GT.holds_all {α : Type} {A B : α → Prop} : ∀ {t : GT α}, t.holds A → t.all B → t.holds (fun x => A x ∧ B x)
  | .leaf a, h, k => ⟨h, k⟩
  | .fail, h, k => h.elim
  | .case b x y, h, k => ⟨fun e => GT.holds_all (h.1 e) k.1, fun e => GT.holds_all (h.2 e) k.2⟩
  | .need b x, h, k => ⟨h.1, GT.holds_all (t := x) h.2 k⟩
def SameOut (ds : List Nat) (t0 : List AV) (h : Heap) (s : S2) : Prop := s.2 = h ∧ Agree ds s.1 t0
theorem mergeR_sound {mg : Option (List Nat)} {t0 : List AV} {h : Heap} {t : GT S2} {Q : S2 → Prop} (ha : ∀ ds, mg = some ds → t.all (SameOut ds t0 h)) (hh : (mergeR mg h t).holds Q) :
    t.holds fun s' => ∃ s, Q (s, s'.2) ∧ TWeak s s'.1 := by
  unfold mergeR at hh
  split at hh
  · exact GT.holds_mono (fun s hs => ⟨s.1, hs, TWeak.refl _⟩) hh
  · rename_i ds
    have ha := ha ds rfl
    have ha1 : t.all (fun x => Agree ds x.1 t0) := GT.all_mono (fun x hx => hx.2) ha
    split at hh
    · rename_i ts hm
      refine GT.holds_mono (fun s hs => ?_) (GT.holds_all (mergeG_sound ha1 hm (by simp)) ha)
      exact ⟨ts, by rw [hs.2.1]; exact hh, hs.1⟩
    · rename_i c ts hm
      simp only [GT.holds] at hh
      refine GT.holds_mono (fun s hs => ?_) (GT.holds_all (mergeG_sound ha1 hm (by simp [hh.1])) ha)
      exact ⟨ts, by rw [hs.2.1]; exact hh.2, hs.1⟩
    · exact GT.holds_mono (fun s hs => ⟨s.1, hs, TWeak.refl _⟩) hh
theorem mergeR_all {mg : Option (List Nat)} {t0 : List AV} {h : Heap} {t : GT S2} {ds : List Nat} (hmg : ∀ d, mg = some d → d = ds) (ha : t.all (SameOut ds t0 h)) : (mergeR mg h t).all (SameOut ds t0 h) := by
  unfold mergeR
  split
  · exact ha
  · rename_i d
    have := hmg d rfl
    subst this
    have ha1 : t.all (fun x => Agree d x.1 t0) := GT.all_mono (fun x hx => hx.2) ha
    split
    · rename_i ts hm
      exact ⟨rfl, mergeG_agree ha1 hm⟩
    · rename_i c ts hm
      exact ⟨rfl, mergeG_agree ha1 hm⟩
    · exact ha
theorem normals_holds : ∀ {t : GT S3} {u : GT S2} {Q : S2 → Prop}, normals t = some u → u.holds Q → t.holds fun s => s.1 = .normal ∧ Q s.2
  | .leaf (.normal, s), u, Q, hn, hu => by simp [normals] at hn; subst hn; exact ⟨rfl, hu⟩
  | .leaf (.exit _, s), u, Q, hn, hu => by simp [normals] at hn
  | .leaf (.ret, s), u, Q, hn, hu => by simp [normals] at hn
  | .fail, u, Q, hn, hu => by simp [normals] at hn
  | .need b x, u, Q, hn, hu => by
    simp only [normals] at hn
    split at hn
    · rename_i x' hx
      simp at hn; subst hn
      exact ⟨hu.1, normals_holds (t := x) hx hu.2⟩
    · simp at hn
  | .case b x y, u, Q, hn, hu => by
    simp only [normals] at hn
    split at hn
    · rename_i x' y' hx hy
      simp at hn; subst hn
      exact ⟨fun e => normals_holds hx (hu.1 e), fun e => normals_holds hy (hu.2 e)⟩
    · simp at hn
theorem normals_all : ∀ {t : GT S3} {u : GT S2} {B : S2 → Prop}, normals t = some u → t.all (fun s => B s.2) → u.all B
  | .leaf (.normal, s), u, Q, hn, hu => by simp [normals] at hn; subst hn; exact hu
  | .leaf (.exit _, s), u, Q, hn, hu => by simp [normals] at hn
  | .leaf (.ret, s), u, Q, hn, hu => by simp [normals] at hn
  | .fail, u, Q, hn, hu => by simp [normals] at hn
  | .need b x, u, Q, hn, hu => by
    simp only [normals] at hn
    split at hn
    · rename_i x' hx
      simp at hn; subst hn
      show x'.all _
      exact normals_all (t := x) hx hu
    · simp at hn
  | .case b x y, u, Q, hn, hu => by
    simp only [normals] at hn
    split at hn
    · rename_i x' y' hx hy
      simp at hn; subst hn
      exact ⟨normals_all hx hu.1, normals_all hy hu.2⟩
    · simp at hn
end Go.Ev

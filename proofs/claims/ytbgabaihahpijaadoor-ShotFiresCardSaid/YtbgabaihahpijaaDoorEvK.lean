import Derived.Test.YtbgabaihahpijaaDoorEvJ
set_option linter.unusedVariables false
set_option linter.unusedSimpArgs false
namespace Go.Ev
open Go Go.RowKit
theorem setN_len {α : Type} (ts : List α) (d : Nat) (v : α) : (setN ts d v).length = ts.length := by rw [setN_eq]; simp
theorem putO_len (ts : List AV) (d : Option Nat) (v : AV) : (putO ts d v).length = ts.length := by
  cases d <;> simp [putO, setN_len]
theorem tget_setN (ts : List AV) (d : Nat) (v : AV) (k : Nat) : tget (setN ts d v) k = if k = d ∧ d < ts.length then v else tget ts k := by
  rw [tget_eq, tget_eq, setN_eq, List.getElem?_set]
  by_cases h : d = k
  · subst h
    by_cases hl : d < ts.length
    · simp [hl]
    · simp [hl]
  · have h' : ¬ (k = d) := fun e => h e.symm
    simp [h, h']
theorem tget_putO (ts : List AV) (d : Option Nat) (v : AV) (k : Nat) : tget (putO ts d v) k = if d = some k ∧ k < ts.length then v else tget ts k := by
  cases d with
  | none => simp [putO]
  | some d =>
    simp only [putO, tget_setN, Option.some.injEq]
    by_cases h : k = d
    · subst h; simp
    · have h' : ¬ (d = k) := fun e => h e.symm
      simp [h, h']
theorem ts_ext {x y : List AV} (hl : x.length = y.length) (h : ∀ k, k < x.length → tget x k = tget y k) : x = y := by
  apply List.ext_getElem hl
  intro k h1 h2
  have := h k h1
  rw [tget_eq, tget_eq] at this
  simpa [h1, h2] using this
theorem tget_out {ts : List AV} {t : Nat} (h : ¬ t < ts.length) : tget ts t = .junk := by
  rw [tget_eq]; simp at h; simp [h]
theorem memN_iff {x : Nat} : ∀ {l : List Nat}, memN x l = true ↔ x ∈ l
  | [] => by simp [memN]
  | y :: ys => by simp [memN, memN_iff (l := ys)]
section
variable {C : Cfg} {ts ts' : List AV}
theorem ev_congr {x : AOpd} (h : ∀ t ∈ opdT x, tget ts t = tget ts' t) : ev ts x = ev ts' x := by
  cases x with
  | tmp t => exact h t (by simp [opdT])
  | const v => rfl
theorem evs_congr : ∀ {xs : List AOpd}, (∀ t ∈ opdsT xs, tget ts t = tget ts' t) → evs ts xs = evs ts' xs
  | [], _ => rfl
  | x :: xs, h => by
    simp only [evs]
    rw [ev_congr (fun t ht => h t (by simp [opdsT, ht])), evs_congr (fun t ht => h t (by simp [opdsT, ht]))]
theorem parts_congr : ∀ {xs : List (Nat × Nat × AOpd)}, (∀ t ∈ partsT xs, tget ts t = tget ts' t) → parts ts xs = parts ts' xs
  | [], _ => rfl
  | (a, b, x) :: xs, h => by
    simp only [parts]
    rw [ev_congr (fun t ht => h t (by simp [partsT, ht])), parts_congr (fun t ht => h t (by simp [partsT, ht]))]
theorem core_congr {op : AOp} {hp : Heap} (h : ∀ t ∈ tmpsOf op, tget ts t = tget ts' t) : core C op ts hp = core C op ts' hp := by
  cases op with
  | alloc => rfl
  | pick c a b =>
    have h1 := ev_congr (x := c) (fun t ht => h t (by simp [tmpsOf, ht]))
    have h2 := ev_congr (x := a) (fun t ht => h t (by simp [tmpsOf, ht]))
    have h3 := ev_congr (x := b) (fun t ht => h t (by simp [tmpsOf, ht]))
    simp only [core, isQuiet, aq, h1, h2, h3]
  | build z ps =>
    have h1 := parts_congr (xs := ps) (fun t ht => h t (by simp [tmpsOf, ht]))
    simp only [core, isQuiet, aq, h1]
  | func f a b =>
    have h1 := evs_congr (xs := a) (fun t ht => h t (by simp [tmpsOf, ht]))
    have h2 := evs_congr (xs := b) (fun t ht => h t (by simp [tmpsOf, ht]))
    simp only [core, isQuiet, aq, h1, h2]
  | idxAgg g l s x i =>
    have h1 := ev_congr (x := x) (fun t ht => h t (by simp [tmpsOf, ht]))
    have h2 := ev_congr (x := i) (fun t ht => h t (by simp [tmpsOf, ht]))
    simp only [core, isQuiet, aq, h1, h2]
  | callv x xs =>
    have h1 := ev_congr (x := x) (fun t ht => h t (by simp [tmpsOf, ht]))
    have h2 := evs_congr (xs := xs) (fun t ht => h t (by simp [tmpsOf, ht]))
    simp only [core, isQuiet, aloud, h1, h2]
  | _ =>
    first
    | (rename_i x
       have h1 := ev_congr (x := x) (fun t ht => h t (by simp [tmpsOf, ht]))
       simp only [core, isQuiet, aq, aloud, h1]; done)
    | (rename_i x _
       have h1 := ev_congr (x := x) (fun t ht => h t (by simp [tmpsOf, ht]))
       simp only [core, isQuiet, aq, aloud, h1]; done)
    | (rename_i b x
       have h1 := ev_congr (x := x) (fun t ht => h t (by simp [tmpsOf, ht]))
       cases b <;> simp only [core, isQuiet, aq, aloud, h1]; done)
    | (rename_i xs
       have h1 := evs_congr (xs := xs) (fun t ht => h t (by simp [tmpsOf, ht]))
       simp only [core, isQuiet, aq, aloud, h1]; done)
    | (rename_i x y
       have h1 := ev_congr (x := x) (fun t ht => h t (by simp [tmpsOf, ht]))
       have h2 := ev_congr (x := y) (fun t ht => h t (by simp [tmpsOf, ht]))
       simp only [core, isQuiet, aq, aloud, h1, h2]; done)
    | (rename_i b _ x y
       have h1 := ev_congr (x := x) (fun t ht => h t (by simp [tmpsOf, ht]))
       have h2 := ev_congr (x := y) (fun t ht => h t (by simp [tmpsOf, ht]))
       cases b <;> simp only [core, isQuiet, aq, aloud, h1, h2]; done)
theorem aq_still {op : AOp} (hr : isReader op = false) (hp hp' : Heap) : aq C ts hp op = aq C ts hp' op := by
  cases op <;> first | (simp [isReader] at hr; done) | rfl | (rename_i b _; cases b <;> rfl) | (rename_i b _ _ _; cases b <;> rfl)
theorem bget_more {h : Heap} {b : Nat} {B : Blk} (x : Option Blk) (hb : bget h b = some B) : bget (h ++ [x]) b = some B := by
  unfold bget at *
  split at hb
  · rename_i B' hn
    rw [nth_append_lt (nth_lt hn), hn]
    exact hb
  · simp at hb
theorem aq_more (hm : ∀ f args h x r, C.Γ f args h = some r → C.Γ f args (h ++ [x]) = some r) {op : AOp} {hp : Heap} (x : Option Blk) {r : Option Bool × AV} (h : aq C ts hp op = some r) : aq C ts (hp ++ [x]) op = some r := by
  by_cases hr : isReader op = false
  · rw [aq_still hr _ hp]; exact h
  · cases op <;> first | (simp [isReader] at hr; done) | skip
    · simp only [aq] at *
      split at h
      · split at h
        · rename_i B hb
          rw [bget_more x hb]
          exact h
        · simp at h
      · simp at h
    · simp only [aq] at *
      split at h
      · split at h
        · rename_i B hb
          rw [bget_more x hb]
          exact h
        · simp at h
      · simp at h
    · simp only [aq] at *
      split at h
      · split at h
        · rename_i B hb
          rw [bget_more x hb]
          exact h
        · simp at h
      · simp at h
    · exact hm _ _ _ _ _ h
end
/-- What a guard sees. -/
def gsee : AV → Option (AV × Option Bool)
  | .tt => some (.tt, some true)
  | .ff => some (.ff, some false)
  | .bool c => some (ofB c, some c)
  | .tuple [] => some (.tuple [], none)
  | _ => none
theorem gsee_idem {v r : AV} {oc : Option Bool} (h : gsee v = some (r, oc)) : gsee r = some (r, oc) := by
  unfold gsee at h
  split at h <;> simp at h <;> obtain ⟨rfl, rfl⟩ := h <;> first | rfl | (rename_i c; cases c <;> rfl)
def refine (o : AOper) (ts : List AV) : Option (List AV × Bool) :=
  match o.guard with
  | none => some (ts, true)
  | some (t, want) => match gsee (tget ts t) with
    | some (r, oc) => some (setN ts t r, oc == some want)
    | none => none
def coreG (C : Cfg) (o : AOper) (g : Bool) (ts : List AV) (h : Heap) : GT (AV × Heap) := match g with
  | true => core C o.op ts h
  | false => .leaf (.tuple [], h)
theorem setN_same {ts : List AV} {t : Nat} {v : AV} (h : tget ts t = v) : setN ts t v = ts := by
  refine ts_ext (setN_len _ _ _) (fun k _ => ?_)
  rw [tget_setN]
  split
  · rename_i hk; rw [hk.1, h]
  · rfl
theorem astep_holds {C : Cfg} {o : AOper} {ts : List AV} {h : Heap} {Q : S2 → Prop} :
    (astep C o ts h).holds Q ↔ ∃ ts1 g, refine o ts = some (ts1, g) ∧ (coreG C o g ts1 h).holds (fun r => Q (putO ts1 o.dst r.1, r.2)) := by
  have hado : ∀ ts, (adoOp C o ts h).holds Q ↔ (coreG C o true ts h).holds (fun r => Q (putO ts o.dst r.1, r.2)) := by
    intro ts
    unfold adoOp
    rw [GT.holds_bind]
    exact Iff.rfl
  have hag : ∀ ts g, (aguard C o ts h g).holds Q ↔ (coreG C o g ts h).holds (fun r => Q (putO ts o.dst r.1, r.2)) := by
    intro ts g
    cases g with
    | true => exact hado ts
    | false => exact Iff.rfl
  unfold astep refine
  cases hg : o.guard with
  | none =>
    simp only [Option.some.injEq, Prod.mk.injEq]
    rw [hado]
    constructor
    · intro hh; exact ⟨ts, true, ⟨rfl, rfl⟩, hh⟩
    · rintro ⟨_, _, ⟨rfl, rfl⟩, hh⟩; exact hh
  | some p =>
    obtain ⟨t, want⟩ := p
    simp only
    cases hv : tget ts t with
    | tt =>
      simp only [gsee, Option.some.injEq, Prod.mk.injEq]
      rw [hag, setN_same hv]
      constructor
      · intro hh; exact ⟨ts, _, ⟨rfl, rfl⟩, by cases want <;> exact hh⟩
      · rintro ⟨_, _, ⟨rfl, rfl⟩, hh⟩; cases want <;> exact hh
    | ff =>
      simp only [gsee, Option.some.injEq, Prod.mk.injEq]
      rw [hag, setN_same hv]
      constructor
      · intro hh; exact ⟨ts, _, ⟨rfl, rfl⟩, by cases want <;> exact hh⟩
      · rintro ⟨_, _, ⟨rfl, rfl⟩, hh⟩; cases want <;> exact hh
    | tuple l =>
      cases l with
      | nil =>
        simp only [gsee, Option.some.injEq, Prod.mk.injEq]
        rw [hag, setN_same hv]
        constructor
        · intro hh; exact ⟨ts, _, ⟨rfl, rfl⟩, hh⟩
        · rintro ⟨_, _, ⟨rfl, rfl⟩, hh⟩; exact hh
      | cons x l => simp [gsee, GT.holds]
    | bool c =>
      simp only [gsee, Option.some.injEq, Prod.mk.injEq, GT.holds]
      rw [hag, hag]
      constructor
      · intro hh
        refine ⟨_, _, ⟨rfl, rfl⟩, ?_⟩
        cases c with
        | true => have := hh.1 rfl; cases want <;> exact this
        | false => have := hh.2 rfl; cases want <;> exact this
      · rintro ⟨_, _, ⟨rfl, rfl⟩, hh⟩
        refine ⟨fun e => ?_, fun e => ?_⟩ <;> subst e <;> cases want <;> exact hh
    | _ => simp [gsee, GT.holds]
theorem asB_ofB (c : Bool) : asB (ofB c) = some c := by cases c <;> rfl
theorem apart_spec {x y : AOper} (h : apartA x y = true) :
    (∀ d, x.dst = some d → d ∉ tmpsOf y.op ∧ (∀ t w, y.guard = some (t, w) → t ≠ d) ∧ y.dst ≠ some d) ∧
    (∀ t w, x.guard = some (t, w) → t ∈ tmpsOf y.op → ∃ w', y.guard = some (t, w')) := by
  unfold apartA at h
  simp only [Bool.and_eq_true] at h
  obtain ⟨h1, h2⟩ := h
  constructor
  · intro d hd
    rw [hd] at h1
    simp only [Bool.and_eq_true, Bool.not_eq_true'] at h1
    obtain ⟨ha, hb, hc⟩ := h1
    refine ⟨fun hm => ?_, fun t w hg => ?_, fun he => ?_⟩
    · rw [memN_iff.2 hm] at ha; cases ha
    · rw [hg] at hb; simp at hb; intro e; subst e; rw [Nat.beq_refl] at hb; cases hb
    · rw [he] at hc; simp at hc
  · intro t w hg hm
    rw [hg] at h2
    simp only [Bool.or_eq_true, Bool.not_eq_true', memN_iff.2 hm, Bool.true_eq_false, false_or] at h2
    cases hy : y.guard with
    | none => rw [hy] at h2; simp at h2
    | some p => obtain ⟨u, w'⟩ := p; rw [hy] at h2; simp at h2; exact ⟨w', by rw [h2]⟩
/-- The guards and slots of two operations that lie apart. -/
theorem refine_swap {x y : AOper} (h1 : apartA x y = true) (h2 : apartA y x = true) {ts ts1 ts3 : List AV} {gx gy : Bool} {v : AV} (hx : refine x ts = some (ts1, gx))
    (hy : refine y (putO ts1 x.dst v) = some (ts3, gy)) :
    ∃ ts1', refine y ts = some (ts1', gy) ∧ (∀ t ∈ tmpsOf y.op, tget ts3 t = tget ts1' t) ∧
      ∀ v', ∃ ts3', refine x (putO ts1' y.dst v') = some (ts3', gx) ∧ (∀ t ∈ tmpsOf x.op, tget ts3' t = tget ts1 t) ∧ putO ts3' x.dst v = putO ts3 y.dst v' := by
  obtain ⟨a1, a2⟩ := apart_spec h1
  obtain ⟨b1, b2⟩ := apart_spec h2
  unfold refine at hx hy ⊢
  have nx : ∀ t ∈ tmpsOf y.op, ¬ (x.dst = some t) := fun t ht e => (a1 t e).1 ht
  have ny : ∀ t ∈ tmpsOf x.op, ¬ (y.dst = some t) := fun t ht e => (b1 t e).1 ht
  have nd : ∀ k, x.dst = some k → ¬ (y.dst = some k) := fun k e => (a1 k e).2.2
  cases hgx : x.guard with
  | none =>
    rw [hgx] at hx
    simp at hx
    obtain ⟨rfl, rfl⟩ := hx
    cases hgy : y.guard with
    | none =>
      rw [hgy] at hy
      simp at hy
      obtain ⟨rfl, rfl⟩ := hy
      refine ⟨ts, rfl, fun t ht => by rw [tget_putO, if_neg (fun e => nx t ht e.1)], fun v' => ⟨_, rfl, fun t ht => by rw [tget_putO, if_neg (fun e => ny t ht e.1)], ?_⟩⟩
      refine ts_ext (by simp [putO_len]) (fun k hk => ?_)
      simp only [tget_putO, putO_len] at hk ⊢
      by_cases e1 : x.dst = some k
      · simp [e1, nd k e1, hk]
      · simp [e1]
    | some p =>
      obtain ⟨t, w⟩ := p
      rw [hgy] at hy
      simp only at hy
      have hne : ¬ (x.dst = some t) := fun e => (a1 t e).2.1 t w hgy rfl
      rw [tget_putO, if_neg (fun e => hne e.1)] at hy
      cases hb : gsee (tget ts t) with
      | none => rw [hb] at hy; simp at hy
      | some rc =>
        obtain ⟨c, oc⟩ := rc
        rw [hb] at hy
        simp only [Option.some.injEq, Prod.mk.injEq] at hy
        obtain ⟨rfl, rfl⟩ := hy
        refine ⟨setN ts t c, by simp [hb], fun u hu => ?_, fun v' => ⟨_, rfl, fun u hu => ?_, ?_⟩⟩
        · simp only [tget_setN, tget_putO, putO_len, nx u hu, false_and, if_false]
        · have : ¬ (u = t) := fun e => by obtain ⟨w', hw'⟩ := b2 t w hgy (e ▸ hu); rw [hgx] at hw'; simp at hw'
          simp [tget_setN, tget_putO, ny u hu, this]
        · refine ts_ext (by simp [putO_len, setN_len]) (fun k hk => ?_)
          simp only [tget_putO, tget_setN, putO_len, setN_len] at hk ⊢
          by_cases e1 : x.dst = some k
          · have e2 : ¬ k = t := fun e => hne (e ▸ e1)
            simp [e1, nd k e1, hk, e2]
          · simp [e1]
  | some q =>
    obtain ⟨s, wx⟩ := q
    rw [hgx] at hx
    simp only at hx
    cases hbx : gsee (tget ts s) with
    | none => rw [hbx] at hx; simp at hx
    | some rcx =>
      obtain ⟨cx, ocx⟩ := rcx
      rw [hbx] at hx
      simp only [Option.some.injEq, Prod.mk.injEq] at hx
      obtain ⟨rfl, rfl⟩ := hx
      have hs : s < ts.length := by
        rcases Nat.lt_or_ge s ts.length with h | h
        · exact h
        · rw [tget_out (by omega)] at hbx; simp [gsee] at hbx
      have hsd : ¬ (y.dst = some s) := fun e => (b1 s e).2.1 s wx hgx rfl
      cases hgy : y.guard with
      | none =>
        rw [hgy] at hy
        simp at hy
        obtain ⟨rfl, rfl⟩ := hy
        have hsy : ∀ u ∈ tmpsOf y.op, ¬ (u = s) := fun u hu e => by obtain ⟨w', hw'⟩ := a2 s wx hgx (e ▸ hu); rw [hgy] at hw'; simp at hw'
        refine ⟨ts, rfl, fun u hu => ?_, fun v' => ?_⟩
        · simp [tget_setN, tget_putO, nx u hu, hsy u hu]
        · have hbx' : gsee (tget (putO ts y.dst v') s) = some (cx, ocx) := by rw [tget_putO, if_neg (fun e => hsd e.1)]; exact hbx
          simp only [hbx', Option.some.injEq, Prod.mk.injEq]
          refine ⟨_, ⟨rfl, trivial⟩, fun u hu => ?_, ?_⟩
          · simp [tget_setN, tget_putO, ny u hu, putO_len]
          · refine ts_ext (by simp [putO_len, setN_len]) (fun k hk => ?_)
            simp only [tget_putO, tget_setN, putO_len, setN_len] at hk ⊢
            by_cases e1 : y.dst = some k
            · have e2 : ¬ k = s := fun e => hsd (e ▸ e1)
              have e3 : ¬ (x.dst = some k) := fun e => nd k e e1
              simp [e1, hk, e2, e3]
            · simp [e1]
      | some p =>
        obtain ⟨t, w⟩ := p
        rw [hgy] at hy
        simp only at hy
        have hne : ¬ (x.dst = some t) := fun e => (a1 t e).2.1 t w hgy rfl
        rw [tget_putO, if_neg (fun e => hne e.1), tget_setN] at hy
        -- the slot t, before and after
        have key : ∃ c oc, gsee (tget ts t) = some (c, oc) ∧ (t = s → c = cx ∧ oc = ocx) ∧ ts3 = setN (putO (setN ts s cx) x.dst v) t c ∧ gy = (oc == some w) := by
          by_cases e : t = s
          · subst e
            rw [if_pos ⟨rfl, hs⟩, gsee_idem hbx] at hy
            simp only [Option.some.injEq, Prod.mk.injEq] at hy
            exact ⟨cx, ocx, hbx, fun _ => ⟨rfl, rfl⟩, hy.1.symm, hy.2.symm⟩
          · rw [if_neg (fun h => e h.1)] at hy
            cases hb : gsee (tget ts t) with
            | none => rw [hb] at hy; simp at hy
            | some rc => obtain ⟨c, oc⟩ := rc; rw [hb] at hy; simp only [Option.some.injEq, Prod.mk.injEq] at hy; exact ⟨c, oc, rfl, fun h => absurd h e, hy.1.symm, hy.2.symm⟩
        obtain ⟨c, oc, hb, hcc, rfl, rfl⟩ := key
        have ht : t < ts.length := by
          rcases Nat.lt_or_ge t ts.length with h | h
          · exact h
          · rw [tget_out (by omega)] at hb; simp [gsee] at hb
        simp only [hb, Option.some.injEq, Prod.mk.injEq]
        have hsy : ∀ u ∈ tmpsOf y.op, u = s → s = t := fun u hu e => by obtain ⟨w', hw'⟩ := a2 s wx hgx (e ▸ hu); rw [hgy] at hw'; simp at hw'; exact hw'.1.symm
        have htx : ∀ u ∈ tmpsOf x.op, u = t → t = s := fun u hu e => by obtain ⟨w', hw'⟩ := b2 t w hgy (e ▸ hu); rw [hgx] at hw'; simp at hw'; exact hw'.1.symm
        refine ⟨_, ⟨rfl, trivial⟩, fun u hu => ?_, fun v' => ?_⟩
        · simp only [tget_setN, tget_putO, putO_len, setN_len, nx u hu, false_and, if_false]
          by_cases e1 : u = t
          · simp [e1, ht]
          · have : ¬ (u = s) := fun e => e1 (e.trans (hsy u hu e))
            simp [e1, this]
        · have hbx' : gsee (tget (putO (setN ts t c) y.dst v') s) = some (cx, ocx) := by
            rw [tget_putO, if_neg (fun e => hsd e.1), tget_setN]
            split
            · rename_i e; rw [gsee_idem hb, (hcc e.1.symm).1, (hcc e.1.symm).2]
            · exact hbx
          simp only [hbx', Option.some.injEq, Prod.mk.injEq]
          refine ⟨_, ⟨rfl, trivial⟩, fun u hu => ?_, ?_⟩
          · simp only [tget_setN, tget_putO, putO_len, setN_len, ny u hu, false_and, if_false]
            by_cases e1 : u = s
            · simp [e1, hs]
            · have : ¬ (u = t) := fun e => e1 (e.trans (htx u hu e))
              simp [e1, this]
          · refine ts_ext (by simp [putO_len, setN_len]) (fun k hk => ?_)
            simp only [tget_putO, tget_setN, putO_len, setN_len] at hk ⊢
            by_cases e1 : y.dst = some k
            · have e2 : ¬ k = s := fun e => hsd (e ▸ e1)
              have e3 : ¬ (x.dst = some k) := fun e => nd k e e1
              simp [e1, hk, e2, e3]
            · by_cases e3 : x.dst = some k
              · have e4 : ¬ k = t := fun e => hne (e ▸ e3)
                simp [e1, e3, hk, e4]
              · by_cases e5 : k = s
                · subst e5
                  by_cases e6 : k = t
                  · subst e6; simp [e1, e3, (hcc rfl).1]
                  · simp [e1, e3, e6]
                · simp [e1, e3, e5]
theorem GT.holds_const {α : Type} {p : Prop} {Q : α → Prop} (hq : ∀ x, Q x → p) : ∀ {t : GT α}, t.holds Q → p
  | .leaf a, h => hq a h
  | .fail, h => h.elim
  | .case b x y, h => by
    cases b with
    | true => exact GT.holds_const hq (h.1 rfl)
    | false => exact GT.holds_const hq (h.2 rfl)
  | .need b x, h => GT.holds_const (t := x) hq h.2
/-- What an operation under a guard gives, if it changes nothing. -/
def qG (C : Cfg) (o : AOper) (g : Bool) (ts : List AV) (h : Heap) : QR := match g with
  | true => aq C ts h o.op
  | false => ok (.tuple [])
theorem coreG_quiet {C : Cfg} {o : AOper} {g : Bool} (hq : g = false ∨ isQuiet o.op = true) {ts : List AV} {h : Heap} {K : AV × Heap → Prop} :
    (coreG C o g ts h).holds K ↔ ∃ c v, qG C o g ts h = some (c, v) ∧ c ≠ some false ∧ K (v, h) := by
  cases g with
  | false =>
    simp only [coreG, qG, ok, GT.holds, Option.some.injEq, Prod.mk.injEq]
    constructor
    · intro hk; exact ⟨_, _, ⟨rfl, rfl⟩, by simp, hk⟩
    · rintro ⟨_, _, ⟨rfl, rfl⟩, _, hk⟩; exact hk
  | true =>
    have hq : isQuiet o.op = true := by rcases hq with hq | hq <;> simp_all
    simp only [coreG, qG, core, hq]
    cases ha : aq C ts h o.op with
    | none => simp [GT.holds]
    | some r =>
      obtain ⟨c, v⟩ := r
      cases c with
      | none =>
        simp only [GT.holds]
        constructor
        · intro hk; exact ⟨_, _, rfl, by simp, hk⟩
        · rintro ⟨_, _, he, _, hk⟩; simp at he; obtain ⟨rfl, rfl⟩ := he; exact hk
      | some b =>
        simp only [GT.holds]
        constructor
        · rintro ⟨hb, hk⟩; exact ⟨_, _, rfl, by simp [hb], hk⟩
        · rintro ⟨_, _, he, hn, hk⟩; simp at he; obtain ⟨rfl, rfl⟩ := he; simp at hn; exact ⟨hn, hk⟩
theorem core_new {C : Cfg} {op : AOp} (hn : isNew op = true) {ts : List AV} {h : Heap} {K : AV × Heap → Prop} (hk : (core C op ts h).holds K) :
    (core C op ts h).holds (fun r => K r ∧ ∃ b, r.2 = h ++ [b]) := by
  cases op <;> first | (simp [isNew] at hn; done) | skip
  · simp only [core, isQuiet, aloud, GT.holds] at *
    exact ⟨hk, _, rfl⟩
  · simp only [core, isQuiet, aloud] at *
    split
    · rename_i hh; rw [hh] at hk; exact ⟨hk, _, rfl⟩
    · rename_i hh; rw [hh] at hk; exact hk
theorem tree_swap {C : Cfg} (hm : ∀ f args h x r, C.Γ f args h = some r → C.Γ f args (h ++ [x]) = some r) {x y : AOper}
    (hc : (match isQuiet x.op, isQuiet y.op with
      | true, true => true
      | true, false => !(isReader x.op) || isNew y.op
      | false, true => !(isReader y.op)
      | false, false => false) = true) {ts1 ts2 : List AV} {h : Heap} {gx gy : Bool} {F : AV → AV → Heap → Prop}
    (H : (coreG C x gx ts1 h).holds fun r => (coreG C y gy ts2 r.2).holds fun r' => F r.1 r'.1 r'.2) :
    (coreG C y gy ts2 h).holds fun r' => (coreG C x gx ts1 r'.2).holds fun r => F r.1 r'.1 r.2 := by
  by_cases hx : gx = false ∨ isQuiet x.op = true
  · rw [coreG_quiet hx] at H
    obtain ⟨c, v, hv, hn, H⟩ := H
    by_cases hy : gy = false ∨ isQuiet y.op = true
    · simp only at H
      rw [coreG_quiet hy] at H ⊢
      obtain ⟨c', v', hv', hn', H⟩ := H
      refine ⟨c', v', hv', hn', ?_⟩
      rw [coreG_quiet hx]
      exact ⟨c, v, hv, hn, H⟩
    · have hg : gy = true := by cases gy <;> simp_all
      have hyq : isQuiet y.op = false := by cases hh : isQuiet y.op <;> simp_all
      subst hg
      by_cases hr : gx = false ∨ isReader x.op = false
      · refine GT.holds_mono (fun r' hF => ?_) H
        rw [coreG_quiet hx]
        refine ⟨c, v, ?_, hn, hF⟩
        rw [← hv]
        cases gx with
        | false => rfl
        | true => exact aq_still (by rcases hr with hr | hr <;> simp_all) _ _
      · have hgx : gx = true := by cases gx <;> simp_all
        subst hgx
        have hxq : isQuiet x.op = true := by rcases hx with hx | hx <;> simp_all
        have hnew : isNew y.op = true := by
          simp only [hxq, hyq] at hc
          cases hh : isReader x.op <;> simp_all
        refine GT.holds_mono (fun r' hF => ?_) (core_new hnew H)
        obtain ⟨hF, b, hb⟩ := hF
        rw [coreG_quiet hx, hb]
        exact ⟨c, v, aq_more hm b hv, hn, hb ▸ hF⟩
  · have hg : gx = true := by cases gx <;> simp_all
    have hxq : isQuiet x.op = false := by cases hh : isQuiet x.op <;> simp_all
    subst hg
    have hyq : isQuiet y.op = true ∧ isReader y.op = false := by
      cases hh : isQuiet y.op <;> simp_all
    have hst : ∀ h', qG C y gy ts2 h' = qG C y gy ts2 h := by
      intro h'
      cases gy with
      | false => rfl
      | true => exact aq_still hyq.2 _ _
    have H' : (coreG C x true ts1 h).holds fun r => ∃ c v', qG C y gy ts2 h = some (c, v') ∧ c ≠ some false ∧ F r.1 v' r.2 := by
      refine GT.holds_mono (fun r hF => ?_) H
      rw [coreG_quiet (.inr hyq.1), hst] at hF
      exact hF
    obtain ⟨c, v', hv', hn⟩ := GT.holds_const (p := ∃ c v', qG C y gy ts2 h = some (c, v') ∧ c ≠ some false) (fun r ⟨c, v', a, b, _⟩ => ⟨c, v', a, b⟩) H'
    rw [coreG_quiet (.inr hyq.1)]
    refine ⟨c, v', hv', hn, ?_⟩
    refine GT.holds_mono (fun r hF => ?_) H'
    obtain ⟨c1, v1, h1, _, hF⟩ := hF
    rw [hv'] at h1
    simp at h1
    obtain ⟨rfl, rfl⟩ := h1
    exact hF
theorem swap {C : Cfg} (hm : ∀ f args h x r, C.Γ f args h = some r → C.Γ f args (h ++ [x]) = some r) {x y : AOper} (hc : commA x y = true) {ts : List AV} {h : Heap} {Q : S2 → Prop}
    (hh : (astep C x ts h).holds fun s => (astep C y s.1 s.2).holds Q) : (astep C y ts h).holds fun s => (astep C x s.1 s.2).holds Q := by
  unfold commA at hc
  simp only [Bool.and_eq_true] at hc
  obtain ⟨hap, hap', hc⟩ := hc
  rw [astep_holds] at hh
  obtain ⟨ts1, gx, hx, hh⟩ := hh
  simp only at hh
  have h0 : ∃ ts2 gy, refine y ts = some (ts2, gy) := by
    refine GT.holds_const (fun r hr => ?_) hh
    rw [astep_holds] at hr
    obtain ⟨ts3, gy, hy, _⟩ := hr
    obtain ⟨ts1', h1, _⟩ := refine_swap hap hap' hx hy
    exact ⟨_, _, h1⟩
  obtain ⟨ts2, gy, hy⟩ := h0
  rw [astep_holds]
  refine ⟨ts2, gy, hy, ?_⟩
  have H : (coreG C x gx ts1 h).holds fun r => (coreG C y gy ts2 r.2).holds fun r' =>
      (fun v v' hp => ∃ ts3', refine x (putO ts2 y.dst v') = some (ts3', gx) ∧ (∀ t ∈ tmpsOf x.op, tget ts3' t = tget ts1 t) ∧ Q (putO ts3' x.dst v, hp)) r.1 r'.1 r'.2 := by
    refine GT.holds_mono (fun r hr => ?_) hh
    rw [astep_holds] at hr
    obtain ⟨ts3, gy', hy', hr⟩ := hr
    obtain ⟨ts1', h1, h2, h3⟩ := refine_swap hap hap' hx hy'
    rw [hy] at h1
    simp at h1
    obtain ⟨rfl, rfl⟩ := h1
    have he : coreG C y gy ts3 r.2 = coreG C y gy ts2 r.2 := by
      cases gy with
      | false => rfl
      | true => exact core_congr h2
    rw [he] at hr
    refine GT.holds_mono (fun r' hq => ?_) hr
    obtain ⟨ts3', k1, k2, k3⟩ := h3 r'.1
    exact ⟨ts3', k1, k2, k3 ▸ hq⟩
  refine GT.holds_mono (fun r' hF => ?_) (tree_swap (F := fun v v' hp => ∃ ts3', refine x (putO ts2 y.dst v') = some (ts3', gx) ∧ (∀ t ∈ tmpsOf x.op, tget ts3' t = tget ts1 t) ∧ Q (putO ts3' x.dst v, hp)) hm hc H)
  obtain ⟨ts3', k1, k2⟩ := GT.holds_const (p := ∃ ts3', refine x (putO ts2 y.dst r'.1) = some (ts3', gx) ∧ (∀ t ∈ tmpsOf x.op, tget ts3' t = tget ts1 t)) (fun r ⟨a, b, c, _⟩ => ⟨a, b, c⟩) hF
  rw [astep_holds]
  refine ⟨ts3', gx, k1, ?_⟩
  have he : coreG C x gx ts3' r'.2 = coreG C x gx ts1 r'.2 := by
    cases gx with
    | false => rfl
    | true => exact core_congr k2
  rw [he]
  refine GT.holds_mono (fun r hq => ?_) hF
  obtain ⟨ts4, l1, _, l3⟩ := hq
  rw [k1] at l1
  simp at l1
  subst l1
  exact l3
end Go.Ev

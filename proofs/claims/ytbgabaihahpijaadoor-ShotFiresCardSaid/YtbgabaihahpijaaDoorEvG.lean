import Derived.Test.YtbgabaihahpijaaDoorEvF2
set_option linter.unusedVariables false
set_option linter.unusedSimpArgs false
namespace Go.Ev
open Go Go.RowKit
section
variable {E : Env} {C : Cfg} {ρ0 ρ : Map} {h : Heap} {w0 w : World} {ts : List AV} {a : Act}
theorem VRel.boolInv {v : AV} {b : Bool} {u : Value} (h : VRel ρ v u) (hb : asB v = some b) : u = .bool b := asB_rel h hb
theorem VRel.sliceInv {b lo len : Nat} {oc : Option Nat} {u : Value} (h : VRel ρ (.slice b lo len oc) u) : ∃ p ad cap, nth ρ b = some p ∧ u = .slice (some ad) len cap ∧ len ≤ cap ∧ (∀ c, oc = some c → cap = c) ∧ (cap = 0 ∨ (ad = ⟨p.blk, p.shift + lo * p.sz, none⟩ ∧ lo + cap ≤ p.room)) := by
  cases h; exact ⟨_, _, _, by assumption, rfl, by assumption, by assumption, by assumption⟩
theorem VRel.aggInv {cs : List AV} {u : Value} (h : VRel ρ (.agg cs) u) : ∃ ds, VRels ρ cs ds ∧ u = .agg ds.toArray := by
  cases h; exact ⟨_, by assumption, rfl⟩
theorem VRel.tupleInv {cs : List AV} {u : Value} (h : VRel ρ (.tuple cs) u) : ∃ ds, VRels ρ cs ds ∧ u = .tuple ds.toArray := by
  cases h; exact ⟨_, by assumption, rfl⟩
theorem cellsOf_rel {P : Program} {t : TypeId} {it : TypeInfo} {z : Value} (ρ : Map) : VRels ρ (z.cells.toList.map ofV) z.cells.toList :=
  VRels.of_get _ _ (by simp) (fun i v hv => by
    simp at hv
    obtain ⟨u, hu, rfl⟩ := hv
    exact ⟨u, by simpa using hu, ofV_rel ρ u⟩)
theorem cut_val {agg : Bool} {n off : Nat} {cs : List AV} {ds : List Value} {v : AV} (hc : cut agg n off cs = some v) (hr : VRels ρ cs ds) (P : Program) (t : TypeId) (hu : (P.underlying t).isSome) (hag : isAggP P t = agg)
    (inf : TypeInfo) (hi : P.info? t = some inf) (hn : P.cellsOf t = n) : ∃ u, (part t ds.toArray off).run P w = .ok u w ∧ VRel ρ v u := by
  unfold part
  simp only [Sem.run_bind, run_isAgg P t hu, Result.andThen_ok, hag]
  cases agg with
  | false =>
    simp only [cut, nth_eq] at hc
    obtain ⟨u, hu', hr'⟩ := hr.get off v hc
    refine ⟨u, ?_, hr'⟩
    simp [hu']
  | true =>
    simp only [cut] at hc
    split at hc
    · rename_i hl
      simp at hc; subst hc
      rw [takeN_eq, dropN_eq] at *
      refine ⟨.agg ((ds.drop off).take n).toArray, ?_, .agg _ _ ((hr.drop off).take n)⟩
      simp only [if_true, Sem.run_bind, run_sizeOf' P t inf hi, Result.andThen_ok, Sem.run_pure, hn]
      congr 1
      congr 1
      apply Array.ext'
      simp [Array.toList_extract, List.extract_eq_take_drop]
    · simp at hc
theorem quietV (hR : R E.g ρ0 ρ h w0 w) (hT : TRel ρ ts a) {o : Oper} {op : AOp} (hcp : comp1 E o.op = some op) (hq : isQuiet op = true) (hnp : ∀ f xs, op ≠ .pcall f xs)
    {c : Option Bool} {v : AV} (ha : aq C ts h op = some (c, v)) (hc : c ≠ some false) :
    ∃ u, (execOp a.eval o).run E.P w = .ok (.value u) w ∧ VRel ρ v u := by
  have fin : ∀ (s : Sem Value), (∃ u, s.run E.P w = .ok u w ∧ VRel ρ v u) → ∃ u, (do pure (Next.value (← s)) : Sem Next).run E.P w = .ok (.value u) w ∧ VRel ρ v u := by
    rintro s ⟨u, hu, hr⟩
    exact ⟨u, by simp [hu], hr⟩
  have O : ∀ {x y}, opd E x = some y → VRel ρ (ev ts y) (a.eval x) := fun hx => opd_rel hR hT hx
  obtain ⟨dst, op', ty, pos, after, guard⟩ := o
  simp only at hcp
  cases op' with
  | move x =>
    simp only [comp1, Option.map_eq_some_iff] at hcp
    obtain ⟨y, hy, rfl⟩ := hcp
    simp only [aq, ok, Option.some.injEq, Prod.mk.injEq] at ha
    obtain ⟨rfl, rfl⟩ := ha
    exact ⟨_, rfl, O hy⟩
  | assign x =>
    simp only [comp1, Option.map_eq_some_iff] at hcp
    obtain ⟨y, hy, rfl⟩ := hcp
    simp only [aq, ok, Option.some.injEq, Prod.mk.injEq] at ha
    obtain ⟨rfl, rfl⟩ := ha
    exact ⟨_, rfl, O hy⟩
  | pick c' x y =>
    simp only [comp1] at hcp
    split at hcp
    · rename_i c1 x1 y1 h1 h2 h3
      simp at hcp; subst hcp
      have r1 := O h1
      have r2 := O h2
      have r3 := O h3
      simp only [aq] at ha
      split at ha
      · rename_i he; rw [he] at r1
        simp only [ok, Option.some.injEq, Prod.mk.injEq] at ha; obtain ⟨rfl, rfl⟩ := ha
        have hb := asB_rel (b := true) r1 rfl
        exact ⟨_, by simp [execOp, hb, asBool], r2⟩
      · rename_i he; rw [he] at r1
        simp only [ok, Option.some.injEq, Prod.mk.injEq] at ha; obtain ⟨rfl, rfl⟩ := ha
        have hb := asB_rel (b := false) r1 rfl
        exact ⟨_, by simp [execOp, hb, asBool], r3⟩
      · rename_i t he; rw [he] at r1
        simp only [ok, Option.some.injEq, Prod.mk.injEq] at ha; obtain ⟨rfl, rfl⟩ := ha
        have hb := asB_rel (b := t) r1 rfl
        refine ⟨if t then a.eval x else a.eval y, by simp [execOp, hb, asBool], ?_⟩
        exact mergeV_rel (fun ht => by subst ht; simpa using r2) (fun ht => by subst ht; simpa using r3)
      · simp at ha
    · simp at hcp
  | build t ps =>
    simp only [comp1] at hcp
    have key : ∀ (place : Nat → Option (Nat × Nat)) (zs : List AV) (r : List (Nat × Nat × AOpd)), partsOf E place ps.toList = some r → aq C ts h (.build zs r) = some (c, v) → ∀ z : Value, zs = z.cells.toList.map ofV →
        (∀ d, Instr.fill place z.cells (ps.map fun (i, x) => (i, a.eval x)).toList = some d → E.P.built t (ps.map fun (i, x) => (i, a.eval x)).toList = some d) →
        ∃ u, (execOp a.eval { dst := dst, op := Op.build t ps, type := ty, pos := pos, after := after, guard := guard }).run E.P w = .ok (.value u) w ∧ VRel ρ v u := by
      intro place zs r hr ha z hz hbuilt
      simp only [aq] at ha
      split at ha
      · rename_i cs hcs
        simp only [ok, Option.some.injEq, Prod.mk.injEq] at ha; obtain ⟨rfl, rfl⟩ := ha
        subst hz
        obtain ⟨d, hd, hrel⟩ := fillV_rel (E := E) (ts := ts) (a := a) place (fun x y hx => O hx) ps.toList r _ z.cells cs hr (cellsOf_rel (P := E.P) (t := 0) (it := default) ρ) hcs
        have hd' : Instr.fill place z.cells (ps.map fun (i, x) => (i, a.eval x)).toList = some d := by rw [← hd]; simp
        have := run_build w t _ d (hbuilt d hd')
        exact fin _ ⟨.agg d, this, by have := VRel.agg (ρ := ρ) cs d.toList hrel; simpa using this⟩
      · simp at ha
    have zinv : ∀ zs, zeroOf E t = some zs → ∃ it z, E.P.info? t = some it ∧ it.zero = some z ∧ zs = z.cells.toList.map ofV := by
      intro zs hz
      unfold zeroOf at hz
      split at hz
      · rename_i it hit
        split at hz
        · rename_i z hzz; simp at hz; exact ⟨it, z, hit, hzz, hz.symm⟩
        · simp at hz
      · simp at hz
    split at hcp
    · rename_i fields zs hu hz
      obtain ⟨it, z, hit, hzz, hze⟩ := zinv zs hz
      split at hcp
      · rename_i places hp
        split at hcp
        · rename_i r hr
          simp at hcp; subst hcp
          refine key _ zs r hr ha z hze (fun d hd => ?_)
          unfold Program.built
          simp only [hit, hu, hzz, hp]
          simpa using hd
        · simp at hcp
      · simp at hcp
    · rename_i n e zs hu hz
      obtain ⟨it, z, hit, hzz, hze⟩ := zinv zs hz
      split at hcp
      · rename_i ie hie
        split at hcp
        · rename_i r hr
          simp at hcp; subst hcp
          refine key _ zs r hr ha z hze (fun d hd => ?_)
          unfold Program.built
          simp only [hit, hu, hzz, hie]
          exact hd
        · simp at hcp
      · simp at hcp
    · simp at hcp
  | load t x =>
    simp only [comp1] at hcp
    split at hcp
    · rename_i inf d y hi hu hy
      simp at hcp; subst hcp
      have r := O hy
      simp only [aq] at ha
      split at ha
      · rename_i b i j he
        rw [he] at r
        obtain ⟨p, hp, hv⟩ := r.ptrInv
        split at ha
        · rename_i B hB
          have hBR := hR.at_ hB hp
          split at ha
          · rename_i v' hcut
            have hi' : i < B.n ∧ v = v' := by
              have hif : okIf (Nat.blt i B.n) v' = some (c, v) → i < B.n ∧ v = v' := by
                intro ha
                simp only [okIf, Option.some.injEq, Prod.mk.injEq] at ha; obtain ⟨rfl, rfl⟩ := ha
                refine ⟨?_, rfl⟩
                simp at hc
                simpa [Nat.blt_eq] using hc
              revert ha
              split
              · split
                · rename_i hn; intro ha; simp only [ok, Option.some.injEq, Prod.mk.injEq] at ha; obtain ⟨_, rfl⟩ := ha; exact ⟨by omega, rfl⟩
                · exact hif
              · exact hif
            obtain ⟨hlt, rfl⟩ := hi'
            have := loadV_run hBR hlt hcut t (by simp [hu]) inf hi rfl rfl
            refine fin _ ?_
            simp only [Instr.loadAt, hv]
            simpa [Instr.sureAddr] using this
          · simp at ha
        · simp at ha
      · simp at ha
    · simp at hcp
  | nilCheck x =>
    simp only [comp1, Option.map_eq_some_iff] at hcp
    obtain ⟨y, hy, rfl⟩ := hcp
    have r := O hy
    simp only [aq] at ha
    split at ha
    · rename_i b i j he
      rw [he] at r
      simp only [ok, Option.some.injEq, Prod.mk.injEq] at ha; obtain ⟨rfl, rfl⟩ := ha
      obtain ⟨p, hp, hv⟩ := r.ptrInv
      exact ⟨_, by simp [execOp, hv], hv ▸ r⟩
    · rename_i f x1 x2 he
      rw [he] at r
      simp only [ok, Option.some.injEq, Prod.mk.injEq] at ha; obtain ⟨rfl, rfl⟩ := ha
      cases hx : a.eval x <;> rw [hx] at r <;> cases r
      exact ⟨_, by simp only [execOp, hx]; rfl, .func _ _ _ _ _ (by assumption) (by assumption)⟩
    · simp at ha
  | fieldAddr s x f =>
    simp only [comp1] at hcp
    split at hcp
    · rename_i fields y hu hy
      split at hcp
      · rename_i fd hfd
        split at hcp
        · rename_i inf hi hz
          simp at hcp; subst hcp
          have r := O hy
          simp only [aq] at ha
          split at ha
          · rename_i b i j he
            rw [he] at r
            simp only [ok, Option.some.injEq, Prod.mk.injEq] at ha; obtain ⟨rfl, rfl⟩ := ha
            obtain ⟨p, hp, hv⟩ := r.ptrInv
            have hne : ¬ E.P.cellsOf fd.type = 0 := by
              intro h0
              have hz' := hz
              rw [h0] at hz'
              simp at hz'
            refine fin _ ⟨.pointer (some ⟨p.blk, p.shift + (i * p.sz + (j + fd.offset)), none⟩), ?_, .ptr _ _ _ p hp⟩
            simp only [Instr.fieldAt, Sem.run_bind, run_underlying hu, Result.andThen_ok, hfd, hv, Instr.sureAddr, Sem.run_pure, fieldPlace, run_sizeOf' E.P fd.type inf hi, Sem.run_ite, if_neg hne]
            rw [addr_add]
            congr 4
            omega
          · simp at ha
        · simp at hcp
      · simp at hcp
    · simp at hcp
  | field s x f =>
    simp only [comp1] at hcp
    split at hcp
    · rename_i fields y hu hy
      split at hcp
      · rename_i fd hfd
        split at hcp
        · rename_i inf d hi hu2
          simp at hcp; subst hcp
          have r := O hy
          simp only [aq] at ha
          split at ha
          · rename_i cs he
            rw [he] at r
            obtain ⟨ds, hds, hv⟩ := r.aggInv
            split at ha
            · rename_i v' hcut
              simp only [ok, Option.some.injEq, Prod.mk.injEq] at ha; obtain ⟨rfl, rfl⟩ := ha
              obtain ⟨u, hu', hr⟩ := cut_val (w := w) hcut hds E.P fd.type (by simp [hu2]) rfl inf hi rfl
              refine fin _ ⟨u, ?_, hr⟩
              simp only [Instr.field, Sem.run_bind, run_underlying hu, Result.andThen_ok, hfd, hv, asAgg, Sem.run_pure]
              exact hu'
            · simp at ha
          · simp at ha
        · simp at hcp
      · simp at hcp
    · simp at hcp
  | indexAddr t x i =>
    simp only [comp1] at hcp
    split at hcp
    · rename_i len e y i1 hu hy hi
      split at hcp
      · rename_i inf hinf
        simp at hcp; subst hcp
        have r := O hy
        have ri := O hi
        simp only [aq] at ha
        split at ha
        · rename_i b k kk he hei
          rw [he] at r; rw [hei] at ri
          cases hix : a.eval i <;> rw [hix] at ri <;> cases ri
          obtain ⟨p, hp, hv⟩ := r.ptrInv
          split at ha
          · rename_i B hB
            have hBR := hR.at_ hB hp
            split at ha
            · rename_i hsz
              have hsz := Nat.eq_of_beq_eq_true hsz
              simp only [okIf, Option.some.injEq, Prod.mk.injEq] at ha; obtain ⟨rfl, rfl⟩ := ha
              simp at hc
              refine fin _ ⟨.pointer (some ⟨p.blk, p.shift + (kk.toNat * p.sz + 0), none⟩), ?_, .ptr _ _ _ p hp⟩
              simp only [Instr.indexAt, asIntOf, Sem.run_bind, Sem.run_pure, Result.andThen_ok, run_underlying hu, hv, Instr.sureAddr, hix]
              rw [Sem.run_ite, if_pos ⟨hc.1, by simpa using hc.2⟩]
              simp only [Sem.run_bind, run_sizeOf' E.P e inf hinf, Result.andThen_ok, Sem.run_pure]
              rw [addr_add, hBR.sz, hsz]
              simp
            · simp at ha
          · simp at ha
        · simp at ha
      · simp at hcp
    · rename_i e y i1 hu hy hi
      split at hcp
      · rename_i inf hinf
        simp at hcp; subst hcp
        have r := O hy
        have ri := O hi
        simp only [aq] at ha
        split at ha
        · rename_i b lo len oc k kk he hei
          rw [he] at r; rw [hei] at ri
          cases hix : a.eval i <;> rw [hix] at ri <;> cases ri
          obtain ⟨p, ad, cap, hp, hv, hlc, _, hcap⟩ := r.sliceInv
          split at ha
          · rename_i B hB
            have hBR := hR.at_ hB hp
            split at ha
            · rename_i hsz
              have hsz := Nat.eq_of_beq_eq_true hsz
              simp only [okIf, Option.some.injEq, Prod.mk.injEq] at ha; obtain ⟨rfl, rfl⟩ := ha
              simp at hc
              have had : ad = ⟨p.blk, p.shift + lo * p.sz, none⟩ := by
                rcases hcap with h0 | ⟨h1, _⟩
                · omega
                · exact h1
              refine fin _ ⟨.pointer (some ⟨p.blk, p.shift + ((lo + kk.toNat) * p.sz + 0), none⟩), ?_, .ptr _ _ _ p hp⟩
              simp only [Instr.indexAt, asIntOf, Sem.run_bind, Sem.run_pure, Result.andThen_ok, run_underlying hu, hv, hix]
              rw [Sem.run_ite, if_pos ⟨hc.1, by simpa using hc.2⟩]
              simp only [Sem.run_bind, run_sizeOf' E.P e inf hinf, Result.andThen_ok, Sem.run_pure]
              rw [had, addr_add, hBR.sz, hsz, Nat.add_mul]
              congr 4
              omega
            · simp at ha
          · simp at ha
        · simp at ha
      · simp at hcp
    · simp at hcp
  | index t x i =>
    simp only [comp1] at hcp
    split at hcp
    · rename_i y i1 hu hy hi
      simp at hcp; subst hcp
      have r := O hy
      have ri := O hi
      simp only [aq] at ha
      split at ha
      · rename_i s k kk he hei
        rw [he] at r; rw [hei] at ri
        cases hx : a.eval x <;> rw [hx] at r <;> cases r
        cases hix : a.eval i <;> rw [hix] at ri <;> cases ri
        simp only [okIf, Option.some.injEq, Prod.mk.injEq] at ha; obtain ⟨rfl, rfl⟩ := ha
        simp at hc
        have hlt : kk.toNat < s.size := by omega
        refine fin _ ⟨_, ?_, .int _ _⟩
        simp only [Instr.index, asIntOf, Sem.run_bind, Sem.run_pure, Result.andThen_ok, run_underlying hu, hx, hix]
        rw [if_pos hc.1]
        have hg : s[kk.toNat]? = some (s.data.getD kk.toNat 0) := by
          rw [getElem?_pos s kk.toNat hlt]
          have hlt' : kk.toNat < s.data.size := hlt
          rw [Array.getD_eq_getD_getElem?, Array.getElem?_eq_getElem hlt']
          rfl
        rw [hg]
        simp
      · simp at ha
    · rename_i len e y i1 hu hy hi
      split at hcp
      · rename_i inf un hinf hun hone
        simp at hcp; subst hcp
        have r := O hy
        have ri := O hi
        simp only [aq] at ha
        split at ha
        · rename_i cs kd k he hei
          rw [he] at r; rw [hei] at ri
          obtain ⟨ds, hds, hx⟩ := r.aggInv
          cases hix : a.eval i <;> rw [hix] at ri <;> cases ri
          split at ha
          · rename_i row hlen hrow
            have hcv : (c = some (decide (0 ≤ k) && decide (k < len))) ∧ ((isAggT E e = true ∧ v = .agg row) ∨ (isAggT E e = false ∧ row = [v])) := by
              split at ha
              · rename_i hg; simp only [okIf, Option.some.injEq, Prod.mk.injEq] at ha; exact ⟨ha.1.symm, .inl ⟨hg, ha.2.symm⟩⟩
              · rename_i hg; simp only [okIf, Option.some.injEq, Prod.mk.injEq] at ha; exact ⟨ha.1.symm, .inr ⟨hg, by rw [ha.2]⟩⟩
              · simp at ha
            obtain ⟨rfl, hv⟩ := hcv
            simp at hc
            have hlt : k.toNat < len := by omega
            rw [lenEq_iff] at hlen
            have hdl : ds.length = len * E.P.cellsOf e := by rw [← hds.length]; exact hlen
            have hrr := selRow_rel hds hlt hlen _ 0 row (by omega) hrow
            have hle : k.toNat * E.P.cellsOf e + E.P.cellsOf e ≤ ds.length := by
              rw [hdl]
              have := Nat.mul_le_mul_right (E.P.cellsOf e) (show k.toNat + 1 ≤ len from hlt)
              rw [Nat.add_mul] at this
              omega
            have hsz : inf.size = E.P.cellsOf e := by simp [Program.cellsOf, hinf]
            have hp := run_part E.P e (by simp [hun]) inf hinf ds (k.toNat * E.P.cellsOf e) (E.P.cellsOf e) hsz (fun hf => by
              have : isAggT E e = false := hf
              rw [this] at hone
              simpa using hone) hle w
            refine fin _ ⟨valOf (isAggP E.P e) ((ds.drop (k.toNat * E.P.cellsOf e)).take (E.P.cellsOf e)), ?_, ?_⟩
            · simp only [Instr.index, asIntOf, Sem.run_bind, Sem.run_pure, Result.andThen_ok, run_underlying hu, hx, hix]
              rw [if_pos ⟨hc.1, hc.2⟩]
              simp only [Sem.run_bind, run_sizeOf' E.P e inf hinf, Result.andThen_ok]
              exact hp
            · rw [Nat.add_zero] at hrr
              rcases hv with ⟨hg, rfl⟩ | ⟨hg, rfl⟩
              · have hg' : isAggP E.P e = true := hg
                rw [hg']
                exact .agg _ _ hrr
              · have hg' : isAggP E.P e = false := hg
                rw [hg']
                generalize (ds.drop (k.toNat * E.P.cellsOf e)).take (E.P.cellsOf e) = us at hrr
                cases hrr with
                | cons _ u _ us h1 h2 => exact h1
          · simp at ha
        · simp at ha
      · simp at hcp
    · simp at hcp
  | binOp op t x y yt =>
    simp only [comp1] at hcp
    split at hcp
    · rename_i fs x1 y1 hu hx hy
      have rx := O hx
      have ry := O hy
      have hag : isAggP E.P t = true := by simp [isAggP, hu]
      split at hcp
      · rename_i ls hls hg
        simp at hcp; subst hcp
        simp only [aq] at ha
        split at ha
        · rename_i xs ys hex hey
          rw [hex] at rx; rw [hey] at ry
          split at ha
          · rename_i b hb
            simp only [ok, Option.some.injEq, Prod.mk.injEq] at ha; obtain ⟨rfl, rfl⟩ := ha
            obtain ⟨us, hus, hvx⟩ := rx.aggInv
            obtain ⟨vs, hvs, hvy⟩ := ry.aggInv
            have he := (eq_leaves E.P w 10 t ls hls).2 10000 (by omega) us vs b (eqCells_rel hus hvs hb)
            rw [hag] at he
            simp only [valOf] at he
            refine fin _ ⟨.bool b, ?_, .bool b⟩
            rw [hvx, hvy, Sem.run_bind, run_eqGuard_agg w _ _ _ _ _ _ hg]
            simp only [Result.andThen_ok]
            rw [run_eql_struct, he]
            rfl
          · simp at ha
        · simp at ha
      · rename_i ls hls hg
        simp at hcp; subst hcp
        simp only [aq] at ha
        split at ha
        · rename_i xs ys hex hey
          rw [hex] at rx; rw [hey] at ry
          split at ha
          · rename_i b hb
            simp only [ok, Option.some.injEq, Prod.mk.injEq] at ha; obtain ⟨rfl, rfl⟩ := ha
            obtain ⟨us, hus, hvx⟩ := rx.aggInv
            obtain ⟨vs, hvs, hvy⟩ := ry.aggInv
            have he := (eq_leaves E.P w 10 t ls hls).2 10000 (by omega) us vs b (eqCells_rel hus hvs hb)
            rw [hag] at he
            simp only [valOf] at he
            refine fin _ ⟨.bool (!b), ?_, .bool (!b)⟩
            rw [hvx, hvy, Sem.run_bind, run_eqGuard_agg w _ _ _ _ _ _ hg]
            simp only [Result.andThen_ok]
            rw [run_neq_struct, he]
            rfl
          · simp at ha
        · simp at ha
      · simp at hcp
    · rename_i k x1 y1 hu hx hy
      simp at hcp; subst hcp
      obtain ⟨r, hr1, hr2⟩ := binV_run (E := E) (w := w) .num t (O hx) (O hy) hc ha trivial
      refine fin _ ⟨r, ?_, hr2⟩
      have hg : ∀ o, (eqGuard o t x y (a.eval x) (a.eval y)).run E.P w = .ok () w := by
        intro o
        simp only [aq, binV] at ha
        have rx := O hx
        have ry := O hy
        split at ha
        · rename_i k a1 k' b1 hex hey
          rw [hex] at rx; rw [hey] at ry
          cases hix : a.eval x <;> rw [hix] at rx <;> cases rx
          cases hiy : a.eval y <;> rw [hiy] at ry <;> cases ry
          simp [eqGuard]
        · simp at ha
      simp [hg, hr1]
    · rename_i x1 y1 hu hx hy
      simp at hcp; subst hcp
      obtain ⟨r, hr1, hr2⟩ := binV_run (E := E) (w := w) .str t (O hx) (O hy) hc ha trivial
      refine fin _ ⟨r, ?_, hr2⟩
      have hg : ∀ o, (eqGuard o t x y (a.eval x) (a.eval y)).run E.P w = .ok () w := by
        intro o
        simp only [aq, binV] at ha
        have rx := O hx
        have ry := O hy
        split at ha
        · rename_i a1 b1 hex hey
          rw [hex] at rx; rw [hey] at ry
          cases hix : a.eval x <;> rw [hix] at rx <;> cases rx
          cases hiy : a.eval y <;> rw [hiy] at ry <;> cases ry
          simp [eqGuard]
        · simp at ha
      simp [hg, hr1]
    · rename_i x1 y1 hu hx hy
      simp at hcp; subst hcp
      obtain ⟨r, hr1, hr2⟩ := binV_run (E := E) (w := w) .bool t (O hx) (O hy) hc ha hu
      refine fin _ ⟨r, ?_, hr2⟩
      have hg : ∀ o, (eqGuard o t x y (a.eval x) (a.eval y)).run E.P w = .ok () w := by
        intro o
        simp only [aq, binV] at ha
        have rx := O hx
        have ry := O hy
        split at ha
        · rename_i a1 b1 hex hey
          rw [asB_rel rx hex, asB_rel ry hey]
          simp [eqGuard]
        · simp at ha
      simp [hg, hr1]
    · rename_i e x1 y1 hu hx hy
      simp at hcp; subst hcp
      obtain ⟨r, hr1, hr2⟩ := binV_run (E := E) (w := w) .ptr t (O hx) (O hy) hc ha ⟨e, hu⟩
      refine fin _ ⟨r, ?_, hr2⟩
      have hg : ∀ o, (eqGuard o t x y (a.eval x) (a.eval y)).run E.P w = .ok () w := by
        intro o
        simp only [aq, binV] at ha
        have rx := O hx
        have ry := O hy
        split at ha <;> rename_i hex hey <;> first
          | (rw [hex] at rx; rw [hey] at ry
             cases hix : a.eval x <;> rw [hix] at rx <;> cases rx <;>
             cases hiy : a.eval y <;> rw [hiy] at ry <;> cases ry <;>
             simp [eqGuard])
          | (simp at ha; done)
      simp [hg, hr1]
    · rename_i e x1 y1 hu hx hy
      simp at hcp; subst hcp
      obtain ⟨r, hr1, hr2⟩ := binV_run (E := E) (w := w) .sl t (O hx) (O hy) hc ha ⟨e, hu⟩
      refine fin _ ⟨r, ?_, hr2⟩
      have hg : ∀ o, (eqGuard o t x y (a.eval x) (a.eval y)).run E.P w = .ok () w := by
        intro o
        simp only [aq, binV] at ha
        have rx := O hx
        have ry := O hy
        split at ha <;> rename_i hex hey <;> first
          | (rw [hex] at rx; rw [hey] at ry
             cases hix : a.eval x <;> rw [hix] at rx <;> cases rx <;>
             cases hiy : a.eval y <;> rw [hiy] at ry <;> cases ry <;>
             simp [eqGuard])
          | (simp at ha; done)
      simp [hg, hr1]
    · simp at hcp
  | unOp op t x =>
    simp only [comp1, Option.map_eq_some_iff] at hcp
    obtain ⟨y, hy, rfl⟩ := hcp
    have r := O hy
    simp only [aq] at ha
    split at ha
    · rename_i k n he
      rw [he] at r
      cases hx : a.eval x <;> rw [hx] at r <;> cases r
      simp only [ok, Option.some.injEq, Prod.mk.injEq] at ha; obtain ⟨rfl, rfl⟩ := ha
      exact fin _ ⟨_, by rw [hx]; simp [Op.unary, Op.intArith]; rfl, by simpa using VRel.int k (k.wrap (0 - n))⟩
    · rename_i b he
      rw [he] at r
      have hb := asB_rel (b := b) r rfl
      simp only [ok, Option.some.injEq, Prod.mk.injEq] at ha; obtain ⟨rfl, rfl⟩ := ha
      exact fin _ ⟨.bool (!b), by simp [hb, Op.unary], .bool _⟩
    · rename_i he
      rw [he] at r
      have hb := asB_rel (b := true) r rfl
      simp only [ok, Option.some.injEq, Prod.mk.injEq] at ha; obtain ⟨rfl, rfl⟩ := ha
      exact fin _ ⟨.bool false, by simp [hb, Op.unary], .ff⟩
    · rename_i he
      rw [he] at r
      have hb := asB_rel (b := false) r rfl
      simp only [ok, Option.some.injEq, Prod.mk.injEq] at ha; obtain ⟨rfl, rfl⟩ := ha
      exact fin _ ⟨.bool true, by simp [hb, Op.unary], .tt⟩
    · simp at ha
  | convert s d x =>
    simp only [comp1] at hcp
    split at hcp
    · rename_i k0 k y hs hd hy
      simp at hcp; subst hcp
      have r := O hy
      simp only [aq] at ha
      split at ha
      · rename_i k1 n he
        rw [he] at r
        cases hx : a.eval x <;> rw [hx] at r <;> cases r
        simp only [ok, Option.some.injEq, Prod.mk.injEq] at ha; obtain ⟨rfl, rfl⟩ := ha
        exact fin _ ⟨.int k (k.wrap n), by simp [hx, convert, run_underlying hs, run_underlying hd, Conv.intToInt], .int _ _⟩
      · simp at ha
    · rename_i y hs hd hy
      simp at hcp; subst hcp
      have r := O hy
      simp only [aq] at ha
      split at ha
      · rename_i s1 he
        rw [he] at r
        cases hx : a.eval x <;> rw [hx] at r <;> cases r
        simp only [ok, Option.some.injEq, Prod.mk.injEq] at ha; obtain ⟨rfl, rfl⟩ := ha
        exact fin _ ⟨.string s1, by simp [hx, convert, run_underlying hs, run_underlying hd], .str _⟩
      · simp at ha
    · simp at hcp
  | extract x i =>
    simp only [comp1, Option.map_eq_some_iff] at hcp
    obtain ⟨y, hy, rfl⟩ := hcp
    have r := O hy
    simp only [aq] at ha
    split at ha
    · rename_i vs he
      rw [he] at r
      obtain ⟨ds, hds, hv⟩ := r.tupleInv
      split at ha
      · rename_i v' hv'
        simp only [ok, Option.some.injEq, Prod.mk.injEq] at ha; obtain ⟨rfl, rfl⟩ := ha
        rw [nth_eq] at hv'
        obtain ⟨u, hu, hr⟩ := hds.get i _ hv'
        exact fin _ ⟨u, by simp [hv, Instr.extract, hu], hr⟩
      · simp at ha
    · simp at ha
  | makeFunc fn xs ys =>
    simp only [comp1] at hcp
    split at hcp
    · rename_i x1 y1 hx hy
      simp at hcp; subst hcp
      simp only [aq, ok, Option.some.injEq, Prod.mk.injEq] at ha; obtain ⟨rfl, rfl⟩ := ha
      have r1 := opds_rel hR hT hx
      have r2 := opds_rel hR hT hy
      refine fin _ ⟨.func fn (xs.map a.eval) (ys.map a.eval), by simp [Instr.makeFunc], ?_⟩
      have e1 : (xs.toList.map a.eval).toArray = xs.map a.eval := by apply Array.ext'; simp
      have e2 : (ys.toList.map a.eval).toArray = ys.map a.eval := by apply Array.ext'; simp
      rw [← e1, ← e2]
      exact VRel.func fn _ _ _ _ r1 r2
    · simp at hcp
  | call cl =>
    simp only [comp1, compCall] at hcp
    obtain ⟨callee, args, argTypes⟩ := cl
    simp only at hcp
    split at hcp
    · split at hcp
      · simp at hcp
        split at hcp
        · exact absurd hcp.symm (hnp _ _)
        · subst hcp; simp [isQuiet] at hq
      · simp at hcp
    · split at hcp
      · simp at hcp; subst hcp; simp [isQuiet] at hq
      · simp at hcp
    · split at hcp
      · rename_i t x hts hxs
        have hat : argTypes = #[t] := by apply Array.ext'; simpa using hts
        have hax : args = #[x] := by apply Array.ext'; simpa using hxs
        subst hat hax
        split at hcp
        · rename_i y hu hy
          simp at hcp; subst hcp
          have r := O hy
          simp only [aq] at ha
          have conc : ∀ u, (Builtin.len_ #[t] ty #[a.eval x]).run E.P w = .ok u w → (execOp a.eval { dst := dst, op := Op.call { callee := .builtin .len, args := #[x], argTypes := #[t] }, type := ty, pos := pos, after := after, guard := guard }).run E.P w = .ok (.value u) w := by
            intro u hu; simp [execOp, resolve, invoke, builtin, hu]
          split at ha
          · rename_i s he
            rw [he] at r
            cases hx : a.eval x <;> rw [hx] at r <;> cases r
            simp only [ok, Option.some.injEq, Prod.mk.injEq] at ha; obtain ⟨rfl, rfl⟩ := ha
            exact ⟨_, conc _ (by rw [hx]; simp [Builtin.len_, run_underlying hu]; rfl), .int _ _⟩
          · simp at ha
        · rename_i e y hu hy
          simp at hcp; subst hcp
          have r := O hy
          simp only [aq] at ha
          have conc : ∀ u, (Builtin.len_ #[t] ty #[a.eval x]).run E.P w = .ok u w → (execOp a.eval { dst := dst, op := Op.call { callee := .builtin .len, args := #[x], argTypes := #[t] }, type := ty, pos := pos, after := after, guard := guard }).run E.P w = .ok (.value u) w := by
            intro u hu; simp [execOp, resolve, invoke, builtin, hu]
          split at ha
          · rename_i b lo len oc he
            rw [he] at r
            obtain ⟨p, ad, cap, hp, hv, _⟩ := r.sliceInv
            simp only [ok, Option.some.injEq, Prod.mk.injEq] at ha; obtain ⟨rfl, rfl⟩ := ha
            exact ⟨_, conc _ (by rw [hv]; simp [Builtin.len_, run_underlying hu]; rfl), .int _ _⟩
          · rename_i he
            rw [he] at r
            cases hx : a.eval x <;> rw [hx] at r <;> cases r
            simp only [ok, Option.some.injEq, Prod.mk.injEq] at ha; obtain ⟨rfl, rfl⟩ := ha
            exact ⟨_, conc _ (by rw [hx]; simp [Builtin.len_, run_underlying hu]; rfl), .int _ _⟩
          · simp at ha
        · simp at hcp
      · simp at hcp
    · split at hcp
      · rename_i xs hxs
        simp at hcp; subst hcp
        have r := opds_rel hR hT hxs
        simp only [aq] at ha
        split at ha
        · rename_i v1 vs he
          rw [he] at r
          cases hm : args.toList.map a.eval with
          | nil => rw [hm] at r; cases r
          | cons u us =>
            rw [hm] at r
            cases r with
            | cons _ _ _ _ h1 h2 =>
              obtain ⟨_, z, hz, hr⟩ := maxV_run (E := E) (w := w) vs us _ _ c v h1 h2 ha
              refine ⟨z, ?_, hr⟩
              simp [execOp, resolve, invoke, builtin, Builtin.max_, hm, hz]
        · simp at ha
      · simp at hcp
    · split at hcp
      · rename_i xs hxs
        simp at hcp; subst hcp
        have r := opds_rel hR hT hxs
        simp only [aq] at ha
        split at ha
        · rename_i v1 vs he
          rw [he] at r
          cases hm : args.toList.map a.eval with
          | nil => rw [hm] at r; cases r
          | cons u us =>
            rw [hm] at r
            cases r with
            | cons _ _ _ _ h1 h2 =>
              obtain ⟨_, z, hz, hr⟩ := minV_run (E := E) (w := w) vs us _ _ c v h1 h2 ha
              refine ⟨z, ?_, hr⟩
              simp [execOp, resolve, invoke, builtin, Builtin.min_, hm, hz]
        · simp at ha
      · simp at hcp
    · simp at hcp
  | alloc e => simp only [comp1] at hcp; (repeat' split at hcp) <;> simp at hcp <;> subst hcp <;> simp [isQuiet] at hq
  | box e x => simp only [comp1] at hcp; (repeat' split at hcp) <;> simp at hcp <;> subst hcp <;> simp [isQuiet] at hq
  | store e x y => simp only [comp1] at hcp; (repeat' split at hcp) <;> simp at hcp <;> subst hcp <;> simp [isQuiet] at hq
  | _ => simp [comp1] at hcp
end
end Go.Ev

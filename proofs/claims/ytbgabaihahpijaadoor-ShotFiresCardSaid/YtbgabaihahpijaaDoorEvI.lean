import Derived.Test.YtbgabaihahpijaaDoorEvH
set_option linter.unusedVariables false
set_option linter.unusedSimpArgs false
namespace Go.Ev
open Go Go.RowKit
theorem sameAV_eq : ∀ {a b : AV}, sameAV a b = true → a = b := by
  intro a b h
  cases a <;> cases b <;> simp [sameAV] at h ⊢
  exact h
theorem rowsSame_spec (s : Nat) (row : List AV) (hrow : row.length = s) : ∀ (n : Nat) (cs : List AV), rowsSame s row n cs = true → cs.length = n * s ∧ ∀ (i j : Nat) (v : AV), i < n → row[j]? = some v → cs[i * s + j]? = some v
  | 0, [], _ => ⟨by simp, fun i j v h => by omega⟩
  | 0, c :: cs, h => by simp [rowsSame] at h
  | n + 1, cs, h => by
    simp only [rowsSame, Bool.and_eq_true] at h
    obtain ⟨⟨h1, h2⟩, h3⟩ := h
    rw [lenEq_iff, takeN_eq] at h1
    rw [dropN_eq] at h3
    rw [takeN_eq] at h2
    obtain ⟨k1, k2⟩ := rowsSame_spec s row hrow n (cs.drop s) h3
    simp only [List.length_take, List.length_drop] at h1 k1
    refine ⟨by rw [Nat.add_mul]; omega, ?_⟩
    intro i j v hi hj
    cases i with
    | zero =>
      simp only [Nat.zero_mul, Nat.zero_add]
      have hjl : j < s := by rw [← hrow]; exact (List.getElem?_eq_some_iff.1 hj).1
      have hjc : j < cs.length := by omega
      have hz : (cs[j], v) ∈ (cs.take s).zip row := by
        rw [List.mem_iff_getElem?]
        refine ⟨j, ?_⟩
        rw [List.getElem?_zip_eq_some]
        refine ⟨?_, hj⟩
        simp [List.getElem?_take, hjl, hjc]
      rw [List.all_eq_true] at h2
      have := sameAV_eq (h2 _ hz)
      simp at this
      simp [hjc, this]
    | succ i =>
      have := k2 i j v (by omega) hj
      rw [List.getElem?_drop] at this
      rw [← this]
      congr 1
      rw [Nat.add_mul]; omega
theorem storable_one {ρ : Map} {v : AV} {u : Value} (h : VRel ρ v u) (hs : storable v = true) : u.oneCell' = true := by
  cases h <;> simp [storable] at hs <;> rfl
theorem storables_all {ρ : Map} : ∀ {vs : List AV} {us : List Value}, VRels ρ vs us → storables vs = true → ∀ u ∈ us, u.oneCell' = true
  | _, _, .nil, _, u, hu => by simp at hu
  | _, _, .cons v u vs us h1 h2, hs, x, hx => by
    simp only [storables, Bool.and_eq_true] at hs
    cases hx with
    | head => exact storable_one h1 hs.1
    | tail _ hx => exact storables_all h2 hs.2 x hx
section
variable {E : Env} {C : Cfg} {ρ0 ρ : Map} {h : Heap} {w0 w : World} {ts : List AV} {a : Act}
theorem R.at0 (hR : R E.g ρ0 ρ h w0 w) : R E.g ρ ρ h w0 w := { hR with pre := Pre.refl ρ }
theorem call_wp (hR : R E.g ρ0 ρ h w0 w) {f : FuncId} {args : List AV} {vs : List Value} (hv : VRels ρ args vs) {Qs : AV × Heap → Prop} (hc : CallsA E f args h Qs)
    {o : Oper} (ho : (execOp a.eval o).run E.P w = (callFunc f vs.toArray).run E.P w) {next : Act → World → Prop} {Qx : Exit → Act → World → Prop}
    (hnext : ∀ v h' u w' ρ', Qs (v, h') → R E.g ρ0 ρ' h' w0 w' → Pre ρ ρ' → VRel ρ' v u → next (a.put o.dst u) w') : o.wp E.P a w next Qx := by
  obtain ⟨⟨fn, hf, hb, hn⟩, hc⟩ := hc
  have hrun : (callFunc f vs.toArray).run E.P w = .ok (.enter f vs.toArray) w := by
    unfold callFunc
    have hb' : fn.body.isNone = false := by cases hfb : fn.body <;> simp_all
    simp only [Sem.run_bind, run_program, Result.andThen_ok, hf, hn, hb', Bool.false_eq_true, if_false, Sem.run_pure]
  unfold Oper.wp
  rw [ho, hrun, Oper.upon_enter]
  refine (hc ρ w0 w vs hR.at0 hv).mono ?_
  rintro e w' ⟨s, hs, ρ', v, hR', hrel, rfl⟩
  exact hnext s.1 s.2 v w' ρ' hs { hR' with pre := hR.pre.trans hR'.pre } hR'.pre hrel
theorem zeroOf_inv {t : TypeId} {zs : List AV} (hz : zeroOf E t = some zs) : ∃ it z, E.P.info? t = some it ∧ it.zero = some z ∧ zs = z.cells.toList.map ofV := by
  unfold zeroOf at hz
  split at hz
  · rename_i it hit
    split at hz
    · rename_i z hzz; simp at hz; exact ⟨it, z, hit, hzz, hz.symm⟩
    · simp at hz
  · simp at hz
theorem alloc_run (P : Program) {t : TypeId} {it : TypeInfo} {z : Value} (hit : P.info? t = some it) (hz : it.zero = some z) (w : World) :
    (Instr.alloc t true (.tuple #[])).run P w = .ok (.pointer (some ⟨w.heap.size, 0, none⟩)) (w.alloc (.cells z.cells t)) := by
  simp [Instr.alloc, zeroValue, typeInfo, hit, hz, newVar, newRow]
theorem loudV (hOK : COK E C) (hR : R E.g ρ0 ρ h w0 w) (hT : TRel ρ ts a) {o : Oper} {op : AOp} (hcp : comp1 E o.op = some op) (hq : isQuiet op = false)
    {Qs : AV × Heap → Prop} (ha : (aloud C ts h op).holds Qs) {next : Act → World → Prop} {Qx : Exit → Act → World → Prop}
    (hnext : ∀ v h' u w' ρ', Qs (v, h') → R E.g ρ0 ρ' h' w0 w' → Pre ρ ρ' → VRel ρ' v u → next (a.put o.dst u) w') : o.wp E.P a w next Qx := by
  have O : ∀ {x y}, opd E x = some y → VRel ρ (ev ts y) (a.eval x) := fun hx => opd_rel hR hT hx
  obtain ⟨dst, op', ty, pos, after, guard⟩ := o
  simp only at hcp hnext
  cases op' with
  | alloc e =>
    simp only [comp1] at hcp
    have fin : ∀ (n : Nat) (row : List AV) (z : Value) (it : TypeInfo), E.P.info? e = some it → it.zero = some z → n * row.length ≤ z.cells.size →
        (∀ (i j : Nat) (v : AV), i < n → row[j]? = some v → ∃ u, z.cells[i * row.length + j]? = some u ∧ VRel ρ v u) → op = .alloc e n row →
        ({ dst := dst, op := Op.alloc e, type := ty, pos := pos, after := after, guard := guard } : Oper).wp E.P a w next Qx := by
      intro n row z it hit hz hsz hcell hop
      subst hop
      simp only [aloud, GT.holds] at ha
      have hRn := hR.alloc (mkBlk e n row) z.cells rfl (fun i _ => rfl) hsz (fun i j v hi hn => hcell i j v hi (by rw [← nth_eq]; exact hn))
      unfold Oper.wp
      simp only [execOp, Sem.run_bind, alloc_run E.P hit hz, Result.andThen_ok, Sem.run_pure, Oper.upon_value]
      refine hnext _ _ _ _ _ ha hRn ⟨_, rfl⟩ ?_
      have := VRel.ptr (ρ := ρ ++ [⟨w.heap.size, 0, (mkBlk e n row).sz, (mkBlk e n row).n⟩]) h.length 0 0 _ (by rw [← hR.len]; exact nth_append_eq)
      simpa using this
    split at hcp
    · rename_i n e' zs hu hz
      split at hcp
      · rename_i hs
        simp at hcp
        obtain ⟨it, z, hit, hzz, hze⟩ := zeroOf_inv hz
        simp only [Bool.and_eq_true] at hs
        obtain ⟨hs1, hs2⟩ := hs
        by_cases hn : n = 0
        · subst hn
          exact fin 0 _ z it hit hzz (by omega) (fun i j v hi => by omega) hcp.symm
        · have hrow : (takeN (E.P.cellsOf e') zs).length = E.P.cellsOf e' := by
            obtain ⟨m, rfl⟩ : ∃ m, n = m + 1 := ⟨n - 1, by omega⟩
            simp only [rowsSame, Bool.and_eq_true] at hs2
            exact (lenEq_iff _ _).1 hs2.1.1
          obtain ⟨k1, k2⟩ := rowsSame_spec _ _ hrow n zs hs2
          refine fin n _ z it hit hzz (by rw [hrow, ← k1, hze]; simp) (fun i j v hi hj => ?_) hcp.symm
          have := k2 i j v hi hj
          rw [hze, List.getElem?_map] at this
          rw [hrow]
          simp only [Option.map_eq_some_iff] at this
          obtain ⟨u, hu', rfl⟩ := this
          exact ⟨u, by rw [← Array.getElem?_toList]; exact hu', ofV_rel ρ u⟩
      · simp at hcp
    · rename_i d zs hu hz
      simp at hcp
      obtain ⟨it, z, hit, hzz, hze⟩ := zeroOf_inv hz
      refine fin 1 _ z it hit hzz (by rw [hze]; simp) (fun i j v hi hj => ?_) hcp.symm
      rw [hze, List.getElem?_map] at hj
      simp only [Option.map_eq_some_iff] at hj
      obtain ⟨u, hu', rfl⟩ := hj
      have : i = 0 := by omega
      subst this
      exact ⟨u, by rw [← Array.getElem?_toList]; simpa using hu', ofV_rel ρ u⟩
    · simp at hcp
  | box e x =>
    simp only [comp1] at hcp
    split at hcp
    · simp at hcp
    · rename_i d y hne hu hy
      simp at hcp; subst hcp
      have r := O hy
      simp only [aloud] at ha
      split at ha
      · rename_i hk
        have hj : ev ts y ≠ .junk := fun e => by simp [e, known] at hk
        simp only [GT.holds] at ha
        have hcells := r.cells hj
        have hRn := hR.alloc (mkBlk e 1 (cellsOf (ev ts y))) (a.eval x).cells rfl (fun i _ => rfl) (by have := hcells.length; simp [mkBlk] at this ⊢; omega) (fun i j v hi hn => by
          have hi0 : i = 0 := by simp [mkBlk] at hi; omega
          subst hi0
          obtain ⟨u, hu', hr⟩ := hcells.get j v (by rw [← nth_eq]; exact hn)
          exact ⟨u, by rw [← Array.getElem?_toList]; simpa using hu', hr⟩)
        unfold Oper.wp
        have hrun : (Instr.box e (a.eval x)).run E.P w = .ok (.pointer (some ⟨w.heap.size, 0, none⟩)) (w.alloc (.cells (a.eval x).cells e)) := by
          simp [Instr.box, newVar, newRow]
        simp only [execOp, Sem.run_bind, hrun, Result.andThen_ok, Sem.run_pure, Oper.upon_value]
        refine hnext _ _ _ _ _ ha hRn ⟨_, rfl⟩ ?_
        have := VRel.ptr (ρ := ρ ++ [⟨w.heap.size, 0, (mkBlk e 1 (cellsOf (ev ts y))).sz, (mkBlk e 1 (cellsOf (ev ts y))).n⟩]) h.length 0 0 _ (by rw [← hR.len]; exact nth_append_eq)
        simpa using this
      · simp [GT.holds] at ha
    · simp at hcp
  | store t x v =>
    simp only [comp1] at hcp
    split at hcp
    · rename_i inf y z hi hy hz
      simp at hcp; subst hcp
      have r := O hy
      have rv := O hz
      simp only [aloud] at ha
      split at ha
      · rename_i b i j he
        rw [he] at r
        obtain ⟨p, hp, hv⟩ := r.ptrInv
        split at ha
        · rename_i B hB
          have hb := bget_some hB
          split at ha
          · rename_i hck
            simp only [Bool.and_eq_true] at hck
            obtain ⟨hrw, hst, hln, hjn⟩ := hck
            rw [lenEq_iff] at hln
            have hjn := Nat.le_of_ble_eq_true hjn
            have hlt : i < B.n ∧ Qs (.junk, setN h b (some (updRow B i (overlay (B.f i) j (cellsOf (ev ts z)))))) := by
              have hif : ∀ {x : GT (AV × Heap)}, x = .leaf (.junk, setN h b (some (updRow B i (overlay (B.f i) j (cellsOf (ev ts z)))))) → (GT.need (Nat.blt i B.n) x).holds Qs → i < B.n ∧ Qs (.junk, setN h b (some (updRow B i (overlay (B.f i) j (cellsOf (ev ts z)))))) := by
                rintro x rfl ha
                simp only [GT.holds] at ha
                exact ⟨by simpa [Nat.blt_eq] using ha.1, ha.2⟩
              revert ha
              split
              · split
                · rename_i hn; intro ha; simp only [GT.holds] at ha; exact ⟨by omega, ha⟩
                · exact hif rfl
              · exact hif rfl
            obtain ⟨hlt, hQ⟩ := hlt
            have hjk : ev ts z ≠ .junk := fun e => by rw [e] at hst; simp [cellsOf, storables, storable] at hst
            have hcells := rv.cells hjk
            obtain ⟨hs0, hge, ds, hds, hroom⟩ := (hR.at_ hB hp).rw_ hrw
            obtain ⟨hRn, hle⟩ := hR.store (j := j) hb hp hrw hlt hcells (by omega) hds
            have hsize : (a.eval v).cells.size = E.P.cellsOf t := by have := hcells.length; simp at this; omega
            have hrun : (Instr.storeAt t (a.eval x) (a.eval v)).run E.P w = .ok () (w.setRow p.blk (ds.toList.take (p.shift + (i * p.sz + j)) ++ (a.eval v).cells.toList ++ ds.toList.drop (p.shift + (i * p.sz + j) + (a.eval v).cells.toList.length)).toArray) := by
              have := run_storeCells_at (P := E.P) p.blk (p.shift + (i * p.sz + j)) B.e (a.eval v).cells.toList 0 ds w hds (by simpa using hle) (storables_all hcells hst)
              simp only [Instr.storeAt, hv, Instr.sureAddr, Sem.run_bind, Sem.run_pure, Result.andThen_ok, storeVar, run_sizeOf' E.P t inf hi, Sem.run_ite, ne_eq, hsize, not_true, if_false]
              simpa using this
            unfold Oper.wp
            simp only [execOp, Sem.run_bind, hrun, Result.andThen_ok, Sem.run_pure, Oper.upon_skip]
            exact hnext _ _ _ _ _ hQ hRn (Pre.refl _) (.junk _)
          · simp [GT.holds] at ha
        · simp [GT.holds] at ha
      · simp [GT.holds] at ha
    · simp at hcp
  | call cl =>
    simp only [comp1, compCall] at hcp
    obtain ⟨callee, args, argTypes⟩ := cl
    simp only at hcp
    split at hcp
    · rename_i f
      split at hcp
      · rename_i xs hxs
        simp at hcp
        split at hcp
        · subst hcp; simp [isQuiet] at hq
        · subst hcp
          simp only [aloud] at ha
          have hc := hOK.Δ f _ h Qs ha
          refine call_wp hR (opds_rel hR hT hxs) hc (o := { dst := dst, op := Op.call { callee := .value (.func f), args := args, argTypes := argTypes }, type := ty, pos := pos, after := after, guard := guard }) ?_ hnext
          have e1 : (args.toList.map a.eval).toArray = args.map a.eval := by apply Array.ext'; simp
          rw [e1]
          simp [execOp, resolve, Act.eval, Deferred.ofValue, invoke]
      · simp at hcp
    · rename_i x _
      split at hcp
      · rename_i y xs hy hxs
        simp at hcp; subst hcp
        have r := O hy
        simp only [aloud] at ha
        split at ha
        · rename_i f first captured he
          rw [he] at r
          have hc := hOK.Δ f _ h Qs ha
          cases hx : a.eval x <;> rw [hx] at r <;> cases r
          rename_i xs' ys' h1 h2
          refine call_wp hR ((VRels.append (VRels.append h1 (opds_rel hR hT hxs)) h2)) hc (o := { dst := dst, op := Op.call { callee := .value x, args := args, argTypes := argTypes }, type := ty, pos := pos, after := after, guard := guard }) ?_ hnext
          have e1 : (xs' ++ args.toList.map a.eval ++ ys').toArray = xs'.toArray ++ args.map a.eval ++ ys'.toArray := by apply Array.ext'; simp
          rw [e1]
          simp [execOp, resolve, hx, Deferred.ofValue, invoke]
        · simp [GT.holds] at ha
      · simp at hcp
    · (repeat' split at hcp) <;> simp at hcp <;> subst hcp <;> simp [isQuiet] at hq
    · (repeat' split at hcp) <;> simp at hcp <;> subst hcp <;> simp [isQuiet] at hq
    · (repeat' split at hcp) <;> simp at hcp <;> subst hcp <;> simp [isQuiet] at hq
    · simp at hcp
  | move x => simp only [comp1, Option.map_eq_some_iff] at hcp; obtain ⟨y, _, rfl⟩ := hcp; simp [isQuiet] at hq
  | assign x => simp only [comp1, Option.map_eq_some_iff] at hcp; obtain ⟨y, _, rfl⟩ := hcp; simp [isQuiet] at hq
  | nilCheck x => simp only [comp1, Option.map_eq_some_iff] at hcp; obtain ⟨y, _, rfl⟩ := hcp; simp [isQuiet] at hq
  | unOp o' t x => simp only [comp1, Option.map_eq_some_iff] at hcp; obtain ⟨y, _, rfl⟩ := hcp; simp [isQuiet] at hq
  | extract x i => simp only [comp1, Option.map_eq_some_iff] at hcp; obtain ⟨y, _, rfl⟩ := hcp; simp [isQuiet] at hq
  | pick c x y => simp only [comp1] at hcp; (repeat' split at hcp) <;> simp at hcp <;> subst hcp <;> simp [isQuiet] at hq
  | build t ps => simp only [comp1] at hcp; (repeat' split at hcp) <;> simp at hcp <;> subst hcp <;> simp [isQuiet] at hq
  | load t x => simp only [comp1] at hcp; (repeat' split at hcp) <;> simp at hcp <;> subst hcp <;> simp [isQuiet] at hq
  | fieldAddr s x f => simp only [comp1] at hcp; (repeat' split at hcp) <;> simp at hcp <;> subst hcp <;> simp [isQuiet] at hq
  | field s x f => simp only [comp1] at hcp; (repeat' split at hcp) <;> simp at hcp <;> subst hcp <;> simp [isQuiet] at hq
  | indexAddr t x i => simp only [comp1] at hcp; (repeat' split at hcp) <;> simp at hcp <;> subst hcp <;> simp [isQuiet] at hq
  | index t x i => simp only [comp1] at hcp; (repeat' split at hcp) <;> simp at hcp <;> subst hcp <;> simp [isQuiet] at hq
  | binOp o' t x y yt => simp only [comp1] at hcp; (repeat' split at hcp) <;> simp at hcp <;> subst hcp <;> simp [isQuiet] at hq
  | convert s d x => simp only [comp1] at hcp; (repeat' split at hcp) <;> simp at hcp <;> subst hcp <;> simp [isQuiet] at hq
  | makeFunc f x y => simp only [comp1] at hcp; (repeat' split at hcp) <;> simp at hcp <;> subst hcp <;> simp [isQuiet] at hq
  | _ => simp [comp1] at hcp
end
end Go.Ev

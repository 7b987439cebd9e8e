import Derived.Test.YtbgabaihahpijaaDoorL9A
set_option linter.unusedVariables false
set_option linter.unusedSimpArgs false
set_option maxRecDepth 100000
namespace Go.L9
open Go Go.Ev Go.Proofs Go.L5
def bt (n lo hi : Int) : Bool := decide (lo ≤ n) && decide (n ≤ hi)
theorem bt_iff {n lo hi : Int} : bt n lo hi = true ↔ lo ≤ n ∧ n ≤ hi := by simp [bt]
/-- A mover's numbers within their bounds. -/
def bM (x y sx sy px py f h e c o s : Int) : Bool := (bd x == x && bd y == y) && bt sx (-1024) 1024 && bt sy (-1024) 1024 && bt px (-256) 256 && bt py (-256) 256 && bt f 0 15 && bt h 0 100 && bt e 0 100 && bt c 0 12 && bt o 0 30 && bt s 0 255
/-- In play it has health, out it has nothing. -/
def tM (sx sy px py h e : Int) (sh : Bool) (c o : Int) : Bool := bif o == 0 then decide (h ≥ 1) else sx == 0 && (sy == 0 && (px == 0 && (py == 0 && (h == 0 && (e == 0 && (sh == false && c == 0))))))
/-- A mover that may be. -/
def okM (x y sx sy px py f h e : Int) (sh : Bool) (c o s : Int) : Bool := bM x y sx sy px py f h e c o s && tM sx sy px py h e sh c o
/-- A shot that may be. -/
def okS (n w k x y u v l : Int) : Bool := bt n 1 1099511627776 && bt w 0 5 && bt k 1 3 && (bd x == x && bd y == y) && bt u (-1536) 1536 && bt v (-1536) 1536 && bt l 1 40
def er (b : Bool) (n : Int) : Int := bif b then 0 else n
def c2 (a : Int) : Int := cl a (-2048) 2048
theorem sz_bd (a : Int) : sz (bd a) ≤ 2147483647 ∧ 0 ≤ sz (bd a) := by have := bd_rng a; unfold sz; split <;> omega
theorem sz_le (a n : Int) (hn : 0 ≤ n) (h2 : n < 2147483647) : decide (sz (bd a) ≤ n) = bt a (-n) n := by
  rw [Bool.eq_iff_iff, bt_iff, decide_eq_true_eq]
  unfold sz bd
  split <;> (try split) <;> (try split) <;> (try split) <;> omega
theorem case_er {p q : Bool} {n : Int} (h : p = !q) : (GT.case p (.leaf (i6 n)) (.leaf (i6 0))).holds (fun x => VW (i6 (er q n)) x) := by
  subst h; cases q
  · exact ⟨fun _ => VW.refl _, fun h => by cases h⟩
  · exact ⟨(fun h => by cases h), fun _ => VW.refl _⟩
theorem case_er2 {p p2 q : Bool} {n : Int} (h : (p || p2) = !q) : (GT.case p (.leaf (i6 n)) (.case p2 (.leaf (i6 n)) (.leaf (i6 0)))).holds (fun x => VW (i6 (er q n)) x) := by
  cases p <;> cases p2 <;> cases q <;> first | (simp at h; done) | (refine ⟨fun h => ?_, fun h => ?_⟩ <;> first | (cases h; done) | exact VW.refl _ | (refine ⟨fun h => ?_, fun h => ?_⟩ <;> first | (cases h; done) | exact VW.refl _))
theorem case_b2 {p c d e q : Bool} (h : q = (!p && bif c then d else e)) : (GT.case p (.leaf .ff) (.case c (.leaf (.bool d)) (.leaf (.bool e)))).holds (fun x => VW (.bool q) x) := by
  subst h
  cases p <;> cases c <;> first | (refine ⟨fun h => ?_, fun h => ?_⟩ <;> first | (cases h; done) | exact VW.norm rfl | (refine ⟨fun h => ?_, fun h => ?_⟩ <;> first | (cases h; done) | exact VW.norm rfl))
theorem mcheck (x y sx sy px py f h e : Int) (sh : Bool) (c o s : Int) : ((!(bt f 0 15 && (bt h 0 100 && (bt e 0 100 && (bt c 0 12 && (bt o 0 30 && bt s 0 255))))) || (!(bd x == x && bd y == y) || (!(decide (sz (bd sx) ≤ 1024) && decide (sz (bd sy) ≤ 1024)) || !(decide (sz (bd px) ≤ 256) && decide (sz (bd py) ≤ 256))))) || (bif o == 0 then h == 0 || decide (o > 0) && !(x == x && (y == y && (sx == 0 && (sy == 0 && (px == 0 && (py == 0 && (f == f && (h == 0 && (e == 0 && (sh == false && (c == 0 && (o == o && s == s)))))))))))) else decide (o > 0) && !(x == x && (y == y && (sx == 0 && (sy == 0 && (px == 0 && (py == 0 && (f == f && (h == 0 && (e == 0 && (sh == false && (c == 0 && (o == o && s == s)))))))))))))) = !okM x y sx sy px py f h e sh c o s := by
  rw [sz_le _ _ (by omega) (by omega), sz_le _ _ (by omega) (by omega), sz_le _ _ (by omega) (by omega), sz_le _ _ (by omega) (by omega), ← Bool.not_and, ← Bool.not_and, ← Bool.not_and]
  have e1 : (bt f 0 15 && (bt h 0 100 && (bt e 0 100 && (bt c 0 12 && (bt o 0 30 && bt s 0 255)))) && ((bd x == x && bd y == y) && (bt sx (-1024) 1024 && bt sy (-1024) 1024 && (bt px (-256) 256 && bt py (-256) 256)))) = bM x y sx sy px py f h e c o s := by
    unfold bM; ac_rfl
  rw [e1]
  unfold okM
  cases hb : bM x y sx sy px py f h e c o s
  · rfl
  · have hh : 0 ≤ h ∧ 0 ≤ o := by simp only [bM, Bool.and_eq_true, bt_iff] at hb; omega
    simp only [Bool.not_true, Bool.false_or, Bool.true_and, tM, beq_self_eq_true, Bool.and_true]
    by_cases ho : o = 0
    · subst ho
      have : (h == 0) = !decide (h ≥ 1) := by rw [Bool.eq_iff_iff]; simp; omega
      simp [this]
    · have h1 : (o == 0) = false := by simpa using ho
      have h2 : decide (o > 0) = true := by simp; omega
      rw [h1, h2]; simp
theorem mmay (x y sx sy px py f h e : Int) (sh : Bool) (c o s : Int) : okM x y sx sy px py f h e sh c o s = (!(!(bd x == x && bd y == y && (bt sx (-1024) 1024 && bt sy (-1024) 1024)) || (!(bt px (-256) 256 && (bt py (-256) 256 && bt f 0 15)) || !(bt h 0 100 && (bt e 0 100 && (bt c 0 12 && (bt o 0 30 && bt s 0 255)))))) && bif o == 0 then decide (h ≥ 1) else x == x && (y == y && (sx == 0 && (sy == 0 && (px == 0 && (py == 0 && (f == f && (h == 0 && (e == 0 && (sh == false && (c == 0 && (o == o && s == s)))))))))))) := by
  rw [← Bool.not_and, ← Bool.not_and, Bool.not_not]
  unfold okM tM
  simp only [beq_self_eq_true, Bool.and_true, Bool.true_and]
  congr 1
  unfold bM; ac_rfl
theorem scheck (n w k x y u v l : Int) : (!(bt n 1 1099511627776 && (bt w 0 5 && (bt k 1 3 && bt l 1 40))) || (!(bd x == x && bd y == y) || (decide (sz (bd u) > 1536) || decide (sz (bd v) > 1536)))) = !okS n w k x y u v l := by
  have e (a : Int) : decide (sz (bd a) > 1536) = !bt a (-1536) 1536 := by
    rw [← sz_le _ _ (by omega) (by omega), Bool.eq_iff_iff]; simp
  rw [e, e, ← Bool.not_and, ← Bool.not_and, ← Bool.not_and]
  congr 1
  unfold okS; ac_rfl
theorem scheck9 (n w k x y u v l : Int) : (!(decide (n ≥ 1) && (decide (n ≤ 1099511627776) && (decide (w ≥ 0) && (decide (w ≤ 5) && (decide (k ≥ 1) && (decide (k ≤ 3) && (bd x == x && bd y == y))))))) || (!(decide (u ≥ -1536) && (decide (u ≤ 1536) && (decide (v ≥ -1536) && decide (v ≤ 1536)))) || (decide (l < 1) || decide (l > 40)))) = !okS n w k x y u v l := by
  have e : (decide (l < 1) || decide (l > 40)) = !bt l 1 40 := by rw [Bool.eq_iff_iff]; simp [bt]; try omega
  rw [e, ← Bool.not_and, ← Bool.not_and]
  congr 1
  simp only [okS, bt, ge_iff_le]; ac_rfl
theorem down_eq (a : Int) (h1 : -9223372036854775808 ≤ a) (h2 : a < 9223372036854775808) : (bif decide (IntKind.i64.wrap (IntKind.i64.wrap (a.tdiv 4096) * 4096) > a) then IntKind.i64.wrap (IntKind.i64.wrap (a.tdiv 4096) - 1) else IntKind.i64.wrap (a.tdiv 4096)) = a / 4096 := by
  rw [tdiv_lit (by omega)]
  split
  · rw [wrap64 (x := -(-a / 4096)) (by omega) (by omega), wrap64 (x := -(-a / 4096) * 4096) (by omega) (by omega), wrap64 (by omega) (by omega), Bool.cond_decide]
    split <;> omega
  · rw [wrap64 (x := a / 4096) (by omega) (by omega), wrap64 (x := a / 4096 * 4096) (by omega) (by omega), wrap64 (by omega) (by omega), Bool.cond_decide]
    split <;> omega
theorem shr12 (a : Int) : a.fdiv (2 ^ min (Int.toNat 12) IntKind.i64.bits) = a / 4096 := by
  rw [show (2 : Int) ^ min (Int.toNat 12) IntKind.i64.bits = 4096 by decide, Int.fdiv_eq_ediv_of_nonneg _ (by omega)]
/-- A sign of a text. -/
def sg (z : ByteArray) (a : Int) : Int := (z.data.getD a.toNat 0).toNat
end Go.L9

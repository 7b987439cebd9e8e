import Derived.Test.YtbgabaihahpijaaDoorEvA
set_option linter.unusedVariables false
set_option linter.unusedSimpArgs false
namespace Go.Ev
open Go Go.RowKit

/-- Where an abstract block lies. -/
structure Pl where
  blk : Nat
  shift : Nat
  sz : Nat
  room : Nat
abbrev Map := List Pl

mutual
inductive VRel (ρ : Map) : AV → Value → Prop
  | junk (u : Value) : VRel ρ .junk u
  | tt : VRel ρ .tt (.bool true)
  | ff : VRel ρ .ff (.bool false)
  | bool (b : Bool) : VRel ρ (.bool b) (.bool b)
  | int (k : IntKind) (n : Int) : VRel ρ (.int k n) (.int k n)
  | str (s : ByteArray) : VRel ρ (.str s) (.string s)
  | nilp : VRel ρ .nilp (.pointer none)
  | ptr (b i j : Nat) (p : Pl) : nth ρ b = some p → VRel ρ (.ptr b i j) (.pointer (some ⟨p.blk, p.shift + (i * p.sz + j), none⟩))
  | nils : VRel ρ .nils (.slice none 0 0)
  | slice (b lo len : Nat) (oc : Option Nat) (p : Pl) (ad : Addr) (cap : Nat) : nth ρ b = some p → len ≤ cap → (∀ c, oc = some c → cap = c) →
      (cap = 0 ∨ (ad = ⟨p.blk, p.shift + lo * p.sz, none⟩ ∧ lo + cap ≤ p.room)) → VRel ρ (.slice b lo len oc) (.slice (some ad) len cap)
  | func (fn : Fn) (a c : List AV) (xs ys : List Value) : VRels ρ a xs → VRels ρ c ys → VRel ρ (.func fn a c) (.func fn xs.toArray ys.toArray)
  | nilf : VRel ρ .nilf .nilFunc
  | iface (t : TypeId) (v : AV) (u : Value) : VRel ρ v u → VRel ρ (.iface t v) (.iface t u)
  | nili : VRel ρ .nili .nilIface
  | agg (cs : List AV) (ds : List Value) : VRels ρ cs ds → VRel ρ (.agg cs) (.agg ds.toArray)
  | tuple (cs : List AV) (ds : List Value) : VRels ρ cs ds → VRel ρ (.tuple cs) (.tuple ds.toArray)
inductive VRels (ρ : Map) : List AV → List Value → Prop
  | nil : VRels ρ [] []
  | cons (v : AV) (u : Value) (vs : List AV) (us : List Value) : VRel ρ v u → VRels ρ vs us → VRels ρ (v :: vs) (u :: us)
end

def Pre (ρ ρ' : Map) : Prop := ∃ τ, ρ' = ρ ++ τ
theorem Pre.refl (ρ : Map) : Pre ρ ρ := ⟨[], by simp⟩
theorem Pre.trans {a b c : Map} (h : Pre a b) (k : Pre b c) : Pre a c := by
  obtain ⟨x, rfl⟩ := h; obtain ⟨y, rfl⟩ := k; exact ⟨x ++ y, by simp⟩
theorem nth_eq {α : Type} : ∀ (l : List α) (n : Nat), nth l n = l[n]?
  | [], _ => by simp [nth]
  | x :: xs, 0 => by simp [nth]
  | x :: xs, n + 1 => by simp [nth, nth_eq xs n]
theorem setN_eq {α : Type} : ∀ (l : List α) (n : Nat) (v : α), setN l n v = l.set n v
  | [], _, _ => by simp [setN]
  | x :: xs, 0, v => by simp [setN]
  | x :: xs, n + 1, v => by simp [setN, setN_eq xs n v]
theorem takeN_eq {α : Type} : ∀ (n : Nat) (l : List α), takeN n l = l.take n
  | 0, _ => by simp [takeN]
  | n + 1, [] => by simp [takeN]
  | n + 1, x :: xs => by simp [takeN, takeN_eq n xs]
theorem dropN_eq {α : Type} : ∀ (n : Nat) (l : List α), dropN n l = l.drop n
  | 0, _ => by simp [dropN]
  | n + 1, [] => by simp [dropN]
  | n + 1, x :: xs => by simp [dropN, dropN_eq n xs]
theorem lenEq_iff {α : Type} : ∀ (l : List α) (n : Nat), lenEq l n = true ↔ l.length = n
  | [], 0 => by simp [lenEq]
  | [], n + 1 => by simp [lenEq]
  | x :: xs, 0 => by simp [lenEq]
  | x :: xs, n + 1 => by simp [lenEq, lenEq_iff xs n]
theorem Pre.nth {ρ ρ' : Map} (h : Pre ρ ρ') {b : Nat} {p : Pl} (hb : nth ρ b = some p) : nth ρ' b = some p := by
  obtain ⟨τ, rfl⟩ := h
  rw [nth_eq] at hb ⊢
  rw [List.getElem?_append_left]
  · exact hb
  · exact (List.getElem?_eq_some_iff.1 hb).1

mutual
theorem VRel.mono {ρ ρ' : Map} (h : Pre ρ ρ') : ∀ {v : AV} {u : Value}, VRel ρ v u → VRel ρ' v u
  | _, _, .junk u => .junk u
  | _, _, .tt => .tt
  | _, _, .ff => .ff
  | _, _, .bool b => .bool b
  | _, _, .int k n => .int k n
  | _, _, .str s => .str s
  | _, _, .nilp => .nilp
  | _, _, .ptr b i j p hb => .ptr b i j p (h.nth hb)
  | _, _, .nils => .nils
  | _, _, .slice b lo len oc p ad cap hb h1 h2 h3 => .slice b lo len oc p ad cap (h.nth hb) h1 h2 h3
  | _, _, .func fn a c xs ys h1 h2 => .func fn a c xs ys (VRels.mono h h1) (VRels.mono h h2)
  | _, _, .nilf => .nilf
  | _, _, .iface t v u h1 => .iface t v u (VRel.mono h h1)
  | _, _, .nili => .nili
  | _, _, .agg cs ds h1 => .agg cs ds (VRels.mono h h1)
  | _, _, .tuple cs ds h1 => .tuple cs ds (VRels.mono h h1)
theorem VRels.mono {ρ ρ' : Map} (h : Pre ρ ρ') : ∀ {v : List AV} {u : List Value}, VRels ρ v u → VRels ρ' v u
  | _, _, .nil => .nil
  | _, _, .cons v u vs us h1 h2 => .cons v u vs us (VRel.mono h h1) (VRels.mono h h2)
end

theorem VRels.length {ρ : Map} : ∀ {vs : List AV} {us : List Value}, VRels ρ vs us → vs.length = us.length
  | _, _, .nil => rfl
  | _, _, .cons v u vs us _ h => by simp [VRels.length h]
theorem VRels.get {ρ : Map} : ∀ {vs : List AV} {us : List Value}, VRels ρ vs us → ∀ (i : Nat) (v : AV), vs[i]? = some v → ∃ u, us[i]? = some u ∧ VRel ρ v u
  | _, _, .nil, i, v, h => by simp at h
  | _, _, .cons v u vs us h1 h2, 0, x, h => by simp at h; subst h; exact ⟨u, by simp, h1⟩
  | _, _, .cons v u vs us h1 h2, i + 1, x, h => by
    simp at h
    obtain ⟨y, hy, hr⟩ := VRels.get h2 i x h
    exact ⟨y, by simpa using hy, hr⟩
theorem VRels.of_get {ρ : Map} : ∀ (vs : List AV) (us : List Value), vs.length = us.length → (∀ (i : Nat) (v : AV), vs[i]? = some v → ∃ u, us[i]? = some u ∧ VRel ρ v u) → VRels ρ vs us
  | [], [], _, _ => .nil
  | [], u :: us, h, _ => by simp at h
  | v :: vs, [], h, _ => by simp at h
  | v :: vs, u :: us, h, k => by
    obtain ⟨u', hu, hr⟩ := k 0 v (by simp)
    simp at hu; subst hu
    exact .cons _ _ _ _ hr (VRels.of_get vs us (by simpa using h) (fun i x hx => by
      obtain ⟨y, hy, hr⟩ := k (i + 1) x (by simpa using hx)
      exact ⟨y, by simpa using hy, hr⟩))
theorem VRels.set {ρ : Map} {vs : List AV} {us : List Value} (h : VRels ρ vs us) (i : Nat) {v : AV} {u : Value} (hv : VRel ρ v u) : VRels ρ (vs.set i v) (us.set i u) := by
  refine VRels.of_get _ _ (by simp [h.length]) (fun j x hx => ?_)
  rw [List.getElem?_set] at hx ⊢
  by_cases hij : i = j
  · subst hij
    simp only [if_true] at hx ⊢
    by_cases hi : i < vs.length
    · rw [if_pos hi] at hx; simp at hx; subst hx
      rw [if_pos (by rw [← h.length]; exact hi)]; exact ⟨u, rfl, hv⟩
    · rw [if_neg hi] at hx; simp at hx
  · rw [if_neg hij] at hx ⊢; exact h.get j x hx
theorem VRels.append {ρ : Map} : ∀ {vs : List AV} {us : List Value} {ws : List AV} {xs : List Value}, VRels ρ vs us → VRels ρ ws xs → VRels ρ (vs ++ ws) (us ++ xs)
  | _, _, _, _, .nil, h => h
  | _, _, _, _, .cons v u vs us h1 h2, h => .cons _ _ _ _ h1 (VRels.append h2 h)
theorem VRels.take {ρ : Map} {vs : List AV} {us : List Value} (h : VRels ρ vs us) (n : Nat) : VRels ρ (vs.take n) (us.take n) := by
  refine VRels.of_get _ _ (by simp [h.length]) (fun j x hx => ?_)
  rw [List.getElem?_take] at hx ⊢
  split at hx
  · rename_i hj; rw [if_pos hj]; exact h.get j x hx
  · simp at hx
theorem VRels.drop {ρ : Map} {vs : List AV} {us : List Value} (h : VRels ρ vs us) (n : Nat) : VRels ρ (vs.drop n) (us.drop n) := by
  refine VRels.of_get _ _ (by simp [h.length]) (fun j x hx => ?_)
  rw [List.getElem?_drop] at hx ⊢
  exact h.get _ x hx
theorem VRel.cells {ρ : Map} {v : AV} {u : Value} (h : VRel ρ v u) (hj : v ≠ .junk) : VRels ρ (cellsOf v) u.cells.toList := by
  cases h <;> simp only [cellsOf, Value.cells] <;> first
    | exact absurd rfl hj
    | exact .cons _ _ _ _ (by first | exact .tt | exact .ff | exact .bool _ | exact .int _ _ | exact .str _ | exact .nilp | exact .nils | exact .nilf | exact .nili | (constructor <;> assumption)) .nil
    | assumption

/-- What is told of a block holds of the memory. -/
structure BRel (ρ : Map) (w0 w : World) (p : Pl) (B : Blk) : Prop where
  sz : p.sz = B.sz
  room : B.n ≤ p.room
  len : ∀ i, i < B.n → (B.f i).length = B.sz
  cell : ∀ i j v, i < B.n → nth (B.f i) j = some v → ∃ u, w.cell? ⟨p.blk, p.shift + (i * p.sz + j), none⟩ = some u ∧ VRel ρ v u
  rw_ : B.rw = true → p.shift = 0 ∧ w0.heap.size ≤ p.blk ∧ ∃ ds : Array Value, w.heap[p.blk]? = some (.cells ds B.e (0, 0)) ∧ p.room * p.sz ≤ ds.size
  ro : B.rw = false → p.blk < w0.heap.size

/-- The memory and its abstraction. -/
structure R (G : Glob) (ρ0 ρ : Map) (h : Heap) (w0 w : World) : Prop where
  below : Below w0.heap.size w0 w
  len : ρ.length = h.length
  pre : Pre ρ0 ρ
  glob : ∀ p g, G.ids[p]? = some g → ∃ q, nth ρ p = some q ∧ q.blk = g ∧ q.shift = 0
  blk : ∀ b B, nth h b = some (some B) → ∃ p, nth ρ b = some p ∧ BRel ρ w0 w p B
  dist : ∀ a b A B p q, nth h a = some (some A) → A.rw = true → nth h b = some (some B) → B.rw = true → nth ρ a = some p → nth ρ b = some q → p.blk = q.blk → a = b

  held : ∀ p B, nth G.held p = some (some B) → B.rw = false ∧ nth h p = some (some B)

/-- The slots. -/
structure TRel (ρ : Map) (ts : List AV) (a : Act) : Prop where
  defers : a.defers = []
  vals : VRels ρ ts a.tmps.toList

theorem TRel.mono {ρ ρ' : Map} (h : Pre ρ ρ') {ts : List AV} {a : Act} (t : TRel ρ ts a) : TRel ρ' ts a := ⟨t.defers, t.vals.mono h⟩
theorem tget_eq (ts : List AV) (t : Nat) : tget ts t = (ts[t]?).getD .junk := by
  unfold tget; rw [nth_eq]; cases ts[t]? <;> rfl
theorem TRel.get {ρ : Map} {ts : List AV} {a : Act} (h : TRel ρ ts a) (t : Nat) : VRel ρ (tget ts t) (a.tmps.getD t undef) := by
  rw [tget_eq]
  cases ht : ts[t]? with
  | none => simp; exact .junk _
  | some v =>
    obtain ⟨u, hu, hr⟩ := h.vals.get t v ht
    have : a.tmps.getD t undef = u := by
      rw [Array.getD_eq_getD_getElem?]
      rw [Array.getElem?_toList] at hu
      simp [hu]
    rw [this]; exact hr
theorem TRel.put {ρ : Map} {ts : List AV} {a : Act} (h : TRel ρ ts a) (d : Option Nat) {v : AV} {u : Value} (hv : VRel ρ v u) : TRel ρ (putO ts d v) (a.put d u) := by
  cases d with
  | none => exact h
  | some d =>
    refine ⟨h.defers, ?_⟩
    simp only [putO, setN_eq, Act.put, Array.toList_setIfInBounds]
    exact h.vals.set d hv
theorem TRel.setSame {ρ : Map} {ts : List AV} {a : Act} (h : TRel ρ ts a) (t : Nat) {v : AV} (hv : VRel ρ v (a.tmps.getD t undef)) : TRel ρ (setN ts t v) a := by
  refine ⟨h.defers, ?_⟩
  rw [setN_eq]
  refine VRels.of_get _ _ (by simp [h.vals.length]) (fun j x hx => ?_)
  rw [List.getElem?_set] at hx
  by_cases hij : t = j
  · subst hij
    simp only [if_true] at hx
    split at hx
    · simp at hx; subst hx
      have hlt : t < a.tmps.size := by have := h.vals.length; simp at this; omega
      refine ⟨a.tmps[t], by simp [hlt], ?_⟩
      simpa [Array.getD_eq_getD_getElem?, hlt] using hv
    · simp at hx
  · rw [if_neg hij] at hx; exact h.vals.get j x hx
end Go.Ev

import Derived.WalkKit
import Derived.ProofKit
import Derived.Below
import Derived.Orders
namespace Go.Ev
open Go Go.RowKit

/-- What a struct's cells hold, of those that can be compared by sight. -/
inductive LK where
  | int (k : IntKind) | str | bool
  deriving DecidableEq, Inhabited
def leavesFs (P : Program) (L : TypeId → Option (List LK)) : Nat → List Field → Option (List LK)
  | _, [] => some []
  | off, f :: fs => match L f.type, P.info? f.type with
    | some l, some i => (match (f.name != "_") && (Nat.beq f.offset off && Nat.beq i.size l.length) with
      | true => (match leavesFs P L (off + l.length) fs with | some r => some (l ++ r) | none => none)
      | false => none)
    | _, _ => none
def leavesOf (P : Program) : Nat → TypeId → Option (List LK)
  | 0, _ => none
  | n + 1, t => match P.underlying t with
    | some (.int k) => some [.int k]
    | some .string => some [.str]
    | some .bool => some [.bool]
    | some (.struct fs) => (match P.stoodInHeld t with | true => none | false => leavesFs P (leavesOf P n) 0 fs.toList)
    | _ => none

/-- Abstract values. -/
inductive AV where
  | junk
  | tt
  | ff
  | bool (b : Bool)
  | int (k : IntKind) (n : Int)
  | str (s : ByteArray)
  | nilp
  | ptr (b i j : Nat)
  | nils
  | slice (b lo len : Nat) (cap : Option Nat)
  | func (fn : Fn) (first captured : List AV)
  | nilf
  | iface (t : TypeId) (v : AV)
  | nili
  | agg (cs : List AV)
  | tuple (vs : List AV)
  deriving Inhabited

/-- Kinds of operands of two-sided operations. -/
inductive TK where
  | num | str | bool | ptr | sl
  deriving DecidableEq, Inhabited
inductive AOpd where
  | tmp (t : Nat)
  | const (v : AV)
  deriving Inhabited

inductive AOp where
  | move (x : AOpd)
  | pick (c a b : AOpd)
  | alloc (e : TypeId) (n : Nat) (row : List AV)
  | box (e : TypeId) (x : AOpd)
  | build (zero : List AV) (parts : List (Nat × Nat × AOpd))
  | load (agg : Bool) (n : Nat) (x : AOpd)
  | store (n : Nat) (a v : AOpd)
  | nilCheck (x : AOpd)
  | fieldAddr (off : Nat) (x : AOpd)
  | field (agg : Bool) (off n : Nat) (x : AOpd)
  | idxArr (len s : Nat) (x i : AOpd)
  | idxSl (s : Nat) (x i : AOpd)
  | idxStr (x i : AOpd)
  | idxAgg (agg : Bool) (len s : Nat) (x i : AOpd)
  | bin (k : TK) (op : BinOp) (x y : AOpd)
  | eqAgg (neg : Bool) (ls : List LK) (x y : AOpd)
  | un (op : UnOp) (x : AOpd)
  | conv (k : IntKind) (x : AOpd)
  | asStr (x : AOpd)
  | extract (x : AOpd) (i : Nat)
  | pcall (f : FuncId) (args : List AOpd)
  | call (f : FuncId) (args : List AOpd)
  | callv (fn : AOpd) (args : List AOpd)
  | len (str : Bool) (x : AOpd)
  | max (xs : List AOpd)
  | min (xs : List AOpd)
  | func (fn : Fn) (first captured : List AOpd)
  deriving Inhabited

structure AOper where
  dst : Option Nat
  op : AOp
  guard : Option (Nat × Bool)
  deriving Inhabited

inductive ACode where
  | skip
  | reg (ops : List AOper) (mg : Option (List Nat))
  | seq (a b : ACode)
  | cond (c : AOpd) (a b : ACode) (mg : Option (List Nat))
  | block (id : Nat) (b : ACode)
  | loop (id : Nat) (b : ACode)
  | exit (id : Nat)
  | ret
  deriving Inhabited

/-- What may come out, test by test. -/
inductive GT (α : Type) where
  | leaf (a : α)
  | fail
  | case (b : Bool) (x y : GT α)
  | need (b : Bool) (x : GT α)
def GT.bind {α β : Type} : GT α → (α → GT β) → GT β
  | .leaf a, f => f a
  | .fail, _ => .fail
  | .case b x y, f => .case b (x.bind f) (y.bind f)
  | .need b x, f => .need b (x.bind f)
def GT.holds {α : Type} (Q : α → Prop) : GT α → Prop
  | .leaf a => Q a
  | .fail => False
  | .case b x y => (b = true → x.holds Q) ∧ (b = false → y.holds Q)
  | .need b x => b = true ∧ x.holds Q

structure Blk where
  e : TypeId
  rw : Bool
  sz : Nat
  n : Nat
  f : Nat → List AV
  /-- Whether there may be other rows than the first. -/
  arr : Bool := false

abbrev Heap := List (Option Blk)

inductive AExit where
  | normal | exit (id : Nat) | ret

def nth {α : Type} : List α → Nat → Option α
  | [], _ => none
  | x :: _, 0 => some x
  | _ :: xs, n + 1 => nth xs n
def setN {α : Type} : List α → Nat → α → List α
  | [], _, _ => []
  | _ :: xs, 0, v => v :: xs
  | x :: xs, n + 1, v => x :: setN xs n v

/-- A truth value, known or not. -/
def asB : AV → Option Bool
  | .tt => some true
  | .ff => some false
  | .bool b => some b
  | _ => none
def ofB (b : Bool) : AV := match b with | true => .tt | false => .ff
def tget (ts : List AV) (t : Nat) : AV := match nth ts t with | some v => v | none => .junk
def ev (ts : List AV) : AOpd → AV
  | .tmp t => tget ts t
  | .const v => v
def evs (ts : List AV) : List AOpd → List AV
  | [] => []
  | x :: xs => ev ts x :: evs ts xs
def bget (h : Heap) (b : Nat) : Option Blk := match nth h b with | some (some B) => some B | _ => none
def known : AV → Bool
  | .junk => false
  | _ => true
def cellsOf : AV → List AV
  | .agg cs => cs
  | v => [v]

/-- A value, and on what condition. -/
abbrev QR := Option (Option Bool × AV)
def ok (v : AV) : QR := some (none, v)
def okIf (b : Bool) (v : AV) : QR := some (some b, v)

def takeN {α : Type} : Nat → List α → List α
  | 0, _ => []
  | _ + 1, [] => []
  | n + 1, x :: xs => x :: takeN n xs
def dropN {α : Type} : Nat → List α → List α
  | 0, xs => xs
  | _ + 1, [] => []
  | n + 1, _ :: xs => dropN n xs
def lenEq {α : Type} : List α → Nat → Bool
  | [], 0 => true
  | _ :: xs, n + 1 => lenEq xs n
  | _, _ => false
/-- The cells from j on, as a value. -/
def cut (agg : Bool) (n j : Nat) (row : List AV) : Option AV :=
  match agg with
  | true => (match lenEq (takeN n (dropN j row)) n with | true => some (.agg (takeN n (dropN j row))) | false => none)
  | false => nth row j
def overlay : List AV → Nat → List AV → List AV
  | row, _, [] => row
  | row, j, v :: vs => overlay (setN row j v) (j + 1) vs

def rowsAll (f : Nat → List AV) : Nat → List AV
  | 0 => []
  | n + 1 => rowsAll f n ++ f n
/-- What a load gives: cells of one row, or all rows. -/
def loadV (agg : Bool) (n : Nat) (B : Blk) (i j : Nat) : Option AV :=
  match cut agg n j (B.f i) with
  | some v => some v
  | none => (match agg, i, j with
    | true, 0, 0 => (match Nat.beq n (B.n * B.sz) with | true => some (.agg (rowsAll B.f B.n)) | false => none)
    | _, _, _ => none)
/-- One of the values of a column. -/
def selI : List Int → Nat → Int
  | [], _ => 0
  | x :: _, 0 => x
  | _ :: xs, n + 1 => selI xs n
def selB : List Bool → Nat → Bool
  | [], _ => false
  | x :: _, 0 => x
  | _ :: xs, n + 1 => selB xs n
def allInt (kd : IntKind) : List AV → Option (List Int)
  | [] => some []
  | .int k a :: r => (match decide (k = kd), allInt kd r with | true, some l => some (a :: l) | _, _ => none)
  | _ => none
def allB : List AV → Option (List Bool)
  | [] => some []
  | v :: r => (match asB v, allB r with | some b, some l => some (b :: l) | _, _ => none)
def selCol (col : List AV) (k : Nat) : Option AV :=
  match col with
  | .int kd a :: r => (match allInt kd (.int kd a :: r) with | some l => some (.int kd (selI l k)) | none => none)
  | col => (match allB col with | some l => some (.bool (selB l k)) | none => none)
def colOf (s j : Nat) : Nat → List AV → List AV
  | 0, _ => []
  | n + 1, cs => (match nth cs j with | some v => v | none => .junk) :: colOf s j n (dropN s cs)
def selRow (s len : Nat) (cs : List AV) (k : Nat) : Nat → Nat → Option (List AV)
  | _, 0 => some []
  | j, m + 1 => (match selCol (colOf s j len cs) k, selRow s len cs k (j + 1) m with | some v, some r => some (v :: r) | _, _ => none)

def binInt (op : BinOp) (k : IntKind) (x y : Int) : QR :=
  match op with
  | .add => ok (.int k (k.wrap (x + y)))
  | .sub => ok (.int k (k.wrap (x - y)))
  | .mul => ok (.int k (k.wrap (x * y)))
  | .quo => okIf (!decide (y = 0)) (.int k (k.wrap (x.tdiv y)))
  | .rem => okIf (!decide (y = 0)) (.int k (x.tmod y))
  | .eql => ok (.bool (x == y))
  | .neq => ok (.bool (x != y))
  | .lss => ok (.bool (decide (x < y)))
  | .leq => ok (.bool (decide (x ≤ y)))
  | .gtr => ok (.bool (decide (x > y)))
  | .geq => ok (.bool (decide (x ≥ y)))
  | .and => ok (.int k (bits .and k x y))
  | .or => ok (.int k (bits .or k x y))
  | .xor => ok (.int k (bits .xor k x y))
  | .andNot => ok (.int k (bits .andNot k x y))
  | .shl => okIf (decide (0 ≤ y)) (.int k (k.wrap (x * 2 ^ (min y.toNat k.bits))))
  | .shr => okIf (decide (0 ≤ y)) (.int k (x.fdiv (2 ^ (min y.toNat k.bits))))
def binV (tk : TK) (op : BinOp) (x y : AV) : QR :=
  match tk with
  | .num => (match x, y with
    | .int k a, .int k' b =>
      (match op with
      | .shl => binInt .shl k a b
      | .shr => binInt .shr k a b
      | op => match decide (k = k') with | true => binInt op k a b | false => none)
    | _, _ => none)
  | .bool => (match asB x, asB y with
    | some a, some b => (match op with | .eql => ok (.bool (a == b)) | .neq => ok (.bool (!(a == b))) | _ => none)
    | _, _ => none)
  | .str => (match x, y with
    | .str a, .str b =>
      (match op with
      | .eql => ok (.bool (a.toList == b.toList))
      | .neq => ok (.bool (!(a.toList == b.toList)))
      | .add => okIf (decide (a.size + b.size ≤ 9223372036854775807)) (.str (a ++ b))
      | _ => none)
    | _, _ => none)
  | .ptr => (match x, y, op with
    | .ptr _ _ _, .nilp, .eql => ok .ff
    | .ptr _ _ _, .nilp, .neq => ok .tt
    | .nilp, .nilp, .eql => ok .tt
    | .nilp, .nilp, .neq => ok .ff
    | _, _, _ => none)
  | .sl => (match x, y, op with
    | .slice _ _ _ _, .nils, .eql => ok .ff
    | .slice _ _ _ _, .nils, .neq => ok .tt
    | .nils, .nils, .eql => ok .tt
    | .nils, .nils, .neq => ok .ff
    | _, _, _ => none)
def eq1 : LK → AV → AV → Option Bool
  | .int k, .int i a, .int j b => (match decide (i = k) && decide (j = k) with | true => some (a == b) | false => none)
  | .str, .str a, .str b => some (a.toList == b.toList)
  | .bool, x, y => (match asB x, asB y with | some a, some b => some (a == b) | _, _ => none)
  | _, _, _ => none
def eqCells : List LK → List AV → List AV → Option Bool
  | [l], [x], [y] => eq1 l x y
  | l :: ls, x :: xs, y :: ys => (match eq1 l x y, eqCells ls xs ys with | some a, some r => some (a && r) | _, _ => none)
  | _, _, _ => none
def mx (x y : Int) : Int := if y > x then y else x
def mn (x y : Int) : Int := if y < x then y else x
def maxV : AV → List AV → QR
  | v, [] => ok v
  | .int k a, .int _ b :: vs => maxV (.int k (mx a b)) vs
  | _, _ => none
def minV : AV → List AV → QR
  | v, [] => ok v
  | .int k a, .int _ b :: vs => minV (.int k (mn a b)) vs
  | _, _ => none
/-- Of two values, by a test. -/
def mergeV (c : Bool) : AV → AV → AV
  | .int .i64 a, .int .i64 b => .int .i64 (bif c then a else b)
  | .int .u64 a, .int .u64 b => .int .u64 (bif c then a else b)
  | .int .u8 a, .int .u8 b => .int .u8 (bif c then a else b)
  | .nilp, .nilp => .nilp
  | .nils, .nils => .nils

  | .tt, .tt => .tt
  | .ff, .ff => .ff
  | .tt, .ff => .bool c
  | .ff, .tt => .bool (!c)
  | .bool a, .ff => .bool (c && a)
  | .tt, .bool b => .bool (c || b)
  | .bool a, .tt => .bool (!c || a)
  | .ff, .bool b => .bool (!c && b)
  | .bool a, .bool b => .bool (bif c then a else b)
  | .str a, .str b => .str (bif c then a else b)
  | _, _ => .junk
def fillV : List AV → List (Nat × Nat × AV) → Option (List AV)
  | cs, [] => some cs
  | cs, (off, n, v) :: ps => match known v && (lenEq (cellsOf v) n && Nat.ble (off + n) cs.length) with | true => fillV (overlay cs off (cellsOf v)) ps | false => none

/-- What is known of the functions that are called, and of the loops. -/
structure Cfg where
  Γ : FuncId → List AV → Heap → QR
  Δ : FuncId → List AV → Heap → GT (AV × Heap)
  Λ : Nat → Option (Nat × List Nat × (List AV → Heap → GT (AExit × List AV × Heap)))

def parts (ts : List AV) : List (Nat × Nat × AOpd) → List (Nat × Nat × AV)
  | [] => []
  | (a, b, x) :: ps => (a, b, ev ts x) :: parts ts ps

def isQuiet : AOp → Bool
  | .alloc .. | .box .. | .store .. | .call .. | .callv .. => false
  | _ => true

def aq (C : Cfg) (ts : List AV) (h : Heap) : AOp → QR
  | .move x => ok (ev ts x)
  | .pick c a b => (match ev ts c with
    | .tt => ok (ev ts a)
    | .ff => ok (ev ts b)
    | .bool t => ok (mergeV t (ev ts a) (ev ts b))
    | _ => none)
  | .build zero ps => (match fillV zero (parts ts ps) with | some cs => ok (.agg cs) | none => none)
  | .load agg n x => (match ev ts x with
    | .ptr b i j => (match bget h b with
      | some B => (match loadV agg n B i j with
        | some v => (match B.arr with
          | false => (match i, B.n with | 0, _ + 1 => ok v | _, _ => okIf (Nat.blt i B.n) v)
          | true => okIf (Nat.blt i B.n) v)
        | none => none)
      | none => none)
    | _ => none)
  | .nilCheck x => (match ev ts x with | .ptr b i j => ok (.ptr b i j) | .func (.func f) a b => ok (.func (.func f) a b) | _ => none)
  | .fieldAddr off x => (match ev ts x with | .ptr b i j => ok (.ptr b i (j + off)) | _ => none)
  | .field agg off n x => (match ev ts x with | .agg cs => (match cut agg n off cs with | some v => ok v | none => none) | _ => none)
  | .idxArr len s x i => (match ev ts x, ev ts i with
    | .ptr b 0 0, .int _ k => (match bget h b with
      | some B => (match Nat.beq B.sz s with | true => okIf (decide (0 ≤ k) && decide (k < len)) (.ptr b k.toNat 0) | false => none)
      | none => none)
    | _, _ => none)
  | .idxSl s x i => (match ev ts x, ev ts i with
    | .slice b lo len _, .int _ k => (match bget h b with
      | some B => (match Nat.beq B.sz s with | true => okIf (decide (0 ≤ k) && decide (k < len)) (.ptr b (lo + k.toNat) 0) | false => none)
      | none => none)
    | _, _ => none)
  | .idxStr x i => (match ev ts x, ev ts i with
    | .str s, .int _ k => okIf (decide (0 ≤ k) && decide (k < s.size)) (.int .u8 ((s.data.getD k.toNat 0).toNat))
    | _, _ => none)
  | .idxAgg agg len s x i => (match ev ts x, ev ts i with
    | .agg cs, .int _ k => (match lenEq cs (len * s), selRow s len cs k.toNat 0 s with
      | true, some row => (match agg, row with
        | true, row => okIf (decide (0 ≤ k) && decide (k < len)) (.agg row)
        | false, [v] => okIf (decide (0 ≤ k) && decide (k < len)) v
        | false, _ => none)
      | _, _ => none)
    | _, _ => none)
  | .bin tk op x y => binV tk op (ev ts x) (ev ts y)
  | .eqAgg true ls x y => (match ev ts x, ev ts y with
    | .agg xs, .agg ys => (match eqCells ls xs ys with | some b => ok (.bool (!b)) | none => none)
    | _, _ => none)
  | .eqAgg false ls x y => (match ev ts x, ev ts y with
    | .agg xs, .agg ys => (match eqCells ls xs ys with | some b => ok (.bool b) | none => none)
    | _, _ => none)
  | .un op x => (match op, ev ts x with
    | .neg, .int k n => ok (.int k (k.wrap (0 - n)))
    | .not, .bool b => ok (.bool (!b))
    | .not, .tt => ok .ff
    | .not, .ff => ok .tt
    | _, _ => none)
  | .conv k x => (match ev ts x with | .int _ n => ok (.int k (k.wrap n)) | _ => none)
  | .extract x i => (match ev ts x with | .tuple vs => (match nth vs i with | some v => ok v | none => none) | _ => none)
  | .pcall f args => C.Γ f (evs ts args) h
  | .asStr x => (match ev ts x with | .str s => ok (.str s) | _ => none)
  | .len true x => (match ev ts x with
    | .str s => ok (.int .i64 s.size)
    | _ => none)
  | .len false x => (match ev ts x with
    | .slice _ _ len _ => ok (.int .i64 len)
    | .nils => ok (.int .i64 0)
    | _ => none)
  | .max xs => (match evs ts xs with | v :: vs => maxV v vs | [] => none)
  | .min xs => (match evs ts xs with | v :: vs => minV v vs | [] => none)
  | .func fn a b => ok (.func fn (evs ts a) (evs ts b))
  | _ => none

def mkBlk (e : TypeId) (n : Nat) (row : List AV) : Blk := { e, rw := true, sz := row.length, n, f := fun _ => row, arr := !(Nat.beq n 1) }
def updRow (B : Blk) (i : Nat) (row : List AV) : Blk :=
  match B.arr with
  | false => (match Nat.beq B.n 1 with
    | true => { B with f := fun _ => row }
    | false => { B with f := fun x => if x = i then row else B.f x })
  | true => { B with f := fun x => if x = i then row else B.f x }

def storable : AV → Bool
  | .junk => false
  | .agg _ => false
  | .tuple _ => false
  | _ => true
def storables : List AV → Bool
  | [] => true
  | v :: vs => storable v && storables vs
def aloud (C : Cfg) (ts : List AV) (h : Heap) : AOp → GT (AV × Heap)
  | .alloc e n row => .leaf (.ptr h.length 0 0, h ++ [some (mkBlk e n row)])
  | .box e x => (match known (ev ts x) with
    | true => .leaf (.ptr h.length 0 0, h ++ [some (mkBlk e 1 (cellsOf (ev ts x)))])
    | false => .fail)
  | .store n a v => (match ev ts a with
    | .ptr b i j => (match bget h b with
      | some B => (match B.rw && (storables (cellsOf (ev ts v)) && (lenEq (cellsOf (ev ts v)) n && Nat.ble (j + n) B.sz)) with
        | true => (match B.arr with
          | false => (match i, B.n with
            | 0, _ + 1 => .leaf (.junk, setN h b (some (updRow B i (overlay (B.f i) j (cellsOf (ev ts v))))))
            | _, _ => .need (Nat.blt i B.n) (.leaf (.junk, setN h b (some (updRow B i (overlay (B.f i) j (cellsOf (ev ts v))))))))
          | true => .need (Nat.blt i B.n) (.leaf (.junk, setN h b (some (updRow B i (overlay (B.f i) j (cellsOf (ev ts v))))))))
        | false => .fail)
      | none => .fail)
    | _ => .fail)
  | .call f args => C.Δ f (evs ts args) h
  | .callv fn args => (match ev ts fn with | .func (.func f) first captured => C.Δ f (first ++ evs ts args ++ captured) h | _ => .fail)
  | _ => .fail

def putO (ts : List AV) (d : Option Nat) (v : AV) : List AV := match d with | some d => setN ts d v | none => ts

abbrev S2 := List AV × Heap
/-- What an operation comes to. -/
def core (C : Cfg) (op : AOp) (ts : List AV) (h : Heap) : GT (AV × Heap) :=
  match isQuiet op with
  | true => (match aq C ts h op with
    | some (none, v) => .leaf (v, h)
    | some (some b, v) => .need b (.leaf (v, h))
    | none => .fail)
  | false => aloud C ts h op
def adoOp (C : Cfg) (o : AOper) (ts : List AV) (h : Heap) : GT S2 :=
  (core C o.op ts h).bind fun r => .leaf (putO ts o.dst r.1, r.2)
/-- An operation under a guard. -/
def aguard (C : Cfg) (o : AOper) (ts : List AV) (h : Heap) : Bool → GT S2
  | true => adoOp C o ts h
  | false => .leaf (putO ts o.dst (.tuple []), h)
def astep (C : Cfg) (o : AOper) (ts : List AV) (h : Heap) : GT S2 :=
  match o.guard with
  | none => adoOp C o ts h
  | some (t, want) => (match tget ts t with
    | .tt => aguard C o ts h want
    | .ff => aguard C o ts h (!want)
    | .bool c => .case c (aguard C o (setN ts t .tt) h want) (aguard C o (setN ts t .ff) h (!want))
    | .tuple [] => aguard C o ts h false
    | _ => .fail)
def arun (C : Cfg) : List AOper → List AV → Heap → GT S2
  | [], ts, h => .leaf (ts, h)
  | o :: os, ts, h => (astep C o ts h).bind fun s => arun C os s.1 s.2

def picks (ts : List AV) : List Nat → List AV
  | [] => []
  | t :: ks => tget ts t :: picks ts ks
def fills : List AV → List Nat → List AV → List AV
  | ts, k :: ks, v :: vs => fills (setN ts k v) ks vs
  | ts, _, _ => ts
def jk : Nat → List AV
  | 0 => []
  | n + 1 => .junk :: jk n

abbrev S3 := AExit × List AV × Heap
/-- The slots that were written, of two states by a test. -/
def mergeTs (c : Bool) (x y : List AV) : List Nat → List AV
  | [] => x
  | d :: ds => setN (mergeTs c x y ds) d (mergeV c (tget x d) (tget y d))
def mergeC (c : Bool) : Option Bool → Option Bool → Option Bool
  | none, none => none
  | some a, none => some (!c || a)
  | none, some b => some (c || b)
  | some a, some b => some (bif c then a else b)
def andC (a : Bool) : Option Bool → Option Bool
  | none => some a
  | some b => some (a && b)
/-- All ways as one, where the memory is the same in all of them. -/
def mergeG (ds : List Nat) : GT S2 → Option (Option Bool × List AV)
  | .leaf s => some (none, s.1)
  | .fail => none
  | .need b x => (match mergeG ds x with | some (c, ts) => some (andC b c, ts) | none => none)
  | .case c x y => (match mergeG ds x, mergeG ds y with
    | some (p, s), some (q, t) => some (mergeC c p q, mergeTs c s t ds)
    | _, _ => none)
def mergeR (mg : Option (List Nat)) (h : Heap) (t : GT S2) : GT S2 :=
  match mg with
  | none => t
  | some ds => (match mergeG ds t with
    | some (none, ts) => .leaf (ts, h)
    | some (some c, ts) => .need c (.leaf (ts, h))
    | none => t)
/-- The same of what ends in the ordinary way. -/
def normals : GT S3 → Option (GT S2)
  | .leaf (.normal, s) => some (.leaf s)
  | .leaf _ => none
  | .fail => none
  | .need b x => (match normals x with | some x => some (.need b x) | none => none)
  | .case c x y => (match normals x, normals y with | some x, some y => some (.case c x y) | _, _ => none)
def mergeE (mg : Option (List Nat)) (h : Heap) (t : GT S3) : GT S3 :=
  match mg with
  | none => t
  | some ds => (match normals t with
    | some u => (mergeR (some ds) h u).bind fun s => .leaf (.normal, s)
    | none => t)
def aev (C : Cfg) : ACode → List AV → Heap → GT S3
  | .skip, ts, h => .leaf (.normal, ts, h)
  | .reg ops mg, ts, h => (mergeR mg h (arun C ops ts h)).bind fun s => .leaf (.normal, s)
  | .seq a b, ts, h => (aev C a ts h).bind fun s => match s with
    | (.normal, ts, h) => aev C b ts h
    | (.exit i, s) => .leaf (.exit i, s)
    | (.ret, s) => .leaf (.ret, s)
  | .cond c a b mg, ts, h => (match ev ts c with
    | .tt => aev C a ts h
    | .ff => aev C b ts h
    | .bool t => mergeE mg h (.case t (aev C a ts h) (aev C b ts h))
    | _ => .fail)
  | .block id b, ts, h => (aev C b ts h).bind fun s => match s with
    | (.exit i, s) => (match Nat.beq i id with | true => .leaf (.normal, s) | false => .leaf (.exit i, s))
    | (.normal, s) => .leaf (.normal, s)
    | (.ret, s) => .leaf (.ret, s)
  | .loop id _, ts, h => (match C.Λ id with
    | some (nt, ks, F) => (match lenEq ts nt with
      | true => (F (picks ts ks) h).bind fun s => .leaf (s.1, fills (jk nt) ks s.2.1, s.2.2)
      | false => .fail)
    | none => .fail)
  | .exit id, ts, h => .leaf (.exit id, ts, h)
  | .ret, ts, h => .leaf (.ret, ts, h)

structure AFn where
  ntmps : Nat
  results : List (Nat × Option (Bool × Nat))
  body : ACode
  deriving Inhabited
def res1 (ts : List AV) (h : Heap) : Nat × Option (Bool × Nat) → Option AV
  | (t, none) => some (tget ts t)
  | (t, some (agg, n)) => (match tget ts t with
    | .ptr b 0 j => (match bget h b with
      | some B => (match B.n with | _ + 1 => cut agg n j (B.f 0) | 0 => none)
      | none => none)
    | _ => none)
def ress (ts : List AV) (h : Heap) : List (Nat × Option (Bool × Nat)) → Option (List AV)
  | [] => some []
  | r :: rs => match res1 ts h r, ress ts h rs with | some v, some vs => some (v :: vs) | _, _ => none
def pack : List AV → AV
  | [v] => v
  | vs => .tuple vs
def finish (rs : List (Nat × Option (Bool × Nat))) (s : S3) : GT (AV × Heap) :=
  match s.1 with
  | .exit _ => .fail
  | _ => (match ress s.2.1 s.2.2 rs with
    | some vs => .leaf (pack vs, s.2.2)
    | none => .fail)
def runF (C : Cfg) (fn : AFn) (args : List AV) (h : Heap) : GT (AV × Heap) :=
  (aev C fn.body (args ++ jk (fn.ntmps - args.length)) h).bind (finish fn.results)
/-- The answer alone. -/
def runP (C : Cfg) (fn : AFn) (args : List AV) (h : Heap) : GT AV := (runF C fn args h).bind fun s => .leaf s.1

/-! The compile step. -/
def ofV : Value → AV
  | .bool b => ofB b
  | .int k n => .int k n
  | .string s => .str s
  | .pointer none => .nilp
  | .slice none 0 0 => .nils
  | .nilIface => .nili
  | .nilFunc => .nilf
  | _ => .junk
def idxOf (g : Nat) : List Nat → Nat → Option Nat
  | [], _ => none
  | x :: xs, i => match Nat.beq x g with | true => some i | false => idxOf g xs (i + 1)
structure Env where
  P : Program
  G : List Nat
  /-- What the package-level variables hold, if they stay. -/
  Gc : Heap
  pure : List FuncId
structure Glob where
  ids : List Nat
  held : Heap
def Env.g (E : Env) : Glob := ⟨E.G, E.Gc⟩
def opd (E : Env) : Operand → Option AOpd
  | .tmp t => some (.tmp t)
  | .const v => some (.const (ofV v))
  | .global g => (idxOf g E.G 0).map fun p => .const (.ptr p 0 0)
  | .func f => some (.const (.func (.func f) [] []))
def opds (E : Env) : List Operand → Option (List AOpd)
  | [] => some []
  | x :: xs => match opd E x, opds E xs with | some y, some ys => some (y :: ys) | _, _ => none
def isAggP (P : Program) (t : TypeId) : Bool := match P.underlying t with | some (.struct _) => true | some (.array _ _) => true | _ => false
def isAggT (E : Env) (t : TypeId) : Bool := isAggP E.P t
def zeroOf (E : Env) (t : TypeId) : Option (List AV) := match E.P.info? t with
  | some i => (match i.zero with | some z => some (z.cells.toList.map ofV) | none => none)
  | none => none
def sameAV : AV → AV → Bool
  | .tt, .tt => true
  | .ff, .ff => true
  | .int k a, .int l b => decide (k = l) && decide (a = b)
  | .nilp, .nilp => true
  | .nils, .nils => true
  | .nilf, .nilf => true
  | .nili, .nili => true
  | _, _ => false
def rowsSame (s : Nat) (row : List AV) : Nat → List AV → Bool
  | 0, [] => true
  | n + 1, cs => lenEq (takeN s cs) s && ((takeN s cs).zip row).all (fun p => sameAV p.1 p.2) && rowsSame s row n (dropN s cs)
  | _, _ => false
def partsOf (E : Env) (place : Nat → Option (Nat × Nat)) : List (Nat × Operand) → Option (List (Nat × Nat × AOpd))
  | [] => some []
  | (i, x) :: ps => match place i, opd E x, partsOf E place ps with
    | some (off, n), some y, some r => some ((off, n, y) :: r)
    | _, _, _ => none
def compCall (E : Env) (c : Call) : Option AOp :=
  match c.callee with
  | .value (.func f) => (match opds E c.args.toList with
    | some xs => some (match E.pure.contains f with | true => .pcall f xs | false => .call f xs)
    | none => none)
  | .value x => (match opd E x, opds E c.args.toList with | some y, some xs => some (.callv y xs) | _, _ => none)
  | .builtin .len => (match c.argTypes.toList, c.args.toList with
    | [t], [x] => (match E.P.underlying t, opd E x with
      | some .string, some y => some (.len true y)
      | some (.slice _), some y => some (.len false y)
      | _, _ => none)
    | _, _ => none)
  | .builtin .max => (match opds E c.args.toList with | some xs => some (.max xs) | none => none)
  | .builtin .min => (match opds E c.args.toList with | some xs => some (.min xs) | none => none)
  | _ => none
def comp1 (E : Env) (o : Op) : Option AOp :=
  match o with
  | .move x => (opd E x).map .move
  | .assign x => (opd E x).map .move
  | .pick c a b => (match opd E c, opd E a, opd E b with | some c, some a, some b => some (.pick c a b) | _, _, _ => none)
  | .alloc e => (match E.P.underlying e, zeroOf E e with
    | some (.array n e'), some zs =>
      let s := E.P.cellsOf e'
      (match Nat.blt 0 s && rowsSame s (takeN s zs) n zs with | true => some (.alloc e n (takeN s zs)) | false => none)
    | some _, some zs => some (.alloc e 1 zs)
    | _, _ => none)
  | .box e x => (match E.P.underlying e, opd E x with
    | some (.array _ _), _ => none
    | some _, some y => some (.box e y)
    | _, _ => none)
  | .build t ps => (match E.P.underlying t, zeroOf E t with
    | some (.struct fields), some zs =>
      (match fields.toList.mapM (fun f => (E.P.info? f.type).map fun i => (f.offset, i.size)) with
      | some places => (match partsOf E (fun i => places[i]?) ps.toList with | some r => some (.build zs r) | none => none)
      | none => none)
    | some (.array _ e), some zs => (match E.P.info? e with
      | some ie => (match partsOf E (fun i => some (i * ie.size, ie.size)) ps.toList with | some r => some (.build zs r) | none => none)
      | none => none)
    | _, _ => none)
  | .load t x => (match E.P.info? t, E.P.underlying t, opd E x with
    | some _, some _, some y => some (.load (isAggT E t) (E.P.cellsOf t) y)
    | _, _, _ => none)
  | .store t a v => (match E.P.info? t, opd E a, opd E v with | some _, some a, some v => some (.store (E.P.cellsOf t) a v) | _, _, _ => none)
  | .nilCheck x => (opd E x).map .nilCheck
  | .fieldAddr s x f => (match E.P.underlying s, opd E x with
    | some (.struct fields), some y => (match fields[f]? with
      | some fd => (match E.P.info? fd.type, Nat.beq (E.P.cellsOf fd.type) 0 with | some _, false => some (.fieldAddr fd.offset y) | _, _ => none)
      | none => none)
    | _, _ => none)
  | .field s x f => (match E.P.underlying s, opd E x with
    | some (.struct fields), some y => (match fields[f]? with
      | some fd => (match E.P.info? fd.type, E.P.underlying fd.type with
        | some _, some _ => some (.field (isAggT E fd.type) fd.offset (E.P.cellsOf fd.type) y)
        | _, _ => none)
      | none => none)
    | _, _ => none)
  | .indexAddr t x i => (match E.P.underlying t, opd E x, opd E i with
    | some (.array len e), some y, some i => (match E.P.info? e with | some _ => some (.idxArr len (E.P.cellsOf e) y i) | none => none)
    | some (.slice e), some y, some i => (match E.P.info? e with | some _ => some (.idxSl (E.P.cellsOf e) y i) | none => none)
    | _, _, _ => none)
  | .index t x i => (match E.P.underlying t, opd E x, opd E i with
    | some .string, some y, some i => some (.idxStr y i)
    | some (.array len e), some y, some i => (match E.P.info? e, E.P.underlying e, isAggT E e || Nat.beq (E.P.cellsOf e) 1 with
      | some _, some _, true => some (.idxAgg (isAggT E e) len (E.P.cellsOf e) y i)
      | _, _, _ => none)
    | _, _, _ => none)
  | .binOp op t x y _ => (match E.P.underlying t, opd E x, opd E y with
    | some (.struct _), some a, some b => (match leavesOf E.P 10 t, E.P.eqGuardType E.P.depth t, op with
      | some ls, false, .eql => some (.eqAgg false ls a b)
      | some ls, false, .neq => some (.eqAgg true ls a b)
      | _, _, _ => none)
    | some (.int _), some a, some b => some (.bin .num op a b)
    | some .string, some a, some b => some (.bin .str op a b)
    | some .bool, some a, some b => some (.bin .bool op a b)
    | some (.pointer _), some a, some b => some (.bin .ptr op a b)
    | some (.slice _), some a, some b => some (.bin .sl op a b)
    | _, _, _ => none)
  | .unOp op _ x => (opd E x).map (.un op)
  | .convert s d x => (match E.P.underlying s, E.P.underlying d, opd E x with
    | some (.int _), some (.int k), some y => some (.conv k y)
    | some .string, some .string, some y => some (.asStr y)
    | _, _, _ => none)
  | .extract x i => (opd E x).map (.extract · i)
  | .makeFunc fn a b => (match opds E a.toList, opds E b.toList with | some a, some b => some (.func fn a b) | _, _ => none)
  | .call c => compCall E c
  | _ => none

def preds (o : Oper) : List Nat := (o.after.toList.filter (Region.binds .any)).map (·.on)
def befores : List Oper → List Nat → List Nat
  | [], acc => acc
  | o :: os, acc => befores os (acc ++ [(preds o).foldl (fun s e => s ||| 2 ^ e ||| ((nth acc e).getD 0)) 0])
/-- Whether the memory is looked at. -/
def isReader : AOp → Bool
  | .load .. | .pcall .. | .idxArr .. | .idxSl .. => true
  | _ => false
def isNew : AOp → Bool | .alloc .. | .box .. => true | _ => false
def opdT : AOpd → List Nat | .tmp t => [t] | .const _ => []
def opdsT : List AOpd → List Nat | [] => [] | x :: xs => opdT x ++ opdsT xs
def partsT : List (Nat × Nat × AOpd) → List Nat | [] => [] | (_, _, x) :: xs => opdT x ++ partsT xs
/-- The slots that an operation reads. -/
def tmpsOf : AOp → List Nat
  | .move x | .nilCheck x | .fieldAddr _ x | .asStr x | .extract x _ | .un _ x | .conv _ x | .load _ _ x | .field _ _ _ x | .len _ x | .box _ x => opdT x
  | .alloc .. => []
  | .pick c a b => opdT c ++ (opdT a ++ opdT b)
  | .build _ ps => partsT ps
  | .store _ a v => opdT a ++ opdT v
  | .idxArr _ _ x i | .idxSl _ x i | .idxStr x i | .idxAgg _ _ _ x i => opdT x ++ opdT i
  | .bin _ _ x y | .eqAgg _ _ x y => opdT x ++ opdT y
  | .pcall _ xs | .call _ xs | .max xs | .min xs => opdsT xs
  | .callv x xs => opdT x ++ opdsT xs
  | .func _ a b => opdsT a ++ opdsT b
def memN (x : Nat) : List Nat → Bool
  | [] => false
  | y :: ys => Nat.beq x y || memN x ys
/-- Whether what x writes or looks into concerns nothing that y reads. -/
def apartA (x y : AOper) : Bool :=
  (match x.dst with
   | some d => !(memN d (tmpsOf y.op)) && ((match y.guard with | some (t, _) => !(Nat.beq t d) | none => true) && (match y.dst with | some e => !(Nat.beq d e) | none => true))
   | none => true) &&
  (match x.guard with
   | some (t, _) => !(memN t (tmpsOf y.op)) || (match y.guard with | some (u, _) => Nat.beq t u | none => false)
   | none => true)
/-- Whether x, then y may be taken as y, then x. -/
def commA (x y : AOper) : Bool :=
  apartA x y && (apartA y x &&
  (match isQuiet x.op, isQuiet y.op with
   | true, true => true
   | true, false => !(isReader x.op) || isNew y.op
   | false, true => !(isReader y.op)
   | false, false => false))
/-- The order in which the evaluator takes a region: what changes nothing as early as can be. -/
def order (n : Nat) (pr : List (List Nat)) (quiet : List Bool) : Nat → List Nat → List Nat → List Nat
  | 0, _, done => done.reverse
  | k + 1, left, done =>
    let ready := left.filter fun i => ((nth pr i).getD []).all fun j => done.contains j
    match ready.find? (fun i => (nth quiet i).getD false) with
    | some i => order n pr quiet k (left.filter (fun j => !(Nat.beq i j))) (i :: done)
    | none => match ready with
      | i :: _ => order n pr quiet k (left.filter (fun j => !(Nat.beq i j))) (i :: done)
      | [] => done.reverse
def comps (E : Env) : List Oper → Option (List AOp)
  | [] => some []
  | o :: os => match comp1 E o.op, comps E os with | some a, some r => some (a :: r) | _, _ => none
def guardOf (ops : List Oper) (o : Oper) : Option (Option (Nat × Bool)) := match o.guard with
  | none => some none
  | some (j, b) => match nth ops j with | some p => (match p.dst with | some t => some (some (t, b)) | none => none) | none => none
def textReg (ops : List Oper) : List Oper → List AOp → Option (List AOper)
  | [], [] => some []
  | o :: os, a :: as => match guardOf ops o, textReg ops os as with
    | some g, some r => some ({ dst := o.dst, op := a, guard := g } :: r)
    | _, _ => none
  | _, _ => none
/-- The operations of a region, in their own order. -/
def pairsOK (B : List Nat) (os : List AOper) : List Nat → Bool
  | [] => true
  | j :: is => (is.all fun i => ((nth B i).getD 0).testBit j || (match nth os j, nth os i with | some x, some y => commA x y | _, _ => false)) && pairsOK B os is
def linOK (pr : List (List Nat)) : List Nat → List Nat → Bool
  | _, [] => true
  | done, j :: is => ((nth pr j).getD []).all (fun e => memN e done) && (!(memN j done) && linOK pr (j :: done) is)
def pickAll {α : Type} (os : List α) : List Nat → Option (List α)
  | [] => some []
  | i :: is => match nth os i, pickAll os is with | some o, some r => some (o :: r) | _, _ => none
def compReg (E : Env) (ops : List Oper) (draw : Bool) : Option (List AOper) :=
  match comps E ops with
  | none => none
  | some as => match textReg ops ops as with
    | none => none
    | some os => match draw with
      | false => some os
      | true =>
        let pr := ops.map preds
        let c := order ops.length pr (as.map isQuiet) ops.length (List.range ops.length) []
        match Nat.beq c.length ops.length && ((List.range ops.length).all (fun i => memN i c) && (linOK pr [] c && pairsOK (befores ops []) os c)) with
        | true => pickAll os c
        | false => none
def dsts1 (o : AOper) : List Nat := (match o.dst with | some d => [d] | none => []) ++ (match o.guard with | some (t, _) => [t] | none => [])
def dstsOf : List AOper → List Nat
  | [] => []
  | o :: os => dsts1 o ++ dstsOf os
def regMg (ops : List AOper) : Option (List Nat) :=
  match (ops.all fun o => isQuiet o.op) && (ops.any fun o => o.guard.isSome) with | true => some (dstsOf ops) | false => none
/-- The slots that a piece of code writes, if it does nothing else and ends in the ordinary way. -/
def plainC : ACode → Option (List Nat)
  | .skip => some []
  | .reg ops _ => (match ops.all fun o => isQuiet o.op with | true => some (dstsOf ops) | false => none)
  | .seq a b => (match plainC a, plainC b with | some x, some y => some (x ++ y) | _, _ => none)
  | .cond _ a b _ => (match plainC a, plainC b with | some x, some y => some (x ++ y) | _, _ => none)
  | _ => none
def condMg (a b : ACode) : Option (List Nat) := (match plainC a, plainC b with | some x, some y => some (x ++ y) | _, _ => none)
def comp (E : Env) (at_ : Nat) : Code → Option ACode
  | .skip => some .skip
  | .region _ ops draw => (match compReg E ops.toList draw with | some r => some (.reg r (regMg r)) | none => none)
  | .seq a b => (match comp E at_ a, comp E at_ b with | some x, some y => some (.seq x y) | _, _ => none)
  | .cond c a b => (match opd E c, comp E at_ a, comp E at_ b with | some c, some x, some y => some (.cond c x y (condMg x y)) | _, _, _ => none)
  | .block id b => (match comp E id b with | some x => some (.block id x) | none => none)
  | .loop b => (match comp E at_ b with | some x => some (.loop at_ x) | none => none)
  | .exit id => some (.exit id)
  | .ret => some .ret
  | _ => none
def compRes (E : Env) : List ResultVar → Option (List (Nat × Option (Bool × Nat)))
  | [] => some []
  | .tmp t :: rs => (match compRes E rs with | some r => some ((t, none) :: r) | none => none)
  | .cell a t :: rs => (match E.P.info? t, E.P.underlying t, compRes E rs with
    | some _, some _, some r => some ((a, some (isAggT E t, E.P.cellsOf t)) :: r)
    | _, _, _ => none)
def compF (E : Env) (f : Func) : Option AFn := match f.name == "runtime.NumGoroutine" with
  | true => none
  | false => (match f.body with
    | some c => (match comp E 1000000 c, compRes E f.results.toList with | some b, some r => some { ntmps := f.ntmps, results := r, body := b } | _, _ => none)
    | none => none)
end Go.Ev

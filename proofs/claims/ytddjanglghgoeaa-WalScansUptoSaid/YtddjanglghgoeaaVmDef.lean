/-
  The value machine: an abstract reading of the model's code in which slices are values. Definitions alone: values, stores, instructions, and what a code does (a predicate transformer, least fixed points for loops and calls). Nothing here speaks of one program.
-/
import Derived.Orders
import Derived.LoopN
import Derived.WalkKit
set_option linter.unusedVariables false
set_option linter.unusedSimpArgs false
namespace Go.VM
open Go

/-- What may be appended to a slice in place: nil; its capacity is its length; nothing is known; the token of that number. -/
inductive Tok
  | nil | cap | no | at (t : Nat)
  deriving DecidableEq

inductive V
  | bool (b : Bool)
  | int (k : IntKind) (n : Int)
  | str (s : ByteArray)
  | ptr (p : Option (Nat × Nat))
  | eptr (cs : List V)
  | sl (cs : List V) (n sz : Nat) (t : Tok)
  | msl (o off n sz : Nat)
  | map (r : Option Nat)
  | iter (r : Nat)
  | func (f : FuncId) (pre cap : List V)
  | nilFunc
  | iface (t : TypeId) (v : V)
  | nilIface
  | agg (cs : List V)
  | tup (vs : List V)
  | poison

instance : Inhabited V := ⟨.poison⟩

/-- An object of the store. -/
inductive AObj
  | cells (cs : List V)
  | tok
  | map (es : List (V × V × Nat)) (clock : Nat)
  | iter (m : Option Nat) (since : Nat) (seen : List Nat) (last : Nat)
  | fix (cs : List V)

structure St where
  hp : Nat → Option AObj
  n : Nat

def St.empty : St := { hp := fun _ => none, n := 0 }
def St.add (S : St) (x : AObj) : St := { hp := fun i => if i = S.n then some x else S.hp i, n := S.n + 1 }
def St.set (S : St) (i : Nat) (x : AObj) : St := { hp := fun j => if j = i then some x else S.hp j, n := S.n }
def St.kill (S : St) (i : Nat) : St := { hp := fun j => if j = i then none else S.hp j, n := S.n }

abbrev Fr := Nat → V
def Fr.put (fr : Fr) (d : Option Nat) (v : V) : Fr :=
  match d with
  | some d => fun i => if i = d then v else fr i
  | none => fr

inductive Arg
  | t (i : Nat)
  | c (v : V)
def Arg.ev (fr : Fr) : Arg → V
  | .t i => fr i
  | .c v => v

/-- The cells of a value. -/
def V.cells : V → List V
  | .agg cs => cs
  | v => [v]
/-- Surely a value of one cell. -/
def V.one : V → Bool
  | .agg _ | .tup _ | .poison => false
  | _ => true

/-- What kind of type two values are held against each other at. -/
inductive TK
  | bool | ptr | slice | map | func | iface
  deriving DecidableEq

/-- Whose length is asked; what a map's keys are. -/
inductive LK
  | str | sl | map
  deriving DecidableEq
inductive KK
  | int | str | bool
  deriving DecidableEq

inductive Cv
  | same | int (k : IntKind) | bytesStr | intStr
  deriving DecidableEq

/-- Operations that change nothing. -/
inductive FI
  | mv (x : Arg)
  | pick (c a b : Arg)
  | nilCheck (x : Arg)
  | bin (op : BinOp) (x y : Arg)
  | eq (neg : Bool) (k : TK) (x y : Arg)
  | un (op : UnOp) (x : Arg)
  | conv (c : Cv) (x : Arg)
  | fieldAddr (off : Nat) (x : Arg)
  | field (agg : Bool) (off sz : Nat) (x : Arg)
  | indexAddr (sz : Nat) (x i : Arg)
  | indexAddrA (len sz : Nat) (x i : Arg)
  | indexS (x i : Arg)
  | indexA (agg : Bool) (len sz : Nat) (x i : Arg)
  | load (agg : Bool) (sz : Nat) (a : Arg)
  | len (k : LK) (x : Arg)
  | sliceS (x : Arg) (lo hi : Option Arg)
  | slice (sz : Nat) (x : Arg) (lo hi mx : Option Arg)
  | build (zero : List V) (parts : List (Nat × Nat × Arg))
  | mkIface (t : TypeId) (x : Arg)
  | mkFunc (f : FuncId) (pre cap : List Arg)
  | extract (x : Arg) (i : Nat)
  | lookup (kk : KK) (ok : Bool) (zero : V) (m k : Arg)
  | assertT (t : TypeId) (ok : Bool) (zero : V) (x : Arg)
  | minmax (isMax : Bool) (xs : List Arg)

/-- Operations that make or change memory, and calls. -/
inductive EI
  | alloc (zero : List V)
  | box (x : Arg)
  | buildSlice (n sz : Nat) (how : Nat) (zero : List V) (parts : List (Nat × Nat × Arg))
  | store (sz : Nat) (a x : Arg)
  | append (sz bytes : Nat) (mu : Bool) (s x : Arg)
  | copy (sz : Nat) (d s : Arg)
  | makeSlice (sz bytes : Nat) (mu : Bool) (zero : List V) (len cap : Arg)
  | makeMap
  | mapSet (kk : KK) (m k v : Arg)
  | delete (kk : KK) (m k : Arg)
  | range (x : Arg)
  | next (it : Arg)
  | strBytes (x : Arg)
  | bytesSame (x : Arg)
  | frz (x : Arg)
  | call (f : FuncId) (args : List Arg)
  | callV (x : Arg) (args : List Arg)
  | panic (x : Arg)

inductive I
  | f (x : FI)
  | e (x : EI)

structure OpC where
  dst : Option Nat
  g : Option (Nat × Bool)
  i : I

/-- A step of a region: an operation; or (in a region that draws its order) one that was done is done again and must tell what it told. -/
inductive Item
  | run (o : OpC)
  | chk (dst : Nat) (g : Option (Nat × Bool)) (i : FI)

inductive Cd
  | skip
  | reg (ord : List Nat) (items : List Item)
  | seq (a b : Cd)
  | ite (c : Arg) (a b : Cd)
  | blk (id : Nat) (c : Cd)
  | loop (c : Cd)
  | exit (id : Nat)
  | ret
  | alt (i j : Nat) (a b : Cd)

inductive RV
  | tmp (t : Nat)
  | cell (t : Nat) (agg : Bool) (sz : Nat)

structure FnC where
  body : Cd
  res : List RV
  ntmps : Nat

/-! ### What the operations tell -/

def intV (k : IntKind) (n : Int) : V := .int k n

def bitsV (op : BinOp) (k : IntKind) (x y : Int) : Option Int :=
  match op with
  | .and => some (k.wrap (BitVec.toNat (BitVec.ofInt k.bits x &&& BitVec.ofInt k.bits y)))
  | .or => some (k.wrap (BitVec.toNat (BitVec.ofInt k.bits x ||| BitVec.ofInt k.bits y)))
  | .xor => some (k.wrap (BitVec.toNat (BitVec.ofInt k.bits x ^^^ BitVec.ofInt k.bits y)))
  | .andNot => some (k.wrap (BitVec.toNat (BitVec.ofInt k.bits x &&& ~~~(BitVec.ofInt k.bits y))))
  | _ => none

def binInt (op : BinOp) (k : IntKind) (x y : Int) : Option V :=
  match op with
  | .add => some (.int k (k.wrap (x + y)))
  | .sub => some (.int k (k.wrap (x - y)))
  | .mul => some (.int k (k.wrap (x * y)))
  | .quo => if y = 0 then none else some (.int k (k.wrap (x.tdiv y)))
  | .rem => if y = 0 then none else some (.int k (x.tmod y))
  | .eql => some (.bool (x == y))
  | .neq => some (.bool (x != y))
  | .lss => some (.bool (decide (x < y)))
  | .leq => some (.bool (decide (x ≤ y)))
  | .gtr => some (.bool (decide (x > y)))
  | .geq => some (.bool (decide (x ≥ y)))
  | op => (bitsV op k x y).map (.int k)

def binStr (op : BinOp) (x y : ByteArray) : Option V :=
  match op with
  | .add => if ((x.size + y.size : Nat) : Int) > IntKind.i64.max then none else some (.str (x ++ y))
  | .eql => some (.bool (x.toList == y.toList))
  | .neq => some (.bool !(x.toList == y.toList))
  | .lss => some (.bool (Op.bytesLess x.toList y.toList))
  | .leq => some (.bool (Op.bytesLess x.toList y.toList || x.toList == y.toList))
  | .gtr => some (.bool !(Op.bytesLess x.toList y.toList || x.toList == y.toList))
  | .geq => some (.bool !(Op.bytesLess x.toList y.toList))
  | _ => none

def V.bin (op : BinOp) : V → V → Option V
  | .int k a, .int k' b =>
    match op with
    | .shl => if b < 0 then none else some (.int k (k.wrap (a * 2 ^ (min b.toNat k.bits))))
    | .shr => if b < 0 then none else some (.int k (a.fdiv (2 ^ (min b.toNat k.bits))))
    | _ => if k = k' then binInt op k a b else none
  | .str a, .str b => binStr op a b
  | _, _ => none

def V.eq (k : TK) : V → V → Option Bool
  | .bool a, .bool b => if k = .bool then some (a == b) else none
  | .ptr none, .ptr q => if k = .ptr then some q.isNone else none
  | .ptr (some _), .ptr none => if k = .ptr then some false else none
  | .ptr (some (i, o)), .ptr (some (j, p)) => if k = .ptr ∧ i = j then some (o == p) else none
  | .ptr none, .eptr _ => if k = .ptr then some false else none
  | .eptr _, .ptr none => if k = .ptr then some false else none
  | .sl _ _ _ s, .sl _ _ _ t => if k = .slice then (if s = .nil then some (t == .nil) else if t = .nil then some false else none) else none
  | .msl .., .sl _ _ _ t => if k = .slice ∧ t = .nil then some false else none
  | .map none, .map q => if k = .map then some q.isNone else none
  | .map (some _), .map none => if k = .map then some false else none
  | .nilFunc, .nilFunc => if k = .func then some true else none
  | .nilFunc, .func .. => if k = .func then some false else none
  | .func .., .nilFunc => if k = .func then some false else none
  | .nilIface, .iface .. => if k = .iface then some false else none
  | .iface .., .nilIface => if k = .iface then some false else none
  | _, _ => none

def V.un (op : UnOp) : V → Option V
  | .int k n => match op with
    | .neg => some (.int k (k.wrap (0 - n)))
    | .xor => (bitsV .xor k (if k.signed then -1 else k.max) n).map (.int k)
    | _ => none
  | .bool b => match op with
    | .not => some (.bool !b)
    | _ => none
  | _ => none

/-- The bytes that the cells are. -/
def bytesOf : List V → Option (List UInt8)
  | [] => some []
  | .int .u8 n :: r => (bytesOf r).map (UInt8.ofNat n.toNat :: ·)
  | _ => none

/-- The cells of an object. -/
def St.cells (S : St) (i : Nat) : Option (List V) :=
  match S.hp i with
  | some (.cells cs) => some cs
  | _ => none

def takeC (agg : Bool) (sz : Nat) (cs : List V) : Option V :=
  if agg then (if sz ≤ cs.length then some (.agg (cs.take sz)) else none) else cs.head?

/-- The first n elements of what is told by a slice or a string. -/
def V.elems (S : St) (sz : Nat) : V → Option (Nat × List V)
  | .sl cs n sz' t => if t = .nil then some (0, []) else if sz' = sz then some (n, cs) else none
  | .msl o off n sz' => if sz' = sz then (S.cells o).bind fun cs => if off + n * sz ≤ cs.length then some (n, (cs.drop off).take (n * sz)) else none else none
  | .str s => if sz = 1 then some (s.size, s.data.toList.map fun b => .int .u8 b.toNat) else none
  | _ => none

def V.conv (S : St) : Cv → V → Option V
  | .same, .str s => some (.str s)
  | .int k, .int _ n => some (.int k (k.wrap n))
  | .intStr, .int _ n => some (.str (Utf8.encode n))
  | .bytesStr, .str _ => none
  | .bytesStr, v => (v.elems S 1).bind fun q => (bytesOf q.2).map fun l => .str ⟨l.toArray⟩
  | _, _ => none

def V.idx : V → Option Nat
  | .int _ n => if 0 ≤ n then some n.toNat else none
  | _ => none

/-- lo, hi: the bounds of a slice expression over something of that length. -/
def bounds (fr : Fr) (len : Nat) (lo hi : Option Arg) : Option (Nat × Nat) := do
  let h ← match hi with | some a => (a.ev fr).idx | none => some len
  let l ← match lo with | some a => (a.ev fr).idx | none => some 0
  if l ≤ h ∧ h ≤ len then some (l, h) else none

def sliceV (fr : Fr) (sz : Nat) (lo hi mx : Option Arg) : V → Option V
  | .sl cs n sz' t => (bounds fr n lo hi).bind fun q =>
    if t = .nil then (if mx.isSome then none else some (.sl cs n sz' t))
    else if sz' ≠ sz then none
    else
      let cut := (cs.drop (q.1 * sz)).take ((q.2 - q.1) * sz)
      match mx with
      | some a => if (a.ev fr).idx = some q.2 then some (.sl cut (q.2 - q.1) sz .cap) else none
      | none => some (.sl cut (q.2 - q.1) sz (if q.2 = n then t else .no))
  | .msl o off n sz' => (bounds fr n lo hi).bind fun q =>
    if sz' ≠ sz ∨ mx.isSome then none
    else if q.2 = q.1 then some (.sl [] 0 sz .no)
    else some (.msl o (off + q.1 * sz) (q.2 - q.1) sz)
  | _ => none

def splice (cs : List V) (off : Nat) (xs : List V) : List V := cs.take off ++ xs ++ cs.drop (off + xs.length)

/-- A zero with parts laid in. -/
def fillV (fr : Fr) (zero : List V) : List (Nat × Nat × Arg) → Option (List V)
  | [] => some zero
  | (off, sz, x) :: r =>
    let xs := (x.ev fr).cells
    if xs.length = sz ∧ off + sz ≤ zero.length ∧ xs.all V.one = true then fillV fr (splice zero off xs) r else none

/-- Keys: numbers, texts, bools. -/
def V.keyEq (kk : KK) : V → V → Option Bool
  | .int k a, .int k' b => if kk = .int ∧ k = k' then some (a == b) else none
  | .str a, .str b => if kk = .str then some (a == b) else none
  | .bool a, .bool b => if kk = .bool then some (a == b) else none
  | _, _ => none

def findE (kk : KK) (k : V) : List (V × V × Nat) → Nat → Option (Option (Nat × V))
  | [], _ => some none
  | e :: r, i => match k.keyEq kk e.1 with
    | some true => some (some (i, e.2.1))
    | some false => findE kk k r (i + 1)
    | none => none
def V.isKey (kk : KK) : V → Bool
  | .int _ _ => kk == .int
  | .str _ => kk == .str
  | .bool _ => kk == .bool
  | _ => false

def minmaxV (isMax : Bool) : V → V → Option V
  | .int k x, .int k' y => if k = k' then some (.int k (if isMax then (if y > x then y else x) else (if y < x then y else x))) else none
  | _, _ => none
def minmaxL (isMax : Bool) : V → List V → Option V
  | x, [] => some x
  | x, y :: r => (minmaxV isMax x y).bind fun z => minmaxL isMax z r

def aF (i : FI) (fr : Fr) (S : St) : Option V :=
  match i with
  | .mv x => some (x.ev fr)
  | .pick c a b => match c.ev fr with
    | .bool true => some (a.ev fr)
    | .bool false => some (b.ev fr)
    | _ => none
  | .nilCheck x => match x.ev fr with
    | .ptr (some p) => some (.ptr (some p))
    | .eptr cs => some (.eptr cs)
    | _ => none
  | .bin op x y => V.bin op (x.ev fr) (y.ev fr)
  | .eq neg k x y => (V.eq k (x.ev fr) (y.ev fr)).map fun b => .bool (if neg then !b else b)
  | .un op x => V.un op (x.ev fr)
  | .conv c x => V.conv S c (x.ev fr)
  | .fieldAddr off x => match x.ev fr with
    | .ptr (some (i, o)) => some (.ptr (some (i, o + off)))
    | .eptr cs => some (.eptr (cs.drop off))
    | _ => none
  | .field agg off sz x => match x.ev fr with
    | .agg cs => takeC agg sz (cs.drop off)
    | _ => none
  | .indexAddr sz x i => match x.ev fr, (i.ev fr).idx with
    | .sl cs n sz' t, some j => if j < n ∧ sz' = sz ∧ t ≠ .nil then some (.eptr (cs.drop (j * sz))) else none
    | .msl o off n sz', some j => if j < n ∧ sz' = sz then some (.ptr (some (o, off + j * sz))) else none
    | _, _ => none
  | .indexAddrA len sz x i => match x.ev fr, (i.ev fr).idx with
    | .ptr (some (o, off)), some j => if j < len then some (.ptr (some (o, off + j * sz))) else none
    | .eptr cs, some j => if j < len then some (.eptr (cs.drop (j * sz))) else none
    | _, _ => none
  | .indexS x i => match x.ev fr, (i.ev fr).idx with
    | .str s, some j => (s[j]?).map fun b => .int .u8 b.toNat
    | _, _ => none
  | .indexA agg len sz x i => match x.ev fr, (i.ev fr).idx with
    | .agg cs, some j => if j < len then takeC agg sz (cs.drop (j * sz)) else none
    | _, _ => none
  | .load agg sz a => match a.ev fr with
    | .ptr (some (i, off)) => (S.cells i).bind fun cs => takeC agg sz (cs.drop off)
    | .eptr cs => takeC agg sz cs
    | _ => none
  | .len .str x => match x.ev fr with
    | .str s => some (.int .i64 s.size)
    | _ => none
  | .len .sl x => match x.ev fr with
    | .sl _ n _ _ => some (.int .i64 n)
    | .msl _ _ n _ => some (.int .i64 n)
    | _ => none
  | .len .map x => match x.ev fr with
    | .map none => some (.int .i64 0)
    | .map (some r) => match S.hp r with
      | some (.map es _) => some (.int .i64 es.length)
      | _ => none
    | _ => none
  | .sliceS x lo hi => match x.ev fr with
    | .str s => (bounds fr s.size lo hi).map fun q => .str (s.extract q.1 q.2)
    | _ => none
  | .slice sz x lo hi mx => sliceV fr sz lo hi mx (x.ev fr)
  | .build zero parts => (fillV fr zero parts).map .agg
  | .mkIface t x => some (.iface t (x.ev fr))
  | .mkFunc f pre cap => some (.func f (pre.map (Arg.ev fr)) (cap.map (Arg.ev fr)))
  | .extract x i => match x.ev fr with
    | .tup vs => vs[i]?
    | _ => none
  | .lookup kk ok zero m k => match m.ev fr with
    | .map none => if (k.ev fr).isKey kk then some (if ok then .tup [zero, .bool false] else zero) else none
    | .map (some r) => match S.hp r with
      | some (.map es _) => if (k.ev fr).isKey kk then (findE kk (k.ev fr) es 0).map fun
        | some (_, v) => if ok then .tup [v, .bool true] else v
        | none => if ok then .tup [zero, .bool false] else zero
        else none
      | _ => none
    | _ => none
  | .assertT t ok zero x => match x.ev fr with
    | .iface t' v => if t' = t then some (if ok then .tup [v, .bool true] else v) else if ok then some (.tup [zero, .bool false]) else none
    | .nilIface => if ok then some (.tup [zero, .bool false]) else none
    | _ => none
  | .minmax isMax xs => match xs with
    | [] => none
    | x :: r => minmaxL isMax (x.ev fr) (r.map (Arg.ev fr))

/-! ### The operations that act, as predicate transformers -/

inductive AEnd
  | ret (v : V)
  | pan (v : V)

abbrev Cl := FuncId → List V → St → (AEnd → St → Prop) → Prop

def roomOk (n bytes : Nat) : Bool := decide (n * bytes ≤ 140737488355328)

/-- The new slice behind an append of cells to a base: as a value, or as cells that may be written. -/
def grown (S : St) (mu : Bool) (cs : List V) (n sz : Nat) : V × St :=
  if mu then (.msl S.n 0 n sz, S.add (.cells cs)) else (.sl cs n sz (.at S.n), S.add .tok)

def appendTo (S : St) (sz bytes : Nat) (mu : Bool) (m : Nat) (xs : List V) : V → Option (V × St)
  | .sl cs n sz' t =>
    if (t ≠ .nil ∧ sz' ≠ sz) ∨ xs.length ≠ m * sz ∨ roomOk (n + m) bytes = false then none
    else match t with
      | .nil => if m = 0 then some (.sl cs n sz' .nil, S) else some (grown S mu (cs ++ xs) (n + m) sz)
      | .cap => if m = 0 then some (.sl cs n sz' .cap, S) else some (grown S mu (cs ++ xs) (n + m) sz)
      | .at k => if mu then none else match S.hp k with
        | some .tok => some (grown (S.kill k) false (cs ++ xs) (n + m) sz)
        | _ => none
      | .no => if m = 0 then some (.sl cs n sz' .no, S) else none
  | .msl o off n sz' =>
    if sz' ≠ sz ∨ xs.length ≠ m * sz ∨ roomOk (n + m) bytes = false then none
    else (S.cells o).bind fun cs =>
      if off + n * sz ≤ cs.length then some (grown (S.kill o) mu ((cs.drop off).take (n * sz) ++ xs) (n + m) sz) else none
  | _ => none

def wE (cl : Cl) (i : EI) (fr : Fr) (S : St) (K : V → St → Prop) (Kp : V → St → Prop) : Prop :=
  match i with
  | .alloc zero => K (.ptr (some (S.n, 0))) (S.add (.cells zero))
  | .box x => ((x.ev fr).cells.all V.one = true) ∧ K (.ptr (some (S.n, 0))) (S.add (.cells (x.ev fr).cells))
  | .buildSlice n sz how zero parts =>
    match fillV fr zero parts with
    | some cs => match how with
      | 0 => K (.sl cs n sz .cap) S
      | 1 => K (.msl S.n 0 n sz) (S.add (.cells cs))
      | _ => K (.sl cs n sz (.at S.n)) (S.add .tok)
    | none => False
  | .store sz a x =>
    match a.ev fr with
    | .ptr (some (i, off)) =>
      match S.cells i with
      | some cs => (x.ev fr).cells.length = sz ∧ (x.ev fr).cells.all V.one = true ∧ off + sz ≤ cs.length ∧ K (.tup []) (S.set i (.cells (splice cs off (x.ev fr).cells)))
      | none => False
    | _ => False
  | .append sz bytes mu s x =>
    match (x.ev fr).elems S sz with
    | some (m, xs) => match appendTo S sz bytes mu m xs (s.ev fr) with
      | some (v, S') => K v S'
      | none => False
    | none => False
  | .copy sz d s =>
    match (s.ev fr).elems S sz, d.ev fr with
    | some (m, xs), .msl o off n sz' =>
      match S.cells o with
      | some cs => sz' = sz ∧ off + n * sz ≤ cs.length ∧ K (.int .i64 ((min m n : Nat))) (S.set o (.cells (splice cs off (xs.take (min m n * sz)))))
      | none => False
    | some (m, _), .sl _ n _ _ => min m n = 0 ∧ K (.int .i64 0) S
    | _, _ => False
  | .makeSlice sz bytes mu zero len cap =>
    match (len.ev fr).idx, (cap.ev fr).idx with
    | some n, some c =>
      if n ≤ c ∧ roomOk c bytes = true then
        if mu then (n = c ∧ K (.msl S.n 0 n sz) (S.add (.cells ((List.replicate n zero).flatten))))
        else if n = c then K (.sl ((List.replicate n zero).flatten) n sz .cap) S
        else K (.sl ((List.replicate n zero).flatten) n sz (.at S.n)) (S.add .tok)
      else False
    | _, _ => False
  | .makeMap => K (.map (some S.n)) (S.add (.map [] 0))
  | .mapSet kk m k v =>
    match m.ev fr with
    | .map (some r) => match S.hp r with
      | some (.map es c) => (v.ev fr).one = true ∧ (k.ev fr).isKey kk = true ∧ match findE kk (k.ev fr) es 0 with
        | some (some (i, _)) => K (.tup []) (S.set r (.map (es.modify i fun e => (k.ev fr, v.ev fr, e.2.2)) c))
        | some none => K (.tup []) (S.set r (.map (es ++ [(k.ev fr, v.ev fr, c)]) (c + 1)))
        | none => False
      | _ => False
    | _ => False
  | .delete kk m k =>
    match m.ev fr with
    | .map none => (k.ev fr).isKey kk = true ∧ K (.tup []) S
    | .map (some r) => match S.hp r with
      | some (.map es c) => (k.ev fr).isKey kk = true ∧ match findE kk (k.ev fr) es 0 with
        | some (some (i, _)) => K (.tup []) (S.set r (.map (es.eraseIdx i) c))
        | some none => K (.tup []) S
        | none => False
      | _ => False
    | _ => False
  | .range x =>
    match x.ev fr with
    | .map none => K (.iter S.n) (S.add (.iter none 0 [] 0))
    | .map (some r) => match S.hp r with
      | some (.map _ c) => K (.iter S.n) (S.add (.iter (some r) c [] c))
      | _ => False
    | _ => False
  | .next it =>
    match it.ev fr with
    | .iter j => match S.hp j with
      | some (.iter none _ _ _) => K (.tup [.bool false]) S
      | some (.iter (some r) since seen last) => match S.hp r with
        | some (.map es c) =>
          -- a map that isn't written while it is gone through
          last = since ∧ c = since ∧ (∀ e ∈ es, e.2.2 < since) ∧
          ((es.all fun e => seen.contains e.2.2) = true → K (.tup [.bool false]) S) ∧
          (∀ e ∈ es, seen.contains e.2.2 = false → K (.tup [.bool true, e.1, e.2.1]) (S.set j (.iter (some r) since (seen ++ [e.2.2]) c)))
        | _ => False
      | _ => False
    | _ => False
  | .strBytes x =>
    match x.ev fr with
    | .str s => K (.sl (s.data.toList.map fun b => .int .u8 b.toNat) s.size 1 (.at S.n)) (S.add .tok)
    | _ => False
  | .bytesSame x =>
    match x.ev fr with
    | .sl cs n sz (.at k) => S.hp k = some .tok ∧ K (.sl cs n sz (.at k)) S
    | _ => False
  | .frz x =>
    match x.ev fr with
    | .msl o off n sz => match S.cells o with
      | some cs => off + n * sz ≤ cs.length ∧ K (.sl ((cs.drop off).take (n * sz)) n sz (.at S.n)) ((S.kill o).add .tok)
      | none => False
    | .sl cs n sz t => K (.sl cs n sz t) S
    | _ => False
  | .call f args => cl f (args.map (Arg.ev fr)) S fun
    | .ret v, S' => K v S'
    | .pan v, S' => Kp v S'
  | .callV x args =>
    match x.ev fr with
    | .func f pre cap => cl f (pre ++ args.map (Arg.ev fr) ++ cap) S fun
      | .ret v, S' => K v S'
      | .pan v, S' => Kp v S'
    | _ => False
  | .panic x =>
    match x.ev fr with
    | .iface t v => Kp (.iface t v) S
    | _ => False

/-- Is the operation's guard met? -/
def wanted (fr : Fr) : Option (Nat × Bool) → Option Bool
  | none => some true
  | some (t, want) => match fr t with
    | .bool b => some (b == want)
    | .poison => none
    | _ => some false

def wItem (cl : Cl) (x : Item) (fr : Fr) (S : St) (K : Fr → St → Prop) (Kp : V → St → Prop) : Prop :=
  match x with
  | .run o => match wanted fr o.g with
    | some true => match o.i with
      | .f i => match aF i fr S with
        | some v => K (fr.put o.dst v) S
        | none => False
      | .e i => wE cl i fr S (fun v S' => K (fr.put o.dst v) S') Kp
    | some false => K (fr.put o.dst (.tup [])) S
    | none => False
  | .chk d g i => match wanted fr g with
    | some true => aF i fr S = some (fr d) ∧ K fr S
    | some false => K fr S
    | none => False

def wItems (cl : Cl) : List Item → Fr → St → (Fr → St → Prop) → (V → St → Prop) → Prop
  | [], fr, S, K, _ => K fr S
  | x :: r, fr, S, K, Kp => wItem cl x fr S (fun fr' S' => wItems cl r fr' S' K Kp) Kp

inductive AExit
  | normal
  | exit (id : Nat)
  | ret
  | panic (v : V)

abbrev CPost := AExit → Fr → St → Prop

/-- Behind a first part: what comes next where it ended as ever. -/
def thenQ (K : Fr → St → Prop) (Q : CPost) : CPost
  | .normal, fr, S => K fr S
  | e, fr, S => Q e fr S
def blkQ (id : Nat) (Q : CPost) : CPost
  | .exit i, fr, S => if i = id then Q .normal fr S else Q (.exit i) fr S
  | e, fr, S => Q e fr S

/-- A loop: the least of all that a round keeps. -/
def Loop (body : Fr → St → CPost → Prop) (Q : CPost) (fr : Fr) (S : St) : Prop :=
  ∀ L : Fr → St → Prop, (∀ fr S, body fr S (thenQ L Q) → L fr S) → L fr S

def wCode (cl : Cl) : Cd → Fr → St → CPost → Prop
  | .skip, fr, S, Q => Q .normal fr S
  | .reg _ items, fr, S, Q => wItems cl items fr S (Q .normal) (fun v S' => Q (.panic v) fr S')
  | .seq a b, fr, S, Q => wCode cl a fr S (thenQ (fun fr' S' => wCode cl b fr' S' Q) Q)
  | .ite c a b, fr, S, Q => match c.ev fr with
    | .bool true => wCode cl a fr S Q
    | .bool false => wCode cl b fr S Q
    | _ => False
  | .blk id c, fr, S, Q => wCode cl c fr S (blkQ id Q)
  | .loop c, fr, S, Q => Loop (fun fr S Q => wCode cl c fr S Q) Q fr S
  | .exit id, fr, S, Q => Q (.exit id) fr S
  | .ret, fr, S, Q => Q .ret fr S
  | .alt _ _ a b, fr, S, Q => wCode cl a fr S Q ∧ wCode cl b fr S Q

def readRV (fr : Fr) (S : St) : RV → Option V
  | .tmp t => some (fr t)
  | .cell t agg sz => aF (.load agg sz (.t t)) fr S

def readRes (fr : Fr) (S : St) : List RV → Option V
  | [] => some (.tup [])
  | [r] => readRV fr S r
  | rs => (rs.mapM (readRV fr S)).map .tup

def frame0 (args : List V) : Fr := fun i => args.getD i (.tup [])

def bodyQ (fc : FnC) (Q : AEnd → St → Prop) : CPost
  | .normal, fr, S | .ret, fr, S => match readRes fr S fc.res with
    | some v => Q (.ret v) S
    | none => False
  | .panic v, _, S => Q (.pan v) S
  | .exit _, _, _ => False

/-- A program of the value machine: the functions' codes; functions that are taken as they are told. -/
structure Pg where
  code : FuncId → Option FnC
  prim : FuncId → Option (List V → St → (AEnd → St → Prop) → Prop)

def wStep (p : Pg) (cl : Cl) : Cl := fun f args S Q =>
  match p.prim f with
  | some w => w args S Q
  | none => match p.code f with
    | some fc => wCode cl fc.body (frame0 args) S (bodyQ fc Q)
    | none => False

/-- A call: the least of all that a body keeps. -/
def Runs (p : Pg) : Cl := fun f args S Q =>
  ∀ R : Cl, (∀ f args S Q, wStep p R f args S Q → R f args S Q) → R f args S Q

end Go.VM

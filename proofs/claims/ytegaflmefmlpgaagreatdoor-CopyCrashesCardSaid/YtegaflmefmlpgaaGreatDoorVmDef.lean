/-
  The value machine: an abstract reading of the model's code in which slices are values. Definitions alone: values, stores, instructions, and what a code does (a predicate transformer, least fixed points for loops and calls). Nothing here speaks of one program.
  The value machine: what is shown of fewer ends is shown of more; a call may be laid open.
  The value machine and the model: how a value, a store and a world hang together. What is told by a slice is sealed ('ice': cells that no step changes any more); what may change has a block of its own.
-/
import Derived.Orders
import Derived.LoopN
import Derived.WalkKit
set_option linter.unusedVariables false
set_option linter.unusedSimpArgs false
namespace Go.VM
open Go

/-- What may be appended to a slice in place: nil; its capacity is its length; nothing is known; the token of that number. -/
inductive Tok
  | nil | cap | no | at (t : Nat)
  deriving DecidableEq

inductive V
  | bool (b : Bool)
  | int (k : IntKind) (n : Int)
  | str (s : ByteArray)
  | ptr (p : Option (Nat × Nat))
  | eptr (cs : List V)
  | sl (cs : List V) (n sz : Nat) (t : Tok)
  | msl (o off n sz : Nat)
  | map (r : Option Nat)
  | iter (r : Nat)
  | func (f : FuncId) (pre cap : List V)
  | nilFunc
  | iface (t : TypeId) (v : V)
  | nilIface
  | agg (cs : List V)
  | tup (vs : List V)
  | poison

instance : Inhabited V := ⟨.poison⟩

/-- An object of the store. -/
inductive AObj
  | cells (cs : List V)
  | tok
  | map (es : List (V × V × Nat)) (clock : Nat)
  | iter (m : Option Nat) (since : Nat) (seen : List Nat) (last : Nat)
  | fix (cs : List V)

structure St where
  hp : Nat → Option AObj
  n : Nat

def St.empty : St := { hp := fun _ => none, n := 0 }
def St.add (S : St) (x : AObj) : St := { hp := fun i => if i = S.n then some x else S.hp i, n := S.n + 1 }
def St.set (S : St) (i : Nat) (x : AObj) : St := { hp := fun j => if j = i then some x else S.hp j, n := S.n }
def St.kill (S : St) (i : Nat) : St := { hp := fun j => if j = i then none else S.hp j, n := S.n }

abbrev Fr := Nat → V
def Fr.put (fr : Fr) (d : Option Nat) (v : V) : Fr :=
  match d with
  | some d => fun i => if i = d then v else fr i
  | none => fr

inductive Arg
  | t (i : Nat)
  | c (v : V)
def Arg.ev (fr : Fr) : Arg → V
  | .t i => fr i
  | .c v => v

/-- The cells of a value. -/
def V.cells : V → List V
  | .agg cs => cs
  | v => [v]
/-- Surely a value of one cell. -/
def V.one : V → Bool
  | .agg _ | .tup _ | .poison => false
  | _ => true

/-- What kind of type two values are held against each other at. -/
inductive TK
  | bool | ptr | slice | map | func | iface
  deriving DecidableEq

/-- Whose length is asked; what a map's keys are. -/
inductive LK
  | str | sl | map
  deriving DecidableEq
inductive KK
  | int | str | bool
  deriving DecidableEq

inductive Cv
  | same | int (k : IntKind) | bytesStr | intStr
  deriving DecidableEq

/-- Operations that change nothing. -/
inductive FI
  | mv (x : Arg)
  | pick (c a b : Arg)
  | nilCheck (x : Arg)
  | bin (op : BinOp) (x y : Arg)
  | eq (neg : Bool) (k : TK) (x y : Arg)
  | eqA (neg : Bool) (ks : List KK) (x y : Arg)
  | un (op : UnOp) (x : Arg)
  | conv (c : Cv) (x : Arg)
  | fieldAddr (off : Nat) (x : Arg)
  | field (agg : Bool) (off sz : Nat) (x : Arg)
  | indexAddr (sz : Nat) (x i : Arg)
  | indexAddrA (len sz : Nat) (x i : Arg)
  | indexS (x i : Arg)
  | indexA (agg : Bool) (len sz : Nat) (x i : Arg)
  | load (agg : Bool) (sz : Nat) (a : Arg)
  | len (k : LK) (x : Arg)
  | sliceS (x : Arg) (lo hi : Option Arg)
  | slice (sz : Nat) (x : Arg) (lo hi mx : Option Arg)
  | build (zero : List V) (parts : List (Nat × Nat × Arg))
  | mkIface (t : TypeId) (x : Arg)
  | mkFunc (f : FuncId) (pre cap : List Arg)
  | extract (x : Arg) (i : Nat)
  | lookup (kk : KK) (ok : Bool) (zero : V) (m k : Arg)
  | assertT (t : TypeId) (ok : Bool) (zero : V) (x : Arg)
  | minmax (isMax : Bool) (xs : List Arg)

/-- Operations that make or change memory, and calls. -/
inductive EI
  | alloc (zero : List V)
  | box (x : Arg)
  | buildSlice (n sz : Nat) (how : Nat) (zero : List V) (parts : List (Nat × Nat × Arg))
  | store (sz : Nat) (a x : Arg)
  | append (sz bytes : Nat) (mu : Bool) (s x : Arg)
  | copy (sz : Nat) (d s : Arg)
  | makeSlice (sz bytes : Nat) (mu : Bool) (zero : List V) (len cap : Arg)
  | makeMap
  | mapSet (kk : KK) (m k v : Arg)
  | delete (kk : KK) (m k : Arg)
  | range (x : Arg)
  | next (it : Arg)
  | strBytes (x : Arg)
  | bytesSame (x : Arg)
  | frz (x : Arg)
  | call (f : FuncId) (args : List Arg)
  | callV (x : Arg) (args : List Arg)
  | panic (x : Arg)

inductive I
  | f (x : FI)
  | e (x : EI)

structure OpC where
  dst : Option Nat
  g : Option (Nat × Bool)
  i : I

/-- A step of a region: an operation; or (in a region that draws its order) one that was done is done again and must tell what it told. -/
inductive Item
  | run (o : OpC)
  | chk (dst : Nat) (g : Option (Nat × Bool)) (i : FI)

inductive Cd
  | skip
  | reg (ord : List Nat) (items : List Item)
  | seq (a b : Cd)
  | ite (c : Arg) (a b : Cd)
  | blk (id : Nat) (c : Cd)
  | loop (c : Cd)
  | exit (id : Nat)
  | ret
  | alt (i j : Nat) (a b : Cd)
  | stuck

inductive RV
  | tmp (t : Nat)
  | cell (t : Nat) (agg : Bool) (sz : Nat)

structure FnC where
  body : Cd
  res : List RV
  ntmps : Nat

/-! ### What the operations tell -/

def intV (k : IntKind) (n : Int) : V := .int k n

def bitsV (op : BinOp) (k : IntKind) (x y : Int) : Option Int :=
  match op with
  | .and => some (k.wrap (BitVec.toNat (BitVec.ofInt k.bits x &&& BitVec.ofInt k.bits y)))
  | .or => some (k.wrap (BitVec.toNat (BitVec.ofInt k.bits x ||| BitVec.ofInt k.bits y)))
  | .xor => some (k.wrap (BitVec.toNat (BitVec.ofInt k.bits x ^^^ BitVec.ofInt k.bits y)))
  | .andNot => some (k.wrap (BitVec.toNat (BitVec.ofInt k.bits x &&& ~~~(BitVec.ofInt k.bits y))))
  | _ => none

def binInt (op : BinOp) (k : IntKind) (x y : Int) : Option V :=
  match op with
  | .add => some (.int k (k.wrap (x + y)))
  | .sub => some (.int k (k.wrap (x - y)))
  | .mul => some (.int k (k.wrap (x * y)))
  | .quo => if y = 0 then none else some (.int k (k.wrap (x.tdiv y)))
  | .rem => if y = 0 then none else some (.int k (x.tmod y))
  | .eql => some (.bool (x == y))
  | .neq => some (.bool (x != y))
  | .lss => some (.bool (decide (x < y)))
  | .leq => some (.bool (decide (x ≤ y)))
  | .gtr => some (.bool (decide (x > y)))
  | .geq => some (.bool (decide (x ≥ y)))
  | op => (bitsV op k x y).map (.int k)

def binStr (op : BinOp) (x y : ByteArray) : Option V :=
  match op with
  | .add => if ((x.size + y.size : Nat) : Int) > IntKind.i64.max then none else some (.str (x ++ y))
  | .eql => some (.bool (x.toList == y.toList))
  | .neq => some (.bool !(x.toList == y.toList))
  | .lss => some (.bool (Op.bytesLess x.toList y.toList))
  | .leq => some (.bool (Op.bytesLess x.toList y.toList || x.toList == y.toList))
  | .gtr => some (.bool !(Op.bytesLess x.toList y.toList || x.toList == y.toList))
  | .geq => some (.bool !(Op.bytesLess x.toList y.toList))
  | _ => none

def V.bin (op : BinOp) : V → V → Option V
  | .int k a, .int k' b =>
    match op with
    | .shl => if b < 0 then none else some (.int k (k.wrap (a * 2 ^ (min b.toNat k.bits))))
    | .shr => if b < 0 then none else some (.int k (a.fdiv (2 ^ (min b.toNat k.bits))))
    | _ => if k = k' then binInt op k a b else none
  | .str a, .str b => binStr op a b
  | _, _ => none

def V.eq (k : TK) : V → V → Option Bool
  | .bool a, .bool b => if k = .bool then some (a == b) else none
  | .ptr none, .ptr q => if k = .ptr then some q.isNone else none
  | .ptr (some _), .ptr none => if k = .ptr then some false else none
  | .ptr (some (i, o)), .ptr (some (j, p)) => if k = .ptr ∧ i = j then some (o == p) else none
  | .ptr none, .eptr _ => if k = .ptr then some false else none
  | .eptr _, .ptr none => if k = .ptr then some false else none
  | .sl _ _ _ s, .sl _ _ _ t => if k = .slice then (if s = .nil then some (t == .nil) else if t = .nil then some false else none) else none
  | .msl .., .sl _ _ _ t => if k = .slice ∧ t = .nil then some false else none
  | .map none, .map q => if k = .map then some q.isNone else none
  | .map (some _), .map none => if k = .map then some false else none
  | .nilFunc, .nilFunc => if k = .func then some true else none
  | .nilFunc, .func .. => if k = .func then some false else none
  | .func .., .nilFunc => if k = .func then some false else none
  | .nilIface, .iface .. => if k = .iface then some false else none
  | .iface .., .nilIface => if k = .iface then some false else none
  | _, _ => none

def V.un (op : UnOp) : V → Option V
  | .int k n => match op with
    | .neg => some (.int k (k.wrap (0 - n)))
    | .xor => (bitsV .xor k (if k.signed then -1 else k.max) n).map (.int k)
    | _ => none
  | .bool b => match op with
    | .not => some (.bool !b)
    | _ => none
  | _ => none

/-- The bytes that the cells are. -/
def bytesOf : List V → Option (List UInt8)
  | [] => some []
  | .int .u8 n :: r => (bytesOf r).map (UInt8.ofNat n.toNat :: ·)
  | _ => none

/-- The cells of an object. -/
def St.cells (S : St) (i : Nat) : Option (List V) :=
  match S.hp i with
  | some (.cells cs) => some cs
  | _ => none

def takeC (agg : Bool) (sz : Nat) (cs : List V) : Option V :=
  if agg then (if sz ≤ cs.length then some (.agg (cs.take sz)) else none) else cs.head?

/-- The first n elements of what is told by a slice or a string. -/
def V.elems (S : St) (sz : Nat) : V → Option (Nat × List V)
  | .sl cs n sz' t => if t = .nil then some (0, []) else if sz' = sz then some (n, cs) else none
  | .msl o off n sz' => if sz' = sz then (S.cells o).bind fun cs => if off + n * sz ≤ cs.length then some (n, (cs.drop off).take (n * sz)) else none else none
  | .str s => if sz = 1 then some (s.size, s.data.toList.map fun b => .int .u8 b.toNat) else none
  | _ => none

def V.conv (S : St) : Cv → V → Option V
  | .same, .str s => some (.str s)
  | .int k, .int _ n => some (.int k (k.wrap n))
  | .intStr, .int _ n => some (.str (Utf8.encode n))
  | .bytesStr, .str _ => none
  | .bytesStr, v => (v.elems S 1).bind fun q => (bytesOf q.2).map fun l => .str ⟨l.toArray⟩
  | _, _ => none

def V.idx : V → Option Nat
  | .int _ n => if 0 ≤ n then some n.toNat else none
  | _ => none

/-- lo, hi: the bounds of a slice expression over something of that length. -/
def bounds (fr : Fr) (len : Nat) (lo hi : Option Arg) : Option (Nat × Nat) := do
  let h ← match hi with | some a => (a.ev fr).idx | none => some len
  let l ← match lo with | some a => (a.ev fr).idx | none => some 0
  if l ≤ h ∧ h ≤ len then some (l, h) else none

def sliceV (fr : Fr) (sz : Nat) (lo hi mx : Option Arg) : V → Option V
  | .sl cs n sz' t => (bounds fr n lo hi).bind fun q =>
    if t = .nil then (if mx.isSome then none else some (.sl cs n sz' t))
    else if sz' ≠ sz then none
    else
      let cut := (cs.drop (q.1 * sz)).take ((q.2 - q.1) * sz)
      match mx with
      | some a => if (a.ev fr).idx = some q.2 then some (.sl cut (q.2 - q.1) sz .cap) else none
      | none => some (.sl cut (q.2 - q.1) sz (if q.2 = n then t else .no))
  | .msl o off n sz' => (bounds fr n lo hi).bind fun q =>
    if sz' ≠ sz ∨ mx.isSome then none
    else if q.2 = q.1 then some (.sl [] 0 sz .no)
    else some (.msl o (off + q.1 * sz) (q.2 - q.1) sz)
  | _ => none

def splice (cs : List V) (off : Nat) (xs : List V) : List V := cs.take off ++ xs ++ cs.drop (off + xs.length)

/-- A zero with parts laid in. -/
def fillV (fr : Fr) (zero : List V) : List (Nat × Nat × Arg) → Option (List V)
  | [] => some zero
  | (off, sz, x) :: r =>
    let xs := (x.ev fr).cells
    if xs.length = sz ∧ off + sz ≤ zero.length ∧ xs.all V.one = true then fillV fr (splice zero off xs) r else none

/-- Keys: numbers, texts, bools. -/
def V.keyEq (kk : KK) : V → V → Option Bool
  | .int k a, .int k' b => if kk = .int ∧ k = k' then some (a == b) else none
  | .str a, .str b => if kk = .str then some (a == b) else none
  | .bool a, .bool b => if kk = .bool then some (a == b) else none
  | _, _ => none

/-- Cell by cell, up to the first that differs. -/
def eqLs : List KK → List V → List V → Option Bool
  | [], [], [] => some true
  | k :: ks, c :: cs, d :: ds => match V.keyEq k c d with
    | some true => eqLs ks cs ds
    | some false => some false
    | none => none
  | _, _, _ => none
def eqA (ks : List KK) : V → V → Option Bool
  | .agg cs, .agg ds => if cs.length = ks.length ∧ ds.length = ks.length then eqLs ks cs ds else none
  | _, _ => none

def findE (kk : KK) (k : V) : List (V × V × Nat) → Nat → Option (Option (Nat × V))
  | [], _ => some none
  | e :: r, i => match k.keyEq kk e.1 with
    | some true => some (some (i, e.2.1))
    | some false => findE kk k r (i + 1)
    | none => none
def V.isKey (kk : KK) : V → Bool
  | .int _ _ => kk == .int
  | .str _ => kk == .str
  | .bool _ => kk == .bool
  | _ => false

def minmaxV (isMax : Bool) : V → V → Option V
  | .int k x, .int k' y => if k = k' then some (.int k (if isMax then (if y > x then y else x) else (if y < x then y else x))) else none
  | _, _ => none
def minmaxL (isMax : Bool) : V → List V → Option V
  | x, [] => some x
  | x, y :: r => (minmaxV isMax x y).bind fun z => minmaxL isMax z r

def aF (i : FI) (fr : Fr) (S : St) : Option V :=
  match i with
  | .mv x => some (x.ev fr)
  | .pick c a b => match c.ev fr with
    | .bool true => some (a.ev fr)
    | .bool false => some (b.ev fr)
    | _ => none
  | .nilCheck x => match x.ev fr with
    | .ptr (some p) => some (.ptr (some p))
    | .eptr cs => some (.eptr cs)
    | _ => none
  | .bin op x y => V.bin op (x.ev fr) (y.ev fr)
  | .eq neg k x y => (V.eq k (x.ev fr) (y.ev fr)).map fun b => .bool (if neg then !b else b)
  | .eqA neg ks x y => (eqA ks (x.ev fr) (y.ev fr)).map fun b => .bool (if neg then !b else b)
  | .un op x => V.un op (x.ev fr)
  | .conv c x => V.conv S c (x.ev fr)
  | .fieldAddr off x => match x.ev fr with
    | .ptr (some (i, o)) => some (.ptr (some (i, o + off)))
    | .eptr cs => some (.eptr (cs.drop off))
    | _ => none
  | .field agg off sz x => match x.ev fr with
    | .agg cs => takeC agg sz (cs.drop off)
    | _ => none
  | .indexAddr sz x i => match x.ev fr, (i.ev fr).idx with
    | .sl cs n sz' t, some j => if j < n ∧ sz' = sz ∧ t ≠ .nil then some (.eptr (cs.drop (j * sz))) else none
    | .msl o off n sz', some j => if j < n ∧ sz' = sz then some (.ptr (some (o, off + j * sz))) else none
    | _, _ => none
  | .indexAddrA len sz x i => match x.ev fr, (i.ev fr).idx with
    | .ptr (some (o, off)), some j => if j < len then some (.ptr (some (o, off + j * sz))) else none
    | .eptr cs, some j => if j < len then some (.eptr (cs.drop (j * sz))) else none
    | _, _ => none
  | .indexS x i => match x.ev fr, (i.ev fr).idx with
    | .str s, some j => (s[j]?).map fun b => .int .u8 b.toNat
    | _, _ => none
  | .indexA agg len sz x i => match x.ev fr, (i.ev fr).idx with
    | .agg cs, some j => if j < len then takeC agg sz (cs.drop (j * sz)) else none
    | _, _ => none
  | .load agg sz a => match a.ev fr with
    | .ptr (some (i, off)) => (S.cells i).bind fun cs => takeC agg sz (cs.drop off)
    | .eptr cs => takeC agg sz cs
    | _ => none
  | .len .str x => match x.ev fr with
    | .str s => some (.int .i64 s.size)
    | _ => none
  | .len .sl x => match x.ev fr with
    | .sl _ n _ _ => some (.int .i64 n)
    | .msl _ _ n _ => some (.int .i64 n)
    | _ => none
  | .len .map x => match x.ev fr with
    | .map none => some (.int .i64 0)
    | .map (some r) => match S.hp r with
      | some (.map es _) => some (.int .i64 es.length)
      | _ => none
    | _ => none
  | .sliceS x lo hi => match x.ev fr with
    | .str s => (bounds fr s.size lo hi).map fun q => .str (s.extract q.1 q.2)
    | _ => none
  | .slice sz x lo hi mx => sliceV fr sz lo hi mx (x.ev fr)
  | .build zero parts => (fillV fr zero parts).map .agg
  | .mkIface t x => some (.iface t (x.ev fr))
  | .mkFunc f pre cap => some (.func f (pre.map (Arg.ev fr)) (cap.map (Arg.ev fr)))
  | .extract x i => match x.ev fr with
    | .tup vs => vs[i]?
    | _ => none
  | .lookup kk ok zero m k => match m.ev fr with
    | .map none => if (k.ev fr).isKey kk then some (if ok then .tup [zero, .bool false] else zero) else none
    | .map (some r) => match S.hp r with
      | some (.map es _) => if (k.ev fr).isKey kk then (findE kk (k.ev fr) es 0).map fun
        | some (_, v) => if ok then .tup [v, .bool true] else v
        | none => if ok then .tup [zero, .bool false] else zero
        else none
      | _ => none
    | _ => none
  | .assertT t ok zero x => match x.ev fr with
    | .iface t' v => if t' = t then some (if ok then .tup [v, .bool true] else v) else if ok then some (.tup [zero, .bool false]) else none
    | .nilIface => if ok then some (.tup [zero, .bool false]) else none
    | _ => none
  | .minmax isMax xs => match xs with
    | [] => none
    | x :: r => minmaxL isMax (x.ev fr) (r.map (Arg.ev fr))

/-! ### The operations that act, as predicate transformers -/

inductive AEnd
  | ret (v : V)
  | pan (v : V)

abbrev Cl := FuncId → List V → St → (AEnd → St → Prop) → Prop

def roomOk (n bytes : Nat) : Bool := decide (n * bytes ≤ 140737488355328)

/-- The new slice behind an append of cells to a base: as a value, or as cells that may be written. -/
def grown (S : St) (mu : Bool) (cs : List V) (n sz : Nat) : V × St :=
  if mu then (.msl S.n 0 n sz, S.add (.cells cs)) else (.sl cs n sz (.at S.n), S.add .tok)

def appendTo (S : St) (sz bytes : Nat) (mu : Bool) (m : Nat) (xs : List V) : V → Option (V × St)
  | .sl cs n sz' t =>
    if (t ≠ .nil ∧ sz' ≠ sz) ∨ xs.length ≠ m * sz ∨ roomOk (n + m) bytes = false then none
    else match t with
      | .nil => if m = 0 then some (.sl cs n sz' .nil, S) else some (grown S mu (cs ++ xs) (n + m) sz)
      | .cap => if m = 0 then some (.sl cs n sz' .cap, S) else some (grown S mu (cs ++ xs) (n + m) sz)
      | .at k => if mu then none else match S.hp k with
        | some .tok => some (grown (S.kill k) false (cs ++ xs) (n + m) sz)
        | _ => none
      | .no => if m = 0 then some (.sl cs n sz' .no, S) else none
  | .msl o off n sz' =>
    if sz' ≠ sz ∨ xs.length ≠ m * sz ∨ roomOk (n + m) bytes = false then none
    else (S.cells o).bind fun cs =>
      if off + n * sz ≤ cs.length then some (grown (S.kill o) mu ((cs.drop off).take (n * sz) ++ xs) (n + m) sz) else none
  | _ => none

def wE (cl : Cl) (i : EI) (fr : Fr) (S : St) (K : V → St → Prop) (Kp : V → St → Prop) : Prop :=
  match i with
  | .alloc zero => K (.ptr (some (S.n, 0))) (S.add (.cells zero))
  | .box x => ((x.ev fr).cells.all V.one = true) ∧ K (.ptr (some (S.n, 0))) (S.add (.cells (x.ev fr).cells))
  | .buildSlice n sz how zero parts =>
    match fillV fr zero parts with
    | some cs => match how with
      | 0 => K (.sl cs n sz .cap) S
      | 1 => K (.msl S.n 0 n sz) (S.add (.cells cs))
      | _ => K (.sl cs n sz (.at S.n)) (S.add .tok)
    | none => False
  | .store sz a x =>
    match a.ev fr with
    | .ptr (some (i, off)) =>
      match S.cells i with
      | some cs => (x.ev fr).cells.length = sz ∧ (x.ev fr).cells.all V.one = true ∧ off + sz ≤ cs.length ∧ K (.tup []) (S.set i (.cells (splice cs off (x.ev fr).cells)))
      | none => False
    | _ => False
  | .append sz bytes mu s x =>
    match (x.ev fr).elems S sz with
    | some (m, xs) => match appendTo S sz bytes mu m xs (s.ev fr) with
      | some (v, S') => K v S'
      | none => False
    | none => False
  | .copy sz d s =>
    match (s.ev fr).elems S sz, d.ev fr with
    | some (m, xs), .msl o off n sz' =>
      match S.cells o with
      | some cs => sz' = sz ∧ off + n * sz ≤ cs.length ∧ K (.int .i64 ((min m n : Nat))) (S.set o (.cells (splice cs off (xs.take (min m n * sz)))))
      | none => False
    | some (m, _), .sl _ n _ _ => min m n = 0 ∧ K (.int .i64 0) S
    | _, _ => False
  | .makeSlice sz bytes mu zero len cap =>
    match (len.ev fr).idx, (cap.ev fr).idx with
    | some n, some c =>
      if n ≤ c ∧ roomOk c bytes = true then
        if mu then (n = c ∧ K (.msl S.n 0 n sz) (S.add (.cells ((List.replicate n zero).flatten))))
        else if n = c then K (.sl ((List.replicate n zero).flatten) n sz .cap) S
        else K (.sl ((List.replicate n zero).flatten) n sz (.at S.n)) (S.add .tok)
      else False
    | _, _ => False
  | .makeMap => K (.map (some S.n)) (S.add (.map [] 0))
  | .mapSet kk m k v =>
    match m.ev fr with
    | .map (some r) => match S.hp r with
      | some (.map es c) => (v.ev fr).one = true ∧ (k.ev fr).isKey kk = true ∧ match findE kk (k.ev fr) es 0 with
        | some (some (i, _)) => K (.tup []) (S.set r (.map (es.modify i fun e => (k.ev fr, v.ev fr, e.2.2)) c))
        | some none => K (.tup []) (S.set r (.map (es ++ [(k.ev fr, v.ev fr, c)]) (c + 1)))
        | none => False
      | _ => False
    | _ => False
  | .delete kk m k =>
    match m.ev fr with
    | .map none => (k.ev fr).isKey kk = true ∧ K (.tup []) S
    | .map (some r) => match S.hp r with
      | some (.map es c) => (k.ev fr).isKey kk = true ∧ match findE kk (k.ev fr) es 0 with
        | some (some (i, _)) => K (.tup []) (S.set r (.map (es.eraseIdx i) c))
        | some none => K (.tup []) S
        | none => False
      | _ => False
    | _ => False
  | .range x =>
    match x.ev fr with
    | .map none => K (.iter S.n) (S.add (.iter none 0 [] 0))
    | .map (some r) => match S.hp r with
      | some (.map _ c) => K (.iter S.n) (S.add (.iter (some r) c [] c))
      | _ => False
    | _ => False
  | .next it =>
    match it.ev fr with
    | .iter j => match S.hp j with
      | some (.iter none _ _ _) => K (.tup [.bool false]) S
      | some (.iter (some r) since seen last) => match S.hp r with
        | some (.map es c) =>
          -- a map that isn't written while it is gone through
          last = since ∧ c = since ∧ (∀ e ∈ es, e.2.2 < since) ∧
          ((es.all fun e => seen.contains e.2.2) = true → K (.tup [.bool false]) S) ∧
          (∀ e ∈ es, seen.contains e.2.2 = false → K (.tup [.bool true, e.1, e.2.1]) (S.set j (.iter (some r) since (seen ++ [e.2.2]) c)))
        | _ => False
      | _ => False
    | _ => False
  | .strBytes x =>
    match x.ev fr with
    | .str s => K (.sl (s.data.toList.map fun b => .int .u8 b.toNat) s.size 1 (.at S.n)) (S.add .tok)
    | _ => False
  | .bytesSame x =>
    match x.ev fr with
    | .sl cs n sz (.at k) => S.hp k = some .tok ∧ K (.sl cs n sz (.at k)) S
    | _ => False
  | .frz x =>
    match x.ev fr with
    | .msl o off n sz => match S.cells o with
      | some cs => off + n * sz ≤ cs.length ∧ K (.sl ((cs.drop off).take (n * sz)) n sz (.at S.n)) ((S.kill o).add .tok)
      | none => False
    | .sl cs n sz t => K (.sl cs n sz t) S
    | _ => False
  | .call f args => cl f (args.map (Arg.ev fr)) S fun
    | .ret v, S' => K v S'
    | .pan v, S' => Kp v S'
  | .callV x args =>
    match x.ev fr with
    | .func f pre cap => cl f (pre ++ args.map (Arg.ev fr) ++ cap) S fun
      | .ret v, S' => K v S'
      | .pan v, S' => Kp v S'
    | _ => False
  | .panic x =>
    match x.ev fr with
    | .iface t v => Kp (.iface t v) S
    | _ => False

/-- Is the operation's guard met? -/
def wanted (fr : Fr) : Option (Nat × Bool) → Option Bool
  | none => some true
  | some (t, want) => match fr t with
    | .bool b => some (b == want)
    | .poison => none
    | _ => some false

def wItem (cl : Cl) (x : Item) (fr : Fr) (S : St) (K : Fr → St → Prop) (Kp : V → St → Prop) : Prop :=
  match x with
  | .run o => match wanted fr o.g with
    | some true => match o.i with
      | .f i => match aF i fr S with
        | some v => K (fr.put o.dst v) S
        | none => False
      | .e i => wE cl i fr S (fun v S' => K (fr.put o.dst v) S') Kp
    | some false => K (fr.put o.dst (.tup [])) S
    | none => False
  | .chk d g i => match wanted fr g with
    | some true => aF i fr S = some (fr d) ∧ K fr S
    | some false => K fr S
    | none => False

def wItems (cl : Cl) : List Item → Fr → St → (Fr → St → Prop) → (V → St → Prop) → Prop
  | [], fr, S, K, _ => K fr S
  | x :: r, fr, S, K, Kp => wItem cl x fr S (fun fr' S' => wItems cl r fr' S' K Kp) Kp

inductive AExit
  | normal
  | exit (id : Nat)
  | ret
  | panic (v : V)

abbrev CPost := AExit → Fr → St → Prop

/-- Behind a first part: what comes next where it ended as ever. -/
def thenQ (K : Fr → St → Prop) (Q : CPost) : CPost
  | .normal, fr, S => K fr S
  | e, fr, S => Q e fr S
def blkQ (id : Nat) (Q : CPost) : CPost
  | .exit i, fr, S => if i = id then Q .normal fr S else Q (.exit i) fr S
  | e, fr, S => Q e fr S

/-- A loop: the least of all that a round keeps. -/
def Loop (body : Fr → St → CPost → Prop) (Q : CPost) (fr : Fr) (S : St) : Prop :=
  ∀ L : Fr → St → Prop, (∀ fr S, body fr S (thenQ L Q) → L fr S) → L fr S

def wCode (cl : Cl) : Cd → Fr → St → CPost → Prop
  | .skip, fr, S, Q => Q .normal fr S
  | .reg _ items, fr, S, Q => wItems cl items fr S (Q .normal) (fun v S' => Q (.panic v) fr S')
  | .seq a b, fr, S, Q => wCode cl a fr S (thenQ (fun fr' S' => wCode cl b fr' S' Q) Q)
  | .ite c a b, fr, S, Q => match c.ev fr with
    | .bool true => wCode cl a fr S Q
    | .bool false => wCode cl b fr S Q
    | _ => False
  | .blk id c, fr, S, Q => wCode cl c fr S (blkQ id Q)
  | .loop c, fr, S, Q => Loop (fun fr S Q => wCode cl c fr S Q) Q fr S
  | .exit id, fr, S, Q => Q (.exit id) fr S
  | .ret, fr, S, Q => Q .ret fr S
  | .alt _ _ a b, fr, S, Q => wCode cl a fr S Q ∧ wCode cl b fr S Q
  | .stuck, _, _, _ => False

def readRV (fr : Fr) (S : St) : RV → Option V
  | .tmp t => some (fr t)
  | .cell t agg sz => aF (.load agg sz (.t t)) fr S

def readRes (fr : Fr) (S : St) : List RV → Option V
  | [] => some (.tup [])
  | [r] => readRV fr S r
  | rs => (rs.mapM (readRV fr S)).map .tup

def frame0 (args : List V) : Fr := fun i => args.getD i (.tup [])

def bodyQ (fc : FnC) (Q : AEnd → St → Prop) : CPost
  | .normal, fr, S | .ret, fr, S => match readRes fr S fc.res with
    | some v => Q (.ret v) S
    | none => False
  | .panic v, _, S => Q (.pan v) S
  | .exit _, _, _ => False

/-- A program of the value machine: the functions' codes; functions that are taken as they are told. -/
structure Pg where
  code : FuncId → Option FnC
  prim : FuncId → Option (List V → St → (AEnd → St → Prop) → Prop)

def wStep (p : Pg) (cl : Cl) : Cl := fun f args S Q =>
  match p.prim f with
  | some w => w args S Q
  | none => match p.code f with
    | some fc => wCode cl fc.body (frame0 args) S (bodyQ fc Q)
    | none => False

/-- A call: the least of all that a body keeps. -/
def Runs (p : Pg) : Cl := fun f args S Q =>
  ∀ R : Cl, (∀ f args S Q, wStep p R f args S Q → R f args S Q) → R f args S Q

end Go.VM

namespace Go.VM
open Go

def ClLe (cl cl' : Cl) : Prop := ∀ f args S (Q Q' : AEnd → St → Prop), (∀ e S, Q e S → Q' e S) → cl f args S Q → cl' f args S Q'

section
variable {cl cl' : Cl}

theorem wE_mono (h : ClLe cl cl') (i : EI) (fr : Fr) (S : St) {K K' Kp Kp' : V → St → Prop} (hK : ∀ v S, K v S → K' v S) (hp : ∀ v S, Kp v S → Kp' v S) :
    wE cl i fr S K Kp → wE cl' i fr S K' Kp' := by
  cases i <;> simp only [wE]
  case alloc => exact hK _ _
  case box => exact fun ⟨a, b⟩ => ⟨a, hK _ _ b⟩
  case buildSlice => split <;> (try exact id); split <;> exact hK _ _
  case store => split <;> (try exact id); split <;> (try exact id); exact fun ⟨a, b, c, d⟩ => ⟨a, b, c, hK _ _ d⟩
  case append => split <;> (try exact id); split <;> (try exact id); exact hK _ _
  case copy => split <;> (try exact id); (split <;> (try exact id)); exact fun ⟨a, b, d⟩ => ⟨a, b, hK _ _ d⟩; exact fun ⟨a, d⟩ => ⟨a, hK _ _ d⟩
  case makeSlice =>
    split <;> (try exact id)
    split <;> (try exact id)
    split
    · exact fun ⟨a, b⟩ => ⟨a, hK _ _ b⟩
    · split <;> exact hK _ _
  case makeMap => exact hK _ _
  case mapSet =>
    split <;> (try exact id)
    split <;> (try exact id)
    refine fun ⟨a, b, c⟩ => ⟨a, b, ?_⟩
    revert c
    split <;> first | exact id | exact hK _ _
  case delete =>
    split <;> (try exact id)
    · exact fun ⟨a, b⟩ => ⟨a, hK _ _ b⟩
    split <;> (try exact id)
    refine fun ⟨b, c⟩ => ⟨b, ?_⟩
    revert c
    split <;> first | exact id | exact hK _ _
  case range =>
    split <;> (try exact id)
    · exact hK _ _
    split <;> first | exact id | exact hK _ _
  case next =>
    split <;> (try exact id)
    split <;> (try exact id)
    · exact hK _ _
    split <;> (try exact id)
    exact fun ⟨z, a, b, c, d⟩ => ⟨z, a, b, fun x => hK _ _ (c x), fun e he hs => hK _ _ (d e he hs)⟩
  case strBytes => split <;> first | exact id | exact hK _ _
  case bytesSame => split <;> first | exact id | exact fun ⟨a, b⟩ => ⟨a, hK _ _ b⟩
  case frz => split <;> (try exact id); (split <;> first | exact id | exact fun ⟨a, b⟩ => ⟨a, hK _ _ b⟩); exact hK _ _
  case call => exact h _ _ _ _ _ fun e S he => by cases e <;> first | exact hK _ _ he | exact hp _ _ he
  case callV => split <;> first | exact id | exact h _ _ _ _ _ fun e S he => by cases e <;> first | exact hK _ _ he | exact hp _ _ he
  case panic => split <;> first | exact id | exact hp _ _

theorem wItem_mono (h : ClLe cl cl') (x : Item) (fr : Fr) (S : St) {K K' : Fr → St → Prop} {Kp Kp' : V → St → Prop} (hK : ∀ v S, K v S → K' v S) (hp : ∀ v S, Kp v S → Kp' v S) :
    wItem cl x fr S K Kp → wItem cl' x fr S K' Kp' := by
  cases x with
  | run o =>
    simp only [wItem]
    split <;> (try exact id)
    · split
      · split <;> first | exact id | exact hK _ _
      · exact wE_mono h _ _ _ (fun _ _ => hK _ _) hp
    · exact hK _ _
  | chk d g i =>
    simp only [wItem]
    split <;> (try exact id)
    · exact fun ⟨a, b⟩ => ⟨a, hK _ _ b⟩
    · exact hK _ _

theorem wItems_mono (h : ClLe cl cl') : ∀ (l : List Item) (fr : Fr) (S : St) {K K' : Fr → St → Prop} {Kp Kp' : V → St → Prop} (_ : ∀ v S, K v S → K' v S) (_ : ∀ v S, Kp v S → Kp' v S),
    wItems cl l fr S K Kp → wItems cl' l fr S K' Kp'
  | [], _, _, _, _, _, _, hK, _ => hK _ _
  | x :: r, fr, S, _, _, _, _, hK, hp => wItem_mono h x fr S (fun _ _ => wItems_mono h r _ _ hK hp) hp

theorem thenQ_mono {K K' : Fr → St → Prop} {Q Q' : CPost} (hK : ∀ fr S, K fr S → K' fr S) (hQ : ∀ e fr S, Q e fr S → Q' e fr S) : ∀ e fr S, thenQ K Q e fr S → thenQ K' Q' e fr S := by
  intro e fr S
  cases e <;> simp only [thenQ] <;> first | exact hK _ _ | exact hQ _ _ _
theorem blkQ_mono {id : Nat} {Q Q' : CPost} (hQ : ∀ e fr S, Q e fr S → Q' e fr S) : ∀ e fr S, blkQ id Q e fr S → blkQ id Q' e fr S := by
  intro e fr S
  cases e <;> simp only [blkQ] <;> (try exact hQ _ _ _)
  split <;> exact hQ _ _ _

theorem Loop_mono {b b' : Fr → St → CPost → Prop} (hb : ∀ fr S (Q Q' : CPost), (∀ e fr S, Q e fr S → Q' e fr S) → b fr S Q → b' fr S Q') {Q Q' : CPost} (hQ : ∀ e fr S, Q e fr S → Q' e fr S) (fr : Fr) (S : St) :
    Loop b Q fr S → Loop b' Q' fr S := by
  intro h L hL
  exact h L fun fr S hh => hL fr S (hb fr S _ _ (thenQ_mono (fun _ _ => id) hQ) hh)

theorem wCode_mono (h : ClLe cl cl') : ∀ (c : Cd) (fr : Fr) (S : St) (Q Q' : CPost), (∀ e fr S, Q e fr S → Q' e fr S) → wCode cl c fr S Q → wCode cl' c fr S Q' := by
  intro c
  induction c with
  | skip => exact fun fr S Q Q' hQ => hQ _ _ _
  | reg id items => exact fun fr S Q Q' hQ => wItems_mono h items fr S (fun _ _ => hQ _ _ _) (fun _ _ => hQ _ _ _)
  | seq a b iha ihb => exact fun fr S Q Q' hQ => iha fr S _ _ (thenQ_mono (fun fr S => ihb fr S _ _ hQ) hQ)
  | ite c a b iha ihb =>
    intro fr S Q Q' hQ
    simp only [wCode]
    split
    · exact iha fr S _ _ hQ
    · exact ihb fr S _ _ hQ
    · exact id
  | blk id c ih => exact fun fr S Q Q' hQ => ih fr S _ _ (blkQ_mono hQ)
  | loop c ih => exact fun fr S Q Q' hQ => Loop_mono (fun fr S Q Q' => ih fr S Q Q') hQ fr S
  | exit id => exact fun fr S Q Q' hQ => hQ _ _ _
  | ret => exact fun fr S Q Q' hQ => hQ _ _ _
  | alt i j a b iha ihb => exact fun fr S Q Q' hQ h => ⟨iha fr S _ _ hQ h.1, ihb fr S _ _ hQ h.2⟩
  | stuck => exact fun fr S Q Q' hQ h => h
end

/-- One round more. -/
theorem Loop.fold {cl : Cl} (hcl : ClLe cl cl) {c : Cd} {Q : CPost} {fr : Fr} {S : St} (h : wCode cl c fr S (thenQ (fun fr S => wCode cl (.loop c) fr S Q) Q)) : wCode cl (.loop c) fr S Q := by
  intro L hL
  refine hL fr S (wCode_mono hcl c fr S _ _ (thenQ_mono (fun fr S hh => hh L hL) fun _ _ _ => id) h)

/-- The functions that are taken as they are told. -/
def PrimMono (p : Pg) : Prop := ∀ f w, p.prim f = some w → ∀ args S (Q Q' : AEnd → St → Prop), (∀ e S, Q e S → Q' e S) → w args S Q → w args S Q'

theorem bodyQ_mono (fc : FnC) {Q Q' : AEnd → St → Prop} (hQ : ∀ e S, Q e S → Q' e S) : ∀ e fr S, bodyQ fc Q e fr S → bodyQ fc Q' e fr S := by
  intro e fr S
  cases e <;> simp only [bodyQ] <;> (try exact id) <;> (try exact hQ _ _)
  all_goals (split <;> first | exact hQ _ _ | exact id)

theorem wStep_mono {p : Pg} (hp : PrimMono p) {cl cl' : Cl} (h : ClLe cl cl') : ClLe (wStep p cl) (wStep p cl') := by
  intro f args S Q Q' hQ
  unfold wStep
  split
  · rename_i w hw
    exact hp f w hw args S Q Q' hQ
  · split
    · rename_i fc _
      exact wCode_mono h _ _ _ _ _ (bodyQ_mono fc hQ)
    · exact id

section
variable {p : Pg} (hp : PrimMono p)
include hp

theorem Runs.mono {f : FuncId} {args : List V} {S : St} {Q Q' : AEnd → St → Prop} (hQ : ∀ e S, Q e S → Q' e S) (h : Runs p f args S Q) : Runs p f args S Q' := by
  intro R hR
  have key := h (fun f args S Q => ∀ Q', (∀ e S, Q e S → Q' e S) → R f args S Q') (fun f args S Q hh Q' hQ' => hR f args S Q' ?_)
  · exact key Q' hQ
  · exact wStep_mono hp (fun f args S Q Q' hQ hh => hh Q' hQ) f args S Q Q' hQ' hh

theorem Runs.le : ClLe (Runs p) (Runs p) := fun _ _ _ _ _ hQ h => Runs.mono hp hQ h

theorem Runs.fold {f : FuncId} {args : List V} {S : St} {Q : AEnd → St → Prop} (h : wStep p (Runs p) f args S Q) : Runs p f args S Q := by
  intro R hR
  refine hR f args S Q (wStep_mono hp (fun f args S Q Q' hQ hh => ?_) f args S Q Q (fun _ _ => id) h)
  exact (Runs.mono hp hQ hh) R hR
end
end Go.VM

namespace Go.VM
open Go Go.RowKit

/-- How the abstract lies in the concrete: the sealed cells; where an object lies (a token: where its slice ends); the blocks' sizes. -/
structure G where
  ice : Nat → Nat → Option Value
  loc : Nat → Nat × Nat
  n : Nat
  bs : Nat → Nat
  nb : Nat

structure G.le (a b : G) : Prop where
  ice : ∀ k i v, a.ice k i = some v → b.ice k i = some v
  n : a.n ≤ b.n
  loc : ∀ i, i < a.n → b.loc i = a.loc i
  nb : a.nb ≤ b.nb
  bs : ∀ k, k < a.nb → b.bs k = a.bs k

theorem G.le.refl (a : G) : a.le a := ⟨fun _ _ _ h => h, Nat.le_refl _, fun _ _ => rfl, Nat.le_refl _, fun _ _ => rfl⟩
theorem G.le.trans {a b c : G} (h : a.le b) (k : b.le c) : a.le c :=
  ⟨fun x i v hh => k.ice x i v (h.ice x i v hh), Nat.le_trans h.n k.n, fun i hi => (k.loc i (Nat.lt_of_lt_of_le hi h.n)).trans (h.loc i hi), Nat.le_trans h.nb k.nb,
   fun x hx => (k.bs x (Nat.lt_of_lt_of_le hx h.nb)).trans (h.bs x hx)⟩

def Ones (us : List Value) : Prop := ∀ u ∈ us, u.oneCell' = true
/-- These cells lie sealed from there on. -/
def Iced (g : G) (b p : Nat) (us : List Value) : Prop := ∀ (j : Nat) (v : Value), us[j]? = some v → g.ice b (p + j) = some v

theorem Iced.mono {g g' : G} (h : g.le g') {b p : Nat} {us : List Value} (k : Iced g b p us) : Iced g' b p us := fun j v hv => h.ice _ _ _ (k j v hv)
theorem Iced.drop {g : G} {b p : Nat} {us : List Value} (k : Iced g b p us) (m : Nat) : Iced g b (p + m) (us.drop m) := fun j v hv => by
  rw [List.getElem?_drop] at hv
  have := k (m + j) v hv
  rwa [← Nat.add_assoc] at this
theorem Iced.take {g : G} {b p : Nat} {us : List Value} (k : Iced g b p us) (m : Nat) : Iced g b p (us.take m) := fun j v hv => by
  rw [List.getElem?_take] at hv
  split at hv
  · exact k j v hv
  · cases hv

mutual
def RelV (g : G) : V → Value → Prop
  | .bool b, u => u = .bool b
  | .int k n, u => u = .int k n
  | .str s, u => u = .string s
  | .ptr none, u => u = .pointer none
  | .ptr (some (i, o)), u => i < g.n ∧ u = .pointer (some ⟨(g.loc i).1, (g.loc i).2 + o, none⟩)
  | .eptr cs, u => ∃ b p us, u = .pointer (some ⟨b, p, none⟩) ∧ RelL g cs us ∧ Ones us ∧ Iced g b p us
  | .sl cs n sz t, u => cs.length = n * sz ∧ ((t = .nil ∧ n = 0 ∧ cs = [] ∧ u = .slice none 0 0) ∨ (t ≠ .nil ∧ ∃ b p cap us, u = .slice (some ⟨b, p, none⟩) n cap ∧ n ≤ cap ∧ RelL g cs us ∧ Ones us ∧ Iced g b p us ∧
      (t = .cap → cap = n) ∧ (∀ k, t = .at k → k < g.n ∧ (g.loc k).1 = b ∧ (n < cap → (g.loc k).2 = p + n * sz ∧ b < g.nb ∧ p + cap * sz ≤ g.bs b))) ∨ ((t = .no ∨ t = .cap) ∧ n = 0 ∧ cs = [] ∧ ∃ a, u = .slice (some a) 0 0))
  | .msl o off n sz, u => o < g.n ∧ ∃ cap, u = .slice (some ⟨(g.loc o).1, (g.loc o).2 + off, none⟩) n cap ∧ n ≤ cap ∧ (g.loc o).1 < g.nb ∧ (g.loc o).2 + off + cap * sz ≤ g.bs (g.loc o).1
  | .map none, u => u = .map none
  | .map (some r), u => r < g.n ∧ u = .map (some (g.loc r).1)
  | .iter r, u => r < g.n ∧ u = .pointer (some ⟨(g.loc r).1, 0, none⟩)
  | .func f pre cap, u => ∃ us ws : List Value, u = .func (.func f) us.toArray ws.toArray ∧ RelL g pre us ∧ RelL g cap ws
  | .nilFunc, u => u = .nilFunc
  | .iface t v, u => ∃ x, u = .iface t x ∧ RelV g v x
  | .nilIface, u => u = .nilIface
  | .agg cs, u => ∃ us : List Value, u = .agg us.toArray ∧ RelL g cs us ∧ Ones us
  | .tup cs, u => ∃ us : List Value, u = .tuple us.toArray ∧ RelL g cs us
  | .poison, _ => True
def RelL (g : G) : List V → List Value → Prop
  | [], us => us = []
  | c :: cs, us => ∃ u r, us = u :: r ∧ RelV g c u ∧ RelL g cs r
end

mutual
theorem RelV_mono {g g' : G} (h : g.le g') : ∀ (v : V) (u : Value), RelV g v u → RelV g' v u
  | .bool b, u, k => k
  | .int _ _, u, k => k
  | .str _, u, k => k
  | .ptr none, u, k => k
  | .ptr (some (i, o)), u, k => by
    unfold RelV at k ⊢
    exact ⟨Nat.lt_of_lt_of_le k.1 h.n, by rw [h.loc i k.1]; exact k.2⟩
  | .eptr cs, u, k => by
    unfold RelV at k ⊢
    obtain ⟨b, p, us, e, r, o, c⟩ := k
    exact ⟨b, p, us, e, RelL_mono h cs us r, o, c.mono h⟩
  | .sl cs n sz t, u, k => by
    unfold RelV at k ⊢
    obtain ⟨hl, k⟩ := k
    refine ⟨hl, k.imp id (Or.imp ?_ id)⟩
    rintro ⟨ht, b, p, cap, us, e, hc, r, o, c, h1, h2⟩
    refine ⟨ht, b, p, cap, us, e, hc, RelL_mono h cs us r, o, c.mono h, h1, fun x hx => ?_⟩
    obtain ⟨h3, h30, h4⟩ := h2 x hx
    refine ⟨Nat.lt_of_lt_of_le h3 h.n, by rw [h.loc x h3]; exact h30, fun hn => ?_⟩
    obtain ⟨h5, h6, h7⟩ := h4 hn
    exact ⟨by rw [h.loc x h3]; exact h5, Nat.lt_of_lt_of_le h6 h.nb, by rw [h.bs b h6]; exact h7⟩
  | .msl o off n sz, u, k => by
    unfold RelV at k ⊢
    obtain ⟨ho, cap, e, hc, hb, hs⟩ := k
    refine ⟨Nat.lt_of_lt_of_le ho h.n, cap, ?_⟩
    rw [h.loc o ho, h.bs _ hb]
    exact ⟨e, hc, Nat.lt_of_lt_of_le hb h.nb, hs⟩
  | .map none, u, k => k
  | .map (some r), u, k => by
    unfold RelV at k ⊢
    exact ⟨Nat.lt_of_lt_of_le k.1 h.n, by rw [h.loc r k.1]; exact k.2⟩
  | .iter r, u, k => by
    unfold RelV at k ⊢
    exact ⟨Nat.lt_of_lt_of_le k.1 h.n, by rw [h.loc r k.1]; exact k.2⟩
  | .func f pre cap, u, k => by
    unfold RelV at k ⊢
    obtain ⟨us, ws, e, a, b⟩ := k
    exact ⟨us, ws, e, RelL_mono h pre us a, RelL_mono h cap ws b⟩
  | .nilFunc, u, k => k
  | .iface t v, u, k => by
    unfold RelV at k ⊢
    obtain ⟨x, e, a⟩ := k
    exact ⟨x, e, RelV_mono h v x a⟩
  | .nilIface, u, k => k
  | .agg cs, u, k => by
    unfold RelV at k ⊢
    obtain ⟨us, e, a, o⟩ := k
    exact ⟨us, e, RelL_mono h cs us a, o⟩
  | .tup cs, u, k => by
    unfold RelV at k ⊢
    obtain ⟨us, e, a⟩ := k
    exact ⟨us, e, RelL_mono h cs us a⟩
  | .poison, u, _ => by unfold RelV; trivial
theorem RelL_mono {g g' : G} (h : g.le g') : ∀ (cs : List V) (us : List Value), RelL g cs us → RelL g' cs us
  | [], us, k => k
  | c :: cs, us, k => by
    unfold RelL at k ⊢
    obtain ⟨u, r, e, a, b⟩ := k
    exact ⟨u, r, e, RelV_mono h c u a, RelL_mono h cs r b⟩
end

/-! ### Lists -/
theorem RelL_iff {g : G} : ∀ {cs : List V} {us : List Value}, RelL g cs us ↔ cs.length = us.length ∧ ∀ (j : Nat) (c : V) (u : Value), cs[j]? = some c → us[j]? = some u → RelV g c u
  | [], us => by
    unfold RelL
    constructor
    · rintro rfl; exact ⟨rfl, fun j c u h => by simp at h⟩
    · rintro ⟨h, _⟩; exact List.eq_nil_of_length_eq_zero h.symm
  | c :: cs, us => by
    unfold RelL
    constructor
    · rintro ⟨u, r, rfl, a, b⟩
      obtain ⟨h1, h2⟩ := RelL_iff.1 b
      refine ⟨by simp [h1], fun j c' u' hc hu => ?_⟩
      cases j with
      | zero => simp at hc hu; subst hc; subst hu; exact a
      | succ j => simp at hc hu; exact h2 j c' u' hc hu
    · rintro ⟨h1, h2⟩
      match us, h1 with
      | u :: r, h1 =>
        exact ⟨u, r, rfl, h2 0 c u (by simp) (by simp), RelL_iff.2 ⟨by simpa using h1, fun j c' u' hc hu => h2 (j + 1) c' u' (by simpa using hc) (by simpa using hu)⟩⟩

theorem RelL.len {g : G} {cs : List V} {us : List Value} (h : RelL g cs us) : cs.length = us.length := (RelL_iff.1 h).1
theorem RelL.at_ {g : G} {cs : List V} {us : List Value} (h : RelL g cs us) {j : Nat} {c : V} (hc : cs[j]? = some c) : ∃ u, us[j]? = some u ∧ RelV g c u := by
  have hl := h.len
  have hj := (List.getElem?_eq_some_iff.1 hc).1
  refine ⟨us[j]'(by omega), List.getElem?_eq_getElem (by omega), (RelL_iff.1 h).2 j c _ hc (List.getElem?_eq_getElem (by omega))⟩
theorem RelL.take {g : G} {cs : List V} {us : List Value} (h : RelL g cs us) (m : Nat) : RelL g (cs.take m) (us.take m) := by
  obtain ⟨h1, h2⟩ := RelL_iff.1 h
  refine RelL_iff.2 ⟨by simp [h1], fun j c u hc hu => ?_⟩
  rw [List.getElem?_take] at hc hu
  split at hc
  · rename_i hj; rw [if_pos hj] at hu; exact h2 j c u hc hu
  · cases hc
theorem RelL.drop {g : G} {cs : List V} {us : List Value} (h : RelL g cs us) (m : Nat) : RelL g (cs.drop m) (us.drop m) := by
  obtain ⟨h1, h2⟩ := RelL_iff.1 h
  refine RelL_iff.2 ⟨by simp [h1], fun j c u hc hu => ?_⟩
  rw [List.getElem?_drop] at hc hu
  exact h2 _ c u hc hu
theorem RelL.append {g : G} : ∀ {cs : List V} {us : List Value} {ds : List V} {ws : List Value}, RelL g cs us → RelL g ds ws → RelL g (cs ++ ds) (us ++ ws)
  | [], us, ds, ws, h, k => by unfold RelL at h; subst h; exact k
  | c :: cs, us, ds, ws, h, k => by
    unfold RelL at h
    obtain ⟨u, r, rfl, a, b⟩ := h
    exact ⟨u, r ++ ws, rfl, a, RelL.append b k⟩
theorem Ones.take {us : List Value} (h : Ones us) (m : Nat) : Ones (us.take m) := fun u hu => h u (List.mem_of_mem_take hu)
theorem Ones.drop {us : List Value} (h : Ones us) (m : Nat) : Ones (us.drop m) := fun u hu => h u (List.mem_of_mem_drop hu)
theorem Ones.append {us ws : List Value} (h : Ones us) (k : Ones ws) : Ones (us ++ ws) := fun u hu => by
  rcases List.mem_append.1 hu with hu | hu
  · exact h u hu
  · exact k u hu

theorem one_rel {g : G} {v : V} {u : Value} (h : RelV g v u) (h1 : v.one = true) : u.oneCell' = true := by
  cases v <;> simp [V.one] at h1 <;> (try (unfold RelV at h)) <;> (try subst h) <;> try rfl
  case ptr p =>
    cases p with
    | none => unfold RelV at h; subst h; rfl
    | some q => obtain ⟨i, o⟩ := q; unfold RelV at h; obtain ⟨_, rfl⟩ := h; rfl
  case eptr => obtain ⟨_, _, _, rfl, _⟩ := h; rfl
  case sl =>
    obtain ⟨_, h⟩ := h
    rcases h with ⟨_, _, _, rfl⟩ | ⟨_, _, _, _, _, rfl, _⟩ | ⟨_, _, _, _, rfl⟩ <;> rfl
  case msl => obtain ⟨_, _, rfl, _⟩ := h; rfl
  case map r =>
    cases r with
    | none => unfold RelV at h; subst h; rfl
    | some r => unfold RelV at h; obtain ⟨_, rfl⟩ := h; rfl
  case iter => obtain ⟨_, rfl⟩ := h; rfl
  case func => obtain ⟨_, _, rfl, _⟩ := h; rfl
  case iface => obtain ⟨_, rfl, _⟩ := h; rfl

theorem ones_rel {g : G} {cs : List V} {us : List Value} (h : RelL g cs us) (h1 : cs.all V.one = true) : Ones us := by
  intro u hu
  obtain ⟨j, hj⟩ := List.mem_iff_getElem?.1 hu
  have hl := h.len
  have hjl := (List.getElem?_eq_some_iff.1 hj).1
  have hc : cs[j]? = some (cs[j]'(by omega)) := List.getElem?_eq_getElem (by omega)
  exact one_rel ((RelL_iff.1 h).2 j _ u hc hj) (List.all_eq_true.1 h1 _ (List.getElem_mem _))

/-- The cells of a value, on both sides. -/
theorem cells_rel {g : G} {v : V} {u : Value} (h : RelV g v u) (h1 : v.cells.all V.one = true) : RelL g v.cells u.cells.toList ∧ Ones u.cells.toList := by
  by_cases ha : ∃ cs, v = .agg cs
  · obtain ⟨cs, rfl⟩ := ha
    unfold RelV at h
    obtain ⟨us, rfl, a, o⟩ := h
    exact ⟨by simpa [V.cells, Value.cells] using a, by simpa [Value.cells] using o⟩
  · have hc : v.cells = [v] := by
      cases v <;> first | rfl | exact absurd ⟨_, rfl⟩ ha
    rw [hc] at h1 ⊢
    have ho : v.one = true := by simpa using h1
    have hu := one_rel h ho
    have huc : u.cells = #[u] := by
      cases u <;> first | rfl | simp [Value.oneCell'] at hu
    rw [huc]
    exact ⟨⟨u, [], rfl, h, rfl⟩, fun x hx => by simp at hx; subst hx; exact hu⟩

/-! ### Objects and the world -/
def NoFz (fr : Nat × Nat) (n : Nat) : Prop := fr.1 = fr.2 ∨ n ≤ fr.1
theorem NoFz.at_ {fr : Nat × Nat} {n : Nat} (h : NoFz fr n) (i : Nat) (hi : i < n) : ¬ (fr.1 ≤ i ∧ i < fr.2) := by
  rcases h with h | h <;> omega

def RelM (g : G) (es : List (V × V × Nat)) (ms : List MapEntry) : Prop :=
  es.length = ms.length ∧ ∀ (j : Nat) (e : V × V × Nat) (m : MapEntry), es[j]? = some e → ms[j]? = some m → RelV g e.1 m.key ∧ RelV g e.2.1 m.val ∧ m.born = e.2.2 ∧ (∃ kk, e.1.isKey kk = true) ∧ e.2.1.one = true

def RelO (g : G) (b q : Nat) : AObj → Obj → Prop
  | .cells cs, o => ∃ us ty fr, o = .cells us ty fr ∧ NoFz fr us.size ∧ us.size = g.bs b ∧ (∀ i, g.ice b i = none) ∧ ∃ xs, RelL g cs xs ∧ Ones xs ∧ ∀ (j : Nat) (v : Value), xs[j]? = some v → us[q + j]? = some v
  | .tok, o => ∃ us ty fr, o = .cells us ty fr ∧ NoFz fr us.size ∧ us.size = g.bs b ∧ ∀ i, q ≤ i → g.ice b i = none
  | .map es c, o => ∃ ms, o = .map ms c ∧ RelM g es ms.toList
  | .fix cs, o => q = 0 ∧ ∃ us ty fr xs, o = .cells us ty fr ∧ RelL g cs xs ∧ ∀ (j : Nat) (v : Value), xs[j]? = some v → us[j]? = some v
  | .iter m since seen last, o => (∀ r, m = some r → r < g.n) ∧ o = .mapIter (m.map fun r => (g.loc r).1) since seen.toArray last

theorem RelM.mono {g g' : G} (h : g.le g') {es : List (V × V × Nat)} {ms : List MapEntry} (k : RelM g es ms) : RelM g' es ms :=
  ⟨k.1, fun j e m he hm => by
    obtain ⟨a, b, c⟩ := k.2 j e m he hm
    exact ⟨RelV_mono h _ _ a, RelV_mono h _ _ b, c⟩⟩

theorem RelO.mono {g g' : G} (h : g.le g') {b q : Nat} {x : AObj} {o : Obj} (k : RelO g b q x o) (hb : b < g.nb) (hi : ∀ i, g'.ice b i = g.ice b i) : RelO g' b q x o := by
  cases x with
  | cells cs =>
    obtain ⟨us, ty, fr, e, f, s, n, xs, r, on, c⟩ := k
    exact ⟨us, ty, fr, e, f, by rw [h.bs b hb]; exact s, fun i => by rw [hi]; exact n i, xs, RelL_mono h _ _ r, on, c⟩
  | tok =>
    obtain ⟨us, ty, fr, e, f, s, n⟩ := k
    exact ⟨us, ty, fr, e, f, by rw [h.bs b hb]; exact s, fun i hq => by rw [hi]; exact n i hq⟩
  | map es c =>
    obtain ⟨ms, e, r⟩ := k
    exact ⟨ms, e, r.mono h⟩
  | fix cs =>
    obtain ⟨e, us, ty, fr, xs, h1, h2, h3⟩ := k
    exact ⟨e, us, ty, fr, xs, h1, RelL_mono h _ _ h2, h3⟩
  | iter m since seen last =>
    obtain ⟨a, e⟩ := k
    refine ⟨fun r hr => Nat.lt_of_lt_of_le (a r hr) h.n, ?_⟩
    cases m with
    | none => exact e
    | some r =>
      rw [e]
      simp only [Option.map_some]
      rw [h.loc r (a r rfl)]

structure RelW (w0 : World) (g : G) (S : St) (w : World) : Prop where
  below : Below w0.heap.size w0 w
  nb : g.nb = w.heap.size
  n : g.n = S.n
  ice : ∀ b p u, g.ice b p = some u → w.cell? ⟨b, p, none⟩ = some u
  hp : ∀ i x, S.hp i = some x → i < S.n ∧ w0.heap.size ≤ (g.loc i).1 ∧ ∃ o, w.heap[(g.loc i).1]? = some o ∧ RelO g (g.loc i).1 (g.loc i).2 x o
  sep : ∀ i j x y, S.hp i = some x → S.hp j = some y → i ≠ j → (g.loc i).1 ≠ (g.loc j).1

section
variable {w0 w : World} {g : G} {S : St}

theorem RelW.lt (h : RelW w0 g S w) {i : Nat} {x : AObj} (hx : S.hp i = some x) : (g.loc i).1 < w.heap.size := by
  obtain ⟨_, _, o, ho, _⟩ := h.hp i x hx
  exact (Array.getElem?_eq_some_iff.1 ho).1

theorem RelW.iceLt (h : RelW w0 g S w) {b p : Nat} {u : Value} (hu : g.ice b p = some u) : b < w.heap.size :=
  World.block_lt_of_cell? w _ (h.ice b p u hu)

theorem RelW.drew (h : RelW w0 g S w) : RelW w0 g S w.drew :=
  ⟨h.below.drew, h.nb, h.n, fun b p u hu => h.ice b p u hu, h.hp, h.sep⟩
theorem RelW.drawn (h : RelW w0 g S w) : RelW w0 g S { w with drawn := w.drawn + 1 } := h.drew

theorem RelW.kill (h : RelW w0 g S w) (k : Nat) : RelW w0 g (S.kill k) w := by
  refine ⟨h.below, h.nb, h.n, h.ice, fun i x hx => ?_, fun i j x y hx hy hij => ?_⟩
  · simp only [St.kill] at hx
    split at hx
    · cases hx
    · exact h.hp i x hx
  · simp only [St.kill] at hx hy
    split at hx
    · cases hx
    split at hy
    · cases hy
    exact h.sep i j x y hx hy hij

/-- A new block of cells, sealed up to some place; an object with it. -/
def G.block (g : G) (us : Array Value) (e : Nat) : G :=
  { g with ice := fun b i => if b = g.nb then (if i < e then us[i]? else none) else g.ice b i, bs := fun b => if b = g.nb then us.size else g.bs b, nb := g.nb + 1 }
def G.obj (g : G) (b q : Nat) : G := { g with loc := fun i => if i = g.n then (b, q) else g.loc i, n := g.n + 1 }

theorem le_block (h : RelW w0 g S w) (us : Array Value) (e : Nat) : g.le (g.block us e) := by
  refine ⟨fun k i v hv => ?_, Nat.le_refl _, fun _ _ => rfl, by simp [G.block], fun k hk => ?_⟩
  · have := h.iceLt hv
    rw [← h.nb] at this
    simp only [G.block]
    rw [if_neg (by omega)]
    exact hv
  · simp only [G.block]
    rw [if_neg (by omega)]
theorem le_obj (g : G) (b q : Nat) : g.le (g.obj b q) :=
  ⟨fun _ _ _ h => h, by simp [G.obj], fun i hi => by simp only [G.obj]; rw [if_neg (by omega)], Nat.le_refl _, fun _ _ => rfl⟩

theorem RelW.block (h : RelW w0 g S w) (us : Array Value) (ty : TypeId) (fr : Nat × Nat) (e : Nat) : RelW w0 (g.block us e) S (w.alloc (.cells us ty fr)) := by
  have hle := le_block h us e
  refine ⟨h.below.alloc h.below.size _, by simp [G.block, h.nb], h.n, fun b p u hu => ?_, fun i x hx => ?_, h.sep⟩
  · simp only [G.block] at hu
    split at hu
    · rename_i hb
      split at hu
      · rw [hb, h.nb]
        rw [cell_of_row _ _ _ us ty fr (heap_alloc_new w _)]
        exact hu
      · cases hu
    · have := h.ice b p u hu
      rw [World.cell?_alloc_lt w _ _ (h.iceLt hu)]
      exact this
  · obtain ⟨h1, h2, o, h3, h4⟩ := h.hp i x hx
    have hlt := h.lt hx
    refine ⟨h1, h2, o, ?_, h4.mono hle (by rw [h.nb]; exact hlt) (fun p => ?_)⟩
    · show (w.alloc _).heap[(g.loc i).1]? = _
      refine (Below.heap_alloc w _ _ hlt).trans ?_
      exact h3
    · simp only [G.block]
      rw [if_neg (by rw [h.nb]; exact Nat.ne_of_lt hlt)]

/-- A new object at a block that no object has. -/
theorem RelW.obj (h : RelW w0 g S w) {b q : Nat} {x : AObj} {o : Obj} (hb : w.heap[b]? = some o) (hb0 : w0.heap.size ≤ b) (hfree : ∀ i y, S.hp i = some y → (g.loc i).1 ≠ b)
    (hx : RelO (g.obj b q) b q x o) : RelW w0 (g.obj b q) (S.add x) w := by
  have hle := le_obj g b q
  have hlt : b < w.heap.size := (Array.getElem?_eq_some_iff.1 hb).1
  have hl0 : (g.obj b q).loc g.n = (b, q) := by simp [G.obj]
  refine ⟨h.below, h.nb, by simp [G.obj, St.add, h.n], h.ice, fun i y hy => ?_, fun i j x' y' hx' hy' hij => ?_⟩
  · simp only [St.add] at hy
    split at hy
    · rename_i hi
      injection hy with hy; subst hy
      have : i = g.n := by rw [h.n]; exact hi
      rw [this, hl0]
      exact ⟨by simp [St.add, h.n], hb0, o, hb, hx⟩
    · obtain ⟨h1, h2, o', h3, h4⟩ := h.hp i y hy
      have hl : (g.obj b q).loc i = g.loc i := hle.loc i (by rw [h.n]; exact h1)
      rw [hl]
      exact ⟨by simp [St.add]; omega, h2, o', h3, h4.mono hle (by rw [h.nb]; exact h.lt hy) (fun _ => rfl)⟩
  · have hloc : ∀ i y, S.hp i = some y → (g.obj b q).loc i = g.loc i := fun i y hy => hle.loc i (by rw [h.n]; exact (h.hp i y hy).1)
    simp only [St.add] at hx' hy'
    split at hx' <;> split at hy'
    · omega
    · rename_i hi hj
      have : i = g.n := by rw [h.n]; exact hi
      rw [this, hl0, hloc j y' hy']
      exact fun e => hfree j y' hy' e.symm
    · rename_i hi hj
      have : j = g.n := by rw [h.n]; exact hj
      rw [this, hl0, hloc i x' hx']
      exact hfree i x' hx'
    · rw [hloc i x' hx', hloc j y' hy']
      exact h.sep i j x' y' hx' hy' hij

/-- What an object holds is another thing: its block alone has turned. -/
theorem RelW.upd (h : RelW w0 g S w) {i : Nat} {x x' : AObj} (hx : S.hp i = some x) {w' : World} (hw : Below w0.heap.size w0 w') (hsz : w'.heap.size = w.heap.size)
    (hold : ∀ k, k < w.heap.size → k ≠ (g.loc i).1 → w'.heap[k]? = w.heap[k]?) {o : Obj} (ho : w'.heap[(g.loc i).1]? = some o)
    (hice : ∀ p u, g.ice (g.loc i).1 p = some u → w'.cell? ⟨(g.loc i).1, p, none⟩ = some u)
    (hx' : RelO g (g.loc i).1 (g.loc i).2 x' o) : RelW w0 g (S.set i x') w' := by
  obtain ⟨h1, h2, _⟩ := h.hp i x hx
  refine ⟨hw, by rw [h.nb, hsz], h.n, fun b p u hu => ?_, fun j y hy => ?_, fun j k y z hy hz hjk => ?_⟩
  · by_cases hb : b = (g.loc i).1
    · subst hb; exact hice p u hu
    · rw [← h.ice b p u hu]
      exact World.cell?_of_block (hold b (h.iceLt hu) hb)
  · simp only [St.set] at hy
    split at hy
    · rename_i hj; subst hj
      injection hy with hy; subst hy
      exact ⟨h1, h2, o, ho, hx'⟩
    · rename_i hj
      obtain ⟨h3, h4, o', h5, h6⟩ := h.hp j y hy
      exact ⟨h3, h4, o', by rw [hold _ (h.lt hy) (h.sep j i y x hy hx hj)]; exact h5, h6⟩
  · have hlive : ∀ j y, (S.set i x').hp j = some y → ∃ z, S.hp j = some z := fun j y hy => by
      simp only [St.set] at hy
      split at hy
      · rename_i hj; subst hj; exact ⟨x, hx⟩
      · exact ⟨y, hy⟩
    obtain ⟨y', hy'⟩ := hlive j y hy
    obtain ⟨z', hz'⟩ := hlive k z hz
    exact h.sep j k y' z' hy' hz' hjk

/-- A block that no object has, whose unsealed cells may turn; more of it is sealed. -/
def G.ices (g : G) (b : Nat) (f : Nat → Option Value) : G := { g with ice := fun k i => if k = b then f i else g.ice k i }
theorem le_ices (g : G) (b : Nat) (f : Nat → Option Value) (hf : ∀ i v, g.ice b i = some v → f i = some v) : g.le (g.ices b f) := by
  refine ⟨fun k i v hv => ?_, Nat.le_refl _, fun _ _ => rfl, Nat.le_refl _, fun _ _ => rfl⟩
  simp only [G.ices]
  split
  · rename_i hk; subst hk; exact hf i v hv
  · exact hv
theorem RelW.ices (h : RelW w0 g S w) {b : Nat} {f : Nat → Option Value} (hfree : ∀ i y, S.hp i = some y → (g.loc i).1 ≠ b) (hf : ∀ i v, g.ice b i = some v → f i = some v)
    {w' : World} (hw : Below w0.heap.size w0 w') (hsz : w'.heap.size = w.heap.size) (hold : ∀ k, k < w.heap.size → k ≠ b → w'.heap[k]? = w.heap[k]?)
    (hice : ∀ i v, f i = some v → w'.cell? ⟨b, i, none⟩ = some v) : RelW w0 (g.ices b f) S w' := by
  have hle := le_ices g b f hf
  refine ⟨hw, by rw [hsz]; exact h.nb, h.n, fun k p u hu => ?_, fun j y hy => ?_, h.sep⟩
  · simp only [G.ices] at hu
    split at hu
    · rename_i hk; subst hk; exact hice p u hu
    · rename_i hk
      rw [← h.ice k p u hu]
      exact World.cell?_of_block (hold k (h.iceLt hu) hk)
  · obtain ⟨h3, h4, o', h5, h6⟩ := h.hp j y hy
    refine ⟨h3, h4, o', ?_, h6.mono hle (by rw [h.nb]; exact h.lt hy) (fun i => ?_)⟩
    · show w'.heap[(g.loc j).1]? = _
      rw [hold _ (h.lt hy) (hfree j y hy)]; exact h5
    · simp only [G.ices]; rw [if_neg (hfree j y hy)]
end
end Go.VM

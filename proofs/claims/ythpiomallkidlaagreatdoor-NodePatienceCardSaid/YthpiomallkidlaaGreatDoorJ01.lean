/-
  Parts: VmDef, VmSimI.
-/
import Derived.Orders
import Derived.LoopN
import Derived.WalkKit
set_option linter.unusedVariables false
set_option linter.unusedSimpArgs false
namespace Go.VM
open Go
inductive Tok
 | nil | cap | no | at (t : Nat)
 deriving DecidableEq
inductive Ab
 | top | bool | str (most : Nat) | int (k : IntKind) | res (k : IntKind) (m r most : Nat)
 deriving DecidableEq
def Ab.holds : Ab → Value → Prop
 | .top, u => u.oneCell' = true
 | .bool, u => ∃ b, u = .bool b
 | .str most, u => ∃ s, u = .string s ∧ s.size ≤ most
 | .int k, u => ∃ n : Int, u = .int k n ∧ k.wrap n = n
 | .res k m r most, u => ∃ n : Nat, u = .int k (n : Int) ∧ n ≤ most ∧ n % m = r
inductive V
 | bool (b : Bool)
 | int (k : IntKind) (n : Int)
 | str (s : ByteArray)
 | ptr (p : Option (Nat × Nat))
 | eptr (cs : List V)
 | sl (cs : List V) (n sz : Nat) (t : Tok)
 | msl (o off n sz : Nat)
 | map (r : Option Nat)
 | iter (r : Nat)
 | func (f : FuncId) (pre cap : List V)
 | nilFunc
 | iface (t : TypeId) (v : V)
 | nilIface
 | agg (cs : List V)
 | tup (vs : List V)
 | abs (a : Ab)
 | poison
instance : Inhabited V := ⟨.poison⟩
inductive AObj
 | cells (cs : List V)
 | tok
 | map (es : List (V × V × Nat)) (clock : Nat)
 | iter (m : Option Nat) (since : Nat) (seen : List Nat) (last : Nat)
 | fix (cs : List V)
structure St where
 hp : Nat → Option AObj
 n : Nat
def St.empty : St := { hp := fun _ => none, n := 0 }
def St.add (S : St) (x : AObj) : St := { hp := fun i => if i = S.n then some x else S.hp i, n := S.n + 1 }
def St.set (S : St) (i : Nat) (x : AObj) : St := { hp := fun j => if j = i then some x else S.hp j, n := S.n }
def St.kill (S : St) (i : Nat) : St := { hp := fun j => if j = i then none else S.hp j, n := S.n }
abbrev Fr := Nat → V
def Fr.put (fr : Fr) (d : Option Nat) (v : V) : Fr :=
 match d with
 | some d => fun i => if i = d then v else fr i
 | none => fr
inductive Arg
 | t (i : Nat)
 | c (v : V)
def Arg.ev (fr : Fr) : Arg → V
 | .t i => fr i
 | .c v => v
def V.cells : V → List V
 | .agg cs => cs
 | v => [v]
def V.one : V → Bool
 | .agg _ | .tup _ | .poison => false
 | _ => true
inductive TK
 | bool | ptr | slice | map | func | iface
 deriving DecidableEq
inductive LK
 | str | sl | map
 deriving DecidableEq
inductive KK
 | int | str | bool
 deriving DecidableEq
inductive Cv
 | same | int (k : IntKind) | bytesStr | intStr
 deriving DecidableEq
inductive FI
 | mv (x : Arg)
 | pick (c a b : Arg)
 | nilCheck (x : Arg)
 | bin (op : BinOp) (x y : Arg)
 | eq (neg : Bool) (k : TK) (x y : Arg)
 | eqA (neg : Bool) (ks : List KK) (x y : Arg)
 | un (op : UnOp) (x : Arg)
 | conv (c : Cv) (x : Arg)
 | fieldAddr (off : Nat) (x : Arg)
 | field (agg : Bool) (off sz : Nat) (x : Arg)
 | indexAddr (sz : Nat) (x i : Arg)
 | indexAddrA (len sz : Nat) (x i : Arg)
 | indexS (x i : Arg)
 | indexA (agg : Bool) (len sz : Nat) (x i : Arg)
 | load (agg : Bool) (sz : Nat) (a : Arg)
 | len (k : LK) (x : Arg)
 | sliceS (x : Arg) (lo hi : Option Arg)
 | slice (sz : Nat) (x : Arg) (lo hi mx : Option Arg)
 | build (zero : List V) (parts : List (Nat × Nat × Arg))
 | mkIface (t : TypeId) (x : Arg)
 | mkFunc (f : FuncId) (pre cap : List Arg)
 | extract (x : Arg) (i : Nat)
 | lookup (kk : KK) (ok : Bool) (zero : V) (m k : Arg)
 | entry (it : Arg)
 | assertT (t : TypeId) (ok : Bool) (zero : V) (x : Arg)
 | minmax (isMax : Bool) (xs : List Arg)
inductive EI
 | alloc (zero : List V)
 | box (x : Arg)
 | buildSlice (n sz : Nat) (how : Nat) (zero : List V) (parts : List (Nat × Nat × Arg))
 | store (sz : Nat) (a x : Arg)
 | append (sz bytes : Nat) (mu : Bool) (s x : Arg)
 | copy (sz : Nat) (d s : Arg)
 | makeSlice (sz bytes : Nat) (mu : Bool) (zero : List V) (len cap : Arg)
 | makeMap
 | mapSet (kk : KK) (m k v : Arg)
 | delete (kk : KK) (m k : Arg)
 | range (x : Arg)
 | next (it : Arg)
 | strBytes (x : Arg)
 | bytesSame (x : Arg)
 | frz (x : Arg)
 | call (f : FuncId) (args : List Arg)
 | callV (x : Arg) (args : List Arg)
 | panic (x : Arg)
inductive I
 | f (x : FI)
 | e (x : EI)
structure OpC where
 dst : Option Nat
 g : Option (Nat × Bool)
 i : I
inductive Item
 | run (o : OpC)
 | chk (dst : Nat) (g : Option (Nat × Bool)) (i : FI)
inductive Cd
 | skip
 | reg (ord : List Nat) (items : List Item)
 | seq (a b : Cd)
 | ite (c : Arg) (a b : Cd)
 | blk (id : Nat) (c : Cd)
 | loop (c : Cd)
 | exit (id : Nat)
 | ret
 | alt (i j : Nat) (a b : Cd)
 | stuck
inductive RV
 | tmp (t : Nat)
 | cell (t : Nat) (agg : Bool) (sz : Nat)
structure FnC where
 body : Cd
 res : List RV
 ntmps : Nat
def bitsV (op : BinOp) (k : IntKind) (x y : Int) : Option Int :=
 match op with
 | .and => some (k.wrap (BitVec.toNat (BitVec.ofInt k.bits x &&& BitVec.ofInt k.bits y)))
 | .or => some (k.wrap (BitVec.toNat (BitVec.ofInt k.bits x ||| BitVec.ofInt k.bits y)))
 | .xor => some (k.wrap (BitVec.toNat (BitVec.ofInt k.bits x ^^^ BitVec.ofInt k.bits y)))
 | .andNot => some (k.wrap (BitVec.toNat (BitVec.ofInt k.bits x &&& ~~~(BitVec.ofInt k.bits y))))
 | _ => none
def binInt (op : BinOp) (k : IntKind) (x y : Int) : Option V :=
 match op with
 | .add => some (.int k (k.wrap (x + y)))
 | .sub => some (.int k (k.wrap (x - y)))
 | .mul => some (.int k (k.wrap (x * y)))
 | .quo => if y = 0 then none else some (.int k (k.wrap (x.tdiv y)))
 | .rem => if y = 0 then none else some (.int k (x.tmod y))
 | .eql => some (.bool (x == y))
 | .neq => some (.bool (x != y))
 | .lss => some (.bool (decide (x < y)))
 | .leq => some (.bool (decide (x ≤ y)))
 | .gtr => some (.bool (decide (x > y)))
 | .geq => some (.bool (decide (x ≥ y)))
 | op => (bitsV op k x y).map (.int k)
def binStr (op : BinOp) (x y : ByteArray) : Option V :=
 match op with
 | .add => if ((x.size + y.size : Nat) : Int) > IntKind.i64.max then none else some (.str (x ++ y))
 | .eql => some (.bool (x.toList == y.toList))
 | .neq => some (.bool !(x.toList == y.toList))
 | .lss => some (.bool (Op.bytesLess x.toList y.toList))
 | .leq => some (.bool (Op.bytesLess x.toList y.toList || x.toList == y.toList))
 | .gtr => some (.bool !(Op.bytesLess x.toList y.toList || x.toList == y.toList))
 | .geq => some (.bool !(Op.bytesLess x.toList y.toList))
 | _ => none
def Ab.bin (op : BinOp) : Ab → V → Option V
 | .str _, .str _ => match op with
  | .eql => some (.abs .bool)
  | .neq => some (.abs .bool)
  | _ => none
 | .res k m r most, .int k' c => match op with
  | .add => if k = k' ∧ 0 ≤ c ∧ k.wrap ((most + c.toNat : Nat) : Int) = ((most + c.toNat : Nat) : Int) then some (.abs (.res k m ((r + c.toNat) % m) (most + c.toNat))) else none
  | .rem => if k = k' ∧ c = (m : Int) ∧ 0 < m then some (.int k (r : Int)) else none
  | _ => none
 | _, _ => none
def Ab.cmp (op : BinOp) (k k' : IntKind) : Option V := if k = k' then (match op with
 | .eql => some (.abs .bool)
 | .neq => some (.abs .bool)
 | .lss => some (.abs .bool)
 | .leq => some (.abs .bool)
 | .gtr => some (.abs .bool)
 | .geq => some (.abs .bool)
 | _ => none) else none
def V.bin (op : BinOp) : V → V → Option V
 | .abs a, v => Ab.bin op a v
 | .int k _, .abs (.int k') => Ab.cmp op k k'
 | .int k a, .int k' b =>
  match op with
  | .shl => if b < 0 then none else some (.int k (k.wrap (a * 2 ^ (min b.toNat k.bits))))
  | .shr => if b < 0 then none else some (.int k (a.fdiv (2 ^ (min b.toNat k.bits))))
  | _ => if k = k' then binInt op k a b else none
 | .str a, .str b => binStr op a b
 | _, _ => none
def V.eq (k : TK) : V → V → Option Bool
 | .bool a, .bool b => if k = .bool then some (a == b) else none
 | .ptr none, .ptr q => if k = .ptr then some q.isNone else none
 | .ptr (some _), .ptr none => if k = .ptr then some false else none
 | .ptr (some (i, o)), .ptr (some (j, p)) => if k = .ptr ∧ i = j then some (o == p) else none
 | .ptr none, .eptr _ => if k = .ptr then some false else none
 | .eptr _, .ptr none => if k = .ptr then some false else none
 | .sl _ _ _ s, .sl _ _ _ t => if k = .slice then (if s = .nil then some (t == .nil) else if t = .nil then some false else none) else none
 | .msl .., .sl _ _ _ t => if k = .slice ∧ t = .nil then some false else none
 | .map none, .map q => if k = .map then some q.isNone else none
 | .map (some _), .map none => if k = .map then some false else none
 | .nilFunc, .nilFunc => if k = .func then some true else none
 | .nilFunc, .func .. => if k = .func then some false else none
 | .func .., .nilFunc => if k = .func then some false else none
 | .nilIface, .iface .. => if k = .iface then some false else none
 | .iface .., .nilIface => if k = .iface then some false else none
 | _, _ => none
def V.un (op : UnOp) : V → Option V
 | .int k n => match op with
  | .neg => some (.int k (k.wrap (0 - n)))
  | .xor => (bitsV .xor k (if k.signed then -1 else k.max) n).map (.int k)
  | _ => none
 | .bool b => match op with
  | .not => some (.bool !b)
  | _ => none
 | _ => none
def bytesOf : List V → Option (List UInt8)
 | [] => some []
 | .int .u8 n :: r => (bytesOf r).map (UInt8.ofNat n.toNat :: ·)
 | _ => none
def St.cells (S : St) (i : Nat) : Option (List V) :=
 match S.hp i with
 | some (.cells cs) => some cs
 | _ => none
def takeC (agg : Bool) (sz : Nat) (cs : List V) : Option V :=
 if agg then (if sz ≤ cs.length then some (.agg (cs.take sz)) else none) else cs.head?
def V.elems (S : St) (sz : Nat) : V → Option (Nat × List V)
 | .sl cs n sz' t => if t = .nil then some (0, []) else if sz' = sz then some (n, cs) else none
 | .msl o off n sz' => if sz' = sz then (S.cells o).bind fun cs => if off + n * sz ≤ cs.length then some (n, (cs.drop off).take (n * sz)) else none else none
 | .str s => if sz = 1 then some (s.size, s.data.toList.map fun b => .int .u8 b.toNat) else none
 | _ => none
def V.conv (S : St) : Cv → V → Option V
 | .same, .str s => some (.str s)
 | .int k, .int _ n => some (.int k (k.wrap n))
 | .int k, .abs (.res _ m r most) => if k.wrap (most : Int) = (most : Int) then some (.abs (.res k m r most)) else none
 | .intStr, .int _ n => some (.str (Utf8.encode n))
 | .bytesStr, .str _ => none
 | .bytesStr, v => (v.elems S 1).bind fun q => (bytesOf q.2).map fun l => .str ⟨l.toArray⟩
 | _, _ => none
def V.idx : V → Option Nat
 | .int _ n => if 0 ≤ n then some n.toNat else none
 | _ => none
def bounds (fr : Fr) (len : Nat) (lo hi : Option Arg) : Option (Nat × Nat) := do
 let h ← match hi with | some a => (a.ev fr).idx | none => some len
 let l ← match lo with | some a => (a.ev fr).idx | none => some 0
 if l ≤ h ∧ h ≤ len then some (l, h) else none
def sliceV (fr : Fr) (sz : Nat) (lo hi mx : Option Arg) : V → Option V
 | .sl cs n sz' t => (bounds fr n lo hi).bind fun q =>
  if t = .nil then (if mx.isSome then (if (mx.bind fun a => (a.ev fr).idx) = some q.2 then some (.sl cs n sz' t) else none) else some (.sl cs n sz' t))
  else if sz' ≠ sz then none
  else
   let cut := (cs.drop (q.1 * sz)).take ((q.2 - q.1) * sz)
   match mx with
   | some a => if (a.ev fr).idx = some q.2 then some (.sl cut (q.2 - q.1) sz .cap) else none
   | none => some (.sl cut (q.2 - q.1) sz (if q.2 = n then t else .no))
 | .msl o off n sz' => (bounds fr n lo hi).bind fun q =>
  if sz' ≠ sz ∨ mx.isSome then none
  else if q.2 = q.1 then some (.sl [] 0 sz .no)
  else some (.msl o (off + q.1 * sz) (q.2 - q.1) sz)
 | _ => none
def splice (cs : List V) (off : Nat) (xs : List V) : List V := cs.take off ++ xs ++ cs.drop (off + xs.length)
def fillV (fr : Fr) (zero : List V) : List (Nat × Nat × Arg) → Option (List V)
 | [] => some zero
 | (off, sz, x) :: r =>
  let xs := (x.ev fr).cells
  if xs.length = sz ∧ off + sz ≤ zero.length ∧ xs.all V.one = true then fillV fr (splice zero off xs) r else none
def V.keyEq (kk : KK) : V → V → Option Bool
 | .int k a, .int k' b => if kk = .int ∧ k = k' then some (a == b) else none
 | .str a, .str b => if kk = .str then some (a == b) else none
 | .bool a, .bool b => if kk = .bool then some (a == b) else none
 | _, _ => none
def eqLs : List KK → List V → List V → Option Bool
 | [], [], [] => some true
 | k :: ks, c :: cs, d :: ds => match V.keyEq k c d with
  | some true => eqLs ks cs ds
  | some false => some false
  | none => none
 | _, _, _ => none
def eqA (ks : List KK) : V → V → Option Bool
 | .agg cs, .agg ds => if cs.length = ks.length ∧ ds.length = ks.length then eqLs ks cs ds else none
 | _, _ => none
def findE (kk : KK) (k : V) : List (V × V × Nat) → Nat → Option (Option (Nat × V))
 | [], _ => some none
 | e :: r, i => match k.keyEq kk e.1 with
  | some true => some (some (i, e.2.1))
  | some false => findE kk k r (i + 1)
  | none => none
def V.isKey (kk : KK) : V → Bool
 | .int _ _ => kk == .int
 | .str _ => kk == .str
 | .bool _ => kk == .bool
 | _ => false
def minmaxV (isMax : Bool) : V → V → Option V
 | .int k x, .int k' y => if k = k' then some (.int k (if isMax then (if y > x then y else x) else (if y < x then y else x))) else none
 | _, _ => none
def minmaxL (isMax : Bool) : V → List V → Option V
 | x, [] => some x
 | x, y :: r => (minmaxV isMax x y).bind fun z => minmaxL isMax z r
def aF (i : FI) (fr : Fr) (S : St) : Option V :=
 match i with
 | .mv x => some (x.ev fr)
 | .pick c a b => match c.ev fr with
  | .bool true => some (a.ev fr)
  | .bool false => some (b.ev fr)
  | _ => none
 | .nilCheck x => match x.ev fr with
  | .ptr (some p) => some (.ptr (some p))
  | .eptr cs => some (.eptr cs)
  | _ => none
 | .bin op x y => V.bin op (x.ev fr) (y.ev fr)
 | .eq neg k x y => (V.eq k (x.ev fr) (y.ev fr)).map fun b => .bool (if neg then !b else b)
 | .eqA neg ks x y => (eqA ks (x.ev fr) (y.ev fr)).map fun b => .bool (if neg then !b else b)
 | .un op x => V.un op (x.ev fr)
 | .conv c x => V.conv S c (x.ev fr)
 | .fieldAddr off x => match x.ev fr with
  | .ptr (some (i, o)) => some (.ptr (some (i, o + off)))
  | .eptr cs => some (.eptr (cs.drop off))
  | _ => none
 | .field agg off sz x => match x.ev fr with
  | .agg cs => takeC agg sz (cs.drop off)
  | _ => none
 | .indexAddr sz x i => match x.ev fr, (i.ev fr).idx with
  | .sl cs n sz' t, some j => if j < n ∧ sz' = sz ∧ t ≠ .nil then some (.eptr (cs.drop (j * sz))) else none
  | .msl o off n sz', some j => if j < n ∧ sz' = sz then some (.ptr (some (o, off + j * sz))) else none
  | _, _ => none
 | .indexAddrA len sz x i => match x.ev fr, (i.ev fr).idx with
  | .ptr (some (o, off)), some j => if j < len then some (.ptr (some (o, off + j * sz))) else none
  | .eptr cs, some j => if j < len then some (.eptr (cs.drop (j * sz))) else none
  | _, _ => none
 | .indexS x i => match x.ev fr, (i.ev fr).idx with
  | .str s, some j => (s[j]?).map fun b => .int .u8 b.toNat
  | _, _ => none
 | .indexA agg len sz x i => match x.ev fr, (i.ev fr).idx with
  | .agg cs, some j => if j < len then takeC agg sz (cs.drop (j * sz)) else none
  | _, _ => none
 | .load agg sz a => match a.ev fr with
  | .ptr (some (i, off)) => (S.cells i).bind fun cs => takeC agg sz (cs.drop off)
  | .eptr cs => takeC agg sz cs
  | _ => none
 | .len .str x => match x.ev fr with
  | .str s => some (.int .i64 s.size)
  | _ => none
 | .len .sl x => match x.ev fr with
  | .sl _ n _ _ => some (.int .i64 n)
  | .msl _ _ n _ => some (.int .i64 n)
  | _ => none
 | .len .map x => match x.ev fr with
  | .map none => some (.int .i64 0)
  | .map (some r) => match S.hp r with
   | some (.map es _) => some (.int .i64 es.length)
   | _ => none
  | _ => none
 | .sliceS x lo hi => match x.ev fr with
  | .str s => (bounds fr s.size lo hi).map fun q => .str (s.extract q.1 q.2)
  | _ => none
 | .slice sz x lo hi mx => sliceV fr sz lo hi mx (x.ev fr)
 | .build zero parts => (fillV fr zero parts).map .agg
 | .mkIface t x => some (.iface t (x.ev fr))
 | .mkFunc f pre cap => some (.func f (pre.map (Arg.ev fr)) (cap.map (Arg.ev fr)))
 | .extract x i => match x.ev fr with
  | .tup vs => vs[i]?
  | _ => none
 | .lookup kk ok zero m k => match m.ev fr with
  | .map none => if (k.ev fr).isKey kk then some (if ok then .tup [zero, .bool false] else zero) else none
  | .map (some r) => match S.hp r with
   | some (.map es _) => if (k.ev fr).isKey kk then (findE kk (k.ev fr) es 0).map fun
    | some (_, v) => if ok then .tup [v, .bool true] else v
    | none => if ok then .tup [zero, .bool false] else zero
    else none
   | _ => none
  | _ => none
 | .entry it => match it.ev fr with
  | .iter j => match S.hp j with
   | some (.iter (some r) _ seen last) => match S.hp r with
    | some (.map es c) => if c = last then seen.getLast?.bind fun b => (es.find? fun e => e.2.2 == b).map fun e => .tup [e.1, e.2.1] else none
    | _ => none
   | _ => none
  | _ => none
 | .assertT t ok zero x => match x.ev fr with
  | .iface t' v => if t' = t then some (if ok then .tup [v, .bool true] else v) else if ok then some (.tup [zero, .bool false]) else none
  | .nilIface => if ok then some (.tup [zero, .bool false]) else none
  | _ => none
 | .minmax isMax xs => match xs with
  | [] => none
  | x :: r => minmaxL isMax (x.ev fr) (r.map (Arg.ev fr))
inductive AEnd
 | ret (v : V)
 | pan (v : V)
abbrev Cl := FuncId → List V → St → (AEnd → St → Prop) → Prop
def roomOk (n bytes : Nat) : Bool := decide (n * bytes ≤ 140737488355328)
def grown (S : St) (mu : Bool) (cs : List V) (n sz : Nat) : V × St :=
 if mu then (.msl S.n 0 n sz, S.add (.cells cs)) else (.sl cs n sz (.at S.n), S.add .tok)
def appendTo (S : St) (sz bytes : Nat) (mu : Bool) (m : Nat) (xs : List V) : V → Option (V × St)
 | .sl cs n sz' t =>
  if (t ≠ .nil ∧ sz' ≠ sz) ∨ xs.length ≠ m * sz ∨ roomOk (n + m) bytes = false then none
  else match t with
   | .nil => if m = 0 then some (.sl cs n sz' .nil, S) else some (grown S mu (cs ++ xs) (n + m) sz)
   | .cap => if m = 0 then some (.sl cs n sz' .cap, S) else some (grown S mu (cs ++ xs) (n + m) sz)
   | .at k => if mu then none else match S.hp k with
    | some .tok => some (grown (S.kill k) false (cs ++ xs) (n + m) sz)
    | _ => none
   | .no => if m = 0 then some (.sl cs n sz' .no, S) else none
 | .msl o off n sz' =>
  if sz' ≠ sz ∨ xs.length ≠ m * sz ∨ roomOk (n + m) bytes = false then none
  else (S.cells o).bind fun cs =>
   if off + n * sz ≤ cs.length then some (grown (S.kill o) mu ((cs.drop off).take (n * sz) ++ xs) (n + m) sz) else none
 | _ => none
def wE (cl : Cl) (i : EI) (fr : Fr) (S : St) (K : V → St → Prop) (Kp : V → St → Prop) : Prop :=
 match i with
 | .alloc zero => K (.ptr (some (S.n, 0))) (S.add (.cells zero))
 | .box x => ((x.ev fr).cells.all V.one = true) ∧ K (.ptr (some (S.n, 0))) (S.add (.cells (x.ev fr).cells))
 | .buildSlice n sz how zero parts =>
  match fillV fr zero parts with
  | some cs => match how with
   | 0 => K (.sl cs n sz .cap) S
   | 1 => K (.msl S.n 0 n sz) (S.add (.cells cs))
   | _ => K (.sl cs n sz (.at S.n)) (S.add .tok)
  | none => False
 | .store sz a x =>
  match a.ev fr with
  | .ptr (some (i, off)) =>
   match S.cells i with
   | some cs => (x.ev fr).cells.length = sz ∧ (x.ev fr).cells.all V.one = true ∧ off + sz ≤ cs.length ∧ K (.tup []) (S.set i (.cells (splice cs off (x.ev fr).cells)))
   | none => False
  | _ => False
 | .append sz bytes mu s x =>
  match (x.ev fr).elems S sz with
  | some (m, xs) => match appendTo S sz bytes mu m xs (s.ev fr) with
   | some (v, S') => K v S'
   | none => False
  | none => False
 | .copy sz d s =>
  match (s.ev fr).elems S sz, d.ev fr with
  | some (m, xs), .msl o off n sz' =>
   match S.cells o with
   | some cs => sz' = sz ∧ off + n * sz ≤ cs.length ∧ K (.int .i64 ((min m n : Nat))) (S.set o (.cells (splice cs off (xs.take (min m n * sz)))))
   | none => False
  | some (m, _), .sl _ n _ _ => min m n = 0 ∧ K (.int .i64 0) S
  | _, _ => False
 | .makeSlice sz bytes mu zero len cap =>
  match (len.ev fr).idx, (cap.ev fr).idx with
  | some n, some c =>
   if n ≤ c ∧ roomOk c bytes = true then
    if mu then (n = c ∧ K (.msl S.n 0 n sz) (S.add (.cells ((List.replicate n zero).flatten))))
    else if n = c then K (.sl ((List.replicate n zero).flatten) n sz .cap) S
    else K (.sl ((List.replicate n zero).flatten) n sz (.at S.n)) (S.add .tok)
   else False
  | _, _ => False
 | .makeMap => K (.map (some S.n)) (S.add (.map [] 0))
 | .mapSet kk m k v =>
  match m.ev fr with
  | .map (some r) => match S.hp r with
   | some (.map es c) => (v.ev fr).one = true ∧ (k.ev fr).isKey kk = true ∧ match findE kk (k.ev fr) es 0 with
    | some (some (i, _)) => K (.tup []) (S.set r (.map (es.modify i fun e => (k.ev fr, v.ev fr, e.2.2)) c))
    | some none => K (.tup []) (S.set r (.map (es ++ [(k.ev fr, v.ev fr, c)]) (c + 1)))
    | none => False
   | _ => False
  | _ => False
 | .delete kk m k =>
  match m.ev fr with
  | .map none => (k.ev fr).isKey kk = true ∧ K (.tup []) S
  | .map (some r) => match S.hp r with
   | some (.map es c) => (k.ev fr).isKey kk = true ∧ match findE kk (k.ev fr) es 0 with
    | some (some (i, _)) => K (.tup []) (S.set r (.map (es.eraseIdx i) c))
    | some none => K (.tup []) S
    | none => False
   | _ => False
  | _ => False
 | .range x =>
  match x.ev fr with
  | .map none => K (.iter S.n) (S.add (.iter none 0 [] 0))
  | .map (some r) => match S.hp r with
   | some (.map _ c) => K (.iter S.n) (S.add (.iter (some r) c [] c))
   | _ => False
  | _ => False
 | .next it =>
  match it.ev fr with
  | .iter j => match S.hp j with
   | some (.iter none _ _ _) => K (.tup [.bool false]) S
   | some (.iter (some r) since seen last) => match S.hp r with
    | some (.map es c) =>
     -- a map that isn't written while it is gone through
     last = since ∧ c = since ∧ (∀ e ∈ es, e.2.2 < since) ∧
     ((es.all fun e => seen.contains e.2.2) = true → K (.tup [.bool false]) S) ∧
     (∀ e ∈ es, seen.contains e.2.2 = false → K (.tup [.bool true, e.1, e.2.1]) (S.set j (.iter (some r) since (seen ++ [e.2.2]) c)))
    | _ => False
   | _ => False
  | _ => False
 | .strBytes x =>
  match x.ev fr with
  | .str s => K (.sl (s.data.toList.map fun b => .int .u8 b.toNat) s.size 1 (.at S.n)) (S.add .tok)
  | _ => False
 | .bytesSame x =>
  match x.ev fr with
  | .sl cs n sz (.at k) => S.hp k = some .tok ∧ K (.sl cs n sz (.at k)) S
  | _ => False
 | .frz x =>
  match x.ev fr with
  | .msl o off n sz => match S.cells o with
   | some cs => off + n * sz ≤ cs.length ∧ K (.sl ((cs.drop off).take (n * sz)) n sz (.at S.n)) ((S.kill o).add .tok)
   | none => False
  | .sl cs n sz t => K (.sl cs n sz t) S
  | _ => False
 | .call f args => cl f (args.map (Arg.ev fr)) S fun
  | .ret v, S' => K v S'
  | .pan v, S' => Kp v S'
 | .callV x args =>
  match x.ev fr with
  | .func f pre cap => cl f (pre ++ args.map (Arg.ev fr) ++ cap) S fun
   | .ret v, S' => K v S'
   | .pan v, S' => Kp v S'
  | _ => False
 | .panic x =>
  match x.ev fr with
  | .iface t v => Kp (.iface t v) S
  | _ => False
def V.light : V → Option Bool
 | .abs _ => none
 | .poison => none
 | _ => some false
def wanted (fr : Fr) : Option (Nat × Bool) → Option Bool
 | none => some true
 | some (t, want) => match fr t with
  | .bool b => some (b == want)
  | v => v.light
def wItem (cl : Cl) (x : Item) (fr : Fr) (S : St) (K : Fr → St → Prop) (Kp : V → St → Prop) : Prop :=
 match x with
 | .run o => match wanted fr o.g with
  | some true => match o.i with
   | .f i => match aF i fr S with
    | some v => K (fr.put o.dst v) S
    | none => False
   | .e i => wE cl i fr S (fun v S' => K (fr.put o.dst v) S') Kp
  | some false => K (fr.put o.dst (.tup [])) S
  | none => False
 | .chk d g i => match wanted fr g with
  | some true => aF i fr S = some (fr d) ∧ K fr S
  | some false => K fr S
  | none => False
def wItems (cl : Cl) : List Item → Fr → St → (Fr → St → Prop) → (V → St → Prop) → Prop
 | [], fr, S, K, _ => K fr S
 | x :: r, fr, S, K, Kp => wItem cl x fr S (fun fr' S' => wItems cl r fr' S' K Kp) Kp
inductive AExit
 | normal
 | exit (id : Nat)
 | ret
 | panic (v : V)
abbrev CPost := AExit → Fr → St → Prop
def thenQ (K : Fr → St → Prop) (Q : CPost) : CPost
 | .normal, fr, S => K fr S
 | e, fr, S => Q e fr S
def blkQ (id : Nat) (Q : CPost) : CPost
 | .exit i, fr, S => if i = id then Q .normal fr S else Q (.exit i) fr S
 | e, fr, S => Q e fr S
def Loop (body : Fr → St → CPost → Prop) (Q : CPost) (fr : Fr) (S : St) : Prop :=
 ∀ L : Fr → St → Prop, (∀ fr S, body fr S (thenQ L Q) → L fr S) → L fr S
def wCode (cl : Cl) : Cd → Fr → St → CPost → Prop
 | .skip, fr, S, Q => Q .normal fr S
 | .reg _ items, fr, S, Q => wItems cl items fr S (Q .normal) (fun v S' => Q (.panic v) fr S')
 | .seq a b, fr, S, Q => wCode cl a fr S (thenQ (fun fr' S' => wCode cl b fr' S' Q) Q)
 | .ite c a b, fr, S, Q => match c.ev fr with
  | .bool true => wCode cl a fr S Q
  | .bool false => wCode cl b fr S Q
  | .abs .bool => wCode cl a fr S Q ∧ wCode cl b fr S Q
  | _ => False
 | .blk id c, fr, S, Q => wCode cl c fr S (blkQ id Q)
 | .loop c, fr, S, Q => Loop (fun fr S Q => wCode cl c fr S Q) Q fr S
 | .exit id, fr, S, Q => Q (.exit id) fr S
 | .ret, fr, S, Q => Q .ret fr S
 | .alt _ _ a b, fr, S, Q => wCode cl a fr S Q ∧ wCode cl b fr S Q
 | .stuck, _, _, _ => False
def readRV (fr : Fr) (S : St) : RV → Option V
 | .tmp t => some (fr t)
 | .cell t agg sz => aF (.load agg sz (.t t)) fr S
def readRes (fr : Fr) (S : St) : List RV → Option V
 | [] => some (.tup [])
 | [r] => readRV fr S r
 | rs => (rs.mapM (readRV fr S)).map .tup
def frame0 (args : List V) : Fr := fun i => args.getD i (.tup [])
def bodyQ (fc : FnC) (Q : AEnd → St → Prop) : CPost
 | .normal, fr, S | .ret, fr, S => match readRes fr S fc.res with
  | some v => Q (.ret v) S
  | none => False
 | .panic v, _, S => Q (.pan v) S
 | .exit _, _, _ => False
structure Pg where
 code : FuncId → Option FnC
 prim : FuncId → Option (List V → St → (AEnd → St → Prop) → Prop)
def wStep (p : Pg) (cl : Cl) : Cl := fun f args S Q =>
 match p.prim f with
 | some w => w args S Q
 | none => match p.code f with
  | some fc => wCode cl fc.body (frame0 args) S (bodyQ fc Q)
  | none => False
def Runs (p : Pg) : Cl := fun f args S Q =>
 ∀ R : Cl, (∀ f args S Q, wStep p R f args S Q → R f args S Q) → R f args S Q
end Go.VM
namespace Go.VM
open Go
def ClLe (cl cl' : Cl) : Prop := ∀ f args S (Q Q' : AEnd → St → Prop), (∀ e S, Q e S → Q' e S) → cl f args S Q → cl' f args S Q'
section
variable {cl cl' : Cl}
theorem wE_mono (h : ClLe cl cl') (i : EI) (fr : Fr) (S : St) {K K' Kp Kp' : V → St → Prop} (hK : ∀ v S, K v S → K' v S) (hp : ∀ v S, Kp v S → Kp' v S) :
  wE cl i fr S K Kp → wE cl' i fr S K' Kp' := by
 cases i <;> simp only [wE]
 case alloc => exact hK _ _
 case box => exact fun ⟨a, b⟩ => ⟨a, hK _ _ b⟩
 case buildSlice => split <;> (try exact id); split <;> exact hK _ _
 case store => split <;> (try exact id); split <;> (try exact id); exact fun ⟨a, b, c, d⟩ => ⟨a, b, c, hK _ _ d⟩
 case append => split <;> (try exact id); split <;> (try exact id); exact hK _ _
 case copy => split <;> (try exact id); (split <;> (try exact id)); exact fun ⟨a, b, d⟩ => ⟨a, b, hK _ _ d⟩; exact fun ⟨a, d⟩ => ⟨a, hK _ _ d⟩
 case makeSlice =>
  split <;> (try exact id)
  split <;> (try exact id)
  split
  ·exact fun ⟨a, b⟩ => ⟨a, hK _ _ b⟩
  ·split <;> exact hK _ _
 case makeMap => exact hK _ _
 case mapSet =>
  split <;> (try exact id)
  split <;> (try exact id)
  refine fun ⟨a, b, c⟩ => ⟨a, b, ?_⟩
  revert c
  split <;> first | exact id | exact hK _ _
 case delete =>
  split <;> (try exact id)
  ·exact fun ⟨a, b⟩ => ⟨a, hK _ _ b⟩
  split <;> (try exact id)
  refine fun ⟨b, c⟩ => ⟨b, ?_⟩
  revert c
  split <;> first | exact id | exact hK _ _
 case range =>
  split <;> (try exact id)
  ·exact hK _ _
  split <;> first | exact id | exact hK _ _
 case next =>
  split <;> (try exact id)
  split <;> (try exact id)
  ·exact hK _ _
  split <;> (try exact id)
  exact fun ⟨z, a, b, c, d⟩ => ⟨z, a, b, fun x => hK _ _ (c x), fun e he hs => hK _ _ (d e he hs)⟩
 case strBytes => split <;> first | exact id | exact hK _ _
 case bytesSame => split <;> first | exact id | exact fun ⟨a, b⟩ => ⟨a, hK _ _ b⟩
 case frz => split <;> (try exact id); (split <;> first | exact id | exact fun ⟨a, b⟩ => ⟨a, hK _ _ b⟩); exact hK _ _
 case call => exact h _ _ _ _ _ fun e S he => by cases e <;> first | exact hK _ _ he | exact hp _ _ he
 case callV => split <;> first | exact id | exact h _ _ _ _ _ fun e S he => by cases e <;> first | exact hK _ _ he | exact hp _ _ he
 case panic => split <;> first | exact id | exact hp _ _
theorem wItem_mono (h : ClLe cl cl') (x : Item) (fr : Fr) (S : St) {K K' : Fr → St → Prop} {Kp Kp' : V → St → Prop} (hK : ∀ v S, K v S → K' v S) (hp : ∀ v S, Kp v S → Kp' v S) :
  wItem cl x fr S K Kp → wItem cl' x fr S K' Kp' := by
 cases x with
 | run o =>
  simp only [wItem]
  split <;> (try exact id)
  ·split
   ·split <;> first | exact id | exact hK _ _
   ·exact wE_mono h _ _ _ (fun _ _ => hK _ _) hp
  ·exact hK _ _
 | chk d g i =>
  simp only [wItem]
  split <;> (try exact id)
  ·exact fun ⟨a, b⟩ => ⟨a, hK _ _ b⟩
  ·exact hK _ _
theorem wItems_mono (h : ClLe cl cl') : ∀ (l : List Item) (fr : Fr) (S : St) {K K' : Fr → St → Prop} {Kp Kp' : V → St → Prop} (_ : ∀ v S, K v S → K' v S) (_ : ∀ v S, Kp v S → Kp' v S),
  wItems cl l fr S K Kp → wItems cl' l fr S K' Kp'
 | [], _, _, _, _, _, _, hK, _ => hK _ _
 | x :: r, fr, S, _, _, _, _, hK, hp => wItem_mono h x fr S (fun _ _ => wItems_mono h r _ _ hK hp) hp
theorem thenQ_mono {K K' : Fr → St → Prop} {Q Q' : CPost} (hK : ∀ fr S, K fr S → K' fr S) (hQ : ∀ e fr S, Q e fr S → Q' e fr S) : ∀ e fr S, thenQ K Q e fr S → thenQ K' Q' e fr S := by
 intro e fr S
 cases e <;> simp only [thenQ] <;> first | exact hK _ _ | exact hQ _ _ _
theorem blkQ_mono {id : Nat} {Q Q' : CPost} (hQ : ∀ e fr S, Q e fr S → Q' e fr S) : ∀ e fr S, blkQ id Q e fr S → blkQ id Q' e fr S := by
 intro e fr S
 cases e <;> simp only [blkQ] <;> (try exact hQ _ _ _)
 split <;> exact hQ _ _ _
theorem Loop_mono {b b' : Fr → St → CPost → Prop} (hb : ∀ fr S (Q Q' : CPost), (∀ e fr S, Q e fr S → Q' e fr S) → b fr S Q → b' fr S Q') {Q Q' : CPost} (hQ : ∀ e fr S, Q e fr S → Q' e fr S) (fr : Fr) (S : St) :
  Loop b Q fr S → Loop b' Q' fr S := by
 intro h L hL
 exact h L fun fr S hh => hL fr S (hb fr S _ _ (thenQ_mono (fun _ _ => id) hQ) hh)
theorem wCode_mono (h : ClLe cl cl') : ∀ (c : Cd) (fr : Fr) (S : St) (Q Q' : CPost), (∀ e fr S, Q e fr S → Q' e fr S) → wCode cl c fr S Q → wCode cl' c fr S Q' := by
 intro c
 induction c with
 | skip => exact fun fr S Q Q' hQ => hQ _ _ _
 | reg id items => exact fun fr S Q Q' hQ => wItems_mono h items fr S (fun _ _ => hQ _ _ _) (fun _ _ => hQ _ _ _)
 | seq a b iha ihb => exact fun fr S Q Q' hQ => iha fr S _ _ (thenQ_mono (fun fr S => ihb fr S _ _ hQ) hQ)
 | ite c a b iha ihb =>
  intro fr S Q Q' hQ
  simp only [wCode]
  split
  ·exact iha fr S _ _ hQ
  ·exact ihb fr S _ _ hQ
  ·exact fun h => ⟨iha fr S _ _ hQ h.1, ihb fr S _ _ hQ h.2⟩
  ·exact id
 | blk id c ih => exact fun fr S Q Q' hQ => ih fr S _ _ (blkQ_mono hQ)
 | loop c ih => exact fun fr S Q Q' hQ => Loop_mono (fun fr S Q Q' => ih fr S Q Q') hQ fr S
 | exit id => exact fun fr S Q Q' hQ => hQ _ _ _
 | ret => exact fun fr S Q Q' hQ => hQ _ _ _
 | alt i j a b iha ihb => exact fun fr S Q Q' hQ h => ⟨iha fr S _ _ hQ h.1, ihb fr S _ _ hQ h.2⟩
 | stuck => exact fun fr S Q Q' hQ h => h
end
theorem Loop.fold {cl : Cl} (hcl : ClLe cl cl) {c : Cd} {Q : CPost} {fr : Fr} {S : St} (h : wCode cl c fr S (thenQ (fun fr S => wCode cl (.loop c) fr S Q) Q)) : wCode cl (.loop c) fr S Q := by
 intro L hL
 refine hL fr S (wCode_mono hcl c fr S _ _ (thenQ_mono (fun fr S hh => hh L hL) fun _ _ _ => id) h)
def PrimMono (p : Pg) : Prop := ∀ f w, p.prim f = some w → ∀ args S (Q Q' : AEnd → St → Prop), (∀ e S, Q e S → Q' e S) → w args S Q → w args S Q'
theorem bodyQ_mono (fc : FnC) {Q Q' : AEnd → St → Prop} (hQ : ∀ e S, Q e S → Q' e S) : ∀ e fr S, bodyQ fc Q e fr S → bodyQ fc Q' e fr S := by
 intro e fr S
 cases e <;> simp only [bodyQ] <;> (try exact id) <;> (try exact hQ _ _)
 all_goals (split <;> first | exact hQ _ _ | exact id)
theorem wStep_mono {p : Pg} (hp : PrimMono p) {cl cl' : Cl} (h : ClLe cl cl') : ClLe (wStep p cl) (wStep p cl') := by
 intro f args S Q Q' hQ
 unfold wStep
 split
 ·rename_i w hw
  exact hp f w hw args S Q Q' hQ
 ·split
  ·rename_i fc _
   exact wCode_mono h _ _ _ _ _ (bodyQ_mono fc hQ)
  ·exact id
section
variable {p : Pg} (hp : PrimMono p)
include hp
theorem Runs.mono {f : FuncId} {args : List V} {S : St} {Q Q' : AEnd → St → Prop} (hQ : ∀ e S, Q e S → Q' e S) (h : Runs p f args S Q) : Runs p f args S Q' := by
 intro R hR
 have key := h (fun f args S Q => ∀ Q', (∀ e S, Q e S → Q' e S) → R f args S Q') (fun f args S Q hh Q' hQ' => hR f args S Q' ?_)
 ·exact key Q' hQ
 ·exact wStep_mono hp (fun f args S Q Q' hQ hh => hh Q' hQ) f args S Q Q' hQ' hh
theorem Runs.le : ClLe (Runs p) (Runs p) := fun _ _ _ _ _ hQ h => Runs.mono hp hQ h
theorem Runs.fold {f : FuncId} {args : List V} {S : St} {Q : AEnd → St → Prop} (h : wStep p (Runs p) f args S Q) : Runs p f args S Q := by
 intro R hR
 refine hR f args S Q (wStep_mono hp (fun f args S Q Q' hQ hh => ?_) f args S Q Q (fun _ _ => id) h)
 exact (Runs.mono hp hQ hh) R hR
end
end Go.VM
namespace Go.VM
open Go Go.RowKit
structure G where
 ice : Nat → Nat → Option Value
 loc : Nat → Nat × Nat
 n : Nat
 bs : Nat → Nat
 nb : Nat
structure G.le (a b : G) : Prop where
 ice : ∀ k i v, a.ice k i = some v → b.ice k i = some v
 n : a.n ≤ b.n
 loc : ∀ i, i < a.n → b.loc i = a.loc i
 nb : a.nb ≤ b.nb
 bs : ∀ k, k < a.nb → b.bs k = a.bs k
theorem G.le.refl (a : G) : a.le a := ⟨fun _ _ _ h => h, Nat.le_refl _, fun _ _ => rfl, Nat.le_refl _, fun _ _ => rfl⟩
theorem G.le.trans {a b c : G} (h : a.le b) (k : b.le c) : a.le c :=
  ⟨fun x i v hh => k.ice x i v (h.ice x i v hh), Nat.le_trans h.n k.n, fun i hi => (k.loc i (Nat.lt_of_lt_of_le hi h.n)).trans (h.loc i hi), Nat.le_trans h.nb k.nb,
   fun x hx => (k.bs x (Nat.lt_of_lt_of_le hx h.nb)).trans (h.bs x hx)⟩
def Ones (us : List Value) : Prop := ∀ u ∈ us, u.oneCell' = true
def Iced (g : G) (b p : Nat) (us : List Value) : Prop := ∀ (j : Nat) (v : Value), us[j]? = some v → g.ice b (p + j) = some v
theorem Iced.mono {g g' : G} (h : g.le g') {b p : Nat} {us : List Value} (k : Iced g b p us) : Iced g' b p us := fun j v hv => h.ice _ _ _ (k j v hv)
theorem Iced.drop {g : G} {b p : Nat} {us : List Value} (k : Iced g b p us) (m : Nat) : Iced g b (p + m) (us.drop m) := fun j v hv => by
 rw [List.getElem?_drop] at hv
 have := k (m + j) v hv
 rwa [← Nat.add_assoc] at this
theorem Iced.take {g : G} {b p : Nat} {us : List Value} (k : Iced g b p us) (m : Nat) : Iced g b p (us.take m) := fun j v hv => by
 rw [List.getElem?_take] at hv
 split at hv
 ·exact k j v hv
 ·cases hv
mutual
def RelV (g : G) : V → Value → Prop
 | .bool b, u => u = .bool b
 | .int k n, u => u = .int k n
 | .str s, u => u = .string s
 | .ptr none, u => u = .pointer none
 | .ptr (some (i, o)), u => i < g.n ∧ u = .pointer (some ⟨(g.loc i).1, (g.loc i).2 + o, none⟩)
 | .eptr cs, u => ∃ b p us, u = .pointer (some ⟨b, p, none⟩) ∧ RelL g cs us ∧ Ones us ∧ Iced g b p us
 | .sl cs n sz t, u => cs.length = n * sz ∧ ((t = .nil ∧ n = 0 ∧ cs = [] ∧ u = .slice none 0 0) ∨ (t ≠ .nil ∧ ∃ b p cap us, u = .slice (some ⟨b, p, none⟩) n cap ∧ n ≤ cap ∧ RelL g cs us ∧ Ones us ∧ Iced g b p us ∧
   (t = .cap → cap = n) ∧ (∀ k, t = .at k → k < g.n ∧ (g.loc k).1 = b ∧ (n < cap → (g.loc k).2 = p + n * sz ∧ b < g.nb ∧ p + cap * sz ≤ g.bs b))) ∨ ((t = .no ∨ t = .cap) ∧ n = 0 ∧ cs = [] ∧ ∃ a, u = .slice (some a) 0 0))
 | .msl o off n sz, u => o < g.n ∧ ∃ cap, u = .slice (some ⟨(g.loc o).1, (g.loc o).2 + off, none⟩) n cap ∧ n ≤ cap ∧ (g.loc o).1 < g.nb ∧ (g.loc o).2 + off + cap * sz ≤ g.bs (g.loc o).1
 | .map none, u => u = .map none
 | .map (some r), u => r < g.n ∧ u = .map (some (g.loc r).1)
 | .iter r, u => r < g.n ∧ u = .pointer (some ⟨(g.loc r).1, 0, none⟩)
 | .func f pre cap, u => ∃ us ws : List Value, u = .func (.func f) us.toArray ws.toArray ∧ RelL g pre us ∧ RelL g cap ws
 | .nilFunc, u => u = .nilFunc
 | .iface t v, u => ∃ x, u = .iface t x ∧ RelV g v x
 | .nilIface, u => u = .nilIface
 | .agg cs, u => ∃ us : List Value, u = .agg us.toArray ∧ RelL g cs us ∧ Ones us
 | .tup cs, u => ∃ us : List Value, u = .tuple us.toArray ∧ RelL g cs us
 | .abs a, u => a.holds u
 | .poison, _ => True
def RelL (g : G) : List V → List Value → Prop
 | [], us => us = []
 | c :: cs, us => ∃ u r, us = u :: r ∧ RelV g c u ∧ RelL g cs r
end
mutual
theorem RelV_mono {g g' : G} (h : g.le g') : ∀ (v : V) (u : Value), RelV g v u → RelV g' v u
 | .bool b, u, k => k
 | .int _ _, u, k => k
 | .str _, u, k => k
 | .ptr none, u, k => k
 | .ptr (some (i, o)), u, k => by
  unfold RelV at k ⊢
  exact ⟨Nat.lt_of_lt_of_le k.1 h.n, by rw [h.loc i k.1]; exact k.2⟩
 | .eptr cs, u, k => by
  unfold RelV at k ⊢
  obtain ⟨b, p, us, e, r, o, c⟩ := k
  exact ⟨b, p, us, e, RelL_mono h cs us r, o, c.mono h⟩
 | .sl cs n sz t, u, k => by
  unfold RelV at k ⊢
  obtain ⟨hl, k⟩ := k
  refine ⟨hl, k.imp id (Or.imp ?_ id)⟩
  rintro ⟨ht, b, p, cap, us, e, hc, r, o, c, h1, h2⟩
  refine ⟨ht, b, p, cap, us, e, hc, RelL_mono h cs us r, o, c.mono h, h1, fun x hx => ?_⟩
  obtain ⟨h3, h30, h4⟩ := h2 x hx
  refine ⟨Nat.lt_of_lt_of_le h3 h.n, by rw [h.loc x h3]; exact h30, fun hn => ?_⟩
  obtain ⟨h5, h6, h7⟩ := h4 hn
  exact ⟨by rw [h.loc x h3]; exact h5, Nat.lt_of_lt_of_le h6 h.nb, by rw [h.bs b h6]; exact h7⟩
 | .msl o off n sz, u, k => by
  unfold RelV at k ⊢
  obtain ⟨ho, cap, e, hc, hb, hs⟩ := k
  refine ⟨Nat.lt_of_lt_of_le ho h.n, cap, ?_⟩
  rw [h.loc o ho, h.bs _ hb]
  exact ⟨e, hc, Nat.lt_of_lt_of_le hb h.nb, hs⟩
 | .map none, u, k => k
 | .map (some r), u, k => by
  unfold RelV at k ⊢
  exact ⟨Nat.lt_of_lt_of_le k.1 h.n, by rw [h.loc r k.1]; exact k.2⟩
 | .iter r, u, k => by
  unfold RelV at k ⊢
  exact ⟨Nat.lt_of_lt_of_le k.1 h.n, by rw [h.loc r k.1]; exact k.2⟩
 | .func f pre cap, u, k => by
  unfold RelV at k ⊢
  obtain ⟨us, ws, e, a, b⟩ := k
  exact ⟨us, ws, e, RelL_mono h pre us a, RelL_mono h cap ws b⟩
 | .nilFunc, u, k => k
 | .iface t v, u, k => by
  unfold RelV at k ⊢
  obtain ⟨x, e, a⟩ := k
  exact ⟨x, e, RelV_mono h v x a⟩
 | .nilIface, u, k => k
 | .agg cs, u, k => by
  unfold RelV at k ⊢
  obtain ⟨us, e, a, o⟩ := k
  exact ⟨us, e, RelL_mono h cs us a, o⟩
 | .tup cs, u, k => by
  unfold RelV at k ⊢
  obtain ⟨us, e, a⟩ := k
  exact ⟨us, e, RelL_mono h cs us a⟩
 | .abs _, u, k => k
 | .poison, u, _ => by unfold RelV; trivial
theorem RelL_mono {g g' : G} (h : g.le g') : ∀ (cs : List V) (us : List Value), RelL g cs us → RelL g' cs us
 | [], us, k => k
 | c :: cs, us, k => by
  unfold RelL at k ⊢
  obtain ⟨u, r, e, a, b⟩ := k
  exact ⟨u, r, e, RelV_mono h c u a, RelL_mono h cs r b⟩
end
theorem RelL_iff {g : G} : ∀ {cs : List V} {us : List Value}, RelL g cs us ↔ cs.length = us.length ∧ ∀ (j : Nat) (c : V) (u : Value), cs[j]? = some c → us[j]? = some u → RelV g c u
 | [], us => by
  unfold RelL
  constructor
  ·rintro rfl; exact ⟨rfl, fun j c u h => by simp at h⟩
  ·rintro ⟨h, _⟩; exact List.eq_nil_of_length_eq_zero h.symm
 | c :: cs, us => by
  unfold RelL
  constructor
  ·rintro ⟨u, r, rfl, a, b⟩
   obtain ⟨h1, h2⟩ := RelL_iff.1 b
   refine ⟨by simp [h1], fun j c' u' hc hu => ?_⟩
   cases j with
   | zero => simp at hc hu; subst hc; subst hu; exact a
   | succ j => simp at hc hu; exact h2 j c' u' hc hu
  ·rintro ⟨h1, h2⟩
   match us, h1 with
   | u :: r, h1 =>
    exact ⟨u, r, rfl, h2 0 c u (by simp) (by simp), RelL_iff.2 ⟨by simpa using h1, fun j c' u' hc hu => h2 (j + 1) c' u' (by simpa using hc) (by simpa using hu)⟩⟩
theorem RelL.len {g : G} {cs : List V} {us : List Value} (h : RelL g cs us) : cs.length = us.length := (RelL_iff.1 h).1
theorem RelL.at_ {g : G} {cs : List V} {us : List Value} (h : RelL g cs us) {j : Nat} {c : V} (hc : cs[j]? = some c) : ∃ u, us[j]? = some u ∧ RelV g c u := by
 have hl := h.len
 have hj := (List.getElem?_eq_some_iff.1 hc).1
 refine ⟨us[j]'(by omega), List.getElem?_eq_getElem (by omega), (RelL_iff.1 h).2 j c _ hc (List.getElem?_eq_getElem (by omega))⟩
theorem RelL.take {g : G} {cs : List V} {us : List Value} (h : RelL g cs us) (m : Nat) : RelL g (cs.take m) (us.take m) := by
 obtain ⟨h1, h2⟩ := RelL_iff.1 h
 refine RelL_iff.2 ⟨by simp [h1], fun j c u hc hu => ?_⟩
 rw [List.getElem?_take] at hc hu
 split at hc
 ·rename_i hj; rw [if_pos hj] at hu; exact h2 j c u hc hu
 ·cases hc
theorem RelL.drop {g : G} {cs : List V} {us : List Value} (h : RelL g cs us) (m : Nat) : RelL g (cs.drop m) (us.drop m) := by
 obtain ⟨h1, h2⟩ := RelL_iff.1 h
 refine RelL_iff.2 ⟨by simp [h1], fun j c u hc hu => ?_⟩
 rw [List.getElem?_drop] at hc hu
 exact h2 _ c u hc hu
theorem RelL.append {g : G} : ∀ {cs : List V} {us : List Value} {ds : List V} {ws : List Value}, RelL g cs us → RelL g ds ws → RelL g (cs ++ ds) (us ++ ws)
 | [], us, ds, ws, h, k => by unfold RelL at h; subst h; exact k
 | c :: cs, us, ds, ws, h, k => by
  unfold RelL at h
  obtain ⟨u, r, rfl, a, b⟩ := h
  exact ⟨u, r ++ ws, rfl, a, RelL.append b k⟩
theorem Ones.take {us : List Value} (h : Ones us) (m : Nat) : Ones (us.take m) := fun u hu => h u (List.mem_of_mem_take hu)
theorem Ones.drop {us : List Value} (h : Ones us) (m : Nat) : Ones (us.drop m) := fun u hu => h u (List.mem_of_mem_drop hu)
theorem Ones.append {us ws : List Value} (h : Ones us) (k : Ones ws) : Ones (us ++ ws) := fun u hu => by
 rcases List.mem_append.1 hu with hu | hu
 ·exact h u hu
 ·exact k u hu
theorem Ab.holds_one {a : Ab} {u : Value} (h : a.holds u) : u.oneCell' = true := by
 cases a
 ·exact h
 ·obtain ⟨b, rfl⟩ := h; rfl
 ·obtain ⟨s, rfl, _⟩ := h; rfl
 ·obtain ⟨n, rfl, _⟩ := h; rfl
 ·obtain ⟨n, rfl, _⟩ := h; rfl
theorem one_rel {g : G} {v : V} {u : Value} (h : RelV g v u) (h1 : v.one = true) : u.oneCell' = true := by
 cases v <;> simp [V.one] at h1 <;> (try (unfold RelV at h)) <;> (try subst h) <;> try rfl
 case abs a => exact Ab.holds_one h
 case ptr p =>
  cases p with
  | none => unfold RelV at h; subst h; rfl
  | some q => obtain ⟨i, o⟩ := q; unfold RelV at h; obtain ⟨_, rfl⟩ := h; rfl
 case eptr => obtain ⟨_, _, _, rfl, _⟩ := h; rfl
 case sl =>
  obtain ⟨_, h⟩ := h
  rcases h with ⟨_, _, _, rfl⟩ | ⟨_, _, _, _, _, rfl, _⟩ | ⟨_, _, _, _, rfl⟩ <;> rfl
 case msl => obtain ⟨_, _, rfl, _⟩ := h; rfl
 case map r =>
  cases r with
  | none => unfold RelV at h; subst h; rfl
  | some r => unfold RelV at h; obtain ⟨_, rfl⟩ := h; rfl
 case iter => obtain ⟨_, rfl⟩ := h; rfl
 case func => obtain ⟨_, _, rfl, _⟩ := h; rfl
 case iface => obtain ⟨_, rfl, _⟩ := h; rfl
theorem cells_rel {g : G} {v : V} {u : Value} (h : RelV g v u) (h1 : v.cells.all V.one = true) : RelL g v.cells u.cells.toList ∧ Ones u.cells.toList := by
 by_cases ha : ∃ cs, v = .agg cs
 ·obtain ⟨cs, rfl⟩ := ha
  unfold RelV at h
  obtain ⟨us, rfl, a, o⟩ := h
  exact ⟨by simpa [V.cells, Value.cells] using a, by simpa [Value.cells] using o⟩
 ·have hc : v.cells = [v] := by
   cases v <;> first | rfl | exact absurd ⟨_, rfl⟩ ha
  rw [hc] at h1 ⊢
  have ho : v.one = true := by simpa using h1
  have hu := one_rel h ho
  have huc : u.cells = #[u] := by
   cases u <;> first | rfl | simp [Value.oneCell'] at hu
  rw [huc]
  exact ⟨⟨u, [], rfl, h, rfl⟩, fun x hx => by simp at hx; subst hx; exact hu⟩
def NoFz (fr : Nat × Nat) (n : Nat) : Prop := fr.1 = fr.2 ∨ n ≤ fr.1
theorem NoFz.at_ {fr : Nat × Nat} {n : Nat} (h : NoFz fr n) (i : Nat) (hi : i < n) : ¬ (fr.1 ≤ i ∧ i < fr.2) := by
 rcases h with h | h <;> omega
def RelM (g : G) (es : List (V × V × Nat)) (ms : List MapEntry) : Prop :=
 es.length = ms.length ∧ ∀ (j : Nat) (e : V × V × Nat) (m : MapEntry), es[j]? = some e → ms[j]? = some m → RelV g e.1 m.key ∧ RelV g e.2.1 m.val ∧ m.born = e.2.2 ∧ (∃ kk, e.1.isKey kk = true) ∧ e.2.1.one = true
def RelO (g : G) (b q : Nat) : AObj → Obj → Prop
 | .cells cs, o => ∃ us ty fr, o = .cells us ty fr ∧ NoFz fr us.size ∧ us.size = g.bs b ∧ (∀ i, g.ice b i = none) ∧ ∃ xs, RelL g cs xs ∧ Ones xs ∧ ∀ (j : Nat) (v : Value), xs[j]? = some v → us[q + j]? = some v
 | .tok, o => ∃ us ty fr, o = .cells us ty fr ∧ NoFz fr us.size ∧ us.size = g.bs b ∧ ∀ i, q ≤ i → g.ice b i = none
 | .map es c, o => ∃ ms, o = .map ms c ∧ RelM g es ms.toList
 | .fix cs, o => q = 0 ∧ ∃ us ty fr xs, o = .cells us ty fr ∧ RelL g cs xs ∧ ∀ (j : Nat) (v : Value), xs[j]? = some v → us[j]? = some v
 | .iter m since seen last, o => (∀ r, m = some r → r < g.n) ∧ o = .mapIter (m.map fun r => (g.loc r).1) since seen.toArray last
theorem RelM.mono {g g' : G} (h : g.le g') {es : List (V × V × Nat)} {ms : List MapEntry} (k : RelM g es ms) : RelM g' es ms :=
 ⟨k.1, fun j e m he hm => by
  obtain ⟨a, b, c⟩ := k.2 j e m he hm
  exact ⟨RelV_mono h _ _ a, RelV_mono h _ _ b, c⟩⟩
theorem RelO.mono {g g' : G} (h : g.le g') {b q : Nat} {x : AObj} {o : Obj} (k : RelO g b q x o) (hb : b < g.nb) (hi : ∀ i, g'.ice b i = g.ice b i) : RelO g' b q x o := by
 cases x with
 | cells cs =>
  obtain ⟨us, ty, fr, e, f, s, n, xs, r, on, c⟩ := k
  exact ⟨us, ty, fr, e, f, by rw [h.bs b hb]; exact s, fun i => by rw [hi]; exact n i, xs, RelL_mono h _ _ r, on, c⟩
 | tok =>
  obtain ⟨us, ty, fr, e, f, s, n⟩ := k
  exact ⟨us, ty, fr, e, f, by rw [h.bs b hb]; exact s, fun i hq => by rw [hi]; exact n i hq⟩
 | map es c =>
  obtain ⟨ms, e, r⟩ := k
  exact ⟨ms, e, r.mono h⟩
 | fix cs =>
  obtain ⟨e, us, ty, fr, xs, h1, h2, h3⟩ := k
  exact ⟨e, us, ty, fr, xs, h1, RelL_mono h _ _ h2, h3⟩
 | iter m since seen last =>
  obtain ⟨a, e⟩ := k
  refine ⟨fun r hr => Nat.lt_of_lt_of_le (a r hr) h.n, ?_⟩
  cases m with
  | none => exact e
  | some r =>
   rw [e]
   simp only [Option.map_some]
   rw [h.loc r (a r rfl)]
structure RelW (w0 : World) (g : G) (S : St) (w : World) : Prop where
 below : Below w0.heap.size w0 w
 nb : g.nb = w.heap.size
 n : g.n = S.n
 ice : ∀ b p u, g.ice b p = some u → w.cell? ⟨b, p, none⟩ = some u
 hp : ∀ i x, S.hp i = some x → i < S.n ∧ w0.heap.size ≤ (g.loc i).1 ∧ ∃ o, w.heap[(g.loc i).1]? = some o ∧ RelO g (g.loc i).1 (g.loc i).2 x o
 sep : ∀ i j x y, S.hp i = some x → S.hp j = some y → i ≠ j → (g.loc i).1 ≠ (g.loc j).1
section
variable {w0 w : World} {g : G} {S : St}
theorem RelW.lt (h : RelW w0 g S w) {i : Nat} {x : AObj} (hx : S.hp i = some x) : (g.loc i).1 < w.heap.size := by
 obtain ⟨_, _, o, ho, _⟩ := h.hp i x hx
 exact (Array.getElem?_eq_some_iff.1 ho).1
theorem RelW.iceLt (h : RelW w0 g S w) {b p : Nat} {u : Value} (hu : g.ice b p = some u) : b < w.heap.size :=
 World.block_lt_of_cell? w _ (h.ice b p u hu)
theorem RelW.drew (h : RelW w0 g S w) : RelW w0 g S w.drew :=
 ⟨h.below.drew, h.nb, h.n, fun b p u hu => h.ice b p u hu, h.hp, h.sep⟩
theorem RelW.drawn (h : RelW w0 g S w) : RelW w0 g S { w with drawn := w.drawn + 1 } := h.drew
theorem RelW.kill (h : RelW w0 g S w) (k : Nat) : RelW w0 g (S.kill k) w := by
 refine ⟨h.below, h.nb, h.n, h.ice, fun i x hx => ?_, fun i j x y hx hy hij => ?_⟩
 ·simp only [St.kill] at hx
  split at hx
  ·cases hx
  ·exact h.hp i x hx
 ·simp only [St.kill] at hx hy
  split at hx
  ·cases hx
  split at hy
  ·cases hy
  exact h.sep i j x y hx hy hij
def G.block (g : G) (us : Array Value) (e : Nat) : G :=
 { g with ice := fun b i => if b = g.nb then (if i < e then us[i]? else none) else g.ice b i, bs := fun b => if b = g.nb then us.size else g.bs b, nb := g.nb + 1 }
def G.obj (g : G) (b q : Nat) : G := { g with loc := fun i => if i = g.n then (b, q) else g.loc i, n := g.n + 1 }
theorem le_block (h : RelW w0 g S w) (us : Array Value) (e : Nat) : g.le (g.block us e) := by
 refine ⟨fun k i v hv => ?_, Nat.le_refl _, fun _ _ => rfl, by simp [G.block], fun k hk => ?_⟩
 ·have := h.iceLt hv
  rw [← h.nb] at this
  simp only [G.block]
  rw [if_neg (by omega)]
  exact hv
 ·simp only [G.block]
  rw [if_neg (by omega)]
theorem le_obj (g : G) (b q : Nat) : g.le (g.obj b q) :=
 ⟨fun _ _ _ h => h, by simp [G.obj], fun i hi => by simp only [G.obj]; rw [if_neg (by omega)], Nat.le_refl _, fun _ _ => rfl⟩
theorem RelW.block (h : RelW w0 g S w) (us : Array Value) (ty : TypeId) (fr : Nat × Nat) (e : Nat) : RelW w0 (g.block us e) S (w.alloc (.cells us ty fr)) := by
 have hle := le_block h us e
 refine ⟨h.below.alloc h.below.size _, by simp [G.block, h.nb], h.n, fun b p u hu => ?_, fun i x hx => ?_, h.sep⟩
 ·simp only [G.block] at hu
  split at hu
  ·rename_i hb
   split at hu
   ·rw [hb, h.nb]
    rw [cell_of_row _ _ _ us ty fr (heap_alloc_new w _)]
    exact hu
   ·cases hu
  ·have := h.ice b p u hu
   rw [World.cell?_alloc_lt w _ _ (h.iceLt hu)]
   exact this
 ·obtain ⟨h1, h2, o, h3, h4⟩ := h.hp i x hx
  have hlt := h.lt hx
  refine ⟨h1, h2, o, ?_, h4.mono hle (by rw [h.nb]; exact hlt) (fun p => ?_)⟩
  ·show (w.alloc _).heap[(g.loc i).1]? = _
   refine (Below.heap_alloc w _ _ hlt).trans ?_
   exact h3
  ·simp only [G.block]
   rw [if_neg (by rw [h.nb]; exact Nat.ne_of_lt hlt)]
theorem RelW.obj (h : RelW w0 g S w) {b q : Nat} {x : AObj} {o : Obj} (hb : w.heap[b]? = some o) (hb0 : w0.heap.size ≤ b) (hfree : ∀ i y, S.hp i = some y → (g.loc i).1 ≠ b)
  (hx : RelO (g.obj b q) b q x o) : RelW w0 (g.obj b q) (S.add x) w := by
 have hle := le_obj g b q
 have hlt : b < w.heap.size := (Array.getElem?_eq_some_iff.1 hb).1
 have hl0 : (g.obj b q).loc g.n = (b, q) := by simp [G.obj]
 refine ⟨h.below, h.nb, by simp [G.obj, St.add, h.n], h.ice, fun i y hy => ?_, fun i j x' y' hx' hy' hij => ?_⟩
 ·simp only [St.add] at hy
  split at hy
  ·rename_i hi
   injection hy with hy; subst hy
   have : i = g.n := by rw [h.n]; exact hi
   rw [this, hl0]
   exact ⟨by simp [St.add, h.n], hb0, o, hb, hx⟩
  ·obtain ⟨h1, h2, o', h3, h4⟩ := h.hp i y hy
   have hl : (g.obj b q).loc i = g.loc i := hle.loc i (by rw [h.n]; exact h1)
   rw [hl]
   exact ⟨by simp [St.add]; omega, h2, o', h3, h4.mono hle (by rw [h.nb]; exact h.lt hy) (fun _ => rfl)⟩
 ·have hloc : ∀ i y, S.hp i = some y → (g.obj b q).loc i = g.loc i := fun i y hy => hle.loc i (by rw [h.n]; exact (h.hp i y hy).1)
  simp only [St.add] at hx' hy'
  split at hx' <;> split at hy'
  ·omega
  ·rename_i hi hj
   have : i = g.n := by rw [h.n]; exact hi
   rw [this, hl0, hloc j y' hy']
   exact fun e => hfree j y' hy' e.symm
  ·rename_i hi hj
   have : j = g.n := by rw [h.n]; exact hj
   rw [this, hl0, hloc i x' hx']
   exact hfree i x' hx'
  ·rw [hloc i x' hx', hloc j y' hy']
   exact h.sep i j x' y' hx' hy' hij
theorem RelW.upd (h : RelW w0 g S w) {i : Nat} {x x' : AObj} (hx : S.hp i = some x) {w' : World} (hw : Below w0.heap.size w0 w') (hsz : w'.heap.size = w.heap.size)
  (hold : ∀ k, k < w.heap.size → k ≠ (g.loc i).1 → w'.heap[k]? = w.heap[k]?) {o : Obj} (ho : w'.heap[(g.loc i).1]? = some o)
  (hice : ∀ p u, g.ice (g.loc i).1 p = some u → w'.cell? ⟨(g.loc i).1, p, none⟩ = some u)
  (hx' : RelO g (g.loc i).1 (g.loc i).2 x' o) : RelW w0 g (S.set i x') w' := by
 obtain ⟨h1, h2, _⟩ := h.hp i x hx
 refine ⟨hw, by rw [h.nb, hsz], h.n, fun b p u hu => ?_, fun j y hy => ?_, fun j k y z hy hz hjk => ?_⟩
 ·by_cases hb : b = (g.loc i).1
  ·subst hb; exact hice p u hu
  ·rw [← h.ice b p u hu]
   exact World.cell?_of_block (hold b (h.iceLt hu) hb)
 ·simp only [St.set] at hy
  split at hy
  ·rename_i hj; subst hj
   injection hy with hy; subst hy
   exact ⟨h1, h2, o, ho, hx'⟩
  ·rename_i hj
   obtain ⟨h3, h4, o', h5, h6⟩ := h.hp j y hy
   exact ⟨h3, h4, o', by rw [hold _ (h.lt hy) (h.sep j i y x hy hx hj)]; exact h5, h6⟩
 ·have hlive : ∀ j y, (S.set i x').hp j = some y → ∃ z, S.hp j = some z := fun j y hy => by
   simp only [St.set] at hy
   split at hy
   ·rename_i hj; subst hj; exact ⟨x, hx⟩
   ·exact ⟨y, hy⟩
  obtain ⟨y', hy'⟩ := hlive j y hy
  obtain ⟨z', hz'⟩ := hlive k z hz
  exact h.sep j k y' z' hy' hz' hjk
def G.ices (g : G) (b : Nat) (f : Nat → Option Value) : G := { g with ice := fun k i => if k = b then f i else g.ice k i }
theorem le_ices (g : G) (b : Nat) (f : Nat → Option Value) (hf : ∀ i v, g.ice b i = some v → f i = some v) : g.le (g.ices b f) := by
 refine ⟨fun k i v hv => ?_, Nat.le_refl _, fun _ _ => rfl, Nat.le_refl _, fun _ _ => rfl⟩
 simp only [G.ices]
 split
 ·rename_i hk; subst hk; exact hf i v hv
 ·exact hv
theorem RelW.ices (h : RelW w0 g S w) {b : Nat} {f : Nat → Option Value} (hfree : ∀ i y, S.hp i = some y → (g.loc i).1 ≠ b) (hf : ∀ i v, g.ice b i = some v → f i = some v)
  {w' : World} (hw : Below w0.heap.size w0 w') (hsz : w'.heap.size = w.heap.size) (hold : ∀ k, k < w.heap.size → k ≠ b → w'.heap[k]? = w.heap[k]?)
  (hice : ∀ i v, f i = some v → w'.cell? ⟨b, i, none⟩ = some v) : RelW w0 (g.ices b f) S w' := by
 have hle := le_ices g b f hf
 refine ⟨hw, by rw [hsz]; exact h.nb, h.n, fun k p u hu => ?_, fun j y hy => ?_, h.sep⟩
 ·simp only [G.ices] at hu
  split at hu
  ·rename_i hk; subst hk; exact hice p u hu
  ·rename_i hk
   rw [← h.ice k p u hu]
   exact World.cell?_of_block (hold k (h.iceLt hu) hk)
 ·obtain ⟨h3, h4, o', h5, h6⟩ := h.hp j y hy
  refine ⟨h3, h4, o', ?_, h6.mono hle (by rw [h.nb]; exact h.lt hy) (fun i => ?_)⟩
  ·show w'.heap[(g.loc j).1]? = _
   rw [hold _ (h.lt hy) (hfree j y hy)]; exact h5
  ·simp only [G.ices]; rw [if_neg (hfree j y hy)]
end
end Go.VM
namespace Go.VM
open Go Go.RowKit
def chkC : Value → V → Bool
 | .bool a, .bool b => a == b
 | .int k a, .int k' b => decide (k = k') && decide (a = b)
 | .string a, .str b => decide (a.data.toList = b.data.toList)
 | .pointer none, .ptr none => true
 | .slice none 0 0, .sl [] 0 _ .nil => true
 | .map none, .map none => true
 | .nilFunc, .nilFunc => true
 | .nilIface, .nilIface => true
 | _, _ => false
def chkL : List Value → List V → Bool
 | [], [] => true
 | u :: us, c :: cs => chkC u c && chkL us cs
 | _, _ => false
def chkV : Value → V → Bool
 | .agg us, .agg cs => chkL us.toList cs
 | .tuple us, .tup cs => chkL us.toList cs
 | u, c => chkC u c
def chkA (n : Nat) : Operand → Arg → Bool
 | .tmp i, .t j => decide (i = j) && decide (i < n)
 | .const u, .c v => chkV u v
 | .func f, .c (.func f' [] []) => decide (f = f')
 | _, _ => false
def chkAs (n : Nat) : List Operand → List Arg → Bool
 | [], [] => true
 | x :: xs, y :: ys => chkA n x y && chkAs n xs ys
 | _, _ => false
def chkO (n : Nat) : Option Operand → Option Arg → Bool
 | none, none => true
 | some x, some y => chkA n x y
 | _, _ => false
theorem chkC_rel (g : G) {u : Value} {v : V} (h : chkC u v = true) : RelV g v u ∧ u.oneCell' = true := by
 unfold chkC at h
 split at h <;> first | (cases h; done) | skip
 all_goals (try simp only [Bool.and_eq_true, decide_eq_true_eq, beq_iff_eq] at h)
 ·subst h; exact ⟨rfl, rfl⟩
 ·obtain ⟨rfl, rfl⟩ := h; exact ⟨rfl, rfl⟩
 ·rename_i a b
  have : a = b := by
   obtain ⟨⟨a⟩⟩ := a; obtain ⟨⟨b⟩⟩ := b
   simp at h; subst h; rfl
  subst this; exact ⟨rfl, rfl⟩
 ·exact ⟨rfl, rfl⟩
 ·exact ⟨⟨by simp, .inl ⟨rfl, rfl, rfl, rfl⟩⟩, rfl⟩
 ·exact ⟨rfl, rfl⟩
 ·exact ⟨rfl, rfl⟩
 ·exact ⟨rfl, rfl⟩
theorem chkL_rel (g : G) : ∀ {us : List Value} {cs : List V}, chkL us cs = true → RelL g cs us ∧ Ones us
 | [], [], _ => ⟨rfl, fun _ h => by cases h⟩
 | u :: us, c :: cs, h => by
  simp only [chkL, Bool.and_eq_true] at h
  obtain ⟨a, b⟩ := chkC_rel g h.1
  obtain ⟨c1, d⟩ := chkL_rel g h.2
  exact ⟨⟨u, us, rfl, a, c1⟩, fun x hx => by rcases List.mem_cons.1 hx with rfl | hx; exact b; exact d x hx⟩
 | [], _ :: _, h => by cases h
 | _ :: _, [], h => by cases h
theorem chkV_rel (g : G) {u : Value} {v : V} (h : chkV u v = true) : RelV g v u := by
 unfold chkV at h
 split at h
 ·rename_i us cs
  obtain ⟨a, b⟩ := chkL_rel g h
  exact ⟨us.toList, by simp, a, b⟩
 ·rename_i us cs
  obtain ⟨a, b⟩ := chkL_rel g h
  exact ⟨us.toList, by simp, a⟩
 ·exact (chkC_rel g h).1
def RelF (g : G) (n : Nat) (fr : Fr) (tmps : Array Value) : Prop := tmps.size = n ∧ ∀ i, i < n → RelV g (fr i) (tmps.getD i undef)
theorem RelF.mono {g g' : G} (h : g.le g') {n : Nat} {fr : Fr} {tmps : Array Value} (k : RelF g n fr tmps) : RelF g' n fr tmps :=
 ⟨k.1, fun i hi => RelV_mono h _ _ (k.2 i hi)⟩
theorem RelF.put {g : G} {n : Nat} {fr : Fr} {a : Act} (k : RelF g n fr a.tmps) {d : Option Nat} {v : V} {u : Value} (h : RelV g v u) : RelF g n (fr.put d v) (a.put d u).tmps := by
 cases d with
 | none => exact k
 | some d =>
  refine ⟨by simpa [Act.put] using k.1, fun i hi => ?_⟩
  simp only [Fr.put, Act.put]
  split
  ·rename_i e; subst e
   have : i < a.tmps.size := by rw [k.1]; exact hi
   simp [Array.getElem?_setIfInBounds, this]
   exact h
  ·rename_i e
   have := k.2 i hi
   simpa [Array.getElem?_setIfInBounds_ne (Ne.symm e)] using this
theorem chkA_rel {g : G} {n : Nat} {fr : Fr} {a : Act} (k : RelF g n fr a.tmps) {x : Operand} {y : Arg} (h : chkA n x y = true) : RelV g (y.ev fr) (a.eval x) := by
 unfold chkA at h
 split at h
 ·simp only [Bool.and_eq_true, decide_eq_true_eq] at h
  obtain ⟨rfl, h⟩ := h
  exact k.2 _ h
 ·exact chkV_rel g h
 ·have h := of_decide_eq_true h
  subst h
  exact ⟨[], [], rfl, rfl, rfl⟩
 ·cases h
theorem chkAs_rel {g : G} {n : Nat} {fr : Fr} {a : Act} (k : RelF g n fr a.tmps) : ∀ {xs : List Operand} {ys : List Arg}, chkAs n xs ys = true → RelL g (ys.map (Arg.ev fr)) (xs.map a.eval)
 | [], [], _ => rfl
 | x :: xs, y :: ys, h => by
  simp only [chkAs, Bool.and_eq_true] at h
  exact ⟨_, _, rfl, chkA_rel k h.1, chkAs_rel k h.2⟩
 | [], _ :: _, h => by cases h
 | _ :: _, [], h => by cases h
def szOf (P : Program) (t : TypeId) : Option Nat := (P.info? t).map (·.size)
def aggOf (P : Program) (t : TypeId) : Option Bool := (P.underlying t).map fun | .struct _ | .array _ _ => true | _ => false
theorem szOf_run {P : Program} {t : TypeId} {n : Nat} (h : szOf P t = some n) (w : World) : (Go.sizeOf t).run P w = .ok n w := by
 unfold szOf at h
 obtain ⟨i, hi, rfl⟩ := Option.map_eq_some_iff.1 h
 simp [Go.sizeOf, typeInfo, hi]
theorem aggOf_run {P : Program} {t : TypeId} {b : Bool} (h : aggOf P t = some b) (w : World) : (isAgg t).run P w = .ok b w := by
 unfold aggOf at h
 obtain ⟨d, hd, rfl⟩ := Option.map_eq_some_iff.1 h
 simp only [isAgg, Sem.run_bind, run_underlying hd, Result.andThen_ok]
 cases d <;> rfl
theorem add_at (b p n : Nat) : (⟨b, p, none⟩ : Addr).add n = ⟨b, p + n, none⟩ := by unfold Addr.add; split <;> simp_all
def Reads (w : World) (b p : Nat) (xs : List Value) : Prop := ∀ (j : Nat) (v : Value), xs[j]? = some v → w.cell? ⟨b, p + j, none⟩ = some v
theorem Reads.drop {w : World} {b p : Nat} {us : List Value} (k : Reads w b p us) (m : Nat) : Reads w b (p + m) (us.drop m) := fun j v hv => by
 rw [List.getElem?_drop] at hv
 have := k (m + j) v hv
 rwa [← Nat.add_assoc] at this
theorem Reads.take {w : World} {b p : Nat} {us : List Value} (k : Reads w b p us) (m : Nat) : Reads w b p (us.take m) := fun j v hv => by
 rw [List.getElem?_take] at hv
 split at hv
 ·exact k j v hv
 ·cases hv
theorem RelW.reads {w0 w : World} {g : G} {S : St} (h : RelW w0 g S w) {b p : Nat} {us : List Value} (k : Iced g b p us) : Reads w b p us := fun j v hv => h.ice _ _ _ (k j v hv)
theorem RelW.cells {w0 w : World} {g : G} {S : St} (h : RelW w0 g S w) {i : Nat} {cs : List V} (hc : S.cells i = some cs) :
  ∃ xs, RelL g cs xs ∧ Ones xs ∧ Reads w (g.loc i).1 (g.loc i).2 xs := by
 unfold St.cells at hc
 split at hc
 ·rename_i cs' hcs
  injection hc with hc; subst hc
  obtain ⟨_, _, o, ho, us, ty, fr, rfl, _, _, _, xs, r, on, hr⟩ := h.hp i _ hcs
  refine ⟨xs, r, on, fun j v hv => ?_⟩
  rw [cell_of_row w _ _ us ty fr ho]
  exact hr j v hv
 ·cases hc
theorem run_loadVar_reads {P : Program} {w : World} {t : TypeId} {agg : Bool} {sz : Nat} (ha : aggOf P t = some agg) (hs : szOf P t = some sz) {g : G} {cs : List V} {xs : List Value} {b p : Nat}
  (hr : RelL g cs xs) (ho : Ones xs) (hx : Reads w b p xs) {v : V} (hv : takeC agg sz cs = some v) : ∃ u, (loadVar t ⟨b, p, none⟩).run P w = .ok u w ∧ RelV g v u := by
 unfold takeC at hv
 cases agg with
 | true =>
  simp only [if_true] at hv
  split at hv
  ·rename_i hle
   injection hv with hv; subst hv
   have hl : (xs.take sz).length = sz := by rw [List.length_take, ← hr.len]; omega
   refine ⟨.agg (xs.take sz).toArray, ?_, xs.take sz, rfl, hr.take sz, ho.take sz⟩
   have hrun := run_loadCells_list (P := P) w ⟨b, p, none⟩ (xs.take sz) (fun j v hj => by rw [add_at]; exact hx.take sz j v hj)
   rw [hl] at hrun
   simp [loadVar, aggOf_run ha, szOf_run hs, hrun]
  ·cases hv
 | false =>
  simp only [Bool.false_eq_true, if_false] at hv
  have hc0 : cs[0]? = some v := by cases cs <;> simp at hv ⊢; exact hv
  obtain ⟨u, hu, hrel⟩ := hr.at_ hc0
  refine ⟨u, ?_, hrel⟩
  have := hx 0 u hu
  rw [Nat.add_zero] at this
  simp [loadVar, aggOf_run ha, this]
end Go.VM
namespace Go.VM
open Go Go.RowKit
def chkParts (P : Program) (n : Nat) (place : Nat → Option (Nat × Nat)) : List (Nat × Operand) → List (Nat × Nat × Arg) → Bool
 | [], [] => true
 | (i, x) :: xs, (off, sz, y) :: ys => decide (place i = some (off, sz)) && chkA n x y && chkParts P n place xs ys
 | _, _ => false
def fieldPlaces (P : Program) (fields : Array Field) (i : Nat) : Option (Nat × Nat) := (fields[i]?).bind fun f => (szOf P f.type).map fun s => (f.offset, s)
def allSized (P : Program) (fields : Array Field) : Bool := fields.toList.all fun f => (szOf P f.type).isSome
def chkZero (P : Program) (t : TypeId) (zs : List V) : Bool := match P.info? t with
 | some i => match i.zero with
  | some z => chkL z.cells.toList zs
  | none => false
 | none => false
def chkZeroV (P : Program) (t : TypeId) (z : V) : Bool := match P.info? t with
 | some i => match i.zero with
  | some u => chkV u z
  | none => false
 | none => false
def keyKind (P : Program) (t : TypeId) (kk : KK) : Bool := match P.underlying t with
 | some (.int _) => decide (kk = .int)
 | some .string => decide (kk = .str)
 | some .bool => decide (kk = .bool)
 | _ => false
def chkTK (P : Program) (t : TypeId) (k : TK) : Bool := match k with
 | .bool => (match P.underlying t with | some .bool => true | _ => false)
 | .ptr => (match P.underlying t with | some (.pointer e) => (match szOf P e with | some s => decide (s ≠ 0) | none => false) | _ => false)
 | .slice => (match P.underlying t with | some (.slice _) => true | _ => false)
 | .map => (match P.underlying t with | some (.map ..) => true | _ => false)
 | .func => (match P.underlying t with | some (.func ..) => true | _ => false)
 | .iface => (match P.underlying t with | some (.interface _) => true | _ => false)
def chkCv (P : Program) (src dst : TypeId) (c : Cv) : Bool := match c with
 | .same => (match P.underlying src, P.underlying dst with | some .string, some .string => true | _, _ => false)
 | .int k => (match P.underlying src, P.underlying dst with | some (.int _), some (.int k') => decide (k = k') | _, _ => false)
 | .intStr => (match P.underlying src, P.underlying dst with | some (.int _), some .string => true | _, _ => false)
 | .bytesStr => (match P.underlying src, P.underlying dst with
  | some (.slice e), some .string => (match P.underlying e with | some (.int .u8) => decide (szOf P e = some 1) | _ => false)
  | _, _ => false)
def sumL (P : Program) (leaf : TypeId → Option (List KK)) : List Field → Nat → Option (List KK)
 | [], off => some []
 | f :: fs, off => if f.name ≠ "_" ∧ f.offset = off then (match leaf f.type with
  | some ks => if szOf P f.type = some ks.length then (sumL P leaf fs (off + ks.length)).map (ks ++ ·) else none
  | none => none) else none
def leafN (P : Program) : Nat → TypeId → Option (List KK)
 | 0, _ => none
 | m + 1, t => match P.underlying t with
  | some .bool => some [.bool]
  | some (.int _) => some [.int]
  | some .string => some [.str]
  | some (.struct fs) => if P.stoodInHeld t = false then sumL P (leafN P m) fs.toList 0 else none
  | _ => none
def chkEqA (P : Program) (t : TypeId) (ks : List KK) : Bool :=
 decide (leafN P 20 t = some ks) && !P.eqGuardType P.depth t && (match P.underlying t with | some (.struct _) => true | _ => false)
def chkFI (P : Program) (n : Nat) (o : Op) (i : FI) : Bool :=
 match i with
 | .mv y => match o with
  | .move x | .assign x => chkA n x y
  | _ => false
 | .pick c' a' b' => match o with
  | .pick c a b => chkA n c c' && chkA n a a' && chkA n b b'
  | _ => false
 | .nilCheck y => match o with
  | .nilCheck x => chkA n x y
  | _ => false
 | .bin op' x' y' => match o with
  | .binOp op _ x y _ => decide (op = op') && chkA n x x' && chkA n y y'
  | _ => false
 | .eq neg k x' y' => match o with
  | .binOp op t x y _ => (match op with | .eql => !neg | .neq => neg | _ => false) && chkA n x x' && chkA n y y' &&
   chkTK P t k
  | _ => false
 | .eqA neg m x' y' => match o with
  | .binOp op t x y _ => (match op with | .eql => !neg | .neq => neg | _ => false) && chkA n x x' && chkA n y y' &&
   chkEqA P t m
  | _ => false
 | .un op' x' => match o with
  | .unOp op _ x => decide (op = op') && chkA n x x'
  | _ => false
 | .conv c x' => match o with
  | .convert src dst x => chkA n x x' &&
   chkCv P src dst c
  | _ => false
 | .fieldAddr off x' => match o with
  | .fieldAddr s x f => chkA n x x' && (match P.underlying s with
   | some (.struct fields) => (match fields[f]? with | some fd => decide (fd.offset = off) && (match szOf P fd.type with | some s => decide (s ≠ 0) | none => false) | none => false)
   | _ => false)
  | _ => false
 | .field agg off sz x' => match o with
  | .field t x f => chkA n x x' && (match P.underlying t with
   | some (.struct fields) => (match fields[f]? with | some fd => decide (fd.offset = off) && decide (szOf P fd.type = some sz) && decide (aggOf P fd.type = some agg) | none => false)
   | _ => false)
  | _ => false
 | .indexAddr sz x' i' => match o with
  | .indexAddr t x i => chkA n x x' && chkA n i i' && (match P.underlying t with | some (.slice e) => decide (szOf P e = some sz) | _ => false)
  | _ => false
 | .indexAddrA len sz x' i' => match o with
  | .indexAddr t x i => chkA n x x' && chkA n i i' && (match P.underlying t with | some (.array len' e) => decide (len = len') && decide (szOf P e = some sz) | _ => false)
  | _ => false
 | .indexS x' i' => match o with
  | .index t x i => chkA n x x' && chkA n i i' && (match P.underlying t with | some .string => true | _ => false)
  | _ => false
 | .indexA agg len sz x' i' => match o with
  | .index t x i => chkA n x x' && chkA n i i' && (match P.underlying t with | some (.array len' e) => decide (len = len') && decide (szOf P e = some sz) && decide (aggOf P e = some agg) | _ => false)
  | _ => false
 | .load agg sz x' => match o with
  | .load t x => chkA n x x' && decide (szOf P t = some sz) && decide (aggOf P t = some agg)
  | _ => false
 | .len k x' => match o with
  | .call { callee := .builtin .len, args := xs, argTypes := ts } => (match xs.toList, ts.toList with
   | [x], [t] => chkA n x x' && (match P.underlying t, k with | some .string, .str | some (.slice _), .sl | some (.map ..), .map => true | _, _ => false)
   | _, _ => false)
  | _ => false
 | .sliceS x' lo' hi' => match o with
  | .slice t x lo hi none => chkA n x x' && chkO n lo lo' && chkO n hi hi' && (match P.underlying t with | some .string => true | _ => false)
  | _ => false
 | .slice sz x' lo' hi' mx' => match o with
  | .slice t x lo hi mx => chkA n x x' && chkO n lo lo' && chkO n hi hi' && chkO n mx mx' && (mx.isNone || hi.isSome) && (match P.underlying t with | some (.slice e) => decide (szOf P e = some sz) | _ => false)
  | _ => false
 | .build zero parts => match o with
  | .build t ps => chkZero P t zero && (match P.underlying t with
   | some (.struct fields) => allSized P fields && chkParts P n (fieldPlaces P fields) ps.toList parts
   | some (.array _ e) => (match szOf P e with | some s => chkParts P n (fun i => some (i * s, s)) ps.toList parts | none => false)
   | _ => false)
  | _ => false
 | .mkIface t' x' => match o with
  | .makeInterface t x => decide (t = t') && chkA n x x' && (match P.underlying t with | some (.interface _) => false | some _ => true | none => false)
  | _ => false
 | .mkFunc f' pre' cap' => match o with
  | .makeFunc (.func f) pre cap => decide (f = f') && chkAs n pre.toList pre' && chkAs n cap.toList cap'
  | _ => false
 | .extract x' i' => match o with
  | .extract x i => decide (i = i') && chkA n x x'
  | _ => false
 | .lookup kk ok' zero m' k' => match o with
  | .lookup t m k ok => decide (ok = ok') && chkA n m m' && chkA n k k' && (match P.underlying t with | some (.map kt et) => keyKind P kt kk && chkZeroV P et zero | _ => false)
  | _ => false
 | .entry x' => match o with
  | .entry x => chkA n x x'
  | _ => false
 | .assertT t' ok' zero x' => match o with
  | .typeAssert x _ t ok => decide (t = t') && decide (ok = ok') && chkA n x x' && chkZeroV P t zero && (match P.underlying t with | some (.interface _) => false | some _ => true | none => false)
  | _ => false
 | .minmax isMax xs' => match o with
  | .call { callee := .builtin b, args := xs, argTypes := _ } => (match b with | .max => isMax | .min => !isMax | _ => false) && chkAs n xs.toList xs'
  | _ => false
end Go.VM
namespace Go.VM
open Go Go.RowKit
section
variable {P : Program} {w0 w : World} {g : G} {S : St} {n : Nat} {fr : Fr} {a : Act}
theorem rel_bool {v : Bool} {u : Value} (h : RelV g (.bool v) u) : u = .bool v := h
theorem rel_int {k : IntKind} {m : Int} {u : Value} (h : RelV g (.int k m) u) : u = .int k m := h
theorem rel_str {s : ByteArray} {u : Value} (h : RelV g (.str s) u) : u = .string s := h
theorem idx_rel {v : V} {u : Value} {j : Nat} (h : RelV g v u) (hj : v.idx = some j) : ∃ k, u = .int k (j : Int) := by
 cases v <;> simp only [V.idx] at hj <;> try (cases hj; done)
 rename_i k m
 split at hj
 ·rename_i hm
  injection hj with hj
  refine ⟨k, ?_⟩
  rw [rel_int h, ← hj]
  congr 1
  omega
 ·cases hj
theorem wrap_le {k : IntKind} {a b : Nat} (h : k.wrap (b : Int) = (b : Int)) (hab : a ≤ b) : k.wrap (a : Int) = (a : Int) := by
 rw [IntKind.wrap] at h ⊢
 cases k <;> simp [IntKind.bits, IntKind.signed] at h ⊢ <;> omega
theorem simAbs {op : BinOp} {a : Ab} {y v : V} {u u' : Value} (hx : RelV g (.abs a) u) (hy : RelV g y u') (hv : Ab.bin op a y = some v) (t : TypeId) (x' y' : Operand) :
  ∃ r, (do eqGuard op t x' y' u u'; Go.binOp op t u u' : Sem Value).run P w = .ok r w ∧ RelV g v r := by
 replace hx : a.holds u := hx
 cases a <;> cases y <;> simp only [Ab.bin] at hv <;> try (cases hv; done)
 case str.str most q =>
  obtain ⟨p, rfl, hp⟩ := hx
  rw [rel_str hy]
  have hg : (eqGuard op t x' y' (.string p) (.string q)).run P w = .ok () w := by
   unfold eqGuard
   split <;> simp
  simp only [Sem.run_bind, hg, Result.andThen_ok]
  split at hv <;> (try (cases hv; done))
  all_goals
   injection hv with hv; subst hv
   exact ⟨_, by simp only [Go.binOp, Op.stringOp]; rfl, _, rfl⟩
 case res.int k m r most k' c =>
  obtain ⟨n, rfl, hn, hm⟩ := hx
  rw [rel_int hy]
  have hg : (eqGuard op t x' y' (.int k (n : Int)) (.int k' c)).run P w = .ok () w := by
   unfold eqGuard
   split <;> simp
  simp only [Sem.run_bind, hg, Result.andThen_ok]
  split at hv <;> (try (cases hv; done))
  ·split at hv <;> (try (cases hv; done))
   rename_i hk
   obtain ⟨rfl, hc, hw⟩ := hk
   injection hv with hv; subst hv
   refine ⟨.int k (k.wrap ((n : Int) + c)), by simp [Go.binOp, Op.intArith], n + c.toNat, ?_, by omega, ?_⟩
   ·have e : (n : Int) + c = ((n + c.toNat : Nat) : Int) := by omega
    rw [e, wrap_le hw (by omega)]
   ·rw [← hm, Nat.mod_add_mod]
  ·split at hv <;> (try (cases hv; done))
   rename_i hk
   obtain ⟨rfl, rfl, hc⟩ := hk
   injection hv with hv; subst hv
   refine ⟨.int k ((n : Int).tmod (m : Int)), ?_, ?_⟩
   ·have : ¬ ((m : Int) = 0) := by omega
    have h2 : ¬ m = 0 := by omega
    simp [Go.binOp, Op.intDiv, h2]
   ·show _ = _
    rw [Int.tmod_eq_emod_of_nonneg (by omega), ← hm]
    simp
theorem simBin {op : BinOp} {x y v : V} {u u' : Value} (hx : RelV g x u) (hy : RelV g y u') (hv : V.bin op x y = some v) (t : TypeId) (x' y' : Operand) :
  ∃ r, (do eqGuard op t x' y' u u'; Go.binOp op t u u' : Sem Value).run P w = .ok r w ∧ RelV g v r := by
 unfold V.bin at hv
 split at hv
 ·exact simAbs hx hy hv t x' y'
 ·rename_i k p k'
  obtain ⟨n, rfl, _⟩ := (show Ab.holds (.int k') u' from hy)
  rw [rel_int hx]
  have hg : (eqGuard op t x' y' (.int k p) (.int k' n)).run P w = .ok () w := by
   unfold eqGuard
   split <;> simp
  simp only [Sem.run_bind, hg, Result.andThen_ok]
  unfold Ab.cmp at hv
  split at hv <;> (try (cases hv; done))
  rename_i hk
  subst hk
  split at hv <;> (try (cases hv; done))
  all_goals
   injection hv with hv; subst hv
   exact ⟨_, by simp [Go.binOp, Op.intArith, Op.intDiv, Op.intBits, Op.intCmp]; rfl, _, rfl⟩
 ·rename_i k p k' q
  rw [rel_int hx, rel_int hy]
  have hg : (eqGuard op t x' y' (.int k p) (.int k' q)).run P w = .ok () w := by
   unfold eqGuard
   split <;> simp
  simp only [Sem.run_bind, hg, Result.andThen_ok]
  split at hv
  ·split at hv
   ·cases hv
   ·rename_i hq
    injection hv with hv; subst hv
    exact ⟨_, by simp [Go.binOp, Op.shift, hq], rfl⟩
  ·split at hv
   ·cases hv
   ·rename_i hq
    injection hv with hv; subst hv
    exact ⟨_, by simp [Go.binOp, Op.shift, hq], rfl⟩
  ·rename_i h1 h2
   split at hv
   ·rename_i hk
    subst hk
    cases op <;> simp only [binInt, bitsV, Option.map_some, Option.map_none] at hv <;> (try (cases hv; done)) <;> (try (exact absurd rfl h1)) <;> (try (exact absurd rfl h2))
    all_goals (try (split at hv <;> (try (cases hv; done))))
    all_goals (injection hv with hv; subst hv)
    all_goals (refine ⟨_, ?_, rfl⟩)
    all_goals (first | (simp [Go.binOp, Op.intArith, Op.intDiv, Op.intBits, Op.intCmp]; done) | (rename_i hq; simp [Go.binOp, Op.intArith, Op.intDiv, Op.intBits, Op.intCmp, hq]))
   ·cases hv
 ·rename_i p q
  rw [rel_str hx, rel_str hy]
  have hg : (eqGuard op t x' y' (.string p) (.string q)).run P w = .ok () w := by
   unfold eqGuard
   split <;> simp
  simp only [Sem.run_bind, hg, Result.andThen_ok]
  cases op <;> simp only [binStr] at hv <;> (try (cases hv; done))
  ·split at hv
   ·cases hv
   ·rename_i hq
    injection hv with hv; subst hv
    exact ⟨_, by simp only [Go.binOp, Op.stringOp]; rw [if_neg hq]; rfl, rfl⟩
  all_goals
   injection hv with hv; subst hv
   exact ⟨_, by simp only [Go.binOp, Op.stringOp]; rfl, rfl⟩
 ·cases hv
theorem simUn {op : UnOp} {x v : V} {u : Value} (hx : RelV g x u) (hv : V.un op x = some v) : ∃ r, (Op.unary op u).run P w = .ok r w ∧ RelV g v r := by
 unfold V.un at hv
 split at hv
 ·rw [rel_int hx]
  split at hv <;> (try (cases hv; done))
  ·injection hv with hv; subst hv
   exact ⟨_, by simp [Op.unary, Op.intArith], rfl⟩
  ·simp only [bitsV, Option.map_some] at hv
   injection hv with hv; subst hv
   exact ⟨_, by simp [Op.unary, Op.intBits], rfl⟩
 ·rw [rel_bool hx]
  split at hv <;> (try (cases hv; done))
  injection hv with hv; subst hv
  exact ⟨_, by simp [Op.unary], rfl⟩
 ·cases hv
theorem rel_ptr {p : Option (Nat × Nat)} {u : Value} (h : RelV g (.ptr p) u) : ∃ q : Option Addr, u = .pointer q ∧ q.isNone = p.isNone := by
 cases p with
 | none => exact ⟨none, h, rfl⟩
 | some p => obtain ⟨i, o⟩ := p; exact ⟨_, h.2, rfl⟩
theorem rel_eptr {cs : List V} {u : Value} (h : RelV g (.eptr cs) u) : ∃ q : Addr, u = .pointer (some q) := by
 obtain ⟨_, _, _, rfl, _⟩ := h
 exact ⟨_, rfl⟩
theorem rel_sl {cs : List V} {m sz : Nat} {t : Tok} {u : Value} (h : RelV g (.sl cs m sz t) u) : ∃ (q : Option Addr) (c : Nat), u = .slice q m c ∧ q.isNone = (t == .nil) := by
 obtain ⟨_, h⟩ := h
 rcases h with ⟨rfl, rfl, _, rfl⟩ | ⟨ht, _, _, _, _, rfl, _⟩ | ⟨ht, rfl, _, x, rfl⟩
 ·exact ⟨none, 0, rfl, rfl⟩
 ·exact ⟨_, _, rfl, by simpa using ht⟩
 ·exact ⟨some x, 0, rfl, by rcases ht with rfl | rfl <;> rfl⟩
theorem rel_msl {o off m sz : Nat} {u : Value} (h : RelV g (.msl o off m sz) u) : ∃ (q : Addr) (c : Nat), u = .slice (some q) m c := by
 obtain ⟨_, c, rfl, _⟩ := h
 exact ⟨_, _, rfl⟩
theorem rel_map {r : Option Nat} {u : Value} (h : RelV g (.map r) u) : ∃ q : Option Nat, u = .map q ∧ q.isNone = r.isNone := by
 cases r with
 | none => exact ⟨none, h, rfl⟩
 | some r => exact ⟨_, h.2, rfl⟩
theorem rel_func {f : FuncId} {pre cap : List V} {u : Value} (h : RelV g (.func f pre cap) u) : ∃ a b c, u = .func a b c := by
 obtain ⟨_, _, rfl, _⟩ := h
 exact ⟨_, _, _, rfl⟩
theorem rel_iface {t : TypeId} {v : V} {u : Value} (h : RelV g (.iface t v) u) : ∃ x, u = .iface t x ∧ RelV g v x := h
theorem simEq {k : TK} {t : TypeId} (hk : chkTK P t k = true) {x y : V} {b : Bool} {u u' : Value} (hx : RelV g x u) (hy : RelV g y u') (hv : V.eq k x y = some b) (d : Nat) :
  (Op.equalIn (d + 1) t u u').run P w = .ok b w := by
 unfold V.eq at hv
 split at hv
 all_goals (try (split at hv <;> (try (cases hv; done))))
 all_goals (try (cases hv; done))
 all_goals (rename_i hkk)
 all_goals (first | (obtain ⟨rfl, hij⟩ := hkk) | subst hkk)
 all_goals (simp only [chkTK] at hk; split at hk <;> (try (cases hk; done)))
 all_goals (rename_i ht)
 ·injection hv with hv; subst hv; rw [rel_bool hx, rel_bool hy]; simp [Op.equalIn, run_underlying ht]
 ·injection hv with hv; subst hv
  obtain ⟨p, rfl, hp⟩ := rel_ptr hx; obtain ⟨q, rfl, hq⟩ := rel_ptr hy
  cases p <;> simp at hp
  simp [Op.equalIn, run_underlying ht, hq]
 ·injection hv with hv; subst hv
  obtain ⟨p, rfl, hp⟩ := rel_ptr hx; obtain ⟨q, rfl, hq⟩ := rel_ptr hy
  cases q <;> simp at hq
  cases p <;> simp at hp
  simp [Op.equalIn, run_underlying ht]
 ·injection hv with hv; subst hv
  subst hij
  obtain ⟨_, rfl⟩ := hx
  obtain ⟨_, rfl⟩ := hy
  split at hk <;> (try (cases hk; done))
  rename_i s hs
  have hs0 : s ≠ 0 := of_decide_eq_true hk
  simp [Op.equalIn, run_underlying ht, szOf_run hs, hs0, sameAddr]
  rw [Bool.eq_iff_iff]; simp
 ·injection hv with hv; subst hv
  obtain ⟨p, rfl, hp⟩ := rel_ptr hx; obtain ⟨q, rfl⟩ := rel_eptr hy
  cases p <;> simp at hp
  simp [Op.equalIn, run_underlying ht]
 ·injection hv with hv; subst hv
  obtain ⟨p, rfl, hp⟩ := rel_ptr hy; obtain ⟨q, rfl⟩ := rel_eptr hx
  cases p <;> simp at hp
  simp [Op.equalIn, run_underlying ht]
 ·obtain ⟨p, c, rfl, hp⟩ := rel_sl hx; obtain ⟨q, c', rfl, hq⟩ := rel_sl hy
  split at hv
  ·rename_i hs
   injection hv with hv; subst hv; subst hs
   cases p <;> simp at hp
   simp [Op.equalIn, run_underlying ht, hq]
  ·rename_i hs
   split at hv
   ·rename_i hs'
    injection hv with hv; subst hv; subst hs'
    cases q <;> simp at hq
    cases p with
    | none => exact absurd (by simpa using hp.symm) hs
    | some p => simp [Op.equalIn, run_underlying ht]
   ·cases hv
 ·injection hv with hv; subst hv
  obtain ⟨p, c, rfl⟩ := rel_msl hx; obtain ⟨q, c', rfl, hq⟩ := rel_sl hy
  subst hij
  cases q <;> simp at hq
  simp [Op.equalIn, run_underlying ht]
 ·injection hv with hv; subst hv
  obtain ⟨p, rfl, hp⟩ := rel_map hx; obtain ⟨q, rfl, hq⟩ := rel_map hy
  cases p <;> simp at hp
  simp [Op.equalIn, run_underlying ht, hq]
 ·injection hv with hv; subst hv
  obtain ⟨p, rfl, hp⟩ := rel_map hx; obtain ⟨q, rfl, hq⟩ := rel_map hy
  cases q <;> simp at hq
  cases p <;> simp at hp
  simp [Op.equalIn, run_underlying ht]
 ·injection hv with hv; subst hv
  obtain rfl : u = .nilFunc := hx; obtain rfl : u' = .nilFunc := hy
  simp [Op.equalIn, run_underlying ht]
 ·injection hv with hv; subst hv
  obtain rfl : u = .nilFunc := hx; obtain ⟨_, _, _, rfl⟩ := rel_func hy
  simp [Op.equalIn, run_underlying ht]
 ·injection hv with hv; subst hv
  obtain rfl : u' = .nilFunc := hy; obtain ⟨_, _, _, rfl⟩ := rel_func hx
  simp [Op.equalIn, run_underlying ht]
 ·injection hv with hv; subst hv
  obtain rfl : u = .nilIface := hx; obtain ⟨_, rfl, _⟩ := rel_iface hy
  simp [Op.equalIn, run_underlying ht]
 ·injection hv with hv; subst hv
  obtain rfl : u' = .nilIface := hy; obtain ⟨_, rfl, _⟩ := rel_iface hx
  simp [Op.equalIn, run_underlying ht]
end
end Go.VM
namespace Go.VM
open Go Go.RowKit
section
variable {P : Program} {w0 w : World} {g : G} {S : St} {n : Nat} {fr : Fr} {a : Act}
theorem bytes_rel {cs : List V} {us : List Value} (h : RelL g cs us) : ∀ {l : List UInt8}, bytesOf cs = some l → us = (l.map fun b => (b.toNat : Int)).map (Value.int .u8) ∨ ∃ ns : List Int, us = ns.map (Value.int .u8) ∧ l = ns.map fun n => UInt8.ofNat n.toNat := by
 intro l hl
 right
 induction cs generalizing us l with
 | nil => simp only [bytesOf] at hl; injection hl with hl; subst hl; obtain rfl : us = [] := h; exact ⟨[], rfl, rfl⟩
 | cons c cs ih =>
  obtain ⟨u, r, rfl, h1, h2⟩ := h
  unfold bytesOf at hl
  split at hl <;> (try (cases hl; done))
  ·rename_i heq; cases heq
  ·rename_i k rr heq
   injection heq with e1 e2; subst e1; subst e2
   obtain ⟨l', hl', rfl⟩ := Option.map_eq_some_iff.1 hl
   obtain ⟨ns, rfl, rfl⟩ := ih h2 hl'
   rw [rel_int h1]
   exact ⟨k :: ns, rfl, rfl⟩
theorem elems_rel (hW : RelW w0 g S w) {sz m : Nat} {v : V} {u : Value} {cs : List V} (h : RelV g v u) (he : v.elems S sz = some (m, cs)) :
  cs.length = m * sz ∧ ∃ us, RelL g cs us ∧ Ones us ∧
   ((∃ (q : Option Addr) (c : Nat), u = .slice q m c ∧ (m = 0 ∨ ∃ b p, q = some ⟨b, p, none⟩ ∧ Reads w b p us)) ∨ (∃ s, u = .string s ∧ sz = 1 ∧ m = s.size ∧ us = s.data.toList.map fun b => .int .u8 b.toNat)) := by
 unfold V.elems at he
 split at he
 ·rename_i cs' m' sz' t
  split at he
  ·rename_i ht
   injection he with he
   injection he with e1 e2
   subst e1; subst e2
   obtain ⟨hl, h⟩ := h
   rcases h with ⟨_, hm, hcs, rfl⟩ | ⟨ht', _⟩ | ⟨ht', _⟩
   ·exact ⟨by simp, [], rfl, fun _ hx => (by cases hx), .inl ⟨none, 0, rfl, .inl rfl⟩⟩
   ·exact absurd ht ht'
   ·rcases ht' with h' | h' <;> (rw [h'] at ht; cases ht)
  ·rename_i ht
   split at he
   ·rename_i hsz
    injection he with he
    injection he with e1 e2
    subst e1; subst e2; subst hsz
    obtain ⟨hl, h⟩ := h
    rcases h with ⟨ht', _⟩ | ⟨_, b, p, cap, us, rfl, hc, r, on, ic, _⟩ | ⟨_, rfl, rfl, x, rfl⟩
    ·exact absurd ht' ht
    ·exact ⟨hl, us, r, on, .inl ⟨_, cap, rfl, .inr ⟨b, p, rfl, hW.reads ic⟩⟩⟩
    ·exact ⟨hl, [], rfl, fun _ hx => (by cases hx), .inl ⟨some x, 0, rfl, .inl rfl⟩⟩
   ·cases he
 ·rename_i o off m' sz'
  split at he
  ·rename_i hsz
   subst hsz
   obtain ⟨ds, hds, he⟩ := Option.bind_eq_some_iff.1 he
   split at he
   ·rename_i hle
    injection he with he
    injection he with e1 e2
    subst e1; subst e2
    obtain ⟨_, c, rfl, _⟩ := h
    obtain ⟨xs, r, on, rd⟩ := hW.cells hds
    refine ⟨by rw [List.length_take, List.length_drop]; omega, _, (r.drop off).take _, (on.drop off).take _, .inl ⟨_, c, rfl, .inr ⟨_, _, rfl, (rd.drop off).take _⟩⟩⟩
   ·cases he
  ·cases he
 ·rename_i s
  split at he
  ·rename_i hsz
   injection he with he
   injection he with e1 e2
   subst e1; subst e2; subst hsz
   refine ⟨by simp, s.data.toList.map fun b => .int .u8 b.toNat, ?_, ?_, .inr ⟨s, rel_str h, rfl, rfl, rfl⟩⟩
   ·refine RelL_iff.2 ⟨by simp, fun j c u hc hu => ?_⟩
    simp only [List.getElem?_map, Option.map_eq_some_iff] at hc hu
    obtain ⟨b, hb, rfl⟩ := hc
    obtain ⟨b', hb', rfl⟩ := hu
    rw [hb] at hb'
    injection hb' with hb'; subst hb'
    rfl
   ·intro x hx
    obtain ⟨b, _, rfl⟩ := List.mem_map.1 hx
    rfl
  ·cases he
 ·cases he
theorem simConv (hW : RelW w0 g S w) {c : Cv} {x v : V} {u : Value} (hx : RelV g x u) (hv : V.conv S c x = some v) {src dst : TypeId}
  (hc : chkCv P src dst c = true) : ∃ r, (convert src dst u).run P w = .ok r w ∧ RelV g v r := by
 unfold V.conv at hv
 split at hv
 ·simp only [chkCv] at hc
  split at hc <;> (try (cases hc; done))
  rename_i h1 h2
  injection hv with hv; subst hv
  rw [rel_str hx]
  exact ⟨_, by simp [convert, run_underlying h1, run_underlying h2], rfl⟩
 ·simp only [chkCv] at hc
  split at hc <;> (try (cases hc; done))
  rename_i h1 h2
  have hk := of_decide_eq_true hc
  subst hk
  injection hv with hv; subst hv
  rw [rel_int hx]
  exact ⟨_, by simp [convert, run_underlying h1, run_underlying h2, Conv.intToInt], rfl⟩
 ·rename_i k _ m r most
  simp only [chkCv] at hc
  split at hc <;> (try (cases hc; done))
  rename_i h1 h2
  have hk := of_decide_eq_true hc
  subst hk
  split at hv <;> (try (cases hv; done))
  rename_i hw
  injection hv with hv; subst hv
  obtain ⟨p, rfl, hp, hm⟩ := (show Ab.holds (.res _ m r most) _ from hx)
  refine ⟨.int k (k.wrap (p : Int)), by simp [convert, run_underlying h1, run_underlying h2, Conv.intToInt], p, ?_, hp, hm⟩
  rw [wrap_le hw hp]
 ·simp only [chkCv] at hc
  split at hc <;> (try (cases hc; done))
  rename_i h1 h2
  injection hv with hv; subst hv
  rw [rel_int hx]
  exact ⟨_, by simp [convert, run_underlying h1, run_underlying h2, Conv.intToString], rfl⟩
 ·cases hv
 ·rename_i hns
  simp only [chkCv] at hc
  split at hc <;> (try (cases hc; done))
  rename_i h1 h2
  split at hc <;> (try (cases hc; done))
  rename_i h3
  obtain ⟨⟨m, cs⟩, he, hv⟩ := Option.bind_eq_some_iff.1 hv
  obtain ⟨l, hl, rfl⟩ := Option.map_eq_some_iff.1 hv
  obtain ⟨hlen, us, r, on, hsh⟩ := elems_rel hW hx he
  rcases bytes_rel r hl with hus | ⟨ns, hus, hln⟩
  ·refine ⟨.string ⟨l.toArray⟩, ?_, rfl⟩
   have hml : l.length = m := by have := r.len; rw [hus] at this; simp at this; omega
   rcases hsh with ⟨q, c, rfl, hq⟩ | ⟨s, rfl, _⟩
   ·rcases hq with rfl | ⟨b, p, rfl, rd⟩
    ·obtain rfl : l = [] := List.eq_nil_of_length_eq_zero hml
     cases q with
     | none => rw [run_convert_bytes_nil w src _ h1 h3 0 c dst h2]; rfl
     | some q => exact run_convert_bytes_back w src dst _ q c [] h1 h3 h2 (fun j hj => by simp at hj)
    ·rw [← hml]
     refine run_convert_bytes_back w src dst _ ⟨b, p, none⟩ c l h1 h3 h2 (fun j hj => ?_)
     rw [add_at]
     refine rd j _ ?_
     rw [hus]
     simp [hj]
   ·cases x with
    | str s' => exact absurd rfl (hns s')
    | _ => simp [V.elems] at he <;> (try (unfold RelV at hx)) <;> (try (obtain ⟨_, hx⟩ := hx)) <;> (try simp at hx)
  ·refine ⟨.string ⟨l.toArray⟩, ?_, rfl⟩
   have hml : ns.length = m := by have := r.len; rw [hus] at this; simp at this; omega
   rcases hsh with ⟨q, c, rfl, hq⟩ | ⟨s, rfl, _⟩
   ·rcases hq with rfl | ⟨b, p, rfl, rd⟩
    ·obtain rfl : ns = [] := List.eq_nil_of_length_eq_zero hml
     simp at hln
     subst hln
     cases q with
     | none => rw [run_convert_bytes_nil w src _ h1 h3 0 c dst h2]; rfl
     | some q => exact run_convert_bytes_back w src dst _ q c [] h1 h3 h2 (fun j hj => by simp at hj)
    ·have := run_convert_bytes_arg (P := P) w src _ h1 h3 b p m c ns hml (fun i hi => by
      refine rd i _ ?_
      rw [hus]
      simp [List.getD, List.getElem?_eq_getElem (show i < ns.length by omega)]) dst h2
     rw [this, hln]
     rfl
   ·cases x with
    | str s' => exact absurd rfl (hns s')
    | _ => simp [V.elems] at he <;> (try (unfold RelV at hx)) <;> (try (obtain ⟨_, hx⟩ := hx)) <;> (try simp at hx)
 ·cases hv
end
end Go.VM
namespace Go.VM
open Go Go.RowKit
section
variable {P : Program} {w0 w : World} {g : G} {S : St} {n : Nat} {fr : Fr} {a : Act}
theorem part_rel {cs : List V} {us : List Value} (hr : RelL g cs us) (ho : Ones us) {t : TypeId} {agg : Bool} {sz off : Nat} (ha : aggOf P t = some agg) (hs : szOf P t = some sz) {v : V} (hv : takeC agg sz (cs.drop off) = some v) :
  ∃ u, (part t us.toArray off).run P w = .ok u w ∧ RelV g v u := by
 unfold takeC at hv
 cases agg with
 | true =>
  simp only [if_true] at hv
  split at hv
  ·rename_i hle
   injection hv with hv; subst hv
   refine ⟨.agg ((us.drop off).take sz).toArray, ?_, _, rfl, (hr.drop off).take sz, (ho.drop off).take sz⟩
   simp only [part, Sem.run_bind, aggOf_run ha, Result.andThen_ok, if_true, szOf_run hs, Sem.run_pure]
   congr 2
   apply Array.toList_inj.1
   simp [List.extract_eq_take_drop]
  ·cases hv
 | false =>
  simp only [Bool.false_eq_true, if_false] at hv
  have hc0 : cs[off]? = some v := by
   rw [List.head?_eq_getElem?, List.getElem?_drop] at hv
   simpa using hv
  obtain ⟨u, hu, hrel⟩ := hr.at_ hc0
  exact ⟨u, by simp [part, aggOf_run ha, hu], hrel⟩
theorem eqLs_append : ∀ (ks ks' : List KK) (cs ds cs' ds' : List V), cs.length = ks.length → ds.length = ks.length → eqLs (ks ++ ks') (cs ++ cs') (ds ++ ds') = (match eqLs ks cs ds with | some true => eqLs ks' cs' ds' | r => r) := by
 intro ks
 induction ks with
 | nil => intro ks' cs ds cs' ds' h h'; cases List.eq_nil_of_length_eq_zero h; cases List.eq_nil_of_length_eq_zero h'; rfl
 | cons k ks ih =>
  intro ks' cs ds cs' ds' h h'
  cases cs with
  | nil => simp at h
  | cons c cs =>
   cases ds with
   | nil => simp at h'
   | cons d ds =>
    simp only [List.cons_append, eqLs]
    cases V.keyEq k c d with
    | none => rfl
    | some b => cases b with
     | false => rfl
     | true => exact ih ks' cs ds cs' ds' (by simpa using h) (by simpa using h')
theorem leaf_agg : ∀ {m : Nat} {t : TypeId} {ks : List KK}, leafN P m t = some ks → ∃ agg, aggOf P t = some agg ∧ (agg = false → ks.length = 1) := by
 intro m t n h
 cases m with
 | zero => cases h
 | succ m =>
  simp only [leafN] at h
  split at h <;> rename_i e <;> simp only [aggOf, e, Option.map_some] <;> (try cases h) <;> exact ⟨_, rfl, by simp⟩
theorem keyEq_leaf (kk : KK) {c c' : V} {b : Bool} {u u' : Value} (h : V.keyEq kk c c' = some b) (hu : RelV g c u) (hu' : RelV g c' u') :
  (kk = .int ∧ ∃ k x x', u = .int k x ∧ u' = .int k x' ∧ b = (x == x')) ∨ (kk = .str ∧ ∃ x x', u = .string x ∧ u' = .string x' ∧ b = (x == x')) ∨ (kk = .bool ∧ ∃ x x', u = .bool x ∧ u' = .bool x' ∧ b = (x == x')) := by
 unfold V.keyEq at h
 split at h
 ·split at h
  ·rename_i hk
   injection h with h
   obtain ⟨h1, h2⟩ := hk
   subst h2
   exact .inl ⟨h1, _, _, _, rel_int hu, rel_int hu', h.symm⟩
  ·cases h
 ·split at h
  ·rename_i hk
   injection h with h
   exact .inr (.inl ⟨hk, _, _, rel_str hu, rel_str hu', h.symm⟩)
  ·cases h
 ·split at h
  ·rename_i hk
   injection h with h
   exact .inr (.inr ⟨hk, _, _, rel_bool hu, rel_bool hu', h.symm⟩)
  ·cases h
 ·cases h
theorem equal_leaf (w : World) : ∀ (m : Nat) (t : TypeId) (ks : List KK), leafN P m t = some ks → ∀ (d : Nat) (agg : Bool), aggOf P t = some agg → ∀ (cs ds : List V) (v v' : V) (u u' : Value) (b : Bool), takeC agg ks.length cs = some v → takeC agg ks.length ds = some v' → RelV g v u → RelV g v' u' → eqLs ks (cs.take ks.length) (ds.take ks.length) = some b →
  (Op.equalIn (d + m) t u u').run P w = .ok b w := by
 intro m
 induction m with
 | zero => intro t n h; cases h
 | succ m ih =>
  intro t ks h d agg ha cs ds v v' u u' b hv hv' hu hu' hb
  have one : ∀ kk, agg = false → ks = [kk] → V.keyEq kk v v' = some b := by
   intro k h1 h2
   subst h1; subst h2
   cases cs with
   | nil => simp [takeC] at hv
   | cons c cs =>
    cases ds with
    | nil => simp [takeC] at hv'
    | cons c' ds =>
     simp only [takeC, Bool.false_eq_true, if_false, List.head?_cons, Option.some.injEq] at hv hv'
     subst hv; subst hv'
     simp only [List.length_cons, List.length_nil, Nat.zero_add, List.take_succ_cons, List.take_zero, eqLs] at hb
     cases he : V.keyEq k c c' with
     | none => rw [he] at hb; cases hb
     | some x => rw [he] at hb; cases x <;> simpa using hb
  simp only [leafN] at h
  rw [← Nat.add_assoc]
  split at h
  ·rename_i e
   simp only [aggOf, e, Option.map_some, Option.some.injEq] at ha
   injection h with h
   rcases keyEq_leaf .bool (one _ ha.symm h.symm) hu hu' with ⟨h0, _⟩ | ⟨h0, _⟩ | ⟨_, x, x', rfl, rfl, rfl⟩
   ·cases h0
   ·cases h0
   ·exact run_equalIn_bool' w _ _ _ _ e
  ·rename_i k0 e
   simp only [aggOf, e, Option.map_some, Option.some.injEq] at ha
   injection h with h
   rcases keyEq_leaf .int (one _ ha.symm h.symm) hu hu' with ⟨_, k, x, x', rfl, rfl, rfl⟩ | ⟨h0, _⟩ | ⟨h0, _⟩
   ·exact run_equalIn_int w _ _ _ _ _ _ e
   ·cases h0
   ·cases h0
  ·rename_i e
   simp only [aggOf, e, Option.map_some, Option.some.injEq] at ha
   injection h with h
   rcases keyEq_leaf .str (one _ ha.symm h.symm) hu hu' with ⟨h0, _⟩ | ⟨_, x, x', rfl, rfl, rfl⟩ | ⟨h0, _⟩
   ·cases h0
   ·rw [beq_toListBytes]; exact run_equalIn_string w _ _ _ _ e
   ·cases h0
  ·rename_i fs e
   split at h
   ·rename_i hst
    simp only [aggOf, e, Option.map_some, Option.some.injEq] at ha
    subst ha
    have fo : P.fieldsOf t = fs := by simp only [Program.fieldsOf, e]
    simp only [takeC, if_true] at hv hv'
    split at hv
    ·rename_i hl
     split at hv'
     ·rename_i hl'
      injection hv with hv; subst hv
      injection hv' with hv'; subst hv'
      obtain ⟨us, rfl, hr, ho⟩ := hu
      obtain ⟨us', rfl, hr', ho'⟩ := hu'
      rw [run_equalIn_struct w (d + m) t _ _ (by rw [fo]; exact e) hst, fo]
      have go : ∀ (fs : List Field) (off : Nat) (ls : List KK), sumL P (leafN P m) fs off = some ls → off + ls.length ≤ ks.length → eqLs ls ((cs.take ks.length).drop off) ((ds.take ks.length).drop off) = some b → (Op.eqFields (d + m) us.toArray us'.toArray fs).run P w = .ok b w := by
       intro fs
       induction fs with
       | nil =>
        intro off ls ho hz he
        injection ho with ho; subst ho
        have : b = true := by
         cases h1 : (cs.take ks.length).drop off <;> cases h2 : (ds.take ks.length).drop off <;> rw [h1, h2] at he <;> simp [eqLs] at he
         exact he
        subst this
        rfl
       | cons f fs ihf =>
        intro off ls hs hle he
        simp only [sumL] at hs
        split at hs
        ·rename_i hn
         split at hs
         ·rename_i k hk
          split at hs
          ·rename_i hz
           obtain ⟨ls', hs', rfl⟩ := Option.map_eq_some_iff.1 hs
           rw [List.length_append] at hle
           obtain ⟨ag, hag, hag1⟩ := leaf_agg hk
           have tk : ∀ xs : List V, ks.length ≤ xs.length → ∃ v, takeC ag k.length ((xs.take ks.length).drop off) = some v := by
            intro xs hx
            cases ag with
            | true => exact ⟨_, by simp only [takeC, if_true]; rw [if_pos (by simp; omega)]⟩
            | false =>
             have := hag1 rfl
             simp only [takeC, Bool.false_eq_true, if_false]
             rw [List.head?_drop]
             exact ⟨_, List.getElem?_eq_getElem (by simp; omega)⟩
           obtain ⟨a, ha⟩ := tk cs hl
           obtain ⟨a', ha'⟩ := tk ds hl'
           obtain ⟨p, hp, hpr⟩ := part_rel (P := P) (w := w) hr ho hag hz ha
           obtain ⟨p', hp', hpr'⟩ := part_rel (P := P) (w := w) hr' ho' hag hz ha'
           have sp : ∀ xs : List V, xs = xs.take k.length ++ xs.drop k.length := fun xs => (List.take_append_drop _ xs).symm
           rw [sp ((cs.take ks.length).drop off), sp ((ds.take ks.length).drop off), eqLs_append _ _ _ _ _ _ (by simp; omega) (by simp; omega), List.drop_drop, List.drop_drop] at he
           simp only [Op.eqFields, if_pos hn.1, Sem.run_bind, hn.2, hp, hp', Result.andThen_ok]
           cases hq : eqLs k (((cs.take ks.length).drop off).take k.length) (((ds.take ks.length).drop off).take k.length) with
           | none => rw [hq] at he; cases he
           | some x =>
            have := ih f.type k hk d ag hag _ _ _ _ _ _ x ha ha' hpr hpr' hq
            rw [this]
            cases x with
            | false => rw [hq] at he; injection he with he; subst he; rfl
            | true =>
             rw [hq] at he
             simp only [Result.andThen_ok, Bool.not_true, Bool.false_eq_true, if_false]
             exact ihf (off + k.length) ls' hs' (by omega) he
          ·cases hs
         ·cases hs
        ·cases hs
      exact go _ 0 _ h (by omega) (by simpa using hb)
     ·cases hv'
    ·cases hv
   ·cases h
  ·cases h
theorem simEqA {ks : List KK} {t : TypeId} (hk : chkEqA P t ks = true) {x y : V} {b : Bool} {u u' : Value} (hx : RelV g x u) (hy : RelV g y u') (hv : eqA ks x y = some b) (neg : Bool) (op : BinOp) (ho : (match op with | .eql => !neg | .neq => neg | _ => false) = true) (x' y' : Operand) :
  ∃ r, (do eqGuard op t x' y' u u'; Go.binOp op t u u' : Sem Value).run P w = .ok r w ∧ RelV g (.bool (if neg then !b else b)) r := by
 unfold eqA at hv
 split at hv
 ·rename_i cs ds
  simp only [chkEqA, Bool.and_eq_true, decide_eq_true_eq, Bool.not_eq_true'] at hk
  obtain ⟨⟨h1, h2⟩, h3⟩ := hk
  obtain ⟨us, rfl, hr, hu⟩ := hx
  obtain ⟨us', rfl, hr', hu'⟩ := hy
  have ha : aggOf P t = some true := by
   split at h3
   ·rename_i e; simp [aggOf, e]
   ·cases h3
  split at hv
  rotate_left
  ·cases hv
  rename_i hlen
  have hx : takeC true ks.length cs = some (.agg cs) := by
   rw [takeC, if_pos rfl, if_pos (Nat.le_of_eq hlen.1.symm), List.take_of_length_le (Nat.le_of_eq hlen.1)]
  have hy : takeC true ks.length ds = some (.agg ds) := by
   rw [takeC, if_pos rfl, if_pos (Nat.le_of_eq hlen.2.symm), List.take_of_length_le (Nat.le_of_eq hlen.2)]
  have e := equal_leaf (P := P) w 20 t ks h1 9980 true ha cs ds (.agg cs) (.agg ds) _ _ b hx hy ⟨us, rfl, hr, hu⟩ ⟨us', rfl, hr', hu'⟩ (by rw [List.take_of_length_le (by omega), List.take_of_length_le (by omega)]; exact hv)
  refine ⟨_, ?_, rfl⟩
  rw [Sem.run_bind, run_eqGuard_agg w op t x' y' _ _ h2, Result.andThen_ok]
  cases op <;> simp only [] at ho <;> (try (cases ho; done))
  ·simp at ho; subst ho
   rw [run_eql_struct, e]
   rfl
  ·subst ho
   rw [run_neq_struct, e]
   rfl
 ·cases hv
theorem chkO_rel {g : G} {n : Nat} {fr : Fr} {a : Act} (k : RelF g n fr a.tmps) {x : Option Operand} {y : Option Arg} (h : chkO n x y = true) :
  (x = none ∧ y = none) ∨ ∃ x' y', x = some x' ∧ y = some y' ∧ RelV g (y'.ev fr) (a.eval x') := by
 unfold chkO at h
 split at h
 ·exact .inl ⟨rfl, rfl⟩
 ·exact .inr ⟨_, _, rfl, rfl, chkA_rel k h⟩
 ·cases h
theorem sliceBound_run {u : Value} {k : IntKind} {j y : Nat} (hu : u = .int k (j : Int)) (hj : j ≤ y) (code : BoundsCode) : (Instr.sliceBound u y code).run P w = .ok j w := by
 subst hu
 simp only [Instr.sliceBound, asIntOf, Sem.run_bind, Sem.run_pure, Result.andThen_ok]
 rw [if_pos ⟨by omega, by omega⟩]
 simp
theorem bounds_rel (hF : RelF g n fr a.tmps) {lo hi : Option Operand} {lo' hi' : Option Arg} (h1 : chkO n lo lo' = true) (h2 : chkO n hi hi' = true) {len cap : Nat} (hlc : len ≤ cap) {q : Nat × Nat} (hq : bounds fr len lo' hi' = some q) (isSlice : Bool) :
  q.1 ≤ q.2 ∧ q.2 ≤ len ∧ (Instr.sliceBounds isSlice len cap (lo.map a.eval) (hi.map a.eval) none).run P w = .ok (q.1, q.2, cap) w := by
 unfold bounds at hq
 rcases chkO_rel hF h1 with ⟨rfl, rfl⟩ | ⟨l, l', rfl, rfl, hl⟩ <;> rcases chkO_rel hF h2 with ⟨rfl, rfl⟩ | ⟨h, h', rfl, rfl, hh⟩
 ·simp only [bind, Option.bind, pure] at hq
  split at hq
  ·rename_i hb
   injection hq with hq; subst hq
   exact ⟨hb.1, hb.2, by simp [Instr.sliceBounds]⟩
  ·cases hq
 ·simp only [bind, Option.bind, pure] at hq
  split at hq
  ·cases hq
  ·rename_i j hj
   dsimp only at hq
   split at hq
   ·rename_i hb
    injection hq with hq; subst hq
    obtain ⟨k, hu⟩ := idx_rel hh hj
    exact ⟨hb.1, hb.2, by simp [Instr.sliceBounds, sliceBound_run (P := P) (w := w) hu (Nat.le_trans hb.2 hlc)]⟩
   ·cases hq
 ·simp only [bind, Option.bind, pure] at hq
  split at hq
  ·cases hq
  ·rename_i j hj
   dsimp only at hq
   split at hq
   ·rename_i hb
    injection hq with hq; subst hq
    obtain ⟨k, hu⟩ := idx_rel hl hj
    exact ⟨hb.1, hb.2, by simp [Instr.sliceBounds, sliceBound_run (P := P) (w := w) hu hb.1]⟩
   ·cases hq
 ·simp only [bind, Option.bind, pure] at hq
  split at hq
  ·cases hq
  ·rename_i j hj
   dsimp only at hq
   split at hq
   ·cases hq
   ·rename_i i hi
    dsimp only at hq
    split at hq
    ·rename_i hb
     injection hq with hq; subst hq
     obtain ⟨k, hu⟩ := idx_rel hh hj
     obtain ⟨k', hu'⟩ := idx_rel hl hi
     exact ⟨hb.1, hb.2, by simp [Instr.sliceBounds, sliceBound_run (P := P) (w := w) hu (Nat.le_trans hb.2 hlc), sliceBound_run (P := P) (w := w) hu' hb.1]⟩
    ·cases hq
theorem bounds3_rel (hF : RelF g n fr a.tmps) {lo hi : Option Operand} {lo' hi' : Option Arg} {mx : Operand} {mx' : Arg} (h1 : chkO n lo lo' = true) (h2 : chkO n hi hi' = true) (h3 : chkA n mx mx' = true) (hsome : hi.isSome = true)
  {len cap : Nat} (hlc : len ≤ cap) {q : Nat × Nat} (hq : bounds fr len lo' hi' = some q) (hm : (mx'.ev fr).idx = some q.2) :
  q.1 ≤ q.2 ∧ q.2 ≤ len ∧ (Instr.sliceBounds true len cap (lo.map a.eval) (hi.map a.eval) (some (a.eval mx))).run P w = .ok (q.1, q.2, q.2) w := by
 unfold bounds at hq
 obtain ⟨km, hum⟩ := idx_rel (chkA_rel hF h3) hm
 rcases chkO_rel hF h2 with ⟨rfl, rfl⟩ | ⟨h, h', rfl, rfl, hh⟩
 ·cases hsome
 rcases chkO_rel hF h1 with ⟨rfl, rfl⟩ | ⟨l, l', rfl, rfl, hl⟩
 ·simp only [bind, Option.bind, pure] at hq
  split at hq
  ·cases hq
  ·rename_i j hj
   dsimp only at hq
   split at hq
   ·rename_i hb
    injection hq with hq; subst hq
    obtain ⟨k, hu⟩ := idx_rel hh hj
    simp only at hum
    exact ⟨hb.1, hb.2, by simp [Instr.sliceBounds, sliceBound_run (P := P) (w := w) hum (Nat.le_trans hb.2 hlc), sliceBound_run (P := P) (w := w) hu (Nat.le_refl _)]⟩
   ·cases hq
 ·simp only [bind, Option.bind, pure] at hq
  split at hq
  ·cases hq
  ·rename_i j hj
   dsimp only at hq
   split at hq
   ·cases hq
   ·rename_i i hi
    dsimp only at hq
    split at hq
    ·rename_i hb
     injection hq with hq; subst hq
     obtain ⟨k, hu⟩ := idx_rel hh hj
     obtain ⟨k', hu'⟩ := idx_rel hl hi
     simp only at hum
     exact ⟨hb.1, hb.2, by simp [Instr.sliceBounds, sliceBound_run (P := P) (w := w) hum (Nat.le_trans hb.2 hlc), sliceBound_run (P := P) (w := w) hu (Nat.le_refl _), sliceBound_run (P := P) (w := w) hu' hb.1]⟩
    ·cases hq
theorem simSlice (hW : RelW w0 g S w) (hF : RelF g n fr a.tmps) {t e : TypeId} {sz : Nat} (ht : P.underlying t = some (.slice e)) (hs : szOf P e = some sz) {x : Operand} {x' : Arg} (hx : chkA n x x' = true)
  {lo hi mx : Option Operand} {lo' hi' mx' : Option Arg} (h1 : chkO n lo lo' = true) (h2 : chkO n hi hi' = true) (h3 : chkO n mx mx' = true) (hsome : (mx.isNone || hi.isSome) = true)
  {v : V} (hv : sliceV fr sz lo' hi' mx' (x'.ev fr) = some v) : ∃ r, (Instr.sliceAt t (a.eval x) (lo.map a.eval) (hi.map a.eval) (mx.map a.eval)).run P w = .ok r w ∧ RelV g v r := by
 have hrel := chkA_rel hF hx
 have hat : ∀ u, (Instr.sliceAt t u (lo.map a.eval) (hi.map a.eval) (mx.map a.eval)).run P w = (Instr.slice t u (lo.map a.eval) (hi.map a.eval) (mx.map a.eval)).run P w := fun u => by
  simp [Instr.sliceAt, run_underlying ht]
 rw [hat]
 unfold sliceV at hv
 split at hv
 ·rename_i cs m sz' tk heq
  rw [heq] at hrel
  obtain ⟨q, hq, hv⟩ := Option.bind_eq_some_iff.1 hv
  split at hv
  ·rename_i htk
   split at hv
   ·rename_i hmx
    split at hv
    ·rename_i hmq
     injection hv with hv; subst hv
     obtain ⟨_, hrel⟩ := hrel
     rcases hrel with ⟨_, rfl, rfl, hu⟩ | ⟨h', _⟩ | ⟨h', _⟩
     ·rw [hu]
      rcases chkO_rel hF h3 with ⟨rfl, rfl⟩ | ⟨m1, m2, rfl, rfl, _⟩
      ·simp at hmx
      ·have hmq' : (m2.ev fr).idx = some q.2 := by simpa using hmq
       obtain ⟨b1, b2, hb⟩ := bounds3_rel (P := P) (w := w) hF h1 h2 (by simpa [chkO] using h3) (by simpa using hsome) (Nat.le_refl 0) hq hmq'
       have e2 : q.2 = 0 := by omega
       have e1 : q.1 = 0 := by omega
       rw [e1, e2] at hb
       refine ⟨.slice none 0 0, ?_, by simp, .inl ⟨htk, rfl, rfl, rfl⟩⟩
       simp [Instr.slice, run_underlying ht, hb, szOf_run hs]
     ·exact absurd htk h'
     ·rcases h' with h' | h' <;> (rw [h'] at htk; cases htk)
    ·cases hv
   ·rename_i hmx
    injection hv with hv; subst hv
    obtain ⟨_, hrel⟩ := hrel
    rcases hrel with ⟨_, rfl, rfl, hu⟩ | ⟨h', _⟩ | ⟨h', _⟩
    ·rw [hu]
     rcases chkO_rel hF h3 with ⟨rfl, rfl⟩ | ⟨_, _, rfl, rfl, _⟩
     ·obtain ⟨b1, b2, hb⟩ := bounds_rel (P := P) (w := w) hF h1 h2 (Nat.le_refl 0) hq true
      have e2 : q.2 = 0 := by omega
      have e1 : q.1 = 0 := by omega
      rw [e1, e2] at hb
      refine ⟨.slice none 0 0, ?_, by simp, .inl ⟨htk, rfl, rfl, rfl⟩⟩
      simp [Instr.slice, run_underlying ht, hb, szOf_run hs]
     ·simp at hmx
    ·exact absurd htk h'
    ·rcases h' with h' | h' <;> (rw [h'] at htk; cases htk)
  ·rename_i htk
   split at hv
   ·cases hv
   rename_i hsz
   have hsz : sz' = sz := by simpa using hsz
   subst hsz
   obtain ⟨hlen, hrel⟩ := hrel
   rcases hrel with ⟨h', _⟩ | ⟨_, b, p, cap, us, hu, hc, r, on, ic, hcap, htok⟩ | ⟨hnc, rfl, rfl, x, hu⟩
   ·exact absurd h' htk
   rotate_left
   ·rw [hu]
    simp only at hv
    rcases chkO_rel hF h3 with ⟨rfl, rfl⟩ | ⟨m1, m2, rfl, rfl, _⟩
    ·simp only at hv
     injection hv with hv; subst hv
     obtain ⟨b1, b2, hb⟩ := bounds_rel (P := P) (w := w) hF h1 h2 (Nat.le_refl 0) hq true
     have e2 : q.2 = 0 := by omega
     have e1 : q.1 = 0 := by omega
     rw [e1, e2] at hb
     refine ⟨.slice (some x) 0 0, ?_, by simp [e1, e2], .inr (.inr ⟨?_, by omega, by simp, x, rfl⟩)⟩
     ·simp [Instr.slice, run_underlying ht, hb, szOf_run hs]
     ·rw [if_pos e2]; exact hnc
    ·simp only at hv
     split at hv
     ·rename_i hmq
      injection hv with hv; subst hv
      obtain ⟨b1, b2, hb⟩ := bounds3_rel (P := P) (w := w) hF h1 h2 (by simpa [chkO] using h3) (by simpa using hsome) (Nat.le_refl 0) hq hmq
      have e2 : q.2 = 0 := by omega
      have e1 : q.1 = 0 := by omega
      rw [e1, e2] at hb
      refine ⟨.slice (some x) 0 0, ?_, by simp [e1, e2], .inr (.inr ⟨.inr rfl, by omega, by simp, x, rfl⟩)⟩
      simp [Instr.slice, run_underlying ht, hb, szOf_run hs]
     ·cases hv
   rw [hu]
   simp only at hv
   rcases chkO_rel hF h3 with ⟨rfl, rfl⟩ | ⟨m1, m2, rfl, rfl, _⟩
   ·simp only at hv
    injection hv with hv; subst hv
    obtain ⟨b1, b2, hb⟩ := bounds_rel (P := P) (w := w) hF h1 h2 hc hq true
    have hcutlen : ((cs.drop (q.1 * sz')).take ((q.2 - q.1) * sz')).length = (q.2 - q.1) * sz' := by
     rw [List.length_take, List.length_drop, hlen, ← Nat.sub_mul]
     exact Nat.min_eq_left (Nat.mul_le_mul_right _ (by omega))
    have hrun : (Instr.slice t (.slice (some ⟨b, p, none⟩) m cap) (lo.map a.eval) (hi.map a.eval) none).run P w = .ok (.slice (some (if cap = q.1 then ⟨b, p, none⟩ else ⟨b, p + q.1 * sz', none⟩)) (q.2 - q.1) (cap - q.1)) w := by
     simp only [Instr.slice, run_underlying ht, Sem.run_bind, Result.andThen_ok, hb, szOf_run hs, Sem.run_pure, Option.map_some, add_at]
     split <;> rfl
    refine ⟨_, hrun, hcutlen, .inr (.inl ⟨?_, ?_⟩)⟩
    ·split
     ·exact htk
     ·intro hh; cases hh
    by_cases hcq : cap = q.1
    ·-- nothing is left
     have e0 : q.2 - q.1 = 0 := by omega
     refine ⟨b, p, cap - q.1, [], by rw [if_pos hcq], by omega, ?_, fun _ hx => (by cases hx), fun j v hj => (by simp at hj), fun _ => (by omega), fun k hk => ?_⟩
     ·rw [e0]; simp; rfl
     ·have hkt : tk = .at k := by
       split at hk
       ·exact hk
       ·cases hk
      exact ⟨(htok k hkt).1, (htok k hkt).2.1, fun hh => (by omega)⟩
    ·refine ⟨b, p + q.1 * sz', cap - q.1, (us.drop (q.1 * sz')).take ((q.2 - q.1) * sz'), by rw [if_neg hcq], by omega, (r.drop _).take _, (on.drop _).take _, (ic.drop _).take _, fun hk => ?_, fun k hk => ?_⟩
     ·split at hk
      ·rename_i hqm
       have := hcap hk
       omega
      ·cases hk
     ·split at hk
      ·rename_i hqm
       obtain ⟨k1, k10, k2⟩ := htok k hk
       refine ⟨k1, k10, fun hlt => ?_⟩
       obtain ⟨k3, k4, k5⟩ := k2 (by omega)
       refine ⟨?_, k4, ?_⟩
       ·rw [k3]
        rw [hqm, Nat.sub_mul, Nat.add_assoc]
        have := Nat.mul_le_mul_right sz' (show q.1 ≤ m by omega)
        omega
       ·rw [Nat.sub_mul]
        have := Nat.mul_le_mul_right sz' (show q.1 ≤ cap by omega)
        omega
      ·cases hk
   ·simp only at hv
    split at hv
    ·rename_i hmq
     injection hv with hv; subst hv
     obtain ⟨b1, b2, hb⟩ := bounds3_rel (P := P) (w := w) hF h1 h2 (by simpa [chkO] using h3) (by simpa using hsome) hc hq hmq
     have hcutlen : ((cs.drop (q.1 * sz')).take ((q.2 - q.1) * sz')).length = (q.2 - q.1) * sz' := by
      rw [List.length_take, List.length_drop, hlen, ← Nat.sub_mul]
      exact Nat.min_eq_left (Nat.mul_le_mul_right _ (by omega))
     have hrun : (Instr.slice t (.slice (some ⟨b, p, none⟩) m cap) (lo.map a.eval) (hi.map a.eval) (some (a.eval m1))).run P w = .ok (.slice (some (if q.2 = q.1 then ⟨b, p, none⟩ else ⟨b, p + q.1 * sz', none⟩)) (q.2 - q.1) (q.2 - q.1)) w := by
      simp only [Instr.slice, run_underlying ht, Sem.run_bind, Result.andThen_ok, hb, szOf_run hs, Sem.run_pure, Option.map_some, add_at]
      split <;> rfl
     refine ⟨_, hrun, hcutlen, .inr (.inl ⟨(by intro hh; cases hh), ?_⟩)⟩
     by_cases hcq : q.2 = q.1
     ·refine ⟨b, p, q.2 - q.1, [], by rw [if_pos hcq], by omega, ?_, fun _ hx => (by cases hx), fun j v hj => (by simp at hj), fun _ => (by omega), fun k hk => by cases hk⟩
      rw [hcq]; simp; rfl
     ·exact ⟨b, p + q.1 * sz', q.2 - q.1, (us.drop (q.1 * sz')).take ((q.2 - q.1) * sz'), by rw [if_neg hcq], by omega, (r.drop _).take _, (on.drop _).take _, (ic.drop _).take _, fun _ => rfl, fun k hk => by cases hk⟩
    ·cases hv
 ·rename_i o off m sz' heq
  rw [heq] at hrel
  obtain ⟨q, hq, hv2⟩ := Option.bind_eq_some_iff.1 hv
  clear hv
  split at hv2
  ·cases hv2
  rename_i hcond
  have hsz : sz' = sz := Decidable.byContradiction fun h => hcond (.inl h)
  have hmx : mx'.isSome = false := by
   cases h : mx'.isSome with
   | false => rfl
   | true => exact absurd (.inr h) hcond
  subst hsz
  obtain ⟨ho, cap, hu, hc, hb1, hb2⟩ := hrel
  rw [hu]
  rcases chkO_rel hF h3 with ⟨rfl, rfl⟩ | ⟨_, _, rfl, rfl, _⟩
  ·obtain ⟨b1, b2, hb⟩ := bounds_rel (P := P) (w := w) hF h1 h2 hc hq true
   have hrun : (Instr.slice t (.slice (some ⟨(g.loc o).1, (g.loc o).2 + off, none⟩) m cap) (lo.map a.eval) (hi.map a.eval) none).run P w =
     .ok (.slice (some (if cap = q.1 then ⟨(g.loc o).1, (g.loc o).2 + off, none⟩ else ⟨(g.loc o).1, (g.loc o).2 + off + q.1 * sz', none⟩)) (q.2 - q.1) (cap - q.1)) w := by
    simp only [Instr.slice, run_underlying ht, Sem.run_bind, Result.andThen_ok, hb, szOf_run hs, Sem.run_pure, Option.map_some, add_at]
    split <;> rfl
   refine ⟨_, hrun, ?_⟩
   by_cases he : q.2 = q.1
   ·rw [if_pos he] at hv2
    injection hv2 with hv2; subst hv2
    have e0 : q.2 - q.1 = 0 := by omega
    refine ⟨by simp, .inr (.inl ⟨(by intro hh; cases hh), (g.loc o).1, (if cap = q.1 then (g.loc o).2 + off else (g.loc o).2 + off + q.1 * sz'), cap - q.1, [], ?_, Nat.zero_le _, rfl, fun _ hx => (by cases hx), fun j v hj => (by simp at hj), fun hh => (by cases hh), fun k hk => (by cases hk)⟩)⟩
    rw [e0]; split <;> rfl
   ·rw [if_neg he] at hv2
    injection hv2 with hv2; subst hv2
    rw [if_neg (by omega)]
    refine ⟨ho, cap - q.1, by rw [Nat.add_assoc], by omega, hb1, ?_⟩
    rw [Nat.sub_mul]
    have := Nat.mul_le_mul_right sz' (show q.1 ≤ cap by omega)
    omega
  ·simp at hmx
 ·cases hv
end
end Go.VM
namespace Go.VM
open Go Go.RowKit
theorem foldl_set_list (off : Nat) : ∀ (xs : List Value) (k : Nat) (cells : Array Value), off + k + xs.length ≤ cells.size →
  ((xs.zipIdx k).foldl (fun cs q => cs.setIfInBounds (off + q.2) q.1) cells).toList = cells.toList.take (off + k) ++ xs ++ cells.toList.drop (off + k + xs.length)
 | [], k, cells, _ => by simp
 | x :: xs, k, cells, h => by
  simp only [List.zipIdx_cons, List.foldl_cons]
  rw [foldl_set_list off xs (k + 1) _ (by simp at h ⊢; omega)]
  simp only [Array.toList_setIfInBounds, List.length_cons]
  have hlt : off + k < cells.toList.length := by simp at h ⊢; omega
  rw [List.drop_set_of_lt (by omega)]
  rw [show off + (k + 1) = off + k + 1 from by omega, List.take_succ_eq_append_getElem (by simpa using hlt), List.take_set_of_le (Nat.le_refl _)]
  simp [List.append_assoc, Nat.add_assoc, Nat.add_comm, Nat.add_left_comm]
theorem foldl_set_array (off : Nat) (xs cells : Array Value) (h : off + xs.size ≤ cells.size) :
  (xs.zipIdx.foldl (fun cs q => cs.setIfInBounds (off + q.2) q.1) cells).toList = cells.toList.take off ++ xs.toList ++ cells.toList.drop (off + xs.size) := by
 rw [← Array.foldl_toList, Array.toList_zipIdx]
 have := foldl_set_list off xs.toList 0 cells (by simpa using h)
 simpa using this
section
variable {P : Program} {w0 w : World} {g : G} {S : St} {n : Nat} {fr : Fr} {a : Act}
theorem splice_rel {cs xs : List V} {us ys : List Value} (h : RelL g cs us) (k : RelL g xs ys) (off : Nat) : RelL g (splice cs off xs) (us.take off ++ ys ++ us.drop (off + ys.length)) := by
 unfold splice
 rw [← k.len]
 exact ((h.take off).append k).append (h.drop _)
theorem fill_rel (hF : RelF g n fr a.tmps) {place : Nat → Option (Nat × Nat)} : ∀ {ps : List (Nat × Operand)} {parts : List (Nat × Nat × Arg)} {zero : List V} {zs : Array Value} {cs : List V},
  chkParts P n place ps parts = true → fillV fr zero parts = some cs → RelL g zero zs.toList → Ones zs.toList →
  ∃ us, Instr.fill place zs (ps.map fun q => (q.1, a.eval q.2)) = some us ∧ RelL g cs us.toList ∧ Ones us.toList
 | [], [], zero, zs, cs, _, hf, hr, ho => by
  simp only [fillV] at hf
  injection hf with hf; subst hf
  exact ⟨zs, rfl, hr, ho⟩
 | (i, x) :: ps, (off, sz, y) :: parts, zero, zs, cs, hc, hf, hr, ho => by
  simp only [chkParts, Bool.and_eq_true, decide_eq_true_eq] at hc
  obtain ⟨⟨hpl, hx⟩, hrest⟩ := hc
  simp only [fillV] at hf
  split at hf
  ·rename_i hcond
   obtain ⟨h1, h2, h3⟩ := hcond
   obtain ⟨r, on⟩ := cells_rel (chkA_rel hF hx) h3
   have hsz : (a.eval x).cells.size = sz := by rw [← h1, r.len]; simp
   have hzl : zero.length = zs.size := by rw [hr.len]; simp
   have hset := foldl_set_array off (a.eval x).cells zs (by omega)
   have hr' := splice_rel hr r off
   rw [Array.length_toList, ← hset] at hr'
   obtain ⟨us, e, r2, o2⟩ := fill_rel hF hrest hf hr' (by
    rw [hset]
    exact ((ho.take off).append on).append (ho.drop _))
   refine ⟨us, ?_, r2, o2⟩
   simp only [List.map_cons, Instr.fill, hpl]
   rw [if_neg (by simp; omega)]
   exact e
  ·cases hf
 | [], _ :: _, _, _, _, hc, _, _, _ => by cases hc
 | _ :: _, [], _, _, _, hc, _, _, _ => by cases hc
theorem zero_run {t : TypeId} {zs : List V} (h : chkZero P t zs = true) (w : World) : ∃ z, (zeroValue t).run P w = .ok z w ∧ RelL g zs z.cells.toList ∧ Ones z.cells.toList := by
 unfold chkZero at h
 split at h <;> (try (cases h; done))
 rename_i i hi
 split at h <;> (try (cases h; done))
 rename_i z hz
 obtain ⟨a, b⟩ := chkL_rel g h
 exact ⟨z, by simp [zeroValue, typeInfo, hi, hz], a, b⟩
theorem zeroV_run {t : TypeId} {z : V} (h : chkZeroV P t z = true) (w : World) : ∃ u, (zeroValue t).run P w = .ok u w ∧ RelV g z u := by
 unfold chkZeroV at h
 split at h <;> (try (cases h; done))
 rename_i i hi
 split at h <;> (try (cases h; done))
 rename_i u hu
 exact ⟨u, by simp [zeroValue, typeInfo, hi, hu], chkV_rel g h⟩
theorem mapM_places {fields : List Field} (h : fields.all (fun f => (szOf P f.type).isSome) = true) (w : World) :
  (fields.mapM (m := Sem) fun f => do pure (f.offset, ← Go.sizeOf f.type)).run P w = .ok (fields.map fun f => (f.offset, (szOf P f.type).getD 0)) w := by
 induction fields with
 | nil => rfl
 | cons f r ih =>
  simp only [List.all_cons, Bool.and_eq_true] at h
  obtain ⟨s, hs⟩ := Option.isSome_iff_exists.1 h.1
  rw [List.mapM_cons]
  simp only [Sem.run_bind, szOf_run hs, Result.andThen_ok, Sem.run_pure, ih h.2, List.map_cons, hs, Option.getD_some]
theorem keyEq_rel {kk : KK} {t : TypeId} (hk : keyKind P t kk = true) {x y : V} {u u' : Value} (hx : RelV g x u) (hy : RelV g y u') {b : Bool} (hb : V.keyEq kk x y = some b) :
  ∃ d, P.underlying t = some d ∧ Instr.sameNow d u u' = some b := by
 unfold V.keyEq at hb
 unfold keyKind at hk
 split at hb
 ·split at hb
  ·rename_i h
   obtain ⟨rfl, rfl⟩ := h
   injection hb with hb; subst hb
   split at hk <;> (try (cases hk; done))
   rename_i h
   exact ⟨_, h, by rw [rel_int hx, rel_int hy]; simp [Instr.sameNow]⟩
  ·cases hb
 ·split at hb
  ·rename_i h
   subst h
   injection hb with hb; subst hb
   split at hk <;> (try (cases hk; done))
   rename_i h
   exact ⟨_, h, by rw [rel_str hx, rel_str hy]; simp [Instr.sameNow]⟩
  ·cases hb
 ·split at hb
  ·rename_i h
   subst h
   injection hb with hb; subst hb
   split at hk <;> (try (cases hk; done))
   rename_i h
   exact ⟨_, h, by rw [rel_bool hx, rel_bool hy]; simp [Instr.sameNow]⟩
  ·cases hb
 ·cases hb
theorem findE_rel {kk : KK} {t : TypeId} {d : TypeDesc} (hk : keyKind P t kk = true) (hd : P.underlying t = some d) {x : V} {u : Value} (hx : RelV g x u) : ∀ {es : List (V × V × Nat)} {ms : List MapEntry} {i : Nat} {r : Option (Nat × V)},
    RelM g es ms → findE kk x es i = some r → ∃ r', Instr.findNow d u ms i = some r' ∧
      (match r, r' with
       | none, none => True
       | some (j, v), some (j', v') => j = j' ∧ i ≤ j ∧ j < i + es.length ∧ RelV g v v' ∧ (∃ e m, es[j - i]? = some e ∧ ms[j - i]? = some m ∧ v = e.2.1 ∧ V.keyEq kk x e.1 = some true)
       | _, _ => False)
  | [], ms, i, r, hm, hf => by
    have : ms = [] := List.eq_nil_of_length_eq_zero hm.1.symm
    subst this
    simp only [findE] at hf
    injection hf with hf; subst hf
    exact ⟨none, rfl, trivial⟩
  | e :: es, ms, i, r, hm, hf => by
    match ms, hm.1 with
    | m :: ms, hl =>
      obtain ⟨h1, h2, h3, h4, h5⟩ := hm.2 0 e m (by simp) (by simp)
      have hm' : RelM g es ms := ⟨by simpa using hl, fun j e' m' he' hm'' => hm.2 (j + 1) e' m' (by simpa using he') (by simpa using hm'')⟩
      simp only [findE] at hf
      split at hf
      · rename_i hke
        injection hf with hf; subst hf
        obtain ⟨d', hd', hs⟩ := keyEq_rel hk hx h1 hke
        obtain rfl : d = d' := Option.some.inj (hd.symm.trans hd')
        refine ⟨some (i, m.val), by simp [Instr.findNow, hs], rfl, Nat.le_refl _, by simp, h2, e, m, by simp, by simp, rfl, hke⟩
      · rename_i hke
        obtain ⟨d', hd', hs⟩ := keyEq_rel hk hx h1 hke
        obtain rfl : d = d' := Option.some.inj (hd.symm.trans hd')
        obtain ⟨r', hr', hrel⟩ := findE_rel hk hd hx hm' hf
        refine ⟨r', by simp [Instr.findNow, hs, hr'], ?_⟩
        match r, r', hrel with
        | none, none, _ => trivial
        | some (j, v), some (j', v'), ⟨a1, a2, a3, a4, e', m', a5, a6, a7, a8⟩ =>
          refine ⟨a1, by omega, by simp; omega, a4, e', m', ?_, ?_, a7, a8⟩
          · rw [show j - i = (j - (i + 1)) + 1 from by omega]; simpa using a5
          · rw [show j - i = (j - (i + 1)) + 1 from by omega]; simpa using a6
      · cases hf
def Found (g : G) (kk : KK) (x : V) (es : List (V × V × Nat)) (ms : List MapEntry) : Option (Nat × V) → Option (Nat × Value) → Prop
 | none, none => True
 | some q, some q' => q.1 = q'.1 ∧ q.1 < es.length ∧ RelV g q.2 q'.2 ∧ (∃ e m, es[q.1]? = some e ∧ ms[q.1]? = some m ∧ q.2 = e.2.1 ∧ V.keyEq kk x e.1 = some true)
 | _, _ => False
theorem findKey_rel {kk : KK} {t : TypeId} (hk : keyKind P t kk = true) {x : V} {u : Value} (hx : RelV g x u) {es : List (V × V × Nat)} {ms : List MapEntry} {r : Option (Nat × V)}
  (hm : RelM g es ms) (hf : findE kk x es 0 = some r) (w : World) : ∃ r', (Instr.findKey t u ms).run P w = .ok r' w ∧
   Found g kk x es ms r r' := by
 have hd : ∃ d, P.underlying t = some d := by
  unfold keyKind at hk
  split at hk <;> first | exact ⟨_, by assumption⟩ | cases hk
 obtain ⟨d, hd⟩ := hd
 obtain ⟨r', hr', hrel⟩ := findE_rel hk hd hx hm hf
 refine ⟨r', by simp [Instr.findKey, run_underlying hd, hr'], ?_⟩
 match r, r', hrel with
 | none, none, _ => trivial
 | some (j, v), some (j', v'), ⟨a1, a2, a3, a4, e', m', a5, a6, a7, a8⟩ => exact ⟨a1, by omega, a4, e', m', by simpa using a5, by simpa using a6, a7, a8⟩
theorem checkKey_run {kk : KK} {t : TypeId} (hk : keyKind P t kk = true) (e : Bool) (d : Nat) (u : Value) (w : World) : (Instr.checkKey e (d + 1) t u).run P w = .ok () w := by
 unfold keyKind at hk
 split at hk <;> (try (cases hk; done))
 all_goals (rename_i h; simp only [Instr.checkKey, Sem.run_bind, run_underlying h, Result.andThen_ok]; rfl)
theorem RelW.map (h : RelW w0 g S w) {r : Nat} {es : List (V × V × Nat)} {c : Nat} (hm : S.hp r = some (.map es c)) : ∃ ms, w.heap[(g.loc r).1]? = some (.map ms c) ∧ RelM g es ms.toList := by
 obtain ⟨_, _, o, ho, ms, rfl, hr⟩ := h.hp r _ hm
 exact ⟨ms, ho, hr⟩
theorem run_getAny {w : World} {r : Nat} {o : Obj} (h : w.heap[r]? = some o) (hn : ∀ c e f, o ≠ .cells c e f) : (getObj r).run P w = .ok o w := by
 cases o <;> first | exact absurd rfl (hn _ _ _) | simp [getObj, Sem.run, h]
theorem run_getMap {w : World} {r : Nat} {ms : Array MapEntry} {c : Nat} (h : w.heap[r]? = some (.map ms c)) : (getObj r).run P w = .ok (.map ms c) w := by simp [getObj, Sem.run, h]
theorem minmax_rel {isMax : Bool} {x y z : V} {u u' : Value} (hx : RelV g x u) (hy : RelV g y u') (hz : minmaxV isMax x y = some z) :
  ∃ r, ((if isMax then Builtin.max2 else Builtin.min2) u u').run P w = .ok r w ∧ RelV g z r := by
 unfold minmaxV at hz
 split at hz <;> (try (cases hz; done))
 split at hz <;> (try (cases hz; done))
 rename_i h; subst h
 injection hz with hz; subst hz
 rw [rel_int hx, rel_int hy]
 cases isMax with
 | true => exact ⟨_, rfl, rfl⟩
 | false => exact ⟨_, rfl, rfl⟩
theorem minmaxL_rel {isMax : Bool} : ∀ {x z : V} {l : List V} {u : Value} {us : List Value}, RelV g x u → RelL g l us → minmaxL isMax x l = some z →
  ∃ r, (us.foldlM (if isMax then Builtin.max2 else Builtin.min2) u).run P w = .ok r w ∧ RelV g z r
 | x, z, [], u, us, hx, hl, hz => by
  obtain rfl : us = [] := hl
  simp only [minmaxL] at hz
  injection hz with hz; subst hz
  exact ⟨u, rfl, hx⟩
 | x, z, y :: l, u, us, hx, hl, hz => by
  obtain ⟨u', r, rfl, hy, hr⟩ := hl
  simp only [minmaxL] at hz
  obtain ⟨z1, h1, h2⟩ := Option.bind_eq_some_iff.1 hz
  obtain ⟨r1, e1, k1⟩ := minmax_rel (P := P) (w := w) hx hy h1
  obtain ⟨r2, e2, k2⟩ := minmaxL_rel k1 hr h2
  exact ⟨r2, by simp only [List.foldlM_cons, Sem.run_bind, e1, Result.andThen_ok, e2], k2⟩
end
end Go.VM

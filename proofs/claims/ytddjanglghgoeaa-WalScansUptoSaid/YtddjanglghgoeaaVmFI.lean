/-
  The value machine: the operations that change nothing: the check, and that the model tells what the value machine tells.
-/
import Derived.Test.YtddjanglghgoeaaVmChk
set_option linter.unusedVariables false
set_option linter.unusedSimpArgs false
namespace Go.VM
open Go Go.RowKit

def chkParts (P : Program) (n : Nat) (place : Nat → Option (Nat × Nat)) : List (Nat × Operand) → List (Nat × Nat × Arg) → Bool
  | [], [] => true
  | (i, x) :: xs, (off, sz, y) :: ys => decide (place i = some (off, sz)) && chkA n x y && chkParts P n place xs ys
  | _, _ => false
def fieldPlaces (P : Program) (fields : Array Field) (i : Nat) : Option (Nat × Nat) := (fields[i]?).bind fun f => (szOf P f.type).map fun s => (f.offset, s)
def allSized (P : Program) (fields : Array Field) : Bool := fields.toList.all fun f => (szOf P f.type).isSome
def chkZero (P : Program) (t : TypeId) (zs : List V) : Bool := match P.info? t with
  | some i => match i.zero with
    | some z => chkL z.cells.toList zs
    | none => false
  | none => false
def chkZeroV (P : Program) (t : TypeId) (z : V) : Bool := match P.info? t with
  | some i => match i.zero with
    | some u => chkV u z
    | none => false
  | none => false
def keyKind (P : Program) (t : TypeId) (kk : KK) : Bool := match P.underlying t with
  | some (.int _) => decide (kk = .int)
  | some .string => decide (kk = .str)
  | some .bool => decide (kk = .bool)
  | _ => false

def chkTK (P : Program) (t : TypeId) (k : TK) : Bool := match k with
  | .bool => (match P.underlying t with | some .bool => true | _ => false)
  | .ptr => (match P.underlying t with | some (.pointer e) => (match szOf P e with | some s => decide (s ≠ 0) | none => false) | _ => false)
  | .slice => (match P.underlying t with | some (.slice _) => true | _ => false)
  | .map => (match P.underlying t with | some (.map ..) => true | _ => false)
  | .func => (match P.underlying t with | some (.func ..) => true | _ => false)
  | .iface => (match P.underlying t with | some (.interface _) => true | _ => false)

def chkCv (P : Program) (src dst : TypeId) (c : Cv) : Bool := match c with
  | .same => (match P.underlying src, P.underlying dst with | some .string, some .string => true | _, _ => false)
  | .int k => (match P.underlying src, P.underlying dst with | some (.int _), some (.int k') => decide (k = k') | _, _ => false)
  | .intStr => (match P.underlying src, P.underlying dst with | some (.int _), some .string => true | _, _ => false)
  | .bytesStr => (match P.underlying src, P.underlying dst with
    | some (.slice e), some .string => (match P.underlying e with | some (.int .u8) => decide (szOf P e = some 1) | _ => false)
    | _, _ => false)

def chkFI (P : Program) (n : Nat) (o : Op) (i : FI) : Bool :=
  match i with
  | .mv y => match o with
    | .move x | .assign x => chkA n x y
    | _ => false
  | .pick c' a' b' => match o with
    | .pick c a b => chkA n c c' && chkA n a a' && chkA n b b'
    | _ => false
  | .nilCheck y => match o with
    | .nilCheck x => chkA n x y
    | _ => false
  | .bin op' x' y' => match o with
    | .binOp op _ x y _ => decide (op = op') && chkA n x x' && chkA n y y'
    | _ => false
  | .eq neg k x' y' => match o with
    | .binOp op t x y _ => (match op with | .eql => !neg | .neq => neg | _ => false) && chkA n x x' && chkA n y y' &&
      chkTK P t k
    | _ => false
  | .un op' x' => match o with
    | .unOp op _ x => decide (op = op') && chkA n x x'
    | _ => false
  | .conv c x' => match o with
    | .convert src dst x => chkA n x x' &&
      chkCv P src dst c
    | _ => false
  | .fieldAddr off x' => match o with
    | .fieldAddr s x f => chkA n x x' && (match P.underlying s with
      | some (.struct fields) => (match fields[f]? with | some fd => decide (fd.offset = off) && (match szOf P fd.type with | some s => decide (s ≠ 0) | none => false) | none => false)
      | _ => false)
    | _ => false
  | .field agg off sz x' => match o with
    | .field t x f => chkA n x x' && (match P.underlying t with
      | some (.struct fields) => (match fields[f]? with | some fd => decide (fd.offset = off) && decide (szOf P fd.type = some sz) && decide (aggOf P fd.type = some agg) | none => false)
      | _ => false)
    | _ => false
  | .indexAddr sz x' i' => match o with
    | .indexAddr t x i => chkA n x x' && chkA n i i' && (match P.underlying t with | some (.slice e) => decide (szOf P e = some sz) | _ => false)
    | _ => false
  | .indexAddrA len sz x' i' => match o with
    | .indexAddr t x i => chkA n x x' && chkA n i i' && (match P.underlying t with | some (.array len' e) => decide (len = len') && decide (szOf P e = some sz) | _ => false)
    | _ => false
  | .indexS x' i' => match o with
    | .index t x i => chkA n x x' && chkA n i i' && (match P.underlying t with | some .string => true | _ => false)
    | _ => false
  | .indexA agg len sz x' i' => match o with
    | .index t x i => chkA n x x' && chkA n i i' && (match P.underlying t with | some (.array len' e) => decide (len = len') && decide (szOf P e = some sz) && decide (aggOf P e = some agg) | _ => false)
    | _ => false
  | .load agg sz x' => match o with
    | .load t x => chkA n x x' && decide (szOf P t = some sz) && decide (aggOf P t = some agg)
    | _ => false
  | .len k x' => match o with
    | .call { callee := .builtin .len, args := xs, argTypes := ts } => (match xs.toList, ts.toList with
      | [x], [t] => chkA n x x' && (match P.underlying t, k with | some .string, .str | some (.slice _), .sl | some (.map ..), .map => true | _, _ => false)
      | _, _ => false)
    | _ => false
  | .sliceS x' lo' hi' => match o with
    | .slice t x lo hi none => chkA n x x' && chkO n lo lo' && chkO n hi hi' && (match P.underlying t with | some .string => true | _ => false)
    | _ => false
  | .slice sz x' lo' hi' mx' => match o with
    | .slice t x lo hi mx => chkA n x x' && chkO n lo lo' && chkO n hi hi' && chkO n mx mx' && (mx.isNone || hi.isSome) && (match P.underlying t with | some (.slice e) => decide (szOf P e = some sz) | _ => false)
    | _ => false
  | .build zero parts => match o with
    | .build t ps => chkZero P t zero && (match P.underlying t with
      | some (.struct fields) => allSized P fields && chkParts P n (fieldPlaces P fields) ps.toList parts
      | some (.array _ e) => (match szOf P e with | some s => chkParts P n (fun i => some (i * s, s)) ps.toList parts | none => false)
      | _ => false)
    | _ => false
  | .mkIface t' x' => match o with
    | .makeInterface t x => decide (t = t') && chkA n x x' && (match P.underlying t with | some (.interface _) => false | some _ => true | none => false)
    | _ => false
  | .mkFunc f' pre' cap' => match o with
    | .makeFunc (.func f) pre cap => decide (f = f') && chkAs n pre.toList pre' && chkAs n cap.toList cap'
    | _ => false
  | .extract x' i' => match o with
    | .extract x i => decide (i = i') && chkA n x x'
    | _ => false
  | .lookup kk ok' zero m' k' => match o with
    | .lookup t m k ok => decide (ok = ok') && chkA n m m' && chkA n k k' && (match P.underlying t with | some (.map kt et) => keyKind P kt kk && chkZeroV P et zero | _ => false)
    | _ => false
  | .assertT t' ok' zero x' => match o with
    | .typeAssert x _ t ok => decide (t = t') && decide (ok = ok') && chkA n x x' && chkZeroV P t zero && (match P.underlying t with | some (.interface _) => false | some _ => true | none => false)
    | _ => false
  | .minmax isMax xs' => match o with
    | .call { callee := .builtin b, args := xs, argTypes := _ } => (match b with | .max => isMax | .min => !isMax | _ => false) && chkAs n xs.toList xs'
    | _ => false

end Go.VM

/-
  The value machine: does a code of the value machine stand for the model's code? A check that computes (types are looked up here, once), and what it gives for operands.
  The value machine: the operations that change nothing: the check, and that the model tells what the value machine tells.
  The value machine: the operations that change nothing: the model tells what the value machine tells.
  The value machine: every operation that changes nothing: the model tells what the value machine tells.
  The value machine: every operation that changes nothing, whichever.
  The value machine: literals and maps that are read; then every operation that changes nothing.
-/
import Derived.Test.YtegaflmefmlpgaaGreatDoorVmDef
set_option linter.unusedVariables false
set_option linter.unusedSimpArgs false
namespace Go.VM
open Go Go.RowKit

def chkC : Value → V → Bool
  | .bool a, .bool b => a == b
  | .int k a, .int k' b => decide (k = k') && decide (a = b)
  | .string a, .str b => decide (a.data.toList = b.data.toList)
  | .pointer none, .ptr none => true
  | .slice none 0 0, .sl [] 0 _ .nil => true
  | .map none, .map none => true
  | .nilFunc, .nilFunc => true
  | .nilIface, .nilIface => true
  | _, _ => false
def chkL : List Value → List V → Bool
  | [], [] => true
  | u :: us, c :: cs => chkC u c && chkL us cs
  | _, _ => false
def chkV : Value → V → Bool
  | .agg us, .agg cs => chkL us.toList cs
  | .tuple us, .tup cs => chkL us.toList cs
  | u, c => chkC u c
def chkA (n : Nat) : Operand → Arg → Bool
  | .tmp i, .t j => decide (i = j) && decide (i < n)
  | .const u, .c v => chkV u v
  | .func f, .c (.func f' [] []) => decide (f = f')
  | _, _ => false
def chkAs (n : Nat) : List Operand → List Arg → Bool
  | [], [] => true
  | x :: xs, y :: ys => chkA n x y && chkAs n xs ys
  | _, _ => false
def chkO (n : Nat) : Option Operand → Option Arg → Bool
  | none, none => true
  | some x, some y => chkA n x y
  | _, _ => false

theorem chkC_rel (g : G) {u : Value} {v : V} (h : chkC u v = true) : RelV g v u ∧ u.oneCell' = true := by
  unfold chkC at h
  split at h <;> first | (cases h; done) | skip
  all_goals (try simp only [Bool.and_eq_true, decide_eq_true_eq, beq_iff_eq] at h)
  · subst h; exact ⟨rfl, rfl⟩
  · obtain ⟨rfl, rfl⟩ := h; exact ⟨rfl, rfl⟩
  · rename_i a b
    have : a = b := by
      obtain ⟨⟨a⟩⟩ := a; obtain ⟨⟨b⟩⟩ := b
      simp at h; subst h; rfl
    subst this; exact ⟨rfl, rfl⟩
  · exact ⟨rfl, rfl⟩
  · exact ⟨⟨by simp, .inl ⟨rfl, rfl, rfl, rfl⟩⟩, rfl⟩
  · exact ⟨rfl, rfl⟩
  · exact ⟨rfl, rfl⟩
  · exact ⟨rfl, rfl⟩
theorem chkL_rel (g : G) : ∀ {us : List Value} {cs : List V}, chkL us cs = true → RelL g cs us ∧ Ones us
  | [], [], _ => ⟨rfl, fun _ h => by cases h⟩
  | u :: us, c :: cs, h => by
    simp only [chkL, Bool.and_eq_true] at h
    obtain ⟨a, b⟩ := chkC_rel g h.1
    obtain ⟨c1, d⟩ := chkL_rel g h.2
    exact ⟨⟨u, us, rfl, a, c1⟩, fun x hx => by rcases List.mem_cons.1 hx with rfl | hx; exact b; exact d x hx⟩
  | [], _ :: _, h => by cases h
  | _ :: _, [], h => by cases h
theorem chkV_rel (g : G) {u : Value} {v : V} (h : chkV u v = true) : RelV g v u := by
  unfold chkV at h
  split at h
  · rename_i us cs
    obtain ⟨a, b⟩ := chkL_rel g h
    exact ⟨us.toList, by simp, a, b⟩
  · rename_i us cs
    obtain ⟨a, b⟩ := chkL_rel g h
    exact ⟨us.toList, by simp, a⟩
  · exact (chkC_rel g h).1

/-- The frames hang together. -/
def RelF (g : G) (n : Nat) (fr : Fr) (tmps : Array Value) : Prop := tmps.size = n ∧ ∀ i, i < n → RelV g (fr i) (tmps.getD i undef)

theorem RelF.mono {g g' : G} (h : g.le g') {n : Nat} {fr : Fr} {tmps : Array Value} (k : RelF g n fr tmps) : RelF g' n fr tmps :=
  ⟨k.1, fun i hi => RelV_mono h _ _ (k.2 i hi)⟩

theorem RelF.put {g : G} {n : Nat} {fr : Fr} {a : Act} (k : RelF g n fr a.tmps) {d : Option Nat} {v : V} {u : Value} (h : RelV g v u) : RelF g n (fr.put d v) (a.put d u).tmps := by
  cases d with
  | none => exact k
  | some d =>
    refine ⟨by simpa [Act.put] using k.1, fun i hi => ?_⟩
    simp only [Fr.put, Act.put]
    split
    · rename_i e; subst e
      have : i < a.tmps.size := by rw [k.1]; exact hi
      simp [Array.getElem?_setIfInBounds, this]
      exact h
    · rename_i e
      have := k.2 i hi
      simpa [Array.getElem?_setIfInBounds_ne (Ne.symm e)] using this

theorem chkA_rel {g : G} {n : Nat} {fr : Fr} {a : Act} (k : RelF g n fr a.tmps) {x : Operand} {y : Arg} (h : chkA n x y = true) : RelV g (y.ev fr) (a.eval x) := by
  unfold chkA at h
  split at h
  · simp only [Bool.and_eq_true, decide_eq_true_eq] at h
    obtain ⟨rfl, h⟩ := h
    exact k.2 _ h
  · exact chkV_rel g h
  · have h := of_decide_eq_true h
    subst h
    exact ⟨[], [], rfl, rfl, rfl⟩
  · cases h
theorem chkAs_rel {g : G} {n : Nat} {fr : Fr} {a : Act} (k : RelF g n fr a.tmps) : ∀ {xs : List Operand} {ys : List Arg}, chkAs n xs ys = true → RelL g (ys.map (Arg.ev fr)) (xs.map a.eval)
  | [], [], _ => rfl
  | x :: xs, y :: ys, h => by
    simp only [chkAs, Bool.and_eq_true] at h
    exact ⟨_, _, rfl, chkA_rel k h.1, chkAs_rel k h.2⟩
  | [], _ :: _, h => by cases h
  | _ :: _, [], h => by cases h

def szOf (P : Program) (t : TypeId) : Option Nat := (P.info? t).map (·.size)
def aggOf (P : Program) (t : TypeId) : Option Bool := (P.underlying t).map fun | .struct _ | .array _ _ => true | _ => false

theorem szOf_run {P : Program} {t : TypeId} {n : Nat} (h : szOf P t = some n) (w : World) : (Go.sizeOf t).run P w = .ok n w := by
  unfold szOf at h
  obtain ⟨i, hi, rfl⟩ := Option.map_eq_some_iff.1 h
  simp [Go.sizeOf, typeInfo, hi]
theorem aggOf_run {P : Program} {t : TypeId} {b : Bool} (h : aggOf P t = some b) (w : World) : (isAgg t).run P w = .ok b w := by
  unfold aggOf at h
  obtain ⟨d, hd, rfl⟩ := Option.map_eq_some_iff.1 h
  simp only [isAgg, Sem.run_bind, run_underlying hd, Result.andThen_ok]
  cases d <;> rfl

theorem add_at (b p n : Nat) : (⟨b, p, none⟩ : Addr).add n = ⟨b, p + n, none⟩ := by unfold Addr.add; split <;> simp_all

/-- These cells are read from there on. -/
def Reads (w : World) (b p : Nat) (xs : List Value) : Prop := ∀ (j : Nat) (v : Value), xs[j]? = some v → w.cell? ⟨b, p + j, none⟩ = some v

theorem Reads.drop {w : World} {b p : Nat} {us : List Value} (k : Reads w b p us) (m : Nat) : Reads w b (p + m) (us.drop m) := fun j v hv => by
  rw [List.getElem?_drop] at hv
  have := k (m + j) v hv
  rwa [← Nat.add_assoc] at this
theorem Reads.take {w : World} {b p : Nat} {us : List Value} (k : Reads w b p us) (m : Nat) : Reads w b p (us.take m) := fun j v hv => by
  rw [List.getElem?_take] at hv
  split at hv
  · exact k j v hv
  · cases hv

theorem RelW.reads {w0 w : World} {g : G} {S : St} (h : RelW w0 g S w) {b p : Nat} {us : List Value} (k : Iced g b p us) : Reads w b p us := fun j v hv => h.ice _ _ _ (k j v hv)

theorem RelW.cells {w0 w : World} {g : G} {S : St} (h : RelW w0 g S w) {i : Nat} {cs : List V} (hc : S.cells i = some cs) :
    ∃ xs, RelL g cs xs ∧ Ones xs ∧ Reads w (g.loc i).1 (g.loc i).2 xs := by
  unfold St.cells at hc
  split at hc
  · rename_i cs' hcs
    injection hc with hc; subst hc
    obtain ⟨_, _, o, ho, us, ty, fr, rfl, _, _, _, xs, r, on, hr⟩ := h.hp i _ hcs
    refine ⟨xs, r, on, fun j v hv => ?_⟩
    rw [cell_of_row w _ _ us ty fr ho]
    exact hr j v hv
  · cases hc

theorem run_loadVar_reads {P : Program} {w : World} {t : TypeId} {agg : Bool} {sz : Nat} (ha : aggOf P t = some agg) (hs : szOf P t = some sz) {g : G} {cs : List V} {xs : List Value} {b p : Nat}
    (hr : RelL g cs xs) (ho : Ones xs) (hx : Reads w b p xs) {v : V} (hv : takeC agg sz cs = some v) : ∃ u, (loadVar t ⟨b, p, none⟩).run P w = .ok u w ∧ RelV g v u := by
  unfold takeC at hv
  cases agg with
  | true =>
    simp only [if_true] at hv
    split at hv
    · rename_i hle
      injection hv with hv; subst hv
      have hl : (xs.take sz).length = sz := by rw [List.length_take, ← hr.len]; omega
      refine ⟨.agg (xs.take sz).toArray, ?_, xs.take sz, rfl, hr.take sz, ho.take sz⟩
      have hrun := run_loadCells_list (P := P) w ⟨b, p, none⟩ (xs.take sz) (fun j v hj => by rw [add_at]; exact hx.take sz j v hj)
      rw [hl] at hrun
      simp [loadVar, aggOf_run ha, szOf_run hs, hrun]
    · cases hv
  | false =>
    simp only [Bool.false_eq_true, if_false] at hv
    have hc0 : cs[0]? = some v := by cases cs <;> simp at hv ⊢; exact hv
    obtain ⟨u, hu, hrel⟩ := hr.at_ hc0
    refine ⟨u, ?_, hrel⟩
    have := hx 0 u hu
    rw [Nat.add_zero] at this
    simp [loadVar, aggOf_run ha, this]

end Go.VM

namespace Go.VM
open Go Go.RowKit

def chkParts (P : Program) (n : Nat) (place : Nat → Option (Nat × Nat)) : List (Nat × Operand) → List (Nat × Nat × Arg) → Bool
  | [], [] => true
  | (i, x) :: xs, (off, sz, y) :: ys => decide (place i = some (off, sz)) && chkA n x y && chkParts P n place xs ys
  | _, _ => false
def fieldPlaces (P : Program) (fields : Array Field) (i : Nat) : Option (Nat × Nat) := (fields[i]?).bind fun f => (szOf P f.type).map fun s => (f.offset, s)
def allSized (P : Program) (fields : Array Field) : Bool := fields.toList.all fun f => (szOf P f.type).isSome
def chkZero (P : Program) (t : TypeId) (zs : List V) : Bool := match P.info? t with
  | some i => match i.zero with
    | some z => chkL z.cells.toList zs
    | none => false
  | none => false
def chkZeroV (P : Program) (t : TypeId) (z : V) : Bool := match P.info? t with
  | some i => match i.zero with
    | some u => chkV u z
    | none => false
  | none => false
def keyKind (P : Program) (t : TypeId) (kk : KK) : Bool := match P.underlying t with
  | some (.int _) => decide (kk = .int)
  | some .string => decide (kk = .str)
  | some .bool => decide (kk = .bool)
  | _ => false

def chkTK (P : Program) (t : TypeId) (k : TK) : Bool := match k with
  | .bool => (match P.underlying t with | some .bool => true | _ => false)
  | .ptr => (match P.underlying t with | some (.pointer e) => (match szOf P e with | some s => decide (s ≠ 0) | none => false) | _ => false)
  | .slice => (match P.underlying t with | some (.slice _) => true | _ => false)
  | .map => (match P.underlying t with | some (.map ..) => true | _ => false)
  | .func => (match P.underlying t with | some (.func ..) => true | _ => false)
  | .iface => (match P.underlying t with | some (.interface _) => true | _ => false)

def chkCv (P : Program) (src dst : TypeId) (c : Cv) : Bool := match c with
  | .same => (match P.underlying src, P.underlying dst with | some .string, some .string => true | _, _ => false)
  | .int k => (match P.underlying src, P.underlying dst with | some (.int _), some (.int k') => decide (k = k') | _, _ => false)
  | .intStr => (match P.underlying src, P.underlying dst with | some (.int _), some .string => true | _, _ => false)
  | .bytesStr => (match P.underlying src, P.underlying dst with
    | some (.slice e), some .string => (match P.underlying e with | some (.int .u8) => decide (szOf P e = some 1) | _ => false)
    | _, _ => false)

/-- What the cells of fields are that lie one behind the other. -/
def sumL (P : Program) (leaf : TypeId → Option (List KK)) : List Field → Nat → Option (List KK)
  | [], off => some []
  | f :: fs, off => if f.name ≠ "_" ∧ f.offset = off then (match leaf f.type with
    | some ks => if szOf P f.type = some ks.length then (sumL P leaf fs (off + ks.length)).map (ks ++ ·) else none
    | none => none) else none
/-- What the cells of a value of that type are, where all are numbers, texts or bools. -/
def leafN (P : Program) : Nat → TypeId → Option (List KK)
  | 0, _ => none
  | m + 1, t => match P.underlying t with
    | some .bool => some [.bool]
    | some (.int _) => some [.int]
    | some .string => some [.str]
    | some (.struct fs) => if P.stoodInHeld t = false then sumL P (leafN P m) fs.toList 0 else none
    | _ => none
def chkEqA (P : Program) (t : TypeId) (ks : List KK) : Bool :=
  decide (leafN P 20 t = some ks) && !P.eqGuardType P.depth t && (match P.underlying t with | some (.struct _) => true | _ => false)

def chkFI (P : Program) (n : Nat) (o : Op) (i : FI) : Bool :=
  match i with
  | .mv y => match o with
    | .move x | .assign x => chkA n x y
    | _ => false
  | .pick c' a' b' => match o with
    | .pick c a b => chkA n c c' && chkA n a a' && chkA n b b'
    | _ => false
  | .nilCheck y => match o with
    | .nilCheck x => chkA n x y
    | _ => false
  | .bin op' x' y' => match o with
    | .binOp op _ x y _ => decide (op = op') && chkA n x x' && chkA n y y'
    | _ => false
  | .eq neg k x' y' => match o with
    | .binOp op t x y _ => (match op with | .eql => !neg | .neq => neg | _ => false) && chkA n x x' && chkA n y y' &&
      chkTK P t k
    | _ => false
  | .eqA neg m x' y' => match o with
    | .binOp op t x y _ => (match op with | .eql => !neg | .neq => neg | _ => false) && chkA n x x' && chkA n y y' &&
      chkEqA P t m
    | _ => false
  | .un op' x' => match o with
    | .unOp op _ x => decide (op = op') && chkA n x x'
    | _ => false
  | .conv c x' => match o with
    | .convert src dst x => chkA n x x' &&
      chkCv P src dst c
    | _ => false
  | .fieldAddr off x' => match o with
    | .fieldAddr s x f => chkA n x x' && (match P.underlying s with
      | some (.struct fields) => (match fields[f]? with | some fd => decide (fd.offset = off) && (match szOf P fd.type with | some s => decide (s ≠ 0) | none => false) | none => false)
      | _ => false)
    | _ => false
  | .field agg off sz x' => match o with
    | .field t x f => chkA n x x' && (match P.underlying t with
      | some (.struct fields) => (match fields[f]? with | some fd => decide (fd.offset = off) && decide (szOf P fd.type = some sz) && decide (aggOf P fd.type = some agg) | none => false)
      | _ => false)
    | _ => false
  | .indexAddr sz x' i' => match o with
    | .indexAddr t x i => chkA n x x' && chkA n i i' && (match P.underlying t with | some (.slice e) => decide (szOf P e = some sz) | _ => false)
    | _ => false
  | .indexAddrA len sz x' i' => match o with
    | .indexAddr t x i => chkA n x x' && chkA n i i' && (match P.underlying t with | some (.array len' e) => decide (len = len') && decide (szOf P e = some sz) | _ => false)
    | _ => false
  | .indexS x' i' => match o with
    | .index t x i => chkA n x x' && chkA n i i' && (match P.underlying t with | some .string => true | _ => false)
    | _ => false
  | .indexA agg len sz x' i' => match o with
    | .index t x i => chkA n x x' && chkA n i i' && (match P.underlying t with | some (.array len' e) => decide (len = len') && decide (szOf P e = some sz) && decide (aggOf P e = some agg) | _ => false)
    | _ => false
  | .load agg sz x' => match o with
    | .load t x => chkA n x x' && decide (szOf P t = some sz) && decide (aggOf P t = some agg)
    | _ => false
  | .len k x' => match o with
    | .call { callee := .builtin .len, args := xs, argTypes := ts } => (match xs.toList, ts.toList with
      | [x], [t] => chkA n x x' && (match P.underlying t, k with | some .string, .str | some (.slice _), .sl | some (.map ..), .map => true | _, _ => false)
      | _, _ => false)
    | _ => false
  | .sliceS x' lo' hi' => match o with
    | .slice t x lo hi none => chkA n x x' && chkO n lo lo' && chkO n hi hi' && (match P.underlying t with | some .string => true | _ => false)
    | _ => false
  | .slice sz x' lo' hi' mx' => match o with
    | .slice t x lo hi mx => chkA n x x' && chkO n lo lo' && chkO n hi hi' && chkO n mx mx' && (mx.isNone || hi.isSome) && (match P.underlying t with | some (.slice e) => decide (szOf P e = some sz) | _ => false)
    | _ => false
  | .build zero parts => match o with
    | .build t ps => chkZero P t zero && (match P.underlying t with
      | some (.struct fields) => allSized P fields && chkParts P n (fieldPlaces P fields) ps.toList parts
      | some (.array _ e) => (match szOf P e with | some s => chkParts P n (fun i => some (i * s, s)) ps.toList parts | none => false)
      | _ => false)
    | _ => false
  | .mkIface t' x' => match o with
    | .makeInterface t x => decide (t = t') && chkA n x x' && (match P.underlying t with | some (.interface _) => false | some _ => true | none => false)
    | _ => false
  | .mkFunc f' pre' cap' => match o with
    | .makeFunc (.func f) pre cap => decide (f = f') && chkAs n pre.toList pre' && chkAs n cap.toList cap'
    | _ => false
  | .extract x' i' => match o with
    | .extract x i => decide (i = i') && chkA n x x'
    | _ => false
  | .lookup kk ok' zero m' k' => match o with
    | .lookup t m k ok => decide (ok = ok') && chkA n m m' && chkA n k k' && (match P.underlying t with | some (.map kt et) => keyKind P kt kk && chkZeroV P et zero | _ => false)
    | _ => false
  | .assertT t' ok' zero x' => match o with
    | .typeAssert x _ t ok => decide (t = t') && decide (ok = ok') && chkA n x x' && chkZeroV P t zero && (match P.underlying t with | some (.interface _) => false | some _ => true | none => false)
    | _ => false
  | .minmax isMax xs' => match o with
    | .call { callee := .builtin b, args := xs, argTypes := _ } => (match b with | .max => isMax | .min => !isMax | _ => false) && chkAs n xs.toList xs'
    | _ => false

end Go.VM

namespace Go.VM
open Go Go.RowKit

section
variable {P : Program} {w0 w : World} {g : G} {S : St} {n : Nat} {fr : Fr} {a : Act}

theorem rel_bool {v : Bool} {u : Value} (h : RelV g (.bool v) u) : u = .bool v := h
theorem rel_int {k : IntKind} {m : Int} {u : Value} (h : RelV g (.int k m) u) : u = .int k m := h
theorem rel_str {s : ByteArray} {u : Value} (h : RelV g (.str s) u) : u = .string s := h

theorem idx_rel {v : V} {u : Value} {j : Nat} (h : RelV g v u) (hj : v.idx = some j) : ∃ k, u = .int k (j : Int) := by
  cases v <;> simp only [V.idx] at hj <;> try (cases hj; done)
  rename_i k m
  split at hj
  · rename_i hm
    injection hj with hj
    refine ⟨k, ?_⟩
    rw [rel_int h, ← hj]
    congr 1
    omega
  · cases hj

theorem simBin {op : BinOp} {x y v : V} {u u' : Value} (hx : RelV g x u) (hy : RelV g y u') (hv : V.bin op x y = some v) (t : TypeId) (x' y' : Operand) :
    ∃ r, (do eqGuard op t x' y' u u'; Go.binOp op t u u' : Sem Value).run P w = .ok r w ∧ RelV g v r := by
  unfold V.bin at hv
  split at hv
  · rename_i k p k' q
    rw [rel_int hx, rel_int hy]
    have hg : (eqGuard op t x' y' (.int k p) (.int k' q)).run P w = .ok () w := by
      unfold eqGuard
      split <;> simp
    simp only [Sem.run_bind, hg, Result.andThen_ok]
    split at hv
    · split at hv
      · cases hv
      · rename_i hq
        injection hv with hv; subst hv
        exact ⟨_, by simp [Go.binOp, Op.shift, hq], rfl⟩
    · split at hv
      · cases hv
      · rename_i hq
        injection hv with hv; subst hv
        exact ⟨_, by simp [Go.binOp, Op.shift, hq], rfl⟩
    · rename_i h1 h2
      split at hv
      · rename_i hk
        subst hk
        cases op <;> simp only [binInt, bitsV, Option.map_some, Option.map_none] at hv <;> (try (cases hv; done)) <;> (try (exact absurd rfl h1)) <;> (try (exact absurd rfl h2))
        all_goals (try (split at hv <;> (try (cases hv; done))))
        all_goals (injection hv with hv; subst hv)
        all_goals (refine ⟨_, ?_, rfl⟩)
        all_goals (first | (simp [Go.binOp, Op.intArith, Op.intDiv, Op.intBits, Op.intCmp]; done) | (rename_i hq; simp [Go.binOp, Op.intArith, Op.intDiv, Op.intBits, Op.intCmp, hq]))
      · cases hv
  · rename_i p q
    rw [rel_str hx, rel_str hy]
    have hg : (eqGuard op t x' y' (.string p) (.string q)).run P w = .ok () w := by
      unfold eqGuard
      split <;> simp
    simp only [Sem.run_bind, hg, Result.andThen_ok]
    cases op <;> simp only [binStr] at hv <;> (try (cases hv; done))
    · split at hv
      · cases hv
      · rename_i hq
        injection hv with hv; subst hv
        exact ⟨_, by simp only [Go.binOp, Op.stringOp]; rw [if_neg hq]; rfl, rfl⟩
    all_goals
      injection hv with hv; subst hv
      exact ⟨_, by simp only [Go.binOp, Op.stringOp]; rfl, rfl⟩
  · cases hv

theorem simUn {op : UnOp} {x v : V} {u : Value} (hx : RelV g x u) (hv : V.un op x = some v) : ∃ r, (Op.unary op u).run P w = .ok r w ∧ RelV g v r := by
  unfold V.un at hv
  split at hv
  · rw [rel_int hx]
    split at hv <;> (try (cases hv; done))
    · injection hv with hv; subst hv
      exact ⟨_, by simp [Op.unary, Op.intArith], rfl⟩
    · simp only [bitsV, Option.map_some] at hv
      injection hv with hv; subst hv
      exact ⟨_, by simp [Op.unary, Op.intBits], rfl⟩
  · rw [rel_bool hx]
    split at hv <;> (try (cases hv; done))
    injection hv with hv; subst hv
    exact ⟨_, by simp [Op.unary], rfl⟩
  · cases hv

theorem rel_ptr {p : Option (Nat × Nat)} {u : Value} (h : RelV g (.ptr p) u) : ∃ q : Option Addr, u = .pointer q ∧ q.isNone = p.isNone := by
  cases p with
  | none => exact ⟨none, h, rfl⟩
  | some p => obtain ⟨i, o⟩ := p; exact ⟨_, h.2, rfl⟩
theorem rel_eptr {cs : List V} {u : Value} (h : RelV g (.eptr cs) u) : ∃ q : Addr, u = .pointer (some q) := by
  obtain ⟨_, _, _, rfl, _⟩ := h
  exact ⟨_, rfl⟩
theorem rel_sl {cs : List V} {m sz : Nat} {t : Tok} {u : Value} (h : RelV g (.sl cs m sz t) u) : ∃ (q : Option Addr) (c : Nat), u = .slice q m c ∧ q.isNone = (t == .nil) := by
  obtain ⟨_, h⟩ := h
  rcases h with ⟨rfl, rfl, _, rfl⟩ | ⟨ht, _, _, _, _, rfl, _⟩ | ⟨ht, rfl, _, x, rfl⟩
  · exact ⟨none, 0, rfl, rfl⟩
  · exact ⟨_, _, rfl, by simpa using ht⟩
  · exact ⟨some x, 0, rfl, by rcases ht with rfl | rfl <;> rfl⟩
theorem rel_msl {o off m sz : Nat} {u : Value} (h : RelV g (.msl o off m sz) u) : ∃ (q : Addr) (c : Nat), u = .slice (some q) m c := by
  obtain ⟨_, c, rfl, _⟩ := h
  exact ⟨_, _, rfl⟩
theorem rel_map {r : Option Nat} {u : Value} (h : RelV g (.map r) u) : ∃ q : Option Nat, u = .map q ∧ q.isNone = r.isNone := by
  cases r with
  | none => exact ⟨none, h, rfl⟩
  | some r => exact ⟨_, h.2, rfl⟩
theorem rel_func {f : FuncId} {pre cap : List V} {u : Value} (h : RelV g (.func f pre cap) u) : ∃ a b c, u = .func a b c := by
  obtain ⟨_, _, rfl, _⟩ := h
  exact ⟨_, _, _, rfl⟩
theorem rel_iface {t : TypeId} {v : V} {u : Value} (h : RelV g (.iface t v) u) : ∃ x, u = .iface t x ∧ RelV g v x := h

theorem simEq {k : TK} {t : TypeId} (hk : chkTK P t k = true) {x y : V} {b : Bool} {u u' : Value} (hx : RelV g x u) (hy : RelV g y u') (hv : V.eq k x y = some b) (d : Nat) :
    (Op.equalIn (d + 1) t u u').run P w = .ok b w := by
  unfold V.eq at hv
  split at hv
  all_goals (try (split at hv <;> (try (cases hv; done))))
  all_goals (try (cases hv; done))
  all_goals (rename_i hkk)
  all_goals (first | (obtain ⟨rfl, hij⟩ := hkk) | subst hkk)
  all_goals (simp only [chkTK] at hk; split at hk <;> (try (cases hk; done)))
  all_goals (rename_i ht)
  · injection hv with hv; subst hv; rw [rel_bool hx, rel_bool hy]; simp [Op.equalIn, run_underlying ht]
  · injection hv with hv; subst hv
    obtain ⟨p, rfl, hp⟩ := rel_ptr hx; obtain ⟨q, rfl, hq⟩ := rel_ptr hy
    cases p <;> simp at hp
    simp [Op.equalIn, run_underlying ht, hq]
  · injection hv with hv; subst hv
    obtain ⟨p, rfl, hp⟩ := rel_ptr hx; obtain ⟨q, rfl, hq⟩ := rel_ptr hy
    cases q <;> simp at hq
    cases p <;> simp at hp
    simp [Op.equalIn, run_underlying ht]
  · injection hv with hv; subst hv
    subst hij
    obtain ⟨_, rfl⟩ := hx
    obtain ⟨_, rfl⟩ := hy
    split at hk <;> (try (cases hk; done))
    rename_i s hs
    have hs0 : s ≠ 0 := of_decide_eq_true hk
    simp [Op.equalIn, run_underlying ht, szOf_run hs, hs0, sameAddr]
    rw [Bool.eq_iff_iff]; simp
  · injection hv with hv; subst hv
    obtain ⟨p, rfl, hp⟩ := rel_ptr hx; obtain ⟨q, rfl⟩ := rel_eptr hy
    cases p <;> simp at hp
    simp [Op.equalIn, run_underlying ht]
  · injection hv with hv; subst hv
    obtain ⟨p, rfl, hp⟩ := rel_ptr hy; obtain ⟨q, rfl⟩ := rel_eptr hx
    cases p <;> simp at hp
    simp [Op.equalIn, run_underlying ht]
  · obtain ⟨p, c, rfl, hp⟩ := rel_sl hx; obtain ⟨q, c', rfl, hq⟩ := rel_sl hy
    split at hv
    · rename_i hs
      injection hv with hv; subst hv; subst hs
      cases p <;> simp at hp
      simp [Op.equalIn, run_underlying ht, hq]
    · rename_i hs
      split at hv
      · rename_i hs'
        injection hv with hv; subst hv; subst hs'
        cases q <;> simp at hq
        cases p with
        | none => exact absurd (by simpa using hp.symm) hs
        | some p => simp [Op.equalIn, run_underlying ht]
      · cases hv
  · injection hv with hv; subst hv
    obtain ⟨p, c, rfl⟩ := rel_msl hx; obtain ⟨q, c', rfl, hq⟩ := rel_sl hy
    subst hij
    cases q <;> simp at hq
    simp [Op.equalIn, run_underlying ht]
  · injection hv with hv; subst hv
    obtain ⟨p, rfl, hp⟩ := rel_map hx; obtain ⟨q, rfl, hq⟩ := rel_map hy
    cases p <;> simp at hp
    simp [Op.equalIn, run_underlying ht, hq]
  · injection hv with hv; subst hv
    obtain ⟨p, rfl, hp⟩ := rel_map hx; obtain ⟨q, rfl, hq⟩ := rel_map hy
    cases q <;> simp at hq
    cases p <;> simp at hp
    simp [Op.equalIn, run_underlying ht]
  · injection hv with hv; subst hv
    obtain rfl : u = .nilFunc := hx; obtain rfl : u' = .nilFunc := hy
    simp [Op.equalIn, run_underlying ht]
  · injection hv with hv; subst hv
    obtain rfl : u = .nilFunc := hx; obtain ⟨_, _, _, rfl⟩ := rel_func hy
    simp [Op.equalIn, run_underlying ht]
  · injection hv with hv; subst hv
    obtain rfl : u' = .nilFunc := hy; obtain ⟨_, _, _, rfl⟩ := rel_func hx
    simp [Op.equalIn, run_underlying ht]
  · injection hv with hv; subst hv
    obtain rfl : u = .nilIface := hx; obtain ⟨_, rfl, _⟩ := rel_iface hy
    simp [Op.equalIn, run_underlying ht]
  · injection hv with hv; subst hv
    obtain rfl : u' = .nilIface := hy; obtain ⟨_, rfl, _⟩ := rel_iface hx
    simp [Op.equalIn, run_underlying ht]
end
end Go.VM

namespace Go.VM
open Go Go.RowKit

section
variable {P : Program} {w0 w : World} {g : G} {S : St} {n : Nat} {fr : Fr} {a : Act}

theorem bytes_rel {cs : List V} {us : List Value} (h : RelL g cs us) : ∀ {l : List UInt8}, bytesOf cs = some l → us = (l.map fun b => (b.toNat : Int)).map (Value.int .u8) ∨ ∃ ns : List Int, us = ns.map (Value.int .u8) ∧ l = ns.map fun n => UInt8.ofNat n.toNat := by
  intro l hl
  right
  induction cs generalizing us l with
  | nil => simp only [bytesOf] at hl; injection hl with hl; subst hl; obtain rfl : us = [] := h; exact ⟨[], rfl, rfl⟩
  | cons c cs ih =>
    obtain ⟨u, r, rfl, h1, h2⟩ := h
    unfold bytesOf at hl
    split at hl <;> (try (cases hl; done))
    · rename_i heq; cases heq
    · rename_i k rr heq
      injection heq with e1 e2; subst e1; subst e2
      obtain ⟨l', hl', rfl⟩ := Option.map_eq_some_iff.1 hl
      obtain ⟨ns, rfl, rfl⟩ := ih h2 hl'
      rw [rel_int h1]
      exact ⟨k :: ns, rfl, rfl⟩

/-- What is told by a slice or a string, on both sides. -/
theorem elems_rel (hW : RelW w0 g S w) {sz m : Nat} {v : V} {u : Value} {cs : List V} (h : RelV g v u) (he : v.elems S sz = some (m, cs)) :
    cs.length = m * sz ∧ ∃ us, RelL g cs us ∧ Ones us ∧
      ((∃ (q : Option Addr) (c : Nat), u = .slice q m c ∧ (m = 0 ∨ ∃ b p, q = some ⟨b, p, none⟩ ∧ Reads w b p us)) ∨ (∃ s, u = .string s ∧ sz = 1 ∧ m = s.size ∧ us = s.data.toList.map fun b => .int .u8 b.toNat)) := by
  unfold V.elems at he
  split at he
  · rename_i cs' m' sz' t
    split at he
    · rename_i ht
      injection he with he
      injection he with e1 e2
      subst e1; subst e2
      obtain ⟨hl, h⟩ := h
      rcases h with ⟨_, hm, hcs, rfl⟩ | ⟨ht', _⟩ | ⟨ht', _⟩
      · exact ⟨by simp, [], rfl, fun _ hx => (by cases hx), .inl ⟨none, 0, rfl, .inl rfl⟩⟩
      · exact absurd ht ht'
      · rcases ht' with h' | h' <;> (rw [h'] at ht; cases ht)
    · rename_i ht
      split at he
      · rename_i hsz
        injection he with he
        injection he with e1 e2
        subst e1; subst e2; subst hsz
        obtain ⟨hl, h⟩ := h
        rcases h with ⟨ht', _⟩ | ⟨_, b, p, cap, us, rfl, hc, r, on, ic, _⟩ | ⟨_, rfl, rfl, x, rfl⟩
        · exact absurd ht' ht
        · exact ⟨hl, us, r, on, .inl ⟨_, cap, rfl, .inr ⟨b, p, rfl, hW.reads ic⟩⟩⟩
        · exact ⟨hl, [], rfl, fun _ hx => (by cases hx), .inl ⟨some x, 0, rfl, .inl rfl⟩⟩
      · cases he
  · rename_i o off m' sz'
    split at he
    · rename_i hsz
      subst hsz
      obtain ⟨ds, hds, he⟩ := Option.bind_eq_some_iff.1 he
      split at he
      · rename_i hle
        injection he with he
        injection he with e1 e2
        subst e1; subst e2
        obtain ⟨_, c, rfl, _⟩ := h
        obtain ⟨xs, r, on, rd⟩ := hW.cells hds
        refine ⟨by rw [List.length_take, List.length_drop]; omega, _, (r.drop off).take _, (on.drop off).take _, .inl ⟨_, c, rfl, .inr ⟨_, _, rfl, (rd.drop off).take _⟩⟩⟩
      · cases he
    · cases he
  · rename_i s
    split at he
    · rename_i hsz
      injection he with he
      injection he with e1 e2
      subst e1; subst e2; subst hsz
      refine ⟨by simp, s.data.toList.map fun b => .int .u8 b.toNat, ?_, ?_, .inr ⟨s, rel_str h, rfl, rfl, rfl⟩⟩
      · refine RelL_iff.2 ⟨by simp, fun j c u hc hu => ?_⟩
        simp only [List.getElem?_map, Option.map_eq_some_iff] at hc hu
        obtain ⟨b, hb, rfl⟩ := hc
        obtain ⟨b', hb', rfl⟩ := hu
        rw [hb] at hb'
        injection hb' with hb'; subst hb'
        rfl
      · intro x hx
        obtain ⟨b, _, rfl⟩ := List.mem_map.1 hx
        rfl
    · cases he
  · cases he

theorem simConv (hW : RelW w0 g S w) {c : Cv} {x v : V} {u : Value} (hx : RelV g x u) (hv : V.conv S c x = some v) {src dst : TypeId}
    (hc : chkCv P src dst c = true) : ∃ r, (convert src dst u).run P w = .ok r w ∧ RelV g v r := by
  unfold V.conv at hv
  split at hv
  · simp only [chkCv] at hc
    split at hc <;> (try (cases hc; done))
    rename_i h1 h2
    injection hv with hv; subst hv
    rw [rel_str hx]
    exact ⟨_, by simp [convert, run_underlying h1, run_underlying h2], rfl⟩
  · simp only [chkCv] at hc
    split at hc <;> (try (cases hc; done))
    rename_i h1 h2
    have hk := of_decide_eq_true hc
    subst hk
    injection hv with hv; subst hv
    rw [rel_int hx]
    exact ⟨_, by simp [convert, run_underlying h1, run_underlying h2, Conv.intToInt], rfl⟩
  · simp only [chkCv] at hc
    split at hc <;> (try (cases hc; done))
    rename_i h1 h2
    injection hv with hv; subst hv
    rw [rel_int hx]
    exact ⟨_, by simp [convert, run_underlying h1, run_underlying h2, Conv.intToString], rfl⟩
  · cases hv
  · rename_i hns
    simp only [chkCv] at hc
    split at hc <;> (try (cases hc; done))
    rename_i h1 h2
    split at hc <;> (try (cases hc; done))
    rename_i h3
    obtain ⟨⟨m, cs⟩, he, hv⟩ := Option.bind_eq_some_iff.1 hv
    obtain ⟨l, hl, rfl⟩ := Option.map_eq_some_iff.1 hv
    obtain ⟨hlen, us, r, on, hsh⟩ := elems_rel hW hx he
    rcases bytes_rel r hl with hus | ⟨ns, hus, hln⟩
    · refine ⟨.string ⟨l.toArray⟩, ?_, rfl⟩
      have hml : l.length = m := by have := r.len; rw [hus] at this; simp at this; omega
      rcases hsh with ⟨q, c, rfl, hq⟩ | ⟨s, rfl, _⟩
      · rcases hq with rfl | ⟨b, p, rfl, rd⟩
        · obtain rfl : l = [] := List.eq_nil_of_length_eq_zero hml
          cases q with
          | none => rw [run_convert_bytes_nil w src _ h1 h3 0 c dst h2]; rfl
          | some q => exact run_convert_bytes_back w src dst _ q c [] h1 h3 h2 (fun j hj => by simp at hj)
        · rw [← hml]
          refine run_convert_bytes_back w src dst _ ⟨b, p, none⟩ c l h1 h3 h2 (fun j hj => ?_)
          rw [add_at]
          refine rd j _ ?_
          rw [hus]
          simp [hj]
      · cases x with
        | str s' => exact absurd rfl (hns s')
        | _ => simp [V.elems] at he <;> (try (unfold RelV at hx)) <;> (try (obtain ⟨_, hx⟩ := hx)) <;> (try simp at hx)
    · refine ⟨.string ⟨l.toArray⟩, ?_, rfl⟩
      have hml : ns.length = m := by have := r.len; rw [hus] at this; simp at this; omega
      rcases hsh with ⟨q, c, rfl, hq⟩ | ⟨s, rfl, _⟩
      · rcases hq with rfl | ⟨b, p, rfl, rd⟩
        · obtain rfl : ns = [] := List.eq_nil_of_length_eq_zero hml
          simp at hln
          subst hln
          cases q with
          | none => rw [run_convert_bytes_nil w src _ h1 h3 0 c dst h2]; rfl
          | some q => exact run_convert_bytes_back w src dst _ q c [] h1 h3 h2 (fun j hj => by simp at hj)
        · have := run_convert_bytes_arg (P := P) w src _ h1 h3 b p m c ns hml (fun i hi => by
            refine rd i _ ?_
            rw [hus]
            simp [List.getD, List.getElem?_eq_getElem (show i < ns.length by omega)]) dst h2
          rw [this, hln]
          rfl
      · cases x with
        | str s' => exact absurd rfl (hns s')
        | _ => simp [V.elems] at he <;> (try (unfold RelV at hx)) <;> (try (obtain ⟨_, hx⟩ := hx)) <;> (try simp at hx)
  · cases hv
end
end Go.VM

namespace Go.VM
open Go Go.RowKit

section
variable {P : Program} {w0 w : World} {g : G} {S : St} {n : Nat} {fr : Fr} {a : Act}

theorem part_rel {cs : List V} {us : List Value} (hr : RelL g cs us) (ho : Ones us) {t : TypeId} {agg : Bool} {sz off : Nat} (ha : aggOf P t = some agg) (hs : szOf P t = some sz) {v : V} (hv : takeC agg sz (cs.drop off) = some v) :
    ∃ u, (part t us.toArray off).run P w = .ok u w ∧ RelV g v u := by
  unfold takeC at hv
  cases agg with
  | true =>
    simp only [if_true] at hv
    split at hv
    · rename_i hle
      injection hv with hv; subst hv
      refine ⟨.agg ((us.drop off).take sz).toArray, ?_, _, rfl, (hr.drop off).take sz, (ho.drop off).take sz⟩
      simp only [part, Sem.run_bind, aggOf_run ha, Result.andThen_ok, if_true, szOf_run hs, Sem.run_pure]
      congr 2
      apply Array.toList_inj.1
      simp [List.extract_eq_take_drop]
    · cases hv
  | false =>
    simp only [Bool.false_eq_true, if_false] at hv
    have hc0 : cs[off]? = some v := by
      rw [List.head?_eq_getElem?, List.getElem?_drop] at hv
      simpa using hv
    obtain ⟨u, hu, hrel⟩ := hr.at_ hc0
    exact ⟨u, by simp [part, aggOf_run ha, hu], hrel⟩

theorem eqLs_append : ∀ (ks ks' : List KK) (cs ds cs' ds' : List V), cs.length = ks.length → ds.length = ks.length → eqLs (ks ++ ks') (cs ++ cs') (ds ++ ds') = (match eqLs ks cs ds with | some true => eqLs ks' cs' ds' | r => r) := by
  intro ks
  induction ks with
  | nil => intro ks' cs ds cs' ds' h h'; cases List.eq_nil_of_length_eq_zero h; cases List.eq_nil_of_length_eq_zero h'; rfl
  | cons k ks ih =>
    intro ks' cs ds cs' ds' h h'
    cases cs with
    | nil => simp at h
    | cons c cs =>
      cases ds with
      | nil => simp at h'
      | cons d ds =>
        simp only [List.cons_append, eqLs]
        cases V.keyEq k c d with
        | none => rfl
        | some b => cases b with
          | false => rfl
          | true => exact ih ks' cs ds cs' ds' (by simpa using h) (by simpa using h')

theorem leaf_agg : ∀ {m : Nat} {t : TypeId} {ks : List KK}, leafN P m t = some ks → ∃ agg, aggOf P t = some agg ∧ (agg = false → ks.length = 1) := by
  intro m t n h
  cases m with
  | zero => cases h
  | succ m =>
    simp only [leafN] at h
    split at h <;> rename_i e <;> simp only [aggOf, e, Option.map_some] <;> (try cases h) <;> exact ⟨_, rfl, by simp⟩

theorem keyEq_leaf (kk : KK) {c c' : V} {b : Bool} {u u' : Value} (h : V.keyEq kk c c' = some b) (hu : RelV g c u) (hu' : RelV g c' u') :
    (kk = .int ∧ ∃ k x x', u = .int k x ∧ u' = .int k x' ∧ b = (x == x')) ∨ (kk = .str ∧ ∃ x x', u = .string x ∧ u' = .string x' ∧ b = (x == x')) ∨ (kk = .bool ∧ ∃ x x', u = .bool x ∧ u' = .bool x' ∧ b = (x == x')) := by
  unfold V.keyEq at h
  split at h
  · split at h
    · rename_i hk
      injection h with h
      obtain ⟨h1, h2⟩ := hk
      subst h2
      exact .inl ⟨h1, _, _, _, rel_int hu, rel_int hu', h.symm⟩
    · cases h
  · split at h
    · rename_i hk
      injection h with h
      exact .inr (.inl ⟨hk, _, _, rel_str hu, rel_str hu', h.symm⟩)
    · cases h
  · split at h
    · rename_i hk
      injection h with h
      exact .inr (.inr ⟨hk, _, _, rel_bool hu, rel_bool hu', h.symm⟩)
    · cases h
  · cases h

theorem equal_leaf (w : World) : ∀ (m : Nat) (t : TypeId) (ks : List KK), leafN P m t = some ks → ∀ (d : Nat) (agg : Bool), aggOf P t = some agg → ∀ (cs ds : List V) (v v' : V) (u u' : Value) (b : Bool), takeC agg ks.length cs = some v → takeC agg ks.length ds = some v' → RelV g v u → RelV g v' u' → eqLs ks (cs.take ks.length) (ds.take ks.length) = some b →
    (Op.equalIn (d + m) t u u').run P w = .ok b w := by
  intro m
  induction m with
  | zero => intro t n h; cases h
  | succ m ih =>
    intro t ks h d agg ha cs ds v v' u u' b hv hv' hu hu' hb
    have one : ∀ kk, agg = false → ks = [kk] → V.keyEq kk v v' = some b := by
      intro k h1 h2
      subst h1; subst h2
      cases cs with
      | nil => simp [takeC] at hv
      | cons c cs =>
        cases ds with
        | nil => simp [takeC] at hv'
        | cons c' ds =>
          simp only [takeC, Bool.false_eq_true, if_false, List.head?_cons, Option.some.injEq] at hv hv'
          subst hv; subst hv'
          simp only [List.length_cons, List.length_nil, Nat.zero_add, List.take_succ_cons, List.take_zero, eqLs] at hb
          cases he : V.keyEq k c c' with
          | none => rw [he] at hb; cases hb
          | some x => rw [he] at hb; cases x <;> simpa using hb
    simp only [leafN] at h
    rw [← Nat.add_assoc]
    split at h
    · rename_i e
      simp only [aggOf, e, Option.map_some, Option.some.injEq] at ha
      injection h with h
      rcases keyEq_leaf .bool (one _ ha.symm h.symm) hu hu' with ⟨h0, _⟩ | ⟨h0, _⟩ | ⟨_, x, x', rfl, rfl, rfl⟩
      · cases h0
      · cases h0
      · exact run_equalIn_bool' w _ _ _ _ e
    · rename_i k0 e
      simp only [aggOf, e, Option.map_some, Option.some.injEq] at ha
      injection h with h
      rcases keyEq_leaf .int (one _ ha.symm h.symm) hu hu' with ⟨_, k, x, x', rfl, rfl, rfl⟩ | ⟨h0, _⟩ | ⟨h0, _⟩
      · exact run_equalIn_int w _ _ _ _ _ _ e
      · cases h0
      · cases h0
    · rename_i e
      simp only [aggOf, e, Option.map_some, Option.some.injEq] at ha
      injection h with h
      rcases keyEq_leaf .str (one _ ha.symm h.symm) hu hu' with ⟨h0, _⟩ | ⟨_, x, x', rfl, rfl, rfl⟩ | ⟨h0, _⟩
      · cases h0
      · rw [beq_toListBytes]; exact run_equalIn_string w _ _ _ _ e
      · cases h0
    · rename_i fs e
      split at h
      · rename_i hst
        simp only [aggOf, e, Option.map_some, Option.some.injEq] at ha
        subst ha
        have fo : P.fieldsOf t = fs := by simp only [Program.fieldsOf, e]
        simp only [takeC, if_true] at hv hv'
        split at hv
        · rename_i hl
          split at hv'
          · rename_i hl'
            injection hv with hv; subst hv
            injection hv' with hv'; subst hv'
            obtain ⟨us, rfl, hr, ho⟩ := hu
            obtain ⟨us', rfl, hr', ho'⟩ := hu'
            rw [run_equalIn_struct w (d + m) t _ _ (by rw [fo]; exact e) hst, fo]
            have go : ∀ (fs : List Field) (off : Nat) (ls : List KK), sumL P (leafN P m) fs off = some ls → off + ls.length ≤ ks.length → eqLs ls ((cs.take ks.length).drop off) ((ds.take ks.length).drop off) = some b → (Op.eqFields (d + m) us.toArray us'.toArray fs).run P w = .ok b w := by
              intro fs
              induction fs with
              | nil =>
                intro off ls ho hz he
                injection ho with ho; subst ho
                have : b = true := by
                  cases h1 : (cs.take ks.length).drop off <;> cases h2 : (ds.take ks.length).drop off <;> rw [h1, h2] at he <;> simp [eqLs] at he
                  exact he
                subst this
                rfl
              | cons f fs ihf =>
                intro off ls hs hle he
                simp only [sumL] at hs
                split at hs
                · rename_i hn
                  split at hs
                  · rename_i k hk
                    split at hs
                    · rename_i hz
                      obtain ⟨ls', hs', rfl⟩ := Option.map_eq_some_iff.1 hs
                      rw [List.length_append] at hle
                      obtain ⟨ag, hag, hag1⟩ := leaf_agg hk
                      have tk : ∀ xs : List V, ks.length ≤ xs.length → ∃ v, takeC ag k.length ((xs.take ks.length).drop off) = some v := by
                        intro xs hx
                        cases ag with
                        | true => exact ⟨_, by simp only [takeC, if_true]; rw [if_pos (by simp; omega)]⟩
                        | false =>
                          have := hag1 rfl
                          simp only [takeC, Bool.false_eq_true, if_false]
                          rw [List.head?_drop]
                          exact ⟨_, List.getElem?_eq_getElem (by simp; omega)⟩
                      obtain ⟨a, ha⟩ := tk cs hl
                      obtain ⟨a', ha'⟩ := tk ds hl'
                      obtain ⟨p, hp, hpr⟩ := part_rel (P := P) (w := w) hr ho hag hz ha
                      obtain ⟨p', hp', hpr'⟩ := part_rel (P := P) (w := w) hr' ho' hag hz ha'
                      have sp : ∀ xs : List V, xs = xs.take k.length ++ xs.drop k.length := fun xs => (List.take_append_drop _ xs).symm
                      rw [sp ((cs.take ks.length).drop off), sp ((ds.take ks.length).drop off), eqLs_append _ _ _ _ _ _ (by simp; omega) (by simp; omega), List.drop_drop, List.drop_drop] at he
                      simp only [Op.eqFields, if_pos hn.1, Sem.run_bind, hn.2, hp, hp', Result.andThen_ok]
                      cases hq : eqLs k (((cs.take ks.length).drop off).take k.length) (((ds.take ks.length).drop off).take k.length) with
                      | none => rw [hq] at he; cases he
                      | some x =>
                        have := ih f.type k hk d ag hag _ _ _ _ _ _ x ha ha' hpr hpr' hq
                        rw [this]
                        cases x with
                        | false => rw [hq] at he; injection he with he; subst he; rfl
                        | true =>
                          rw [hq] at he
                          simp only [Result.andThen_ok, Bool.not_true, Bool.false_eq_true, if_false]
                          exact ihf (off + k.length) ls' hs' (by omega) he
                    · cases hs
                  · cases hs
                · cases hs
            exact go _ 0 _ h (by omega) (by simpa using hb)
          · cases hv'
        · cases hv
      · cases h
    · cases h

theorem simEqA {ks : List KK} {t : TypeId} (hk : chkEqA P t ks = true) {x y : V} {b : Bool} {u u' : Value} (hx : RelV g x u) (hy : RelV g y u') (hv : eqA ks x y = some b) (neg : Bool) (op : BinOp) (ho : (match op with | .eql => !neg | .neq => neg | _ => false) = true) (x' y' : Operand) :
    ∃ r, (do eqGuard op t x' y' u u'; Go.binOp op t u u' : Sem Value).run P w = .ok r w ∧ RelV g (.bool (if neg then !b else b)) r := by
  unfold eqA at hv
  split at hv
  · rename_i cs ds
    simp only [chkEqA, Bool.and_eq_true, decide_eq_true_eq, Bool.not_eq_true'] at hk
    obtain ⟨⟨h1, h2⟩, h3⟩ := hk
    obtain ⟨us, rfl, hr, hu⟩ := hx
    obtain ⟨us', rfl, hr', hu'⟩ := hy
    have ha : aggOf P t = some true := by
      split at h3
      · rename_i e; simp [aggOf, e]
      · cases h3
    split at hv
    rotate_left
    · cases hv
    rename_i hlen
    have hx : takeC true ks.length cs = some (.agg cs) := by
      rw [takeC, if_pos rfl, if_pos (Nat.le_of_eq hlen.1.symm), List.take_of_length_le (Nat.le_of_eq hlen.1)]
    have hy : takeC true ks.length ds = some (.agg ds) := by
      rw [takeC, if_pos rfl, if_pos (Nat.le_of_eq hlen.2.symm), List.take_of_length_le (Nat.le_of_eq hlen.2)]
    have e := equal_leaf (P := P) w 20 t ks h1 9980 true ha cs ds (.agg cs) (.agg ds) _ _ b hx hy ⟨us, rfl, hr, hu⟩ ⟨us', rfl, hr', hu'⟩ (by rw [List.take_of_length_le (by omega), List.take_of_length_le (by omega)]; exact hv)
    refine ⟨_, ?_, rfl⟩
    rw [Sem.run_bind, run_eqGuard_agg w op t x' y' _ _ h2, Result.andThen_ok]
    cases op <;> simp only [] at ho <;> (try (cases ho; done))
    · simp at ho; subst ho
      rw [run_eql_struct, e]
      rfl
    · subst ho
      rw [run_neq_struct, e]
      rfl
  · cases hv

theorem chkO_rel {g : G} {n : Nat} {fr : Fr} {a : Act} (k : RelF g n fr a.tmps) {x : Option Operand} {y : Option Arg} (h : chkO n x y = true) :
    (x = none ∧ y = none) ∨ ∃ x' y', x = some x' ∧ y = some y' ∧ RelV g (y'.ev fr) (a.eval x') := by
  unfold chkO at h
  split at h
  · exact .inl ⟨rfl, rfl⟩
  · exact .inr ⟨_, _, rfl, rfl, chkA_rel k h⟩
  · cases h

theorem sliceBound_run {u : Value} {k : IntKind} {j y : Nat} (hu : u = .int k (j : Int)) (hj : j ≤ y) (code : BoundsCode) : (Instr.sliceBound u y code).run P w = .ok j w := by
  subst hu
  simp only [Instr.sliceBound, asIntOf, Sem.run_bind, Sem.run_pure, Result.andThen_ok]
  rw [if_pos ⟨by omega, by omega⟩]
  simp

/-- The bounds of a slice expression: what is cut out; the capacity behind it. -/
theorem bounds_rel (hF : RelF g n fr a.tmps) {lo hi : Option Operand} {lo' hi' : Option Arg} (h1 : chkO n lo lo' = true) (h2 : chkO n hi hi' = true) {len cap : Nat} (hlc : len ≤ cap) {q : Nat × Nat} (hq : bounds fr len lo' hi' = some q) (isSlice : Bool) :
    q.1 ≤ q.2 ∧ q.2 ≤ len ∧ (Instr.sliceBounds isSlice len cap (lo.map a.eval) (hi.map a.eval) none).run P w = .ok (q.1, q.2, cap) w := by
  unfold bounds at hq
  rcases chkO_rel hF h1 with ⟨rfl, rfl⟩ | ⟨l, l', rfl, rfl, hl⟩ <;> rcases chkO_rel hF h2 with ⟨rfl, rfl⟩ | ⟨h, h', rfl, rfl, hh⟩
  · simp only [bind, Option.bind, pure] at hq
    split at hq
    · rename_i hb
      injection hq with hq; subst hq
      exact ⟨hb.1, hb.2, by simp [Instr.sliceBounds]⟩
    · cases hq
  · simp only [bind, Option.bind, pure] at hq
    split at hq
    · cases hq
    · rename_i j hj
      dsimp only at hq
      split at hq
      · rename_i hb
        injection hq with hq; subst hq
        obtain ⟨k, hu⟩ := idx_rel hh hj
        exact ⟨hb.1, hb.2, by simp [Instr.sliceBounds, sliceBound_run (P := P) (w := w) hu (Nat.le_trans hb.2 hlc)]⟩
      · cases hq
  · simp only [bind, Option.bind, pure] at hq
    split at hq
    · cases hq
    · rename_i j hj
      dsimp only at hq
      split at hq
      · rename_i hb
        injection hq with hq; subst hq
        obtain ⟨k, hu⟩ := idx_rel hl hj
        exact ⟨hb.1, hb.2, by simp [Instr.sliceBounds, sliceBound_run (P := P) (w := w) hu hb.1]⟩
      · cases hq
  · simp only [bind, Option.bind, pure] at hq
    split at hq
    · cases hq
    · rename_i j hj
      dsimp only at hq
      split at hq
      · cases hq
      · rename_i i hi
        dsimp only at hq
        split at hq
        · rename_i hb
          injection hq with hq; subst hq
          obtain ⟨k, hu⟩ := idx_rel hh hj
          obtain ⟨k', hu'⟩ := idx_rel hl hi
          exact ⟨hb.1, hb.2, by simp [Instr.sliceBounds, sliceBound_run (P := P) (w := w) hu (Nat.le_trans hb.2 hlc), sliceBound_run (P := P) (w := w) hu' hb.1]⟩
        · cases hq

theorem bounds3_rel (hF : RelF g n fr a.tmps) {lo hi : Option Operand} {lo' hi' : Option Arg} {mx : Operand} {mx' : Arg} (h1 : chkO n lo lo' = true) (h2 : chkO n hi hi' = true) (h3 : chkA n mx mx' = true) (hsome : hi.isSome = true)
    {len cap : Nat} (hlc : len ≤ cap) {q : Nat × Nat} (hq : bounds fr len lo' hi' = some q) (hm : (mx'.ev fr).idx = some q.2) :
    q.1 ≤ q.2 ∧ q.2 ≤ len ∧ (Instr.sliceBounds true len cap (lo.map a.eval) (hi.map a.eval) (some (a.eval mx))).run P w = .ok (q.1, q.2, q.2) w := by
  unfold bounds at hq
  obtain ⟨km, hum⟩ := idx_rel (chkA_rel hF h3) hm
  rcases chkO_rel hF h2 with ⟨rfl, rfl⟩ | ⟨h, h', rfl, rfl, hh⟩
  · cases hsome
  rcases chkO_rel hF h1 with ⟨rfl, rfl⟩ | ⟨l, l', rfl, rfl, hl⟩
  · simp only [bind, Option.bind, pure] at hq
    split at hq
    · cases hq
    · rename_i j hj
      dsimp only at hq
      split at hq
      · rename_i hb
        injection hq with hq; subst hq
        obtain ⟨k, hu⟩ := idx_rel hh hj
        simp only at hum
        exact ⟨hb.1, hb.2, by simp [Instr.sliceBounds, sliceBound_run (P := P) (w := w) hum (Nat.le_trans hb.2 hlc), sliceBound_run (P := P) (w := w) hu (Nat.le_refl _)]⟩
      · cases hq
  · simp only [bind, Option.bind, pure] at hq
    split at hq
    · cases hq
    · rename_i j hj
      dsimp only at hq
      split at hq
      · cases hq
      · rename_i i hi
        dsimp only at hq
        split at hq
        · rename_i hb
          injection hq with hq; subst hq
          obtain ⟨k, hu⟩ := idx_rel hh hj
          obtain ⟨k', hu'⟩ := idx_rel hl hi
          simp only at hum
          exact ⟨hb.1, hb.2, by simp [Instr.sliceBounds, sliceBound_run (P := P) (w := w) hum (Nat.le_trans hb.2 hlc), sliceBound_run (P := P) (w := w) hu (Nat.le_refl _), sliceBound_run (P := P) (w := w) hu' hb.1]⟩
        · cases hq

theorem simSlice (hW : RelW w0 g S w) (hF : RelF g n fr a.tmps) {t e : TypeId} {sz : Nat} (ht : P.underlying t = some (.slice e)) (hs : szOf P e = some sz) {x : Operand} {x' : Arg} (hx : chkA n x x' = true)
    {lo hi mx : Option Operand} {lo' hi' mx' : Option Arg} (h1 : chkO n lo lo' = true) (h2 : chkO n hi hi' = true) (h3 : chkO n mx mx' = true) (hsome : (mx.isNone || hi.isSome) = true)
    {v : V} (hv : sliceV fr sz lo' hi' mx' (x'.ev fr) = some v) : ∃ r, (Instr.sliceAt t (a.eval x) (lo.map a.eval) (hi.map a.eval) (mx.map a.eval)).run P w = .ok r w ∧ RelV g v r := by
  have hrel := chkA_rel hF hx
  have hat : ∀ u, (Instr.sliceAt t u (lo.map a.eval) (hi.map a.eval) (mx.map a.eval)).run P w = (Instr.slice t u (lo.map a.eval) (hi.map a.eval) (mx.map a.eval)).run P w := fun u => by
    simp [Instr.sliceAt, run_underlying ht]
  rw [hat]
  unfold sliceV at hv
  split at hv
  · rename_i cs m sz' tk heq
    rw [heq] at hrel
    obtain ⟨q, hq, hv⟩ := Option.bind_eq_some_iff.1 hv
    split at hv
    · rename_i htk
      split at hv
      · cases hv
      · rename_i hmx
        injection hv with hv; subst hv
        obtain ⟨_, hrel⟩ := hrel
        rcases hrel with ⟨_, rfl, rfl, hu⟩ | ⟨h', _⟩ | ⟨h', _⟩
        · rw [hu]
          rcases chkO_rel hF h3 with ⟨rfl, rfl⟩ | ⟨_, _, rfl, rfl, _⟩
          · obtain ⟨b1, b2, hb⟩ := bounds_rel (P := P) (w := w) hF h1 h2 (Nat.le_refl 0) hq true
            have e2 : q.2 = 0 := by omega
            have e1 : q.1 = 0 := by omega
            rw [e1, e2] at hb
            refine ⟨.slice none 0 0, ?_, by simp, .inl ⟨htk, rfl, rfl, rfl⟩⟩
            simp [Instr.slice, run_underlying ht, hb, szOf_run hs]
          · simp at hmx
        · exact absurd htk h'
        · rcases h' with h' | h' <;> (rw [h'] at htk; cases htk)
    · rename_i htk
      split at hv
      · cases hv
      rename_i hsz
      have hsz : sz' = sz := by simpa using hsz
      subst hsz
      obtain ⟨hlen, hrel⟩ := hrel
      rcases hrel with ⟨h', _⟩ | ⟨_, b, p, cap, us, hu, hc, r, on, ic, hcap, htok⟩ | ⟨hnc, rfl, rfl, x, hu⟩
      · exact absurd h' htk
      rotate_left
      · rw [hu]
        simp only at hv
        rcases chkO_rel hF h3 with ⟨rfl, rfl⟩ | ⟨m1, m2, rfl, rfl, _⟩
        · simp only at hv
          injection hv with hv; subst hv
          obtain ⟨b1, b2, hb⟩ := bounds_rel (P := P) (w := w) hF h1 h2 (Nat.le_refl 0) hq true
          have e2 : q.2 = 0 := by omega
          have e1 : q.1 = 0 := by omega
          rw [e1, e2] at hb
          refine ⟨.slice (some x) 0 0, ?_, by simp [e1, e2], .inr (.inr ⟨?_, by omega, by simp, x, rfl⟩)⟩
          · simp [Instr.slice, run_underlying ht, hb, szOf_run hs]
          · rw [if_pos e2]; exact hnc
        · simp only at hv
          split at hv
          · rename_i hmq
            injection hv with hv; subst hv
            obtain ⟨b1, b2, hb⟩ := bounds3_rel (P := P) (w := w) hF h1 h2 (by simpa [chkO] using h3) (by simpa using hsome) (Nat.le_refl 0) hq hmq
            have e2 : q.2 = 0 := by omega
            have e1 : q.1 = 0 := by omega
            rw [e1, e2] at hb
            refine ⟨.slice (some x) 0 0, ?_, by simp [e1, e2], .inr (.inr ⟨.inr rfl, by omega, by simp, x, rfl⟩)⟩
            simp [Instr.slice, run_underlying ht, hb, szOf_run hs]
          · cases hv
      rw [hu]
      simp only at hv
      rcases chkO_rel hF h3 with ⟨rfl, rfl⟩ | ⟨m1, m2, rfl, rfl, _⟩
      · simp only at hv
        injection hv with hv; subst hv
        obtain ⟨b1, b2, hb⟩ := bounds_rel (P := P) (w := w) hF h1 h2 hc hq true
        have hcutlen : ((cs.drop (q.1 * sz')).take ((q.2 - q.1) * sz')).length = (q.2 - q.1) * sz' := by
          rw [List.length_take, List.length_drop, hlen, ← Nat.sub_mul]
          exact Nat.min_eq_left (Nat.mul_le_mul_right _ (by omega))
        have hrun : (Instr.slice t (.slice (some ⟨b, p, none⟩) m cap) (lo.map a.eval) (hi.map a.eval) none).run P w = .ok (.slice (some (if cap = q.1 then ⟨b, p, none⟩ else ⟨b, p + q.1 * sz', none⟩)) (q.2 - q.1) (cap - q.1)) w := by
          simp only [Instr.slice, run_underlying ht, Sem.run_bind, Result.andThen_ok, hb, szOf_run hs, Sem.run_pure, Option.map_some, add_at]
          split <;> rfl
        refine ⟨_, hrun, hcutlen, .inr (.inl ⟨?_, ?_⟩)⟩
        · split
          · exact htk
          · intro hh; cases hh
        by_cases hcq : cap = q.1
        · -- nothing is left
          have e0 : q.2 - q.1 = 0 := by omega
          refine ⟨b, p, cap - q.1, [], by rw [if_pos hcq], by omega, ?_, fun _ hx => (by cases hx), fun j v hj => (by simp at hj), fun _ => (by omega), fun k hk => ?_⟩
          · rw [e0]; simp; rfl
          · have hkt : tk = .at k := by
              split at hk
              · exact hk
              · cases hk
            exact ⟨(htok k hkt).1, (htok k hkt).2.1, fun hh => (by omega)⟩
        · refine ⟨b, p + q.1 * sz', cap - q.1, (us.drop (q.1 * sz')).take ((q.2 - q.1) * sz'), by rw [if_neg hcq], by omega, (r.drop _).take _, (on.drop _).take _, (ic.drop _).take _, fun hk => ?_, fun k hk => ?_⟩
          · split at hk
            · rename_i hqm
              have := hcap hk
              omega
            · cases hk
          · split at hk
            · rename_i hqm
              obtain ⟨k1, k10, k2⟩ := htok k hk
              refine ⟨k1, k10, fun hlt => ?_⟩
              obtain ⟨k3, k4, k5⟩ := k2 (by omega)
              refine ⟨?_, k4, ?_⟩
              · rw [k3]
                rw [hqm, Nat.sub_mul, Nat.add_assoc]
                have := Nat.mul_le_mul_right sz' (show q.1 ≤ m by omega)
                omega
              · rw [Nat.sub_mul]
                have := Nat.mul_le_mul_right sz' (show q.1 ≤ cap by omega)
                omega
            · cases hk
      · simp only at hv
        split at hv
        · rename_i hmq
          injection hv with hv; subst hv
          obtain ⟨b1, b2, hb⟩ := bounds3_rel (P := P) (w := w) hF h1 h2 (by simpa [chkO] using h3) (by simpa using hsome) hc hq hmq
          have hcutlen : ((cs.drop (q.1 * sz')).take ((q.2 - q.1) * sz')).length = (q.2 - q.1) * sz' := by
            rw [List.length_take, List.length_drop, hlen, ← Nat.sub_mul]
            exact Nat.min_eq_left (Nat.mul_le_mul_right _ (by omega))
          have hrun : (Instr.slice t (.slice (some ⟨b, p, none⟩) m cap) (lo.map a.eval) (hi.map a.eval) (some (a.eval m1))).run P w = .ok (.slice (some (if q.2 = q.1 then ⟨b, p, none⟩ else ⟨b, p + q.1 * sz', none⟩)) (q.2 - q.1) (q.2 - q.1)) w := by
            simp only [Instr.slice, run_underlying ht, Sem.run_bind, Result.andThen_ok, hb, szOf_run hs, Sem.run_pure, Option.map_some, add_at]
            split <;> rfl
          refine ⟨_, hrun, hcutlen, .inr (.inl ⟨(by intro hh; cases hh), ?_⟩)⟩
          by_cases hcq : q.2 = q.1
          · refine ⟨b, p, q.2 - q.1, [], by rw [if_pos hcq], by omega, ?_, fun _ hx => (by cases hx), fun j v hj => (by simp at hj), fun _ => (by omega), fun k hk => by cases hk⟩
            rw [hcq]; simp; rfl
          · exact ⟨b, p + q.1 * sz', q.2 - q.1, (us.drop (q.1 * sz')).take ((q.2 - q.1) * sz'), by rw [if_neg hcq], by omega, (r.drop _).take _, (on.drop _).take _, (ic.drop _).take _, fun _ => rfl, fun k hk => by cases hk⟩
        · cases hv
  · rename_i o off m sz' heq
    rw [heq] at hrel
    obtain ⟨q, hq, hv2⟩ := Option.bind_eq_some_iff.1 hv
    clear hv
    split at hv2
    · cases hv2
    rename_i hcond
    have hsz : sz' = sz := Decidable.byContradiction fun h => hcond (.inl h)
    have hmx : mx'.isSome = false := by
      cases h : mx'.isSome with
      | false => rfl
      | true => exact absurd (.inr h) hcond
    subst hsz
    obtain ⟨ho, cap, hu, hc, hb1, hb2⟩ := hrel
    rw [hu]
    rcases chkO_rel hF h3 with ⟨rfl, rfl⟩ | ⟨_, _, rfl, rfl, _⟩
    · obtain ⟨b1, b2, hb⟩ := bounds_rel (P := P) (w := w) hF h1 h2 hc hq true
      have hrun : (Instr.slice t (.slice (some ⟨(g.loc o).1, (g.loc o).2 + off, none⟩) m cap) (lo.map a.eval) (hi.map a.eval) none).run P w =
          .ok (.slice (some (if cap = q.1 then ⟨(g.loc o).1, (g.loc o).2 + off, none⟩ else ⟨(g.loc o).1, (g.loc o).2 + off + q.1 * sz', none⟩)) (q.2 - q.1) (cap - q.1)) w := by
        simp only [Instr.slice, run_underlying ht, Sem.run_bind, Result.andThen_ok, hb, szOf_run hs, Sem.run_pure, Option.map_some, add_at]
        split <;> rfl
      refine ⟨_, hrun, ?_⟩
      by_cases he : q.2 = q.1
      · rw [if_pos he] at hv2
        injection hv2 with hv2; subst hv2
        have e0 : q.2 - q.1 = 0 := by omega
        refine ⟨by simp, .inr (.inl ⟨(by intro hh; cases hh), (g.loc o).1, (if cap = q.1 then (g.loc o).2 + off else (g.loc o).2 + off + q.1 * sz'), cap - q.1, [], ?_, Nat.zero_le _, rfl, fun _ hx => (by cases hx), fun j v hj => (by simp at hj), fun hh => (by cases hh), fun k hk => (by cases hk)⟩)⟩
        rw [e0]; split <;> rfl
      · rw [if_neg he] at hv2
        injection hv2 with hv2; subst hv2
        rw [if_neg (by omega)]
        refine ⟨ho, cap - q.1, by rw [Nat.add_assoc], by omega, hb1, ?_⟩
        rw [Nat.sub_mul]
        have := Nat.mul_le_mul_right sz' (show q.1 ≤ cap by omega)
        omega
    · simp at hmx
  · cases hv
end
end Go.VM

namespace Go.VM
open Go Go.RowKit

theorem foldl_set_list (off : Nat) : ∀ (xs : List Value) (k : Nat) (cells : Array Value), off + k + xs.length ≤ cells.size →
    ((xs.zipIdx k).foldl (fun cs q => cs.setIfInBounds (off + q.2) q.1) cells).toList = cells.toList.take (off + k) ++ xs ++ cells.toList.drop (off + k + xs.length)
  | [], k, cells, _ => by simp
  | x :: xs, k, cells, h => by
    simp only [List.zipIdx_cons, List.foldl_cons]
    rw [foldl_set_list off xs (k + 1) _ (by simp at h ⊢; omega)]
    simp only [Array.toList_setIfInBounds, List.length_cons]
    have hlt : off + k < cells.toList.length := by simp at h ⊢; omega
    rw [List.drop_set_of_lt (by omega)]
    rw [show off + (k + 1) = off + k + 1 from by omega, List.take_succ_eq_append_getElem (by simpa using hlt), List.take_set_of_le (Nat.le_refl _)]
    simp [List.append_assoc, Nat.add_assoc, Nat.add_comm, Nat.add_left_comm]

theorem foldl_set_array (off : Nat) (xs cells : Array Value) (h : off + xs.size ≤ cells.size) :
    (xs.zipIdx.foldl (fun cs q => cs.setIfInBounds (off + q.2) q.1) cells).toList = cells.toList.take off ++ xs.toList ++ cells.toList.drop (off + xs.size) := by
  rw [← Array.foldl_toList, Array.toList_zipIdx]
  have := foldl_set_list off xs.toList 0 cells (by simpa using h)
  simpa using this

section
variable {P : Program} {w0 w : World} {g : G} {S : St} {n : Nat} {fr : Fr} {a : Act}

theorem splice_rel {cs xs : List V} {us ys : List Value} (h : RelL g cs us) (k : RelL g xs ys) (off : Nat) : RelL g (splice cs off xs) (us.take off ++ ys ++ us.drop (off + ys.length)) := by
  unfold splice
  rw [← k.len]
  exact ((h.take off).append k).append (h.drop _)

theorem fill_rel (hF : RelF g n fr a.tmps) {place : Nat → Option (Nat × Nat)} : ∀ {ps : List (Nat × Operand)} {parts : List (Nat × Nat × Arg)} {zero : List V} {zs : Array Value} {cs : List V},
    chkParts P n place ps parts = true → fillV fr zero parts = some cs → RelL g zero zs.toList → Ones zs.toList →
    ∃ us, Instr.fill place zs (ps.map fun q => (q.1, a.eval q.2)) = some us ∧ RelL g cs us.toList ∧ Ones us.toList
  | [], [], zero, zs, cs, _, hf, hr, ho => by
    simp only [fillV] at hf
    injection hf with hf; subst hf
    exact ⟨zs, rfl, hr, ho⟩
  | (i, x) :: ps, (off, sz, y) :: parts, zero, zs, cs, hc, hf, hr, ho => by
    simp only [chkParts, Bool.and_eq_true, decide_eq_true_eq] at hc
    obtain ⟨⟨hpl, hx⟩, hrest⟩ := hc
    simp only [fillV] at hf
    split at hf
    · rename_i hcond
      obtain ⟨h1, h2, h3⟩ := hcond
      obtain ⟨r, on⟩ := cells_rel (chkA_rel hF hx) h3
      have hsz : (a.eval x).cells.size = sz := by rw [← h1, r.len]; simp
      have hzl : zero.length = zs.size := by rw [hr.len]; simp
      have hset := foldl_set_array off (a.eval x).cells zs (by omega)
      have hr' := splice_rel hr r off
      rw [Array.length_toList, ← hset] at hr'
      obtain ⟨us, e, r2, o2⟩ := fill_rel hF hrest hf hr' (by
        rw [hset]
        exact ((ho.take off).append on).append (ho.drop _))
      refine ⟨us, ?_, r2, o2⟩
      simp only [List.map_cons, Instr.fill, hpl]
      rw [if_neg (by simp; omega)]
      exact e
    · cases hf
  | [], _ :: _, _, _, _, hc, _, _, _ => by cases hc
  | _ :: _, [], _, _, _, hc, _, _, _ => by cases hc

theorem zero_run {t : TypeId} {zs : List V} (h : chkZero P t zs = true) (w : World) : ∃ z, (zeroValue t).run P w = .ok z w ∧ RelL g zs z.cells.toList ∧ Ones z.cells.toList := by
  unfold chkZero at h
  split at h <;> (try (cases h; done))
  rename_i i hi
  split at h <;> (try (cases h; done))
  rename_i z hz
  obtain ⟨a, b⟩ := chkL_rel g h
  exact ⟨z, by simp [zeroValue, typeInfo, hi, hz], a, b⟩
theorem zeroV_run {t : TypeId} {z : V} (h : chkZeroV P t z = true) (w : World) : ∃ u, (zeroValue t).run P w = .ok u w ∧ RelV g z u := by
  unfold chkZeroV at h
  split at h <;> (try (cases h; done))
  rename_i i hi
  split at h <;> (try (cases h; done))
  rename_i u hu
  exact ⟨u, by simp [zeroValue, typeInfo, hi, hu], chkV_rel g h⟩

theorem mapM_places {fields : List Field} (h : fields.all (fun f => (szOf P f.type).isSome) = true) (w : World) :
    (fields.mapM (m := Sem) fun f => do pure (f.offset, ← Go.sizeOf f.type)).run P w = .ok (fields.map fun f => (f.offset, (szOf P f.type).getD 0)) w := by
  induction fields with
  | nil => rfl
  | cons f r ih =>
    simp only [List.all_cons, Bool.and_eq_true] at h
    obtain ⟨s, hs⟩ := Option.isSome_iff_exists.1 h.1
    rw [List.mapM_cons]
    simp only [Sem.run_bind, szOf_run hs, Result.andThen_ok, Sem.run_pure, ih h.2, List.map_cons, hs, Option.getD_some]

theorem keyEq_rel {kk : KK} {t : TypeId} (hk : keyKind P t kk = true) {x y : V} {u u' : Value} (hx : RelV g x u) (hy : RelV g y u') {b : Bool} (hb : V.keyEq kk x y = some b) :
    ∃ d, P.underlying t = some d ∧ Instr.sameNow d u u' = some b := by
  unfold V.keyEq at hb
  unfold keyKind at hk
  split at hb
  · split at hb
    · rename_i h
      obtain ⟨rfl, rfl⟩ := h
      injection hb with hb; subst hb
      split at hk <;> (try (cases hk; done))
      rename_i h
      exact ⟨_, h, by rw [rel_int hx, rel_int hy]; simp [Instr.sameNow]⟩
    · cases hb
  · split at hb
    · rename_i h
      subst h
      injection hb with hb; subst hb
      split at hk <;> (try (cases hk; done))
      rename_i h
      exact ⟨_, h, by rw [rel_str hx, rel_str hy]; simp [Instr.sameNow]⟩
    · cases hb
  · split at hb
    · rename_i h
      subst h
      injection hb with hb; subst hb
      split at hk <;> (try (cases hk; done))
      rename_i h
      exact ⟨_, h, by rw [rel_bool hx, rel_bool hy]; simp [Instr.sameNow]⟩
    · cases hb
  · cases hb

theorem findE_rel {kk : KK} {t : TypeId} {d : TypeDesc} (hk : keyKind P t kk = true) (hd : P.underlying t = some d) {x : V} {u : Value} (hx : RelV g x u) : ∀ {es : List (V × V × Nat)} {ms : List MapEntry} {i : Nat} {r : Option (Nat × V)},
    RelM g es ms → findE kk x es i = some r → ∃ r', Instr.findNow d u ms i = some r' ∧
      (match r, r' with
       | none, none => True
       | some (j, v), some (j', v') => j = j' ∧ i ≤ j ∧ j < i + es.length ∧ RelV g v v' ∧ (∃ e m, es[j - i]? = some e ∧ ms[j - i]? = some m ∧ v = e.2.1 ∧ V.keyEq kk x e.1 = some true)
       | _, _ => False)
  | [], ms, i, r, hm, hf => by
    have : ms = [] := List.eq_nil_of_length_eq_zero hm.1.symm
    subst this
    simp only [findE] at hf
    injection hf with hf; subst hf
    exact ⟨none, rfl, trivial⟩
  | e :: es, ms, i, r, hm, hf => by
    match ms, hm.1 with
    | m :: ms, hl =>
      obtain ⟨h1, h2, h3, h4, h5⟩ := hm.2 0 e m (by simp) (by simp)
      have hm' : RelM g es ms := ⟨by simpa using hl, fun j e' m' he' hm'' => hm.2 (j + 1) e' m' (by simpa using he') (by simpa using hm'')⟩
      simp only [findE] at hf
      split at hf
      · rename_i hke
        injection hf with hf; subst hf
        obtain ⟨d', hd', hs⟩ := keyEq_rel hk hx h1 hke
        obtain rfl : d = d' := Option.some.inj (hd.symm.trans hd')
        refine ⟨some (i, m.val), by simp [Instr.findNow, hs], rfl, Nat.le_refl _, by simp, h2, e, m, by simp, by simp, rfl, hke⟩
      · rename_i hke
        obtain ⟨d', hd', hs⟩ := keyEq_rel hk hx h1 hke
        obtain rfl : d = d' := Option.some.inj (hd.symm.trans hd')
        obtain ⟨r', hr', hrel⟩ := findE_rel hk hd hx hm' hf
        refine ⟨r', by simp [Instr.findNow, hs, hr'], ?_⟩
        match r, r', hrel with
        | none, none, _ => trivial
        | some (j, v), some (j', v'), ⟨a1, a2, a3, a4, e', m', a5, a6, a7, a8⟩ =>
          refine ⟨a1, by omega, by simp; omega, a4, e', m', ?_, ?_, a7, a8⟩
          · rw [show j - i = (j - (i + 1)) + 1 from by omega]; simpa using a5
          · rw [show j - i = (j - (i + 1)) + 1 from by omega]; simpa using a6
      · cases hf

/-- The same entry, or none. -/
def Found (g : G) (kk : KK) (x : V) (es : List (V × V × Nat)) (ms : List MapEntry) : Option (Nat × V) → Option (Nat × Value) → Prop
  | none, none => True
  | some q, some q' => q.1 = q'.1 ∧ q.1 < es.length ∧ RelV g q.2 q'.2 ∧ (∃ e m, es[q.1]? = some e ∧ ms[q.1]? = some m ∧ q.2 = e.2.1 ∧ V.keyEq kk x e.1 = some true)
  | _, _ => False

theorem findKey_rel {kk : KK} {t : TypeId} (hk : keyKind P t kk = true) {x : V} {u : Value} (hx : RelV g x u) {es : List (V × V × Nat)} {ms : List MapEntry} {r : Option (Nat × V)}
    (hm : RelM g es ms) (hf : findE kk x es 0 = some r) (w : World) : ∃ r', (Instr.findKey t u ms).run P w = .ok r' w ∧
      Found g kk x es ms r r' := by
  have hd : ∃ d, P.underlying t = some d := by
    unfold keyKind at hk
    split at hk <;> first | exact ⟨_, by assumption⟩ | cases hk
  obtain ⟨d, hd⟩ := hd
  obtain ⟨r', hr', hrel⟩ := findE_rel hk hd hx hm hf
  refine ⟨r', by simp [Instr.findKey, run_underlying hd, hr'], ?_⟩
  match r, r', hrel with
  | none, none, _ => trivial
  | some (j, v), some (j', v'), ⟨a1, a2, a3, a4, e', m', a5, a6, a7, a8⟩ => exact ⟨a1, by omega, a4, e', m', by simpa using a5, by simpa using a6, a7, a8⟩

theorem checkKey_run {kk : KK} {t : TypeId} (hk : keyKind P t kk = true) (e : Bool) (d : Nat) (u : Value) (w : World) : (Instr.checkKey e (d + 1) t u).run P w = .ok () w := by
  unfold keyKind at hk
  split at hk <;> (try (cases hk; done))
  all_goals (rename_i h; simp only [Instr.checkKey, Sem.run_bind, run_underlying h, Result.andThen_ok]; rfl)

theorem RelW.map (h : RelW w0 g S w) {r : Nat} {es : List (V × V × Nat)} {c : Nat} (hm : S.hp r = some (.map es c)) : ∃ ms, w.heap[(g.loc r).1]? = some (.map ms c) ∧ RelM g es ms.toList := by
  obtain ⟨_, _, o, ho, ms, rfl, hr⟩ := h.hp r _ hm
  exact ⟨ms, ho, hr⟩
theorem run_getMap {w : World} {r : Nat} {ms : Array MapEntry} {c : Nat} (h : w.heap[r]? = some (.map ms c)) : (getObj r).run P w = .ok (.map ms c) w := by simp [getObj, Sem.run, h]

theorem minmax_rel {isMax : Bool} {x y z : V} {u u' : Value} (hx : RelV g x u) (hy : RelV g y u') (hz : minmaxV isMax x y = some z) :
    ∃ r, ((if isMax then Builtin.max2 else Builtin.min2) u u').run P w = .ok r w ∧ RelV g z r := by
  unfold minmaxV at hz
  split at hz <;> (try (cases hz; done))
  split at hz <;> (try (cases hz; done))
  rename_i h; subst h
  injection hz with hz; subst hz
  rw [rel_int hx, rel_int hy]
  cases isMax with
  | true => exact ⟨_, rfl, rfl⟩
  | false => exact ⟨_, rfl, rfl⟩
theorem minmaxL_rel {isMax : Bool} : ∀ {x z : V} {l : List V} {u : Value} {us : List Value}, RelV g x u → RelL g l us → minmaxL isMax x l = some z →
    ∃ r, (us.foldlM (if isMax then Builtin.max2 else Builtin.min2) u).run P w = .ok r w ∧ RelV g z r
  | x, z, [], u, us, hx, hl, hz => by
    obtain rfl : us = [] := hl
    simp only [minmaxL] at hz
    injection hz with hz; subst hz
    exact ⟨u, rfl, hx⟩
  | x, z, y :: l, u, us, hx, hl, hz => by
    obtain ⟨u', r, rfl, hy, hr⟩ := hl
    simp only [minmaxL] at hz
    obtain ⟨z1, h1, h2⟩ := Option.bind_eq_some_iff.1 hz
    obtain ⟨r1, e1, k1⟩ := minmax_rel (P := P) (w := w) hx hy h1
    obtain ⟨r2, e2, k2⟩ := minmaxL_rel k1 hr h2
    exact ⟨r2, by simp only [List.foldlM_cons, Sem.run_bind, e1, Result.andThen_ok, e2], k2⟩
end
end Go.VM

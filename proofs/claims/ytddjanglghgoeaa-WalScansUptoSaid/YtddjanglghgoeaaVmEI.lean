/-
  The value machine: the operations that act, and calls: the check, and that the model does what the value machine says.
-/
import Derived.Test.YtddjanglghgoeaaVmAppend
set_option linter.unusedVariables false
set_option linter.unusedSimpArgs false
namespace Go.VM
open Go Go.RowKit

def chkRow (P : Program) (e : TypeId) (len sz : Nat) (zero : List V) : Bool := match P.info? e with
  | some i => match i.zero with
    | some z => decide (z.cells.size = sz) && chkL ((Array.range (len * sz)).map fun k => z.cells[k % z.cells.size]!).toList zero
    | none => false
  | none => false

def chkEI (P : Program) (n : Nat) (o : Op) (i : EI) : Bool :=
  match i with
  | .alloc zero => match o with
    | .alloc t => chkZero P t zero
    | _ => false
  | .box x' => match o with
    | .box t x => chkA n x x'
    | _ => false
  | .buildSlice len' sz how zero parts => match o with
    | .buildSlice t len ps => decide (len = len') && decide (len * sz ≤ 16777216) && (match P.underlying t with
      | some (.slice e) => decide (szOf P e = some sz) && chkRow P e len sz zero && chkParts P n (fun i => some (i * sz, sz)) ps.toList parts
      | _ => false)
    | _ => false
  | .store sz a' x' => match o with
    | .store t a x => decide (szOf P t = some sz) && chkA n a a' && chkA n x x'
    | _ => false
  | .append sz bytes mu s' x' => match o with
    | .call { callee := .builtin .append, args := xs, argTypes := ts } => (match xs.toList, ts.toList with
      | [s, x], [t, t2] => chkA n s s' && chkA n x x' && decide (bytes ≠ 0) && (match P.underlying t2 with | some (.int _) => false | some _ => true | none => false) && (match P.underlying t with
        | some (.slice e) => (match P.info? e with
          | some i => decide (i.size = sz) && decide (i.bytes = bytes) && (match i.zero with | some z => decide (z.cells.size = sz) | none => false)
          | none => false)
        | _ => false)
      | _, _ => false)
    | _ => false
  | .copy sz d' s' => match o with
    | .call { callee := .builtin .copy, args := xs, argTypes := ts } => (match xs.toList, ts.toList with
      | [d, s], t :: _ => chkA n d d' && chkA n s s' && (match P.underlying t with | some (.slice e) => decide (szOf P e = some sz) | _ => false)
      | _, _ => false)
    | _ => false
  | .makeSlice sz bytes mu zero l' c' => match o with
    | .makeSlice t l c => chkA n l l' && chkA n c c' && decide (bytes ≠ 0) && decide (sz ≠ 0) && (match P.underlying t with
      | some (.slice e) => (match P.info? e with
        | some i => decide (i.size = sz) && decide (i.bytes = bytes) && (match i.zero with | some z => decide (z.cells.size = sz) && chkL z.cells.toList zero | none => false)
        | none => false)
      | _ => false)
    | _ => false
  | .makeMap => match o with
    | .makeMap _ none => true
    | _ => false
  | .mapSet kk m' k' v' => match o with
    | .mapUpdate t m k v | .insert t m k v => chkA n m m' && chkA n k k' && chkA n v v' && (match P.underlying t with | some (.map kt _) => keyKind P kt kk | _ => false)
    | _ => false
  | .delete kk m' k' => match o with
    | .call { callee := .builtin .delete, args := xs, argTypes := ts } => (match xs.toList, ts.toList with
      | [m, k], t :: _ => chkA n m m' && chkA n k k' && (match P.underlying t with | some (.map kt _) => keyKind P kt kk | _ => false)
      | _, _ => false)
    | _ => false
  | .range x' => match o with
    | .range t x => chkA n x x' && (match P.underlying t with | some (.map ..) => true | _ => false)
    | _ => false
  | .next x' => match o with
    | .next x false => chkA n x x'
    | _ => false
  | .strBytes x' => match o with
    | .convert src dst x => chkA n x x' && (match P.underlying src, P.underlying dst with
      | some .string, some (.slice e) => (match P.underlying e with | some (.int .u8) => decide (szOf P e = some 1) | _ => false)
      | _, _ => false)
    | _ => false
  | .bytesSame x' => match o with
    | .convert src dst x => chkA n x x' && decide (src = dst) && (match P.underlying src with
      | some (.slice e) => (match P.underlying e with | some (.int .u8) => true | _ => false)
      | _ => false)
    | _ => false
  | .frz x' => match o with
    | .move x | .assign x => chkA n x x'
    | _ => false
  | .call f' args' => match o with
    | .call { callee := .value (.func f), args := xs, argTypes := _ } => decide (f = f') && chkAs n xs.toList args'
    | _ => false
  | .callV x' args' => match o with
    | .call { callee := .value x, args := xs, argTypes := _ } => chkA n x x' && chkAs n xs.toList args'
    | _ => false
  | .panic x' => match o with
    | .call { callee := .builtin .panic, args := xs, argTypes := _ } => (match xs.toList with | [x] => chkA n x x' | _ => false)
    | _ => false

/-- How a call ends, on both sides. -/
def RelEnd (g : G) : AEnd → Ending → Prop
  | .ret v, .returned u => RelV g v u
  | .pan v, .panicked c => ∃ u, c = [{ v := u, recovered := false }] ∧ RelV g v u
  | _, _ => False

/-- A function that is entered when it is called. -/
def Enters (P : Program) (f : FuncId) : Prop := ∃ fn, P.funcs[f]? = some fn ∧ fn.body.isNone = false ∧ (fn.name == "runtime.NumGoroutine") = false

/-- What the model does at a call, said of the value machine's values. -/
def RSim (P : Program) (w0 : World) : Cl := fun f args S Q =>
  Enters P f ∧ ∀ g w us, RelW w0 g S w → RelL g args us → Calls P f us.toArray w fun e w' => ∃ g' S' e', g.le g' ∧ RelW w0 g' S' w' ∧ RelEnd g' e' e ∧ Q e' S'

/-- A step has come to its end. -/
def Done (P : Program) (w0 : World) (o : Oper) (a : Act) (g : G) (w : World) (K : V → St → Prop) : Prop :=
  ∃ u w' g' v S', ((execOp a.eval o).run P w = .ok (.value u) w' ∨ ((execOp a.eval o).run P w = .ok .skip w' ∧ u = undef)) ∧ g.le g' ∧ RelW w0 g' S' w' ∧ RelV g' v u ∧ K v S'

theorem run_setAny {P : Program} {w : World} {r : Nat} {o o' : Obj} (h : w.heap[r]? = some o) (hn : ∀ c e f, o ≠ .cells c e f) : (setObj r o').run P w = .ok () { w with heap := w.heap.setIfInBounds r o' } := by
  cases o <;> first | exact absurd rfl (hn _ _ _) | simp [setObj, Sem.run, h]
theorem run_getAny {P : Program} {w : World} {r : Nat} {o : Obj} (h : w.heap[r]? = some o) (hn : ∀ c e f, o ≠ .cells c e f) : (getObj r).run P w = .ok o w := by
  cases o <;> first | exact absurd rfl (hn _ _ _) | simp [getObj, Sem.run, h]

theorem set_heap (w : World) (r : Nat) (o' : Obj) (h : r < w.heap.size) : ({ w with heap := w.heap.setIfInBounds r o' } : World).heap[r]? = some o' := by simp [h]
theorem set_far (w : World) (r k : Nat) (o' : Obj) (h : k ≠ r) : ({ w with heap := w.heap.setIfInBounds r o' } : World).heap[k]? = w.heap[k]? := by
  simp [Array.getElem?_setIfInBounds_ne (Ne.symm h)]
theorem below_set {B r : Nat} {w0 w : World} (h : Below B w0 w) (hb : B ≤ r) (o' : Obj) : Below B w0 { w with heap := w.heap.setIfInBounds r o' } :=
  h.trans ⟨rfl, rfl, rfl, by simp, fun k hk => set_far w r k o' (by omega)⟩

section
variable {P : Program} {w0 w : World} {g : G} {S : St} {n : Nat} {fr : Fr} {a : Act}

/-- A map, an iterator is another one. -/
theorem RelW.setObj (h : RelW w0 g S w) {i : Nat} {x x' : AObj} (hx : S.hp i = some x) {o o' : Obj} (ho : w.heap[(g.loc i).1]? = some o) (hn : ∀ c e f, o ≠ .cells c e f) (hx' : RelO g (g.loc i).1 (g.loc i).2 x' o') :
    RelW w0 g (S.set i x') { w with heap := w.heap.setIfInBounds (g.loc i).1 o' } := by
  have hb := (h.hp i x hx).2.1
  refine h.upd hx (below_set h.below hb o') (by simp) (fun k _ hk => set_far w _ k o' hk) (set_heap w _ o' (h.lt hx)) (fun p u hu => ?_) hx'
  exfalso
  have := h.ice _ p u hu
  unfold World.cell? at this
  simp only [ho] at this
  cases o <;> first | exact absurd rfl (hn _ _ _) | cases this

/-- A new map or iterator. -/
theorem RelW.newObj (h : RelW w0 g S w) {x : AObj} {o : Obj} (hx : ∀ g', g.le g' → RelO g' w.heap.size 0 x o) : RelW w0 ((g.block #[] 0).obj w.heap.size 0) (S.add x) (w.alloc o) ∧ g.le ((g.block #[] 0).obj w.heap.size 0) := by
  have hle := (le_block h #[] 0).trans (le_obj (g.block #[] 0) w.heap.size 0)
  have h1 : RelW w0 (g.block #[] 0) S (w.alloc o) := by
    have hle := le_block h #[] 0
    refine ⟨h.below.alloc h.below.size _, by simp [G.block, h.nb], h.n, fun b p u hu => ?_, fun i x hx => ?_, h.sep⟩
    · simp only [G.block] at hu
      split at hu
      · split at hu <;> (try (cases hu; done))
      · have := h.ice b p u hu
        rw [World.cell?_alloc_lt w _ _ (h.iceLt hu)]
        exact this
    · obtain ⟨h1, h2, o, h3, h4⟩ := h.hp i x hx
      have hlt := h.lt hx
      refine ⟨h1, h2, o, ?_, h4.mono hle (by rw [h.nb]; exact hlt) (fun p => ?_)⟩
      · show (w.alloc _).heap[(g.loc i).1]? = _
        refine (Below.heap_alloc w _ _ hlt).trans ?_
        exact h3
      · simp only [G.block]
        rw [if_neg (by rw [h.nb]; exact Nat.ne_of_lt hlt)]
  refine ⟨h1.obj (heap_alloc_new w o) h.below.size (fun i y hy => ?_) (hx _ hle), hle⟩
  have := h.lt hy
  show (g.loc i).1 ≠ _
  omega

theorem ba_beq (a b : ByteArray) : (a == b) = true ↔ a = b := by
  obtain ⟨⟨a⟩⟩ := a; obtain ⟨⟨b⟩⟩ := b
  constructor
  · intro h
    have : ((⟨a⟩ : Array UInt8) == ⟨b⟩) = true := h
    simpa using this
  · intro h; cases h
    show ((⟨a⟩ : Array UInt8) == ⟨a⟩) = true
    simp

theorem key_same {kk : KK} {x y : V} {u u' : Value} (hx : RelV g x u) (hy : RelV g y u') (h : V.keyEq kk x y = some true) : Instr.sameBits 10000 u' u = true := by
  unfold V.keyEq at h
  split at h <;> (try (cases h; done))
  all_goals (split at h <;> (try (cases h; done)))
  · rename_i hh
    obtain ⟨_, rfl⟩ := hh
    rw [rel_int hx, rel_int hy]
    simp at h
    simp [Instr.sameBits, h]
  · rw [rel_str hx, rel_str hy]
    injection h with h
    have := (ba_beq _ _).1 h
    subst this
    exact (ba_beq _ _).2 rfl
  · rw [rel_bool hx, rel_bool hy]
    simp at h
    simp [Instr.sameBits, h]

theorem isKey_one {kk : KK} {v : V} (h : v.isKey kk = true) : v.one = true := by cases v <;> simp [V.isKey] at h <;> rfl
end
end Go.VM

/-
  The value machine: which slots an operation looks at; what it tells hangs on these alone.
  The value machine: a region that draws its order: the operations that act come one behind the other in whatever order; the others tell the same wherever they come.
  The value machine: a region that draws its order: in whatever order the model takes it, it does what the value machine says.
  The value machine: a region that draws its order: step by step, whichever comes up.
  The value machine: a region that draws its order, whole.
-/
import Derived.Test.YtegaflmefmlpgaaGreatDoorVmDef
import Derived.Test.YtegaflmefmlpgaaGreatDoorVmSimC
set_option linter.unusedVariables false
set_option linter.unusedSimpArgs false
namespace Go.VM
open Go

def Arg.slots : Arg → List Nat
  | .t i => [i]
  | .c _ => []
def optSlots : Option Arg → List Nat
  | some a => a.slots
  | none => []
def FI.slots : FI → List Nat
  | .mv x | .nilCheck x | .un _ x | .conv _ x | .fieldAddr _ x | .field _ _ _ x | .load _ _ x | .len _ x | .mkIface _ x | .extract x _ | .assertT _ _ _ x => x.slots
  | .pick c a b => c.slots ++ (a.slots ++ b.slots)
  | .bin _ x y | .eq _ _ x y | .eqA _ _ x y | .indexAddr _ x y | .indexAddrA _ _ x y | .indexS x y | .indexA _ _ _ x y | .lookup _ _ _ x y => x.slots ++ y.slots
  | .sliceS x lo hi => x.slots ++ (optSlots lo ++ optSlots hi)
  | .slice _ x lo hi mx => x.slots ++ (optSlots lo ++ (optSlots hi ++ optSlots mx))
  | .build _ parts => parts.flatMap fun p => p.2.2.slots
  | .mkFunc _ pre cap => pre.flatMap Arg.slots ++ cap.flatMap Arg.slots
  | .minmax _ xs => xs.flatMap Arg.slots
def EI.slots : EI → List Nat
  | .alloc _ | .makeMap => []
  | .box x | .range x | .next x | .strBytes x | .bytesSame x | .frz x | .panic x => x.slots
  | .buildSlice _ _ _ _ parts => parts.flatMap fun p => p.2.2.slots
  | .store _ a x => a.slots ++ x.slots
  | .append _ _ _ s x | .copy _ s x => s.slots ++ x.slots
  | .makeSlice _ _ _ _ l c => l.slots ++ c.slots
  | .mapSet _ m k v => m.slots ++ (k.slots ++ v.slots)
  | .delete _ m k => m.slots ++ k.slots
  | .call _ args => args.flatMap Arg.slots
  | .callV x args => x.slots ++ args.flatMap Arg.slots
def I.slots : I → List Nat
  | .f i => i.slots
  | .e i => i.slots
def gSlots : Option (Nat × Bool) → List Nat
  | some (t, _) => [t]
  | none => []

/-- Frames that agree on these slots. -/
def AgreeOn (l : List Nat) (fr fr' : Fr) : Prop := ∀ t ∈ l, fr t = fr' t

section
variable {fr fr' : Fr}
theorem AgreeOn.left {l m : List Nat} (h : AgreeOn (l ++ m) fr fr') : AgreeOn l fr fr' := fun t ht => h t (List.mem_append_left _ ht)
theorem AgreeOn.right {l m : List Nat} (h : AgreeOn (l ++ m) fr fr') : AgreeOn m fr fr' := fun t ht => h t (List.mem_append_right _ ht)
theorem ev_congr {x : Arg} (h : AgreeOn x.slots fr fr') : x.ev fr = x.ev fr' := by
  cases x with
  | t i => exact h i (by simp [Arg.slots])
  | c v => rfl
theorem evs_congr {xs : List Arg} (h : AgreeOn (xs.flatMap Arg.slots) fr fr') : xs.map (Arg.ev fr) = xs.map (Arg.ev fr') := by
  apply List.map_congr_left
  intro x hx
  exact ev_congr fun t ht => h t (List.mem_flatMap.2 ⟨x, hx, ht⟩)
theorem fill_congr : ∀ {parts : List (Nat × Nat × Arg)} (zero : List V), AgreeOn (parts.flatMap fun p => p.2.2.slots) fr fr' → fillV fr zero parts = fillV fr' zero parts
  | [], _, _ => rfl
  | (off, sz, x) :: r, zero, h => by
    have hx : x.ev fr = x.ev fr' := ev_congr fun t ht => h t (by simp [ht])
    have hr : AgreeOn (r.flatMap fun p => p.2.2.slots) fr fr' := fun t ht => h t (by
      rw [List.flatMap_cons]; exact List.mem_append_right _ ht)
    simp only [fillV, hx]
    split
    · exact fill_congr _ hr
    · rfl
theorem bounds_congr {len : Nat} {lo hi : Option Arg} (h1 : AgreeOn (optSlots lo) fr fr') (h2 : AgreeOn (optSlots hi) fr fr') : bounds fr len lo hi = bounds fr' len lo hi := by
  unfold bounds
  cases lo <;> cases hi <;> simp only [optSlots] at h1 h2
  · rfl
  · simp only [ev_congr h2]
  · simp only [ev_congr h1]
  · simp only [ev_congr h1, ev_congr h2]
theorem slice_congr {sz : Nat} {lo hi mx : Option Arg} (h1 : AgreeOn (optSlots lo) fr fr') (h2 : AgreeOn (optSlots hi) fr fr') (h3 : AgreeOn (optSlots mx) fr fr') (v : V) : sliceV fr sz lo hi mx v = sliceV fr' sz lo hi mx v := by
  unfold sliceV
  have hb : ∀ len, bounds fr len lo hi = bounds fr' len lo hi := fun len => bounds_congr h1 h2
  cases mx with
  | none => simp only [hb]
  | some a =>
    have : a.ev fr = a.ev fr' := ev_congr h3
    simp only [hb, this]

theorem aF_congr {i : FI} (S : St) (h : AgreeOn i.slots fr fr') : aF i fr S = aF i fr' S := by
  cases i <;> simp only [FI.slots] at h
  case build z parts => simp only [aF]; rw [fill_congr _ h]
  case mkFunc f pre cap => simp only [aF]; rw [evs_congr h.left, evs_congr h.right]
  case minmax m xs =>
    simp only [aF]
    cases xs with
    | nil => rfl
    | cons x r =>
      have hx : x.ev fr = x.ev fr' := ev_congr fun t ht => h t (by simp [ht])
      have hr : r.map (Arg.ev fr) = r.map (Arg.ev fr') := evs_congr fun t ht => h t (by
        rw [List.flatMap_cons]; exact List.mem_append_right _ ht)
      simp only [hx, hr]
  case sliceS x lo hi => simp only [aF]; rw [ev_congr h.left]; simp only [bounds_congr h.right.left h.right.right]
  case slice sz x lo hi mx => simp only [aF]; rw [ev_congr h.left]; exact slice_congr h.right.left h.right.right.left h.right.right.right _
  case pick => simp only [aF]; rw [ev_congr h.left, ev_congr h.right.left, ev_congr h.right.right]
  case len k x => cases k <;> simp only [aF] <;> rw [ev_congr h]
  all_goals (simp only [aF])
  all_goals (first | rw [ev_congr h] | rw [ev_congr h.left, ev_congr h.right])

theorem wE_congr {cl : Cl} {i : EI} (S : St) {K Kp : V → St → Prop} (h : AgreeOn i.slots fr fr') : wE cl i fr S K Kp → wE cl i fr' S K Kp := by
  cases i <;> simp only [EI.slots] at h
  case buildSlice => simp only [wE]; rw [fill_congr _ h]; exact id
  case call => simp only [wE]; rw [evs_congr h]; exact id
  case callV => simp only [wE]; rw [ev_congr h.left, evs_congr h.right]; exact id
  case mapSet => simp only [wE]; rw [ev_congr h.left, ev_congr h.right.left, ev_congr h.right.right]; exact id
  all_goals (simp only [wE])
  all_goals (first | exact id | (rw [ev_congr h]; exact id) | (rw [ev_congr h.left, ev_congr h.right]; exact id))

theorem wanted_congr {g : Option (Nat × Bool)} (h : AgreeOn (gSlots g) fr fr') : wanted fr g = wanted fr' g := by
  cases g with
  | none => rfl
  | some q =>
    obtain ⟨t, b⟩ := q
    simp only [wanted]
    rw [h t (by simp [gSlots])]

/-- What looks at the store. -/
def FI.reader : FI → Bool
  | .load .. | .len .map _ | .lookup .. | .conv .bytesStr _ => true
  | _ => false
theorem aF_store {i : FI} (h : i.reader = false) (fr : Fr) (S S' : St) : aF i fr S = aF i fr S' := by
  cases i <;> simp only [FI.reader] at h <;> (try (cases h; done)) <;> (try rfl)
  case conv c x => cases c <;> simp only [FI.reader] at h <;> (try (cases h; done)) <;> simp only [aF] <;> generalize x.ev fr = v <;> cases v <;> rfl
  case len k x => cases k <;> simp only [FI.reader] at h <;> (try (cases h; done)) <;> rfl
end
end Go.VM

namespace Go.VM
open Go Go.RowKit

def depsOf (o : Oper) : List Nat := o.after.toList.filterMap fun e => if Region.binds .any e then some e.on else none
def maskOf (acc : List Nat) (ds : List Nat) : Nat := ds.foldr (fun d s => s ||| (2 ^ d ||| acc.getD d 0)) 0
def befGo (ops : Array Oper) : List Nat → List Nat → List Nat
  | [], acc => acc
  | i :: r, acc => befGo ops r (acc.set i (maskOf acc (match ops[i]? with | some o => depsOf o | none => [])))
/-- j comes ahead of i, in whatever order. -/
def bef (B : List Nat) (i j : Nat) : Bool := (B.getD i 0).testBit j

theorem maskOf_bit {acc : List Nat} : ∀ {ds : List Nat} {j : Nat}, (maskOf acc ds).testBit j = true → ∃ d ∈ ds, j = d ∨ (acc.getD d 0).testBit j = true
  | [], j, h => by simp [maskOf] at h
  | d :: ds, j, h => by
    simp only [maskOf, List.foldr_cons] at h
    rw [Nat.testBit_or, Nat.testBit_or, Bool.or_eq_true, Bool.or_eq_true, Nat.testBit_two_pow] at h
    rcases h with h | h | h
    · obtain ⟨d', hd, hh⟩ := maskOf_bit (ds := ds) h
      exact ⟨d', List.mem_cons_of_mem _ hd, hh⟩
    · exact ⟨d, List.mem_cons_self, .inl (by simpa using (of_decide_eq_true h).symm)⟩
    · exact ⟨d, List.mem_cons_self, .inr h⟩

/-- What is listed holds all that comes ahead of it. -/
theorem befGo_listed {ops : Array Oper} {L : Nat → Bool} (hL : ∀ i o, ops[i]? = some o → L i = true → ∀ d ∈ depsOf o, L d = true) : ∀ (q acc : List Nat), acc.length = ops.size →
    (∀ i o, ops[i]? = some o → (∀ d ∈ depsOf o, L d = true) → ∀ j, bef acc i j = true → L j = true) →
    ∀ i o, ops[i]? = some o → (∀ d ∈ depsOf o, L d = true) → ∀ j, bef (befGo ops q acc) i j = true → L j = true
  | [], acc, _, h => h
  | k :: q, acc, hl, h => by
    refine befGo_listed hL q _ (by simpa using hl) fun i o ho hd j hj => ?_
    by_cases hk : k = i
    · subst hk
      have hi := (Array.getElem?_eq_some_iff.1 ho).1
      unfold bef at hj
      rw [ho] at hj
      have e : (acc.set k (maskOf acc (depsOf o))).getD k 0 = maskOf acc (depsOf o) := by
        simp only [List.getD, List.getElem?_set, if_pos (show k < acc.length by omega), if_true, Option.getD_some]
      simp only [e] at hj
      obtain ⟨d, hdm, hdj⟩ := maskOf_bit hj
      rcases hdj with rfl | hdj
      · exact hd _ hdm
      · rcases Nat.lt_or_ge d ops.size with hlt | hge
        · have hod : ops[d]? = some ops[d] := Array.getElem?_eq_getElem hlt
          exact h d _ hod (hL d _ hod (hd d hdm)) j hdj
        · exfalso
          have : acc.getD d 0 = 0 := by
            simp only [List.getD]
            rw [List.getElem?_eq_none (by omega)]
            rfl
          rw [this] at hdj
          simp at hdj
    · refine h i o ho hd j ?_
      unfold bef at hj ⊢
      have e : ∀ m, (acc.set k m).getD i 0 = acc.getD i 0 := fun m => by
        simp only [List.getD, List.getElem?_set, if_neg hk]
      rw [e] at hj
      exact hj
theorem bef_listed {ops : Array Oper} {q : List Nat} {L : Nat → Bool} (hL : ∀ i o, ops[i]? = some o → L i = true → ∀ d ∈ depsOf o, L d = true) (i : Nat) (o : Oper) (ho : ops[i]? = some o) (hd : ∀ d ∈ depsOf o, L d = true) (j : Nat) (hj : bef (befGo ops q (List.replicate ops.size 0)) i j = true) : L j = true :=
  befGo_listed hL q _ (by simp) (fun i o _ _ j hj => by
    exfalso
    unfold bef at hj
    have : (List.replicate ops.size 0).getD i 0 = 0 := by
      simp only [List.getD, List.getElem?_replicate]
      split <;> rfl
    rw [this] at hj
    simp at hj) i o ho hd j hj

abbrev Seq := List (Nat × Item)
def isEff : Item → Bool
  | .run ⟨_, _, .e _⟩ => true
  | _ => false
def isRun : Item → Bool
  | .run _ => true
  | _ => false
def runsOf (q : Seq) : List Nat := (q.filter fun x => isRun x.2).map (·.1)
def befs (ops : Array Oper) (q : Seq) : List Nat := befGo ops (runsOf q) (List.replicate ops.size 0)
def opSlots (oc : OpC) : List Nat := gSlots oc.g ++ oc.i.slots

def dstAt (ops : Array Oper) (i : Nat) : Option Nat := (ops[i]?).bind (·.dst)

/-- Each slot that an operation looks at: who writes it comes ahead of it, or behind it; nobody else. -/
def chkReads (B : List Nat) (ops : Array Oper) (i : Nat) (slots : List Nat) (strict : Bool) : Bool :=
  slots.all fun t => (List.range ops.size).all fun j => if dstAt ops j = some t then (j != i && (bef B i j || (!strict && bef B j i))) else true

/-- Behind an operation that acts: what looked at the store is asked once more. -/
def chkBehind (B : List Nat) (before : Seq) (e : Nat) (rest : Seq) : Bool :=
  before.all fun x => match x.2 with
    | .run ⟨_, _, .f fi⟩ => !fi.reader || bef B e x.1 || (rest.takeWhile fun y => !isEff y.2).any fun y => y.1 == x.1 && !isRun y.2
    | _ => true

def chkSeq (P : Program) (n : Nat) (B : List Nat) (ops : Array Oper) : Seq → Seq → Bool
  | _, [] => true
  | before, (i, x) :: rest =>
    (match x with
     | .run oc => (match ops[i]? with
       | some o => chkOp P n ops o oc && chkReads B ops i (opSlots oc) false
       | none => false) &&
       -- nothing that comes ahead of it comes behind it here; it was not there before
       (rest.all fun y => !(isRun y.2 && bef B i y.1)) && !(runsOf before).contains i && !bef B i i &&
       -- who acts ahead of it here comes ahead of it
       (before.all fun y => !isEff y.2 || bef B i y.1) &&
       (match oc.i with | .e _ => chkBehind B before i rest | .f _ => true)
     | .chk d g fi => (before.any fun y => y.1 == i && (match y.2 with | .run ⟨_, _, .f fi'⟩ => fi'.reader | _ => false)) && (match ops[i]? with
       | some o => chkOp P n ops o ⟨some d, g, .f fi⟩ && chkReads B ops i (opSlots ⟨some d, g, .f fi⟩) true
       | none => false)) &&
    chkSeq P n B ops (before ++ [(i, x)]) rest
def uniqDst (ops : Array Oper) : Bool :=
  (List.range ops.size).all fun i => (List.range ops.size).all fun j => i == j || (match dstAt ops i with | some t => decide (dstAt ops j ≠ some t) | none => true)

def chkDraw (P : Program) (n : Nat) (ops : Array Oper) (q : Seq) : Bool :=
  decide (ops.size = (runsOf q).length) && ((List.range ops.size).all fun i => (runsOf q).contains i) && uniqDst ops &&
  ((List.range ops.size).all fun i => match ops[i]? with | some o => (depsOf o).all fun d => decide ((runsOf q).idxOf d < (runsOf q).idxOf i) | none => false) &&
  chkSeq P n (befs ops q) ops [] q

end Go.VM

namespace Go.VM
open Go Go.RowKit

theorem runsOf_append (a b : Seq) : runsOf (a ++ b) = runsOf a ++ runsOf b := by simp [runsOf]
theorem runsOf_run (i : Nat) (oc : OpC) (b : Seq) : runsOf ((i, .run oc) :: b) = i :: runsOf b := by simp [runsOf, isRun]
theorem runsOf_chk (i d : Nat) (g : Option (Nat × Bool)) (fi : FI) (b : Seq) : runsOf ((i, .chk d g fi) :: b) = runsOf b := by simp [runsOf, isRun]
theorem mem_runsOf {q : Seq} {i : Nat} : i ∈ runsOf q ↔ ∃ oc, (i, Item.run oc) ∈ q := by
  simp only [runsOf, List.mem_map, List.mem_filter]
  constructor
  · rintro ⟨⟨j, x⟩, ⟨h1, h2⟩, rfl⟩
    cases x with
    | run oc => exact ⟨oc, h1⟩
    | chk => simp [isRun] at h2
  · rintro ⟨oc, h⟩
    exact ⟨(i, .run oc), ⟨h, rfl⟩, rfl⟩

/-- The slots as they are for those that are done. -/
def mixF (ops : Array Oper) (L : Nat → Bool) (fr fr0 : Fr) : Fr := fun t => if ((List.range ops.size).any fun j => decide (dstAt ops j = some t) && L j) = true then fr t else fr0 t

theorem mix_yes {ops : Array Oper} {L : Nat → Bool} {fr fr0 : Fr} {t j : Nat} (hj : j < ops.size) (hd : dstAt ops j = some t) (hL : L j = true) : mixF ops L fr fr0 t = fr t := by
  unfold mixF
  rw [if_pos]
  rw [List.any_eq_true]
  exact ⟨j, by simpa using hj, by simp [hd, hL]⟩
theorem mix_no {ops : Array Oper} {L : Nat → Bool} {fr fr0 : Fr} {t : Nat} (h : ∀ j, j < ops.size → dstAt ops j = some t → L j = false) : mixF ops L fr fr0 t = fr0 t := by
  unfold mixF
  rw [if_neg]
  rw [List.any_eq_true]
  rintro ⟨j, hj, hh⟩
  simp only [Bool.and_eq_true, decide_eq_true_eq] at hh
  have := h j (by simpa using hj) hh.1
  rw [hh.2] at this
  cases this

theorem reads_spec {B : List Nat} {ops : Array Oper} {i : Nat} {slots : List Nat} {strict : Bool} (h : chkReads B ops i slots strict = true) {t j : Nat} (ht : t ∈ slots) (hj : j < ops.size) (hd : dstAt ops j = some t) :
    j ≠ i ∧ (bef B i j = true ∨ (strict = false ∧ bef B j i = true)) := by
  unfold chkReads at h
  have h1 := List.all_eq_true.1 (List.all_eq_true.1 h t ht) j (by simpa using hj)
  rw [if_pos hd] at h1
  simp only [Bool.and_eq_true, bne_iff_ne, Bool.or_eq_true, Bool.not_eq_true'] at h1
  exact h1
theorem uniq_spec {ops : Array Oper} (h : uniqDst ops = true) {i j t : Nat} (hi : i < ops.size) (hj : j < ops.size) (h1 : dstAt ops i = some t) (h2 : dstAt ops j = some t) : i = j := by
  unfold uniqDst at h
  have := List.all_eq_true.1 (List.all_eq_true.1 h i (by simpa using hi)) j (by simpa using hj)
  rw [h1] at this
  simp only [Bool.or_eq_true, beq_iff_eq, decide_eq_true_eq] at this
  rcases this with this | this
  · exact this
  · exact absurd h2 this

section
variable {P : Program} {w0 : World} {n : Nat} {ops : Array Oper} {B : List Nat} {q : Seq} {fr0 : Fr} {K : Fr → St → Prop} {Kp : V → St → Prop} {g0 : G}

/-- What a quiet operation that is done told, it would tell again. -/
def EvalTo (P : Program) (n : Nat) (ops : Array Oper) (B : List Nat) (done : Seq) (fr0 : Fr) (i : Nat) (fr : Fr) (S : St) : Prop :=
  ∃ oc fi o, ops[i]? = some o ∧ oc.i = .f fi ∧ chkOp P n ops o oc = true ∧ chkReads B ops i (opSlots oc) false = true ∧
    (fi.reader = true → ∃ oc' fi', (i, Item.run oc') ∈ done ∧ oc'.i = .f fi' ∧ fi'.reader = true) ∧
    ((wanted (mixF ops (bef B i) fr fr0) oc.g = some true ∧ ∃ v, aF fi (mixF ops (bef B i) fr fr0) S = some v ∧ ∀ d, oc.dst = some d → fr d = v) ∨
     (wanted (mixF ops (bef B i) fr fr0) oc.g = some false ∧ ∀ d, oc.dst = some d → fr d = .tup []))

def pend (rest : Seq) (i : Nat) : Bool := (rest.takeWhile fun y => !isEff y.2).any fun y => y.1 == i && !isRun y.2

/-- It is asked once more further on; it was wanted. -/
def Waits (n : Nat) (ops : Array Oper) (B : List Nat) (fr0 : Fr) (rest : Seq) (i : Nat) (fr : Fr) : Prop :=
  pend rest i = true ∧ ∃ o og, ops[i]? = some o ∧ chkG n ops o.guard og = true ∧ wanted (mixF ops (bef B i) fr fr0) og = some true

structure DInv (P : Program) (w0 : World) (n : Nat) (ops : Array Oper) (B : List Nat) (q : Seq) (fr0 : Fr) (K : Fr → St → Prop) (Kp : V → St → Prop) (g0 : G) (L : Nat → Bool) (done rest : Seq) (g : G) (fr : Fr) (S : St) (a : Act) (w : World) : Prop where
  seq : q = done ++ rest
  chk : chkSeq P n B ops done rest = true
  le : g0.le g
  W : RelW w0 g S w
  defers : a.defers = []
  form : wItems (RSim P w0) (rest.map (·.2)) fr S K Kp
  sub : ∀ i, L i = true → i ∈ runsOf done
  eff : ∀ x ∈ done, isEff x.2 = true → L x.1 = true
  frame : RelF g n (mixF ops L fr fr0) a.tmps
  unw : ∀ t, (∀ i ∈ runsOf done, dstAt ops i ≠ some t) → fr t = fr0 t
  ord : ∀ i ∈ runsOf done, ∀ j, bef B i j = true → j < ops.size → j ∈ runsOf done
  ev : ∀ i ∈ runsOf done, L i = false → EvalTo P n ops B done fr0 i fr S ∨ Waits n ops B fr0 rest i fr

structure DOk (P : Program) (n : Nat) (ops : Array Oper) (B : List Nat) (q : Seq) : Prop where
  all : ∀ i, i < ops.size → i ∈ runsOf q
  lt : ∀ i ∈ runsOf q, i < ops.size
  uniq : uniqDst ops = true
  down : ∀ i o, ops[i]? = some o → ∀ d ∈ depsOf o, (runsOf q).idxOf d < (runsOf q).idxOf i
  B : B = befs ops q

theorem chkG_one {o : Oper} {g g' : Option (Nat × Bool)} (h : chkG n ops o.guard g = true) (h' : chkG n ops o.guard g' = true) : g = g' := by
  unfold chkG at h h'
  cases ho : o.guard with
  | none =>
    rw [ho] at h h'
    cases g with
    | none => cases g' with
      | none => rfl
      | some q => cases h'
    | some q => cases h
  | some p =>
    obtain ⟨j, want⟩ := p
    rw [ho] at h h'
    cases g with
    | none => cases h
    | some q =>
      obtain ⟨t, b⟩ := q
      cases g' with
      | none => cases h'
      | some q' =>
        obtain ⟨t', b'⟩ := q'
        simp only [Bool.and_eq_true, decide_eq_true_eq] at h h'
        obtain ⟨rfl, h⟩ := h
        obtain ⟨rfl, h'⟩ := h'
        split at h <;> (try (cases h; done))
        rename_i x hx
        rw [hx] at h'
        simp only [Bool.and_eq_true, decide_eq_true_eq] at h h'
        rw [h.1, h'.1]

/-- An operation's own view does not hang on what comes behind it. -/
theorem mix_put {fr : Fr} (hok : DOk P n ops B q) {done : Seq} (hdq : ∀ i ∈ runsOf done, i ∈ runsOf q) (ord : ∀ i ∈ runsOf done, ∀ j, bef B i j = true → j < ops.size → j ∈ runsOf done) {k i : Nat} (hk : k ∈ runsOf done) (hi : i < ops.size) (hni : i ∉ runsOf done) (v : V) :
    mixF ops (bef B k) (fr.put (dstAt ops i) v) fr0 = mixF ops (bef B k) fr fr0 := by
  funext t
  by_cases h : ∃ j, j < ops.size ∧ dstAt ops j = some t ∧ bef B k j = true
  · obtain ⟨j, hj, hd, hb⟩ := h
    rw [mix_yes hj hd hb, mix_yes hj hd hb]
    cases hdi : dstAt ops i with
    | none => rfl
    | some t' =>
      simp only [Fr.put]
      rw [if_neg]
      rintro rfl
      have := uniq_spec hok.uniq hi hj hdi hd
      subst this
      exact hni (ord k hk _ hb hj)
  · have hno : ∀ j, j < ops.size → dstAt ops j = some t → bef B k j = false := fun j hj hd => by
      cases hb : bef B k j with
      | false => rfl
      | true => exact absurd ⟨j, hj, hd, hb⟩ h
    rw [mix_no hno, mix_no hno]

theorem put_other {fr : Fr} (hok : DOk P n ops B q) {k i d : Nat} (hk : k < ops.size) (hi : i < ops.size) (hne : k ≠ i) (hd : dstAt ops k = some d) (v : V) : (fr.put (dstAt ops i) v) d = fr d := by
  cases hdi : dstAt ops i with
  | none => rfl
  | some t =>
    simp only [Fr.put]
    rw [if_neg]
    rintro rfl
    exact hne (uniq_spec hok.uniq hk hi hd hdi)

/-- What it would tell again it tells again behind another operation's result. -/
theorem EvalTo.put {fr : Fr} {S : St} (hok : DOk P n ops B q) {done : Seq} (hdq : ∀ i ∈ runsOf done, i ∈ runsOf q) (ord : ∀ i ∈ runsOf done, ∀ j, bef B i j = true → j < ops.size → j ∈ runsOf done) {k i : Nat} (hk : k ∈ runsOf done) (hi : i < ops.size) (hni : i ∉ runsOf done) (v : V) {x : Nat × Item}
    (h : EvalTo P n ops B done fr0 k fr S) : EvalTo P n ops B (done ++ [x]) fr0 k (fr.put (dstAt ops i) v) S := by
  obtain ⟨oc, fi, o, h1, h2, h3, h4, h5, h6⟩ := h
  have hkl := hok.lt k (hdq k hk)
  have hne : k ≠ i := fun e => hni (e ▸ hk)
  have hdk : ∀ d, oc.dst = some d → dstAt ops k = some d := fun d hd => by
    simp only [chkOp, Bool.and_eq_true] at h3
    have := chkDst_eq h3.1.1
    simp [dstAt, h1, this, hd]
  refine ⟨oc, fi, o, h1, h2, h3, h4, fun hr => ?_, ?_⟩
  · obtain ⟨oc', fi', a1, a2, a3⟩ := h5 hr
    exact ⟨oc', fi', List.mem_append_left _ a1, a2, a3⟩
  · rw [mix_put hok hdq ord hk hi hni]
    rcases h6 with ⟨a1, u, a2, a3⟩ | ⟨a1, a2⟩
    · exact .inl ⟨a1, u, a2, fun d hd => by rw [put_other hok hkl hi hne (hdk d hd)]; exact a3 d hd⟩
    · exact .inr ⟨a1, fun d hd => by rw [put_other hok hkl hi hne (hdk d hd)]; exact a2 d hd⟩

theorem Waits.put {fr : Fr} (hok : DOk P n ops B q) {done rest rest' : Seq} (hdq : ∀ i ∈ runsOf done, i ∈ runsOf q) (ord : ∀ i ∈ runsOf done, ∀ j, bef B i j = true → j < ops.size → j ∈ runsOf done) {k i : Nat} (hk : k ∈ runsOf done) (hi : i < ops.size) (hni : i ∉ runsOf done) (v : V)
    (hp : pend rest' k = true) (h : Waits n ops B fr0 rest k fr) : Waits n ops B fr0 rest' k (fr.put (dstAt ops i) v) := by
  obtain ⟨_, o, og, h1, h2, h3⟩ := h
  exact ⟨hp, o, og, h1, h2, by rw [mix_put hok hdq ord hk hi hni]; exact h3⟩

/-- What an operation that is at the head looks at is there in the frame as it is. -/
theorem agree_head {fr : Fr} (hok : DOk P n ops B q) {done : Seq} (hdq : ∀ i ∈ runsOf done, i ∈ runsOf q) (ord : ∀ i ∈ runsOf done, ∀ j, bef B i j = true → j < ops.size → j ∈ runsOf done) (unw : ∀ t, (∀ i ∈ runsOf done, dstAt ops i ≠ some t) → fr t = fr0 t)
    {i : Nat} (hi : i < ops.size) (hni : i ∉ runsOf done) {slots : List Nat} (hr : chkReads B ops i slots false = true) (v : V) : AgreeOn slots (mixF ops (bef B i) (fr.put (dstAt ops i) v) fr0) fr := by
  intro t ht
  by_cases h : ∃ j, j < ops.size ∧ dstAt ops j = some t ∧ bef B i j = true
  · obtain ⟨j, hj, hd, hb⟩ := h
    rw [mix_yes hj hd hb]
    exact put_other hok hj hi (reads_spec hr ht hj hd).1 hd v
  · have hno : ∀ j, j < ops.size → dstAt ops j = some t → bef B i j = false := fun j hj hd => by
      cases hb : bef B i j with
      | false => rfl
      | true => exact absurd ⟨j, hj, hd, hb⟩ h
    rw [mix_no hno]
    refine (unw t fun k hk hd => ?_).symm
    have hkl := hok.lt k (hdq k hk)
    obtain ⟨_, hh⟩ := reads_spec hr ht hkl hd
    rcases hh with hh | ⟨_, hh⟩
    · rw [hno k hkl hd] at hh; cases hh
    · exact hni (ord k hk i hh hi)
end
end Go.VM

namespace Go.VM
open Go Go.RowKit

section
variable {P : Program} {w0 : World} {n : Nat} {ops : Array Oper} {B : List Nat} {q : Seq} {fr0 : Fr} {K : Fr → St → Prop} {Kp : V → St → Prop} {g0 : G}

theorem pend_cons_run {i k : Nat} {oc : OpC} {rest : Seq} (h : isEff (.run oc) = false) (hp : pend ((i, .run oc) :: rest) k = true) : pend rest k = true := by
  unfold pend at hp ⊢
  rw [List.takeWhile_cons, if_pos (by simp [h])] at hp
  simpa [isRun] using hp
theorem pend_cons_chk {i k d : Nat} {g : Option (Nat × Bool)} {fi : FI} {rest : Seq} (hne : k ≠ i) (hp : pend ((i, .chk d g fi) :: rest) k = true) : pend rest k = true := by
  unfold pend at hp ⊢
  rw [List.takeWhile_cons, if_pos (by simp [isEff])] at hp
  simp only [List.any_cons, Bool.or_eq_true, Bool.and_eq_true, beq_iff_eq] at hp
  rcases hp with hp | hp
  · exact absurd hp.1.symm hne
  · exact hp

theorem chkOp_dst {i : Nat} {o : Oper} {oc : OpC} (ho : ops[i]? = some o) (h : chkOp P n ops o oc = true) : oc.dst = dstAt ops i := by
  simp only [chkOp, Bool.and_eq_true] at h
  rw [← chkDst_eq h.1.1]
  simp [dstAt, ho]

/-- One quiet item at the head. -/
theorem DInv.step {L : Nat → Bool} {done rest : Seq} {g : G} {fr : Fr} {S : St} {a : Act} {w : World} {i : Nat} {x : Item} (hok : DOk P n ops B q) (h : DInv P w0 n ops B q fr0 K Kp g0 L done ((i, x) :: rest) g fr S a w) (hx : isEff x = false) :
    ∃ fr', DInv P w0 n ops B q fr0 K Kp g0 L (done ++ [(i, x)]) rest g fr' S a w := by
  have hdq : ∀ k ∈ runsOf done, k ∈ runsOf q := fun k hk => by rw [h.seq, runsOf_append]; exact List.mem_append_left _ hk
  have hc := h.chk
  simp only [chkSeq, Bool.and_eq_true] at hc
  obtain ⟨hc1, hc2⟩ := hc
  cases x with
  | run oc =>
    simp only [Bool.and_eq_true] at hc1
    obtain ⟨⟨⟨⟨⟨c1, c2⟩, c3⟩, c4⟩, c5⟩, c6⟩ := hc1
    split at c1 <;> (try (cases c1; done))
    rename_i o ho
    simp only [Bool.and_eq_true] at c1
    obtain ⟨c11, c12⟩ := c1
    have hdst := chkOp_dst ho c11
    have hi : i < ops.size := (Array.getElem?_eq_some_iff.1 ho).1
    have hni : i ∉ runsOf done := by simpa using c3
    obtain ⟨fi, hfi⟩ : ∃ fi, oc.i = .f fi := by
      obtain ⟨d, g', ii⟩ := oc
      cases ii with
      | f fi => exact ⟨fi, rfl⟩
      | e ei => simp [isEff] at hx
    have hLi : L i = false := by
      cases hL : L i with
      | false => rfl
      | true => exact absurd (h.sub i hL) hni
    have hform := h.form
    simp only [List.map_cons, wItems, wItem] at hform
    have hreads : AgreeOn (gSlots oc.g) (mixF ops (bef B i) fr fr0) fr ∧ AgreeOn (opSlots oc) (mixF ops (bef B i) fr fr0) fr := by
      have := fun (v : V) => agree_head hok hdq h.ord h.unw hi hni c12 v
      have hv := this (match dstAt ops i with | some d => fr d | none => .poison)
      have hself : fr.put (dstAt ops i) (match dstAt ops i with | some d => fr d | none => .poison) = fr := by
        cases dstAt ops i with
        | none => rfl
        | some d => funext t; simp only [Fr.put]; split <;> simp_all
      rw [hself] at hv
      exact ⟨fun t ht => hv t (by simp [opSlots, ht]), hv⟩
    have main : ∀ v, (wItems (RSim P w0) (rest.map (·.2)) (fr.put (dstAt ops i) v) S K Kp) →
        ((wanted fr oc.g = some true ∧ aF fi fr S = some v) ∨ (wanted fr oc.g = some false ∧ v = .tup [])) → DInv P w0 n ops B q fr0 K Kp g0 L (done ++ [(i, .run oc)]) rest g (fr.put (dstAt ops i) v) S a w := by
      intro v hk hv
      have hagree := agree_head hok hdq h.ord h.unw hi hni c12 v
      have hg : AgreeOn (gSlots oc.g) (mixF ops (bef B i) (fr.put (dstAt ops i) v) fr0) fr := fun t ht => hagree t (by simp [opSlots, ht])
      have hs : AgreeOn fi.slots (mixF ops (bef B i) (fr.put (dstAt ops i) v) fr0) fr := fun t ht => hagree t (by simp [opSlots, hfi, I.slots, ht])
      have hself : ∀ d, oc.dst = some d → (fr.put (dstAt ops i) v) d = v := fun d hd => by
        rw [← hdst, hd]; simp [Fr.put]
      refine ⟨by rw [h.seq]; simp, hc2, h.le, h.W, h.defers, hk, fun k hk => ?_, fun y hy hye => ?_, ?_, fun t ht => ?_, fun k hk j hb hj => ?_, fun k hk hLk => ?_⟩
      · rw [runsOf_append]; exact List.mem_append_left _ (h.sub k hk)
      · rcases List.mem_append.1 hy with hy | hy
        · exact h.eff y hy hye
        · simp at hy; subst hy; rw [hx] at hye; cases hye
      · have : mixF ops L (fr.put (dstAt ops i) v) fr0 = mixF ops L fr fr0 := by
          funext t
          by_cases hh : ∃ j, j < ops.size ∧ dstAt ops j = some t ∧ L j = true
          · obtain ⟨j, hj, hd, hb⟩ := hh
            rw [mix_yes hj hd hb, mix_yes hj hd hb]
            refine put_other hok hj hi (fun e => ?_) hd v
            subst e; rw [hLi] at hb; cases hb
          · have hno : ∀ j, j < ops.size → dstAt ops j = some t → L j = false := fun j hj hd => by
              cases hb : L j with
              | false => rfl
              | true => exact absurd ⟨j, hj, hd, hb⟩ hh
            rw [mix_no hno, mix_no hno]
        rw [this]
        exact h.frame
      · have h1 : dstAt ops i ≠ some t := ht i (by rw [runsOf_append, runsOf_run]; simp)
        have h2 : (fr.put (dstAt ops i) v) t = fr t := by
          cases hd : dstAt ops i with
          | none => rfl
          | some d =>
            simp only [Fr.put]
            rw [if_neg]
            rintro rfl
            exact h1 hd
        rw [h2]
        exact h.unw t fun k hk => ht k (by rw [runsOf_append]; exact List.mem_append_left _ hk)
      · rw [runsOf_append, runsOf_run] at hk ⊢
        rcases List.mem_append.1 hk with hk | hk
        · exact List.mem_append_left _ (h.ord k hk j hb hj)
        · simp [runsOf] at hk
          subst hk
          have hjq := hok.all j hj
          rw [h.seq, runsOf_append, runsOf_run] at hjq
          rcases List.mem_append.1 hjq with hjq | hjq
          · exact List.mem_append_left _ hjq
          · rcases List.mem_cons.1 hjq with rfl | hjq
            · exact List.mem_append_right _ (by simp)
            · exfalso
              obtain ⟨oc', hmem⟩ := mem_runsOf.1 hjq
              have := List.all_eq_true.1 c2 _ hmem
              simp [isRun, hb] at this
      · rw [runsOf_append, runsOf_run] at hk
        rcases List.mem_append.1 hk with hk | hk
        · rcases h.ev k hk hLk with he | he
          · exact .inl (EvalTo.put hok hdq h.ord hk hi hni v he)
          · exact .inr (Waits.put hok hdq h.ord hk hi hni v (pend_cons_run hx he.1) he)
        · simp [runsOf] at hk
          subst hk
          refine .inl ⟨oc, fi, o, ho, hfi, c11, c12, fun hr => ⟨oc, fi, by simp, hfi, hr⟩, ?_⟩
          rcases hv with ⟨hv1, hv2⟩ | ⟨hv1, hv2⟩
          · exact .inl ⟨by rw [wanted_congr hg]; exact hv1, v, by rw [aF_congr S hs]; exact hv2, hself⟩
          · exact .inr ⟨by rw [wanted_congr hg]; exact hv1, fun d hd => by rw [hself d hd, hv2]⟩
    split at hform <;> (try (cases hform; done))
    · rename_i hw
      rw [hfi] at hform
      simp only at hform
      split at hform <;> (try (cases hform; done))
      rename_i v hv
      rw [hdst] at hform
      exact ⟨_, main v hform (.inl ⟨hw, hv⟩)⟩
    · rename_i hw
      rw [hdst] at hform
      exact ⟨_, main (.tup []) hform (.inr ⟨hw, rfl⟩)⟩
  | chk d gd fi =>
    simp only [Bool.and_eq_true] at hc1
    obtain ⟨c1, c2⟩ := hc1
    split at c2 <;> (try (cases c2; done))
    rename_i o ho
    simp only [Bool.and_eq_true] at c2
    obtain ⟨c3, c4⟩ := c2
    obtain ⟨y, hyd, hy⟩ := List.any_eq_true.1 c1
    simp only [Bool.and_eq_true, beq_iff_eq] at hy
    obtain ⟨hy1, hy2⟩ := hy
    obtain ⟨yi, yx⟩ := y
    simp only at hy1 hy2
    subst hy1
    have hform := h.form
    simp only [List.map_cons, wItems, wItem] at hform
    have hreads : AgreeOn (opSlots ⟨some d, gd, .f fi⟩) (mixF ops (bef B yi) fr fr0) fr := by
      intro t ht
      by_cases hh : ∃ j, j < ops.size ∧ dstAt ops j = some t
      · obtain ⟨j, hj, hd⟩ := hh
        obtain ⟨_, hb⟩ := reads_spec c4 ht hj hd
        rcases hb with hb | ⟨hb, _⟩
        · exact mix_yes hj hd hb
        · cases hb
      · rw [mix_no (fun j hj hd => absurd ⟨j, hj, hd⟩ hh)]
        exact (h.unw t fun k hk hd => hh ⟨k, hok.lt k (hdq k hk), hd⟩).symm
    have hg : AgreeOn (gSlots gd) (mixF ops (bef B yi) fr fr0) fr := fun t ht => hreads t (by simp [opSlots, ht])
    have hs : AgreeOn fi.slots (mixF ops (bef B yi) fr fr0) fr := fun t ht => hreads t (by simp [opSlots, I.slots, ht])
    have hruns : runsOf (done ++ [(yi, .chk d gd fi)]) = runsOf done := by rw [runsOf_append, runsOf_chk]; simp [runsOf]
    have c3' := c3
    simp only [chkOp, Bool.and_eq_true] at c3'
    have main : ∀ (hk : wItems (RSim P w0) (rest.map (·.2)) fr S K Kp) (hv : (wanted fr gd = some true ∧ aF fi fr S = some (fr d)) ∨ wanted fr gd = some false), DInv P w0 n ops B q fr0 K Kp g0 L (done ++ [(yi, .chk d gd fi)]) rest g fr S a w := by
      intro hk hv
      refine ⟨by rw [h.seq]; simp, hc2, h.le, h.W, h.defers, hk, fun k hk => ?_, fun y hy hye => ?_, h.frame, fun t ht => ?_, fun k hk j hb hj => ?_, fun k hk hLk => ?_⟩
      · rw [hruns]; exact h.sub k hk
      · rcases List.mem_append.1 hy with hy | hy
        · exact h.eff y hy hye
        · simp at hy; subst hy; rw [hx] at hye; cases hye
      · rw [hruns] at ht; exact h.unw t ht
      · rw [hruns] at hk ⊢; exact h.ord k hk j hb hj
      · rw [hruns] at hk
        have lift : ∀ k', EvalTo P n ops B done fr0 k' fr S → EvalTo P n ops B (done ++ [(yi, .chk d gd fi)]) fr0 k' fr S := fun k' ⟨oc, fi', o', h1, h2, h3, h4, h5, h6⟩ =>
          ⟨oc, fi', o', h1, h2, h3, h4, fun hr => by obtain ⟨a1, a2, a3, a4⟩ := h5 hr; exact ⟨a1, a2, List.mem_append_left _ a3, a4⟩, h6⟩
        rcases h.ev k hk hLk with he | he
        · exact .inl (lift k he)
        · by_cases hke : k = yi
          · subst hke
            rcases hv with ⟨hv1, hv2⟩ | hv1
            · refine .inl ⟨⟨some d, gd, .f fi⟩, fi, o, ho, rfl, c3, ?_, fun hr => ?_, .inl ⟨by rw [wanted_congr hg]; exact hv1, fr d, by rw [aF_congr S hs]; exact hv2, fun d' hd' => by injection hd' with hd'; rw [hd']⟩⟩
              · unfold chkReads at c4 ⊢
                rw [List.all_eq_true] at c4 ⊢
                intro t ht
                have := c4 t ht
                rw [List.all_eq_true] at this ⊢
                intro j hj
                have := this j hj
                split
                · rename_i hd
                  rw [if_pos hd] at this
                  simp only [Bool.and_eq_true, Bool.not_true, Bool.false_and, Bool.or_false] at this
                  simp [this.1, this.2]
                · rfl
              · cases yx with
                | chk => cases hy2
                | run ocy =>
                  obtain ⟨d1, g1, i1⟩ := ocy
                  cases i1 with
                  | e => cases hy2
                  | f fi' => exact ⟨_, fi', List.mem_append_left _ hyd, rfl, hy2⟩
            · exfalso
              obtain ⟨_, o', og, h1, h2, h3⟩ := he
              rw [ho] at h1; injection h1 with h1; subst h1
              have := chkG_one h2 c3'.1.2
              subst this
              rw [wanted_congr hg, hv1] at h3
              cases h3
          · exact .inr ⟨pend_cons_chk hke he.1, he.2⟩
    split at hform <;> (try (cases hform; done))
    · rename_i hw
      exact ⟨fr, main hform.2 (.inl ⟨hw, hform.1⟩)⟩
    · rename_i hw
      exact ⟨fr, main hform (.inr hw)⟩

/-- All quiet items at the head. -/
theorem DInv.peel (hok : DOk P n ops B q) : ∀ (m : Nat) {L : Nat → Bool} {done rest : Seq} {g : G} {fr : Fr} {S : St} {a : Act} {w : World}, rest.length ≤ m → DInv P w0 n ops B q fr0 K Kp g0 L done rest g fr S a w →
    ∃ done' rest' fr', DInv P w0 n ops B q fr0 K Kp g0 L done' rest' g fr' S a w ∧ (rest' = [] ∨ ∃ y r, rest' = y :: r ∧ isEff y.2 = true)
  | m, L, done, [], g, fr, S, a, w, _, h => ⟨done, [], fr, h, .inl rfl⟩
  | 0, L, done, _ :: _, g, fr, S, a, w, hl, h => by simp at hl
  | m + 1, L, done, (i, x) :: rest, g, fr, S, a, w, hl, h => by
    cases hx : isEff x with
    | true => exact ⟨done, (i, x) :: rest, fr, h, .inr ⟨(i, x), rest, rfl, hx⟩⟩
    | false =>
      obtain ⟨fr', h'⟩ := h.step hok hx
      exact DInv.peel hok m (by simpa using hl) h'
end
end Go.VM

namespace Go.VM
open Go Go.RowKit

section
variable {P : Program} {w0 : World} {n : Nat} {ops : Array Oper} {B : List Nat} {q : Seq} {fr0 : Fr} {K : Fr → St → Prop} {Kp : V → St → Prop} {g0 : G}

def lst (l : Array Bool) (i : Nat) : Bool := l.getD i false
def upL (L : Nat → Bool) (i : Nat) : Nat → Bool := fun j => if j = i then true else L j
/-- How many are left. -/
def leftN (ops : Array Oper) (L : Nat → Bool) : Nat := ((List.range ops.size).filter fun i => !L i).length

theorem lst_set {l : Array Bool} {i : Nat} (hi : i < l.size) : lst (l.setIfInBounds i true) = upL (lst l) i := by
  funext j
  unfold lst upL
  by_cases h : j = i
  · subst h; simp [Array.getElem?_setIfInBounds, hi]
  · rw [if_neg h]; simp [Array.getElem?_setIfInBounds_ne (Ne.symm h)]
theorem left_up {L : Nat → Bool} {i : Nat} (hi : i < ops.size) (hL : L i = false) : leftN ops (upL L i) < leftN ops L := by
  unfold leftN
  have hsub : ∀ l : List Nat, (l.filter fun j => !upL L i j).length ≤ (l.filter fun j => !L j).length := fun l => by
    induction l with
    | nil => simp
    | cons x r ih =>
      simp only [List.filter_cons]
      by_cases hx : x = i
      · subst hx
        have e1 : upL L x x = true := by simp [upL]
        rw [e1, hL]
        simp only [Bool.not_true, Bool.not_false, Bool.false_eq_true, if_false, if_true, List.length_cons]
        omega
      · have : upL L i x = L x := by simp [upL, hx]
        rw [this]
        split <;> simp <;> omega
  have hstrict : ∀ l : List Nat, i ∈ l → (l.filter fun j => !upL L i j).length < (l.filter fun j => !L j).length := fun l hl => by
    induction l with
    | nil => cases hl
    | cons x r ih =>
      simp only [List.filter_cons]
      by_cases hx : x = i
      · subst hx
        have e1 : upL L x x = true := by simp [upL]
        rw [e1, hL]
        simp only [Bool.not_true, Bool.not_false, Bool.false_eq_true, if_false, if_true, List.length_cons]
        exact Nat.lt_succ_of_le (hsub r)
      · have : upL L i x = L x := by simp [upL, hx]
        rw [this]
        rcases List.mem_cons.1 hl with rfl | hl
        · exact absurd rfl hx
        · have := ih hl
          split <;> simp <;> omega
  exact hstrict _ (by simpa using hi)

theorem ready_iff {l : Array Bool} (hl : l.size = ops.size) {i : Nat} : i ∈ Region.ready .any ops l ↔ i < ops.size ∧ lst l i = false ∧ ∃ o, ops[i]? = some o ∧ ∀ d ∈ depsOf o, lst l d = true := by
  unfold Region.ready
  rw [List.mem_filter]
  constructor
  · rintro ⟨h1, h2⟩
    have hi : i < ops.size := by simpa using h1
    simp only [Bool.and_eq_true, Bool.not_eq_true'] at h2
    obtain ⟨h2, h3⟩ := h2
    have ho : ops[i]? = some ops[i] := Array.getElem?_eq_getElem hi
    rw [ho] at h3
    simp only [Option.map_some, Option.getD_some] at h3
    refine ⟨hi, ?_, ops[i], ho, fun d hd => ?_⟩
    · unfold lst
      have : i < l.size := by omega
      simp [this] at h2 ⊢
      exact h2
    · unfold depsOf at hd
      obtain ⟨e, he, hde⟩ := List.mem_filterMap.1 hd
      have := Array.all_eq_true'.1 h3 e (by simpa using he)
      split at hde <;> (try (cases hde; done))
      rename_i hb
      injection hde with hde
      simp only [hb, Bool.not_true, Bool.false_or] at this
      rw [← hde]
      exact this
  · rintro ⟨hi, h2, o, ho, h3⟩
    refine ⟨by simpa using hi, ?_⟩
    simp only [Bool.and_eq_true, Bool.not_eq_true']
    refine ⟨?_, ?_⟩
    · unfold lst at h2
      have : i < l.size := by omega
      simp [this] at h2 ⊢
      exact h2
    · rw [ho]
      simp only [Option.map_some, Option.getD_some]
      rw [Array.all_eq_true']
      intro e he
      cases hb : Region.binds .any e with
      | false => rfl
      | true =>
        simp only [Bool.not_true, Bool.false_or]
        exact h3 e.on (List.mem_filterMap.2 ⟨e, by simpa using he, by simp [hb]⟩)

/-- What is done is done together with all ahead of it. -/
def Down (ops : Array Oper) (L : Nat → Bool) : Prop := ∀ i o, ops[i]? = some o → L i = true → ∀ d ∈ depsOf o, L d = true

theorem Down.bef {L : Nat → Bool} (hok : DOk P n ops B q) (h : Down ops L) {i : Nat} {o : Oper} (ho : ops[i]? = some o) (hd : ∀ d ∈ depsOf o, L d = true) {j : Nat} (hb : bef B i j = true) : L j = true := by
  rw [hok.B] at hb
  exact bef_listed (L := L) (fun i o ho hL d hd => h i o ho hL d hd) i o ho hd j hb

theorem mix_up {L : Nat → Bool} {fr : Fr} {i : Nat} (hi : i < ops.size) : ∀ (hok : DOk P n ops B q) (v : V) (hv : ∀ d, dstAt ops i = some d → v = fr d), mixF ops (upL L i) fr fr0 = (mixF ops L fr fr0).put (dstAt ops i) v := by
  intro hok v hv
  funext t
  cases hd : dstAt ops i with
  | none =>
    simp only [Fr.put]
    by_cases hh : ∃ j, j < ops.size ∧ dstAt ops j = some t ∧ L j = true
    · obtain ⟨j, hj, hdj, hb⟩ := hh
      rw [mix_yes hj hdj hb, mix_yes hj hdj (by simp [upL, hb])]
    · have hno : ∀ j, j < ops.size → dstAt ops j = some t → L j = false := fun j hj hd => by
        cases hb : L j with
        | false => rfl
        | true => exact absurd ⟨j, hj, hd, hb⟩ hh
      rw [mix_no hno, mix_no]
      intro j hj hdj
      have : j ≠ i := fun e => by subst e; rw [hd] at hdj; cases hdj
      simp [upL, this, hno j hj hdj]
  | some d =>
    simp only [Fr.put]
    by_cases ht : t = d
    · subst ht
      rw [if_pos rfl, mix_yes hi hd (by simp [upL]), hv t hd]
    · rw [if_neg ht]
      by_cases hh : ∃ j, j < ops.size ∧ dstAt ops j = some t ∧ L j = true
      · obtain ⟨j, hj, hdj, hb⟩ := hh
        rw [mix_yes hj hdj hb, mix_yes hj hdj (by simp [upL, hb])]
      · have hno : ∀ j, j < ops.size → dstAt ops j = some t → L j = false := fun j hj hd => by
          cases hb : L j with
          | false => rfl
          | true => exact absurd ⟨j, hj, hd, hb⟩ hh
        rw [mix_no hno, mix_no]
        intro j hj hdj
        have : j ≠ i := fun e => by subst e; rw [hd] at hdj; injection hdj with hdj; exact ht hdj.symm
        simp [upL, this, hno j hj hdj]

theorem sim_draw (hok : DOk P n ops B q) {Q : CPost} (hK : ∀ fr S, K fr S → Q .normal fr S) (hKp : ∀ v S, Kp v S → Q (.panic v) fr0 S) : ∀ (fuel : Nat) {l : Array Bool} {done rest : Seq} {g : G} {fr : Fr} {S : St} {a : Act} {w : World},
    l.size = ops.size → leftN ops (lst l) ≤ fuel → Down ops (lst l) → DInv P w0 n ops B q fr0 K Kp g0 (lst l) done rest g fr S a w → (rest = [] ∨ ∃ y r, rest = y :: r ∧ isEff y.2 = true) →
    wpAny P .any ops (QRel w0 n g0 Q) fuel l a w := by
  -- the end
  have fin : ∀ {l : Array Bool} {done rest : Seq} {g : G} {fr : Fr} {S : St} {a : Act} {w : World}, l.size = ops.size → DInv P w0 n ops B q fr0 K Kp g0 (lst l) done rest g fr S a w → (rest = [] ∨ ∃ y r, rest = y :: r ∧ isEff y.2 = true) →
      Region.ready .any ops l = [] → QRel w0 n g0 Q .normal a w := by
    intro l done rest g fr S a w hl h hb hr
    have hall' : ∀ m i, (runsOf q).idxOf i = m → i < ops.size → lst l i = true := by
      intro m
      induction m using Nat.strongRecOn with
      | _ m ih =>
        intro i him hi
        subst him
        cases hL : lst l i with
        | true => rfl
        | false =>
          exfalso
          have ho : ops[i]? = some ops[i] := Array.getElem?_eq_getElem hi
          have : i ∈ Region.ready .any ops l := (ready_iff hl).2 ⟨hi, hL, ops[i], ho, fun d hd => ih _ (hok.down i _ ho d hd) d rfl (hok.lt d (by have h1 := hok.down i _ ho d hd; have h2 := List.idxOf_lt_length_iff.2 (hok.all i hi); exact List.idxOf_lt_length_iff.1 (by omega)))⟩
          rw [hr] at this
          cases this
    have hall : ∀ i, i < ops.size → lst l i = true := fun i hi => hall' _ i rfl hi
    have hrest : rest = [] := by
      rcases hb with hb | ⟨y, r, rfl, hy⟩
      · exact hb
      · exfalso
        obtain ⟨i, x⟩ := y
        have hc := h.chk
        simp only [chkSeq, Bool.and_eq_true] at hc
        cases x with
        | chk => simp [isEff] at hy
        | run oc =>
          have hc1 := hc.1
          simp only [Bool.and_eq_true] at hc1
          obtain ⟨⟨⟨⟨⟨c1, c2⟩, c3⟩, c4⟩, c5⟩, c6⟩ := hc1
          split at c1 <;> (try (cases c1; done))
          rename_i o ho
          have hi : i < ops.size := (Array.getElem?_eq_some_iff.1 ho).1
          have := h.sub i (hall i hi)
          simp at c3
          exact c3 this
    subst hrest
    have hform := h.form
    simp only [List.map_nil, wItems] at hform
    refine ⟨h.defers, g, fr, S, h.le, h.W, ?_, hK _ _ hform⟩
    have : mixF ops (lst l) fr fr0 = fr := by
      funext t
      by_cases hh : ∃ j, j < ops.size ∧ dstAt ops j = some t
      · obtain ⟨j, hj, hd⟩ := hh
        exact mix_yes hj hd (hall j hj)
      · rw [mix_no (fun j hj hd => absurd ⟨j, hj, hd⟩ hh)]
        refine (h.unw t fun k hk hd => hh ⟨k, hok.lt k ?_, hd⟩).symm
        rw [h.seq, runsOf_append]; exact List.mem_append_left _ hk
    rw [← this]
    exact h.frame
  intro fuel
  induction fuel with
  | zero =>
    intro l done rest g fr S a w hl hleft hdown h hb
    have hr : Region.ready .any ops l = [] := by
      rw [List.eq_nil_iff_forall_not_mem]
      intro i hi
      obtain ⟨h1, h2, _⟩ := (ready_iff hl).1 hi
      have := left_up (L := lst l) h1 h2
      omega
    exact ⟨hr, fin hl h hb hr⟩
  | succ fuel ih =>
    intro l done rest g fr S a w hl hleft hdown h hb
    refine ⟨fin hl h hb, fun i hi => ?_⟩
    obtain ⟨hil, hLi, o, ho, hdeps⟩ := (ready_iff hl).1 hi
    have hbef : ∀ j, bef B i j = true → lst l j = true := fun j hj => hdown.bef hok ho hdeps hj
    have hdq : ∀ k ∈ runsOf done, k ∈ runsOf q := fun k hk => by rw [h.seq, runsOf_append]; exact List.mem_append_left _ hk
    have hl' : (l.setIfInBounds i true).size = ops.size := by simpa using hl
    have hset : lst (l.setIfInBounds i true) = upL (lst l) i := lst_set (by omega)
    have hleft' : leftN ops (lst (l.setIfInBounds i true)) ≤ fuel := by
      rw [hset]
      have := left_up (L := lst l) hil hLi
      omega
    have hdown' : Down ops (lst (l.setIfInBounds i true)) := by
      rw [hset]
      intro k o' ho' hk d hd
      unfold upL at hk ⊢
      split
      · rfl
      · split at hk
        · rename_i hki; subst hki
          rw [ho] at ho'; injection ho' with ho'; subst ho'
          exact hdeps d hd
        · exact hdown k o' ho' hk d hd
    -- what an operation looks at is in the mixed frame as in its own
    have hmix : ∀ {slots : List Nat}, chkReads B ops i slots false = true → AgreeOn slots (mixF ops (lst l) fr fr0) (mixF ops (bef B i) fr fr0) := by
      intro slots hr t ht
      by_cases hh : ∃ j, j < ops.size ∧ dstAt ops j = some t ∧ bef B i j = true
      · obtain ⟨j, hj, hd, hb'⟩ := hh
        rw [mix_yes hj hd (hbef j hb'), mix_yes hj hd hb']
      · have hno : ∀ j, j < ops.size → dstAt ops j = some t → bef B i j = false := fun j hj hd => by
          cases hb' : bef B i j with
          | false => rfl
          | true => exact absurd ⟨j, hj, hd, hb'⟩ hh
        rw [mix_no hno, mix_no]
        intro j hj hd
        cases hLj : lst l j with
        | false => rfl
        | true =>
          exfalso
          obtain ⟨_, hb'⟩ := reads_spec hr ht hj hd
          rcases hb' with hb' | ⟨_, hb'⟩
          · rw [hno j hj hd] at hb'; cases hb'
          · have hoj : ops[j]? = some ops[j] := Array.getElem?_eq_getElem hj
            have := hdown.bef hok hoj (hdown j _ hoj hLj) hb'
            rw [hLi] at this; cases this
    unfold wpOp
    simp only [ho]
    by_cases hid : i ∈ runsOf done
    · -- a quiet one that is told already
      have hevi : EvalTo P n ops B done fr0 i fr S := by
        rcases h.ev i hid hLi with he | he
        · exact he
        · exfalso
          have hp := he.1
          unfold pend at hp
          rcases hb with rfl | ⟨y, r, rfl, hy⟩
          · simp at hp
          · rw [List.takeWhile_cons, if_neg (by simp [hy])] at hp
            simp at hp
      obtain ⟨oc, fi, o', h1, h2, h3, h4, h5, h6⟩ := hevi
      rw [ho] at h1; injection h1 with h1; subst h1
      have hdst := chkOp_dst ho h3
      have h3' := h3
      simp only [chkOp, Bool.and_eq_true] at h3'
      obtain ⟨⟨d1, d2⟩, d3⟩ := h3'
      have hag := hmix h4
      have hg : AgreeOn (gSlots oc.g) (mixF ops (lst l) fr fr0) (mixF ops (bef B i) fr fr0) := fun t ht => hag t (by simp [opSlots, ht])
      have hs : AgreeOn fi.slots (mixF ops (lst l) fr fr0) (mixF ops (bef B i) fr fr0) := fun t ht => hag t (by simp [opSlots, h2, I.slots, ht])
      -- the invariant behind it
      have next : ∀ (v : V) (u : Value), (∀ d, oc.dst = some d → fr d = v) → RelV g v u → wpAny P .any ops (QRel w0 n g0 Q) fuel (l.setIfInBounds i true) (a.put o.dst u) w := by
        intro v u hv hu
        refine ih hl' hleft' hdown' (done := done) (rest := rest) (g := g) (fr := fr) (S := S) ⟨h.seq, h.chk, h.le, h.W, by rw [put_defers]; exact h.defers, h.form, fun k hk => ?_, fun x hx he => ?_, ?_, h.unw, h.ord, fun k hk hLk => ?_⟩ hb
        · rw [hset] at hk
          unfold upL at hk
          split at hk
          · rename_i e; rw [e]; exact hid
          · exact h.sub k hk
        · rw [hset]
          unfold upL
          split
          · rfl
          · exact h.eff x hx he
        · rw [hset, mix_up hil hok v (fun d hd => by rw [← hdst] at hd; exact (hv d hd).symm), ← hdst, chkDst_eq d1]
          have := chkDst_eq d1
          rw [← this]
          exact h.frame.put hu
        · rw [hset] at hLk
          unfold upL at hLk
          split at hLk
          · cases hLk
          · exact h.ev k hk hLk
      rcases h6 with ⟨a1, v, a2, a3⟩ | ⟨a1, a2⟩
      · have hw : Region.wanted o (yielded ops a.tmps) = true := wanted_rel h.frame d2 (by rw [wanted_congr hg]; exact a1)
        rw [if_pos hw]
        have d3' : chkFI P n o.op fi = true := by rw [h2] at d3; exact d3
        obtain ⟨u, hrun, hu⟩ := simFI h.W h.frame d3' (v := v) (by rw [aF_congr S hs]; exact a2)
        refine .inl ?_
        unfold Oper.wp
        rw [hrun]
        exact next v u a3 hu
      · have hw : Region.wanted o (yielded ops a.tmps) = false := wanted_rel h.frame d2 (by rw [wanted_congr hg]; exact a1)
        rw [if_neg (by rw [hw]; simp)]
        exact next (.tup []) undef a2 ⟨[], rfl, rfl⟩
    · -- the next one that acts
      have hiq := hok.all i hil
      rw [h.seq, runsOf_append] at hiq
      have hir : i ∈ runsOf rest := by
        rcases List.mem_append.1 hiq with hh | hh
        · exact absurd hh hid
        · exact hh
      rcases hb with rfl | ⟨y, r, rfl, hy⟩
      · simp [runsOf] at hir
      obtain ⟨e, x⟩ := y
      cases x with
      | chk => simp [isEff] at hy
      | run oc =>
        have hc := h.chk
        simp only [chkSeq, Bool.and_eq_true] at hc
        obtain ⟨⟨⟨⟨⟨⟨c1, c2⟩, c3⟩, c4⟩, c5⟩, c6⟩, hcrest⟩ := hc
        split at c1 <;> (try (cases c1; done))
        rename_i oe hoe
        simp only [Bool.and_eq_true] at c1
        obtain ⟨c11, c12⟩ := c1
        have hned : e ∉ runsOf done := by simpa using c3
        have hei : i = e := by
          rw [runsOf_run] at hir
          rcases List.mem_cons.1 hir with hh | hh
          · exact hh
          · exfalso
            obtain ⟨oc', hmem⟩ := mem_runsOf.1 hh
            -- it stands behind one that acts: that one comes ahead of it
            have key : ∀ (rest : Seq) (before : Seq), chkSeq P n B ops before rest = true → (i, Item.run oc') ∈ rest → ∀ y ∈ before, isEff y.2 = true → bef B i y.1 = true := by
              intro rest
              induction rest with
              | nil => intro before _ hm; cases hm
              | cons z zs ihz =>
                intro before hcz hm y hyb hye
                obtain ⟨zi, zx⟩ := z
                simp only [chkSeq, Bool.and_eq_true] at hcz
                obtain ⟨hcz1, hcz2⟩ := hcz
                rcases List.mem_cons.1 hm with hm | hm
                · injection hm with e1 e2
                  subst e1; subst e2
                  simp only [Bool.and_eq_true] at hcz1
                  have := List.all_eq_true.1 hcz1.1.2 y hyb
                  simpa [hye] using this
                · exact ihz _ hcz2 hm y (List.mem_append_left _ hyb) hye
            have := key r (done ++ [(e, .run oc)]) hcrest hmem (e, .run oc) (by simp) hy
            exact hned (h.sub e (hbef e this))
        subst hei
        rw [ho] at hoe; injection hoe with hoe; subst hoe
        have hdst := chkOp_dst ho c11
        have c11' := c11
        simp only [chkOp, Bool.and_eq_true] at c11'
        obtain ⟨⟨d1, d2⟩, d3⟩ := c11'
        obtain ⟨ei, hei⟩ : ∃ ei, oc.i = .e ei := by
          obtain ⟨d, g', ii⟩ := oc
          cases ii with
          | e ei => exact ⟨ei, rfl⟩
          | f fi => simp [isEff] at hy
        have hself : ∀ v : V, AgreeOn (opSlots oc) (mixF ops (bef B i) (fr.put (dstAt ops i) v) fr0) fr := fun v => agree_head hok hdq h.ord h.unw hil hned c12 v
        have hag0 : AgreeOn (opSlots oc) (mixF ops (bef B i) fr fr0) fr := by
          have hv := hself (match dstAt ops i with | some d => fr d | none => .poison)
          have hs : fr.put (dstAt ops i) (match dstAt ops i with | some d => fr d | none => .poison) = fr := by
            cases dstAt ops i with
            | none => rfl
            | some d => funext t; simp only [Fr.put]; split <;> simp_all
          rw [hs] at hv
          exact hv
        have hag : AgreeOn (opSlots oc) fr (mixF ops (lst l) fr fr0) := fun t ht => by
          rw [hmix c12 t ht, hag0 t ht]
        have hform := h.form
        simp only [List.map_cons, wItems, wItem] at hform
        -- the invariant behind it
        have next : ∀ (g' : G) (v : V) (S' : St) (u : Value) (w' : World), g.le g' → RelW w0 g' S' w' → RelV g' v u → wItems (RSim P w0) (r.map (·.2)) (fr.put (dstAt ops i) v) S' K Kp →
            (∀ k ∈ runsOf done, lst (l.setIfInBounds i true) k = false → EvalTo P n ops B (done ++ [(i, .run oc)]) fr0 k (fr.put (dstAt ops i) v) S' ∨ Waits n ops B fr0 r k (fr.put (dstAt ops i) v)) →
            wpAny P .any ops (QRel w0 n g0 Q) fuel (l.setIfInBounds i true) (a.put o.dst u) w' := by
          intro g' v S' u w' hle' hW' hu hk hev
          have hinv : DInv P w0 n ops B q fr0 K Kp g0 (lst (l.setIfInBounds i true)) (done ++ [(i, .run oc)]) r g' (fr.put (dstAt ops i) v) S' (a.put o.dst u) w' := by
            refine ⟨by rw [h.seq]; simp, hcrest, h.le.trans hle', hW', by rw [put_defers]; exact h.defers, hk, fun k hk => ?_, fun x hx he => ?_, ?_, fun t ht => ?_, fun k hk j hb' hj => ?_, fun k hk hLk => ?_⟩
            · rw [hset] at hk
              unfold upL at hk
              rw [runsOf_append, runsOf_run]
              split at hk
              · rename_i e'; rw [e']; exact List.mem_append_right _ (by simp)
              · exact List.mem_append_left _ (h.sub k hk)
            · rw [hset]
              unfold upL
              split
              · rfl
              · rename_i hne
                rcases List.mem_append.1 hx with hx | hx
                · exact h.eff x hx he
                · simp at hx; subst hx; exact absurd rfl hne
            · have hfr' : mixF ops (lst l) (fr.put (dstAt ops i) v) fr0 = mixF ops (lst l) fr fr0 := by
                funext t
                by_cases hh : ∃ j, j < ops.size ∧ dstAt ops j = some t ∧ lst l j = true
                · obtain ⟨j, hj, hd, hb'⟩ := hh
                  rw [mix_yes hj hd hb', mix_yes hj hd hb']
                  refine put_other hok hj hil (fun e' => ?_) hd v
                  subst e'; rw [hLi] at hb'; cases hb'
                · have hno : ∀ j, j < ops.size → dstAt ops j = some t → lst l j = false := fun j hj hd => by
                    cases hb' : lst l j with
                    | false => rfl
                    | true => exact absurd ⟨j, hj, hd, hb'⟩ hh
                  rw [mix_no hno, mix_no hno]
              rw [hset, mix_up hil hok v (fun d hd => by rw [hd]; simp [Fr.put]), hfr']
              rw [← hdst, ← chkDst_eq d1]
              exact (h.frame.mono hle').put hu
            · have h1 : dstAt ops i ≠ some t := ht i (by rw [runsOf_append, runsOf_run]; simp)
              have h2 : (fr.put (dstAt ops i) v) t = fr t := by
                cases hd : dstAt ops i with
                | none => rfl
                | some d =>
                  simp only [Fr.put]
                  rw [if_neg]
                  rintro rfl
                  exact h1 hd
              rw [h2]
              exact h.unw t fun k hk => ht k (by rw [runsOf_append]; exact List.mem_append_left _ hk)
            · rw [runsOf_append, runsOf_run] at hk ⊢
              rcases List.mem_append.1 hk with hk | hk
              · exact List.mem_append_left _ (h.ord k hk j hb' hj)
              · simp [runsOf] at hk
                subst hk
                exact List.mem_append_left _ (h.sub j (hbef j hb'))
            · rw [runsOf_append, runsOf_run] at hk
              rcases List.mem_append.1 hk with hk | hk
              · exact hev k hk hLk
              · simp [runsOf] at hk
                subst hk
                rw [hset] at hLk
                simp [upL] at hLk
          obtain ⟨done', rest', fr', hinv', hb'⟩ := hinv.peel hok r.length (Nat.le_refl _)
          exact ih hl' hleft' hdown' hinv' hb'
        have hLk0 : ∀ k, lst (l.setIfInBounds i true) k = false → lst l k = false := fun k hk => by
          rw [hset] at hk
          unfold upL at hk
          split at hk
          · cases hk
          · exact hk
        have hold : ∀ k ∈ runsOf done, lst l k = false → EvalTo P n ops B done fr0 k fr S := fun k hk hLk => by
          rcases h.ev k hk hLk with he | he
          · exact he
          · exfalso
            have hp := he.1
            unfold pend at hp
            rw [List.takeWhile_cons, if_neg (by simp [hy])] at hp
            simp at hp
        have hgag : AgreeOn (gSlots oc.g) fr (mixF ops (lst l) fr fr0) := fun t ht => hag t (by simp [opSlots, ht])
        have hsag : AgreeOn ei.slots fr (mixF ops (lst l) fr fr0) := fun t ht => hag t (by simp [opSlots, hei, I.slots, ht])
        split at hform <;> (try (cases hform; done))
        · rename_i hwt
          have hw : Region.wanted o (yielded ops a.tmps) = true := wanted_rel h.frame d2 (by rw [← wanted_congr hgag]; exact hwt)
          rw [if_pos hw]
          refine .inl ?_
          rw [hei] at hform
          have d3' : chkEI P n o.op ei = true := by rw [hei] at d3; exact d3
          refine simEI h.W h.frame d3' (wE_congr S hsag hform) (fun g' v S' u w' hle' hW' hu hk => ?_) (fun g' v S' u w' hle' hW' hu hk => ?_)
          · rw [hdst] at hk
            refine next g' v S' u w' hle' hW' hu hk (fun k hkd hLk => ?_)
            have hLk' := hLk0 k hLk
            have hev0 := EvalTo.put (x := (i, .run oc)) hok hdq h.ord hkd hil hned v (hold k hkd hLk')
            obtain ⟨ock, fik, ok, e1, e2, e3, e4, e5, e6⟩ := hev0
            rcases e6 with ⟨a1, v1, a2, a3⟩ | ⟨a1, a2⟩
            · cases hrd : fik.reader with
              | false => exact .inl ⟨ock, fik, ok, e1, e2, e3, e4, e5, .inl ⟨a1, v1, by rw [aF_store hrd _ S' S]; exact a2, a3⟩⟩
              | true =>
                obtain ⟨oc', fi', b1, b2, b3⟩ := e5 hrd
                have b1' : (k, Item.run oc') ∈ done := by
                  rcases List.mem_append.1 b1 with b1 | b1
                  · exact b1
                  · simp at b1
                    obtain ⟨rfl, _⟩ := b1
                    exact absurd hkd hned
                have hbh : chkBehind B done i r = true := by
                  rw [hei] at c6
                  exact c6
                have hx := List.all_eq_true.1 hbh _ b1'
                obtain ⟨od, og, oi⟩ := oc'
                simp only at b2
                subst b2
                simp only [b3, Bool.not_true, Bool.false_or, Bool.or_eq_true] at hx
                have e3' := e3
                simp only [chkOp, Bool.and_eq_true] at e3'
                rcases hx with hx | hx
                · exfalso
                  have := hbef k hx
                  rw [hLk'] at this; cases this
                · exact .inr ⟨hx, ok, ock.g, e1, e3'.1.2, a1⟩
            · exact .inl ⟨ock, fik, ok, e1, e2, e3, e4, e5, .inr ⟨a1, a2⟩⟩
          · exact ⟨h.defers, g', fr0, S', v, u, rfl, h.le.trans hle', hW', hu, hKp _ _ hk⟩
        · rename_i hwt
          have hw : Region.wanted o (yielded ops a.tmps) = false := wanted_rel h.frame d2 (by rw [← wanted_congr hgag]; exact hwt)
          rw [if_neg (by rw [hw]; simp)]
          rw [hdst] at hform
          refine next g (.tup []) S undef w (G.le.refl g) h.W ⟨[], rfl, rfl⟩ hform (fun k hkd hLk => ?_)
          exact .inl (EvalTo.put hok hdq h.ord hkd hil hned _ (hold k hkd (hLk0 k hLk)))
end
end Go.VM

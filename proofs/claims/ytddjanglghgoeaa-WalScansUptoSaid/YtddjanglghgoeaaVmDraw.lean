/-
  The value machine: a region that draws its order: the operations that act come one behind the other in whatever order; the others tell the same wherever they come.
-/
import Derived.Test.YtddjanglghgoeaaVmSimC
import Derived.Test.YtddjanglghgoeaaVmSlots
set_option linter.unusedVariables false
set_option linter.unusedSimpArgs false
namespace Go.VM
open Go Go.RowKit

def depsOf (o : Oper) : List Nat := o.after.toList.filterMap fun e => if Region.binds .any e then some e.on else none
def maskOf (acc : List Nat) (ds : List Nat) : Nat := ds.foldr (fun d s => s ||| (2 ^ d ||| acc.getD d 0)) 0
def befGo (ops : Array Oper) : List Nat → List Nat → List Nat
  | [], acc => acc
  | i :: r, acc => befGo ops r (acc.set i (maskOf acc (match ops[i]? with | some o => depsOf o | none => [])))
/-- j comes ahead of i, in whatever order. -/
def bef (B : List Nat) (i j : Nat) : Bool := (B.getD i 0).testBit j

theorem maskOf_bit {acc : List Nat} : ∀ {ds : List Nat} {j : Nat}, (maskOf acc ds).testBit j = true → ∃ d ∈ ds, j = d ∨ (acc.getD d 0).testBit j = true
  | [], j, h => by simp [maskOf] at h
  | d :: ds, j, h => by
    simp only [maskOf, List.foldr_cons] at h
    rw [Nat.testBit_or, Nat.testBit_or, Bool.or_eq_true, Bool.or_eq_true, Nat.testBit_two_pow] at h
    rcases h with h | h | h
    · obtain ⟨d', hd, hh⟩ := maskOf_bit (ds := ds) h
      exact ⟨d', List.mem_cons_of_mem _ hd, hh⟩
    · exact ⟨d, List.mem_cons_self, .inl (by simpa using (of_decide_eq_true h).symm)⟩
    · exact ⟨d, List.mem_cons_self, .inr h⟩

/-- What is listed holds all that comes ahead of it. -/
theorem befGo_listed {ops : Array Oper} {L : Nat → Bool} (hL : ∀ i o, ops[i]? = some o → L i = true → ∀ d ∈ depsOf o, L d = true) : ∀ (q acc : List Nat), acc.length = ops.size →
    (∀ i o, ops[i]? = some o → (∀ d ∈ depsOf o, L d = true) → ∀ j, bef acc i j = true → L j = true) →
    ∀ i o, ops[i]? = some o → (∀ d ∈ depsOf o, L d = true) → ∀ j, bef (befGo ops q acc) i j = true → L j = true
  | [], acc, _, h => h
  | k :: q, acc, hl, h => by
    refine befGo_listed hL q _ (by simpa using hl) fun i o ho hd j hj => ?_
    by_cases hk : k = i
    · subst hk
      have hi := (Array.getElem?_eq_some_iff.1 ho).1
      unfold bef at hj
      rw [ho] at hj
      have e : (acc.set k (maskOf acc (depsOf o))).getD k 0 = maskOf acc (depsOf o) := by
        simp only [List.getD, List.getElem?_set, if_pos (show k < acc.length by omega), if_true, Option.getD_some]
      simp only [e] at hj
      obtain ⟨d, hdm, hdj⟩ := maskOf_bit hj
      rcases hdj with rfl | hdj
      · exact hd _ hdm
      · rcases Nat.lt_or_ge d ops.size with hlt | hge
        · have hod : ops[d]? = some ops[d] := Array.getElem?_eq_getElem hlt
          exact h d _ hod (hL d _ hod (hd d hdm)) j hdj
        · exfalso
          have : acc.getD d 0 = 0 := by
            simp only [List.getD]
            rw [List.getElem?_eq_none (by omega)]
            rfl
          rw [this] at hdj
          simp at hdj
    · refine h i o ho hd j ?_
      unfold bef at hj ⊢
      have e : ∀ m, (acc.set k m).getD i 0 = acc.getD i 0 := fun m => by
        simp only [List.getD, List.getElem?_set, if_neg hk]
      rw [e] at hj
      exact hj
theorem bef_listed {ops : Array Oper} {q : List Nat} {L : Nat → Bool} (hL : ∀ i o, ops[i]? = some o → L i = true → ∀ d ∈ depsOf o, L d = true) (i : Nat) (o : Oper) (ho : ops[i]? = some o) (hd : ∀ d ∈ depsOf o, L d = true) (j : Nat) (hj : bef (befGo ops q (List.replicate ops.size 0)) i j = true) : L j = true :=
  befGo_listed hL q _ (by simp) (fun i o _ _ j hj => by
    exfalso
    unfold bef at hj
    have : (List.replicate ops.size 0).getD i 0 = 0 := by
      simp only [List.getD, List.getElem?_replicate]
      split <;> rfl
    rw [this] at hj
    simp at hj) i o ho hd j hj

abbrev Seq := List (Nat × Item)
def isEff : Item → Bool
  | .run ⟨_, _, .e _⟩ => true
  | _ => false
def isRun : Item → Bool
  | .run _ => true
  | _ => false
def runsOf (q : Seq) : List Nat := (q.filter fun x => isRun x.2).map (·.1)
def befs (ops : Array Oper) (q : Seq) : List Nat := befGo ops (runsOf q) (List.replicate ops.size 0)
def opSlots (oc : OpC) : List Nat := gSlots oc.g ++ oc.i.slots

def dstAt (ops : Array Oper) (i : Nat) : Option Nat := (ops[i]?).bind (·.dst)

/-- Each slot that an operation looks at: who writes it comes ahead of it, or behind it; nobody else. -/
def chkReads (B : List Nat) (ops : Array Oper) (i : Nat) (slots : List Nat) (strict : Bool) : Bool :=
  slots.all fun t => (List.range ops.size).all fun j => if dstAt ops j = some t then (j != i && (bef B i j || (!strict && bef B j i))) else true

/-- Behind an operation that acts: what looked at the store is asked once more. -/
def chkBehind (B : List Nat) (before : Seq) (e : Nat) (rest : Seq) : Bool :=
  before.all fun x => match x.2 with
    | .run ⟨_, _, .f fi⟩ => !fi.reader || bef B e x.1 || (rest.takeWhile fun y => !isEff y.2).any fun y => y.1 == x.1 && !isRun y.2
    | _ => true

def chkSeq (P : Program) (n : Nat) (B : List Nat) (ops : Array Oper) : Seq → Seq → Bool
  | _, [] => true
  | before, (i, x) :: rest =>
    (match x with
     | .run oc => (match ops[i]? with
       | some o => chkOp P n ops o oc && chkReads B ops i (opSlots oc) false
       | none => false) &&
       -- nothing that comes ahead of it comes behind it here; it was not there before
       (rest.all fun y => !(isRun y.2 && bef B i y.1)) && !(runsOf before).contains i && !bef B i i &&
       -- who acts ahead of it here comes ahead of it
       (before.all fun y => !isEff y.2 || bef B i y.1) &&
       (match oc.i with | .e _ => chkBehind B before i rest | .f _ => true)
     | .chk d g fi => (before.any fun y => y.1 == i && (match y.2 with | .run ⟨_, _, .f fi'⟩ => fi'.reader | _ => false)) && (match ops[i]? with
       | some o => chkOp P n ops o ⟨some d, g, .f fi⟩ && chkReads B ops i (opSlots ⟨some d, g, .f fi⟩) true
       | none => false)) &&
    chkSeq P n B ops (before ++ [(i, x)]) rest
def uniqDst (ops : Array Oper) : Bool :=
  (List.range ops.size).all fun i => (List.range ops.size).all fun j => i == j || (match dstAt ops i with | some t => decide (dstAt ops j ≠ some t) | none => true)

def chkDraw (P : Program) (n : Nat) (ops : Array Oper) (q : Seq) : Bool :=
  decide (ops.size = (runsOf q).length) && ((List.range ops.size).all fun i => (runsOf q).contains i) && uniqDst ops &&
  ((List.range ops.size).all fun i => match ops[i]? with | some o => (depsOf o).all fun d => decide ((runsOf q).idxOf d < (runsOf q).idxOf i) | none => false) &&
  chkSeq P n (befs ops q) ops [] q

end Go.VM

/-
  The value machine: a region that draws its order: the operations that act come one behind the other in whatever order; the others tell the same wherever they come.
-/
import Derived.Test.YtddjanglghgoeaaVmSimC
import Derived.Test.YtddjanglghgoeaaVmSlots
set_option linter.unusedVariables false
set_option linter.unusedSimpArgs false
namespace Go.VM
open Go Go.RowKit

def depsOf (o : Oper) : List Nat := o.after.toList.filterMap fun e => if Region.binds .any e then some e.on else none
def maskOf (acc : List Nat) (ds : List Nat) : Nat := ds.foldr (fun d s => s ||| (2 ^ d ||| acc.getD d 0)) 0
def befGo : List Oper → List Nat → List Nat
  | [], acc => acc
  | o :: r, acc => befGo r (acc ++ [maskOf acc (depsOf o)])
def befs (ops : List Oper) : List Nat := befGo ops []
/-- j comes ahead of i, in whatever order. -/
def bef (B : List Nat) (i j : Nat) : Bool := (B.getD i 0).testBit j

theorem maskOf_bit {acc : List Nat} : ∀ {ds : List Nat} {j : Nat}, (maskOf acc ds).testBit j = true → ∃ d ∈ ds, j = d ∨ (acc.getD d 0).testBit j = true
  | [], j, h => by simp [maskOf] at h
  | d :: ds, j, h => by
    simp only [maskOf, List.foldr_cons] at h
    rw [Nat.testBit_or, Nat.testBit_or, Bool.or_eq_true, Bool.or_eq_true, Nat.testBit_two_pow] at h
    rcases h with h | h | h
    · obtain ⟨d', hd, hh⟩ := maskOf_bit (ds := ds) h
      exact ⟨d', List.mem_cons_of_mem _ hd, hh⟩
    · exact ⟨d, List.mem_cons_self, .inl (by simpa using (of_decide_eq_true h).symm)⟩
    · exact ⟨d, List.mem_cons_self, .inr h⟩

theorem befGo_get : ∀ (ops : List Oper) (acc : List Nat) (i : Nat), i < acc.length → (befGo ops acc).getD i 0 = acc.getD i 0
  | [], acc, i, h => rfl
  | o :: r, acc, i, h => by
    simp only [befGo]
    rw [befGo_get r _ i (by simp; omega)]
    simp [List.getD, List.getElem?_append_left h]
theorem befGo_at : ∀ (ops : List Oper) (acc : List Nat) (i : Nat) (o : Oper), ops[i]? = some o → ∃ acc', acc'.length = acc.length + i ∧ (befGo ops acc).getD (acc.length + i) 0 = maskOf acc' (depsOf o) ∧ ∀ k, k < acc'.length → (befGo ops acc).getD k 0 = acc'.getD k 0
  | [], acc, i, o, h => by simp at h
  | o' :: r, acc, 0, o, h => by
    simp at h; subst h
    refine ⟨acc, rfl, ?_, fun k hk => ?_⟩
    · simp only [befGo, Nat.add_zero]
      rw [befGo_get r _ _ (by simp)]
      simp [List.getD]
    · simp only [befGo]
      rw [befGo_get r _ k (by simp; omega)]
      simp [List.getD, List.getElem?_append_left hk]
  | o' :: r, acc, i + 1, o, h => by
    simp only [befGo]
    obtain ⟨acc', h1, h2, h3⟩ := befGo_at r (acc ++ [maskOf acc (depsOf o')]) i o (by simpa using h)
    refine ⟨acc', by simp at h1; omega, ?_, h3⟩
    rw [← h2]
    congr 1
    simp; omega

/-- What is listed holds all that comes ahead of it. -/
theorem bef_listed {ops : List Oper} {L : Nat → Bool} (hL : ∀ i o, ops[i]? = some o → L i = true → ∀ d ∈ depsOf o, L d = true) : ∀ (i : Nat) (o : Oper), ops[i]? = some o → (∀ d ∈ depsOf o, L d = true) → ∀ j, bef (befs ops) i j = true → L j = true := by
  intro i
  induction i using Nat.strongRecOn with
  | _ i ih =>
    intro o ho hd j hj
    obtain ⟨acc', h1, h2, h3⟩ := befGo_at ops [] i o ho
    simp only [List.length_nil, Nat.zero_add] at h1 h2
    unfold bef befs at hj
    rw [h2] at hj
    obtain ⟨d, hdm, hdj⟩ := maskOf_bit hj
    rcases hdj with rfl | hdj
    · exact hd _ hdm
    · rcases Nat.lt_or_ge d i with hlt | hge
      · have hLd := hd d hdm
        have hdl : d < ops.length := by
          have := (List.getElem?_eq_some_iff.1 ho).1
          omega
        have hod : ops[d]? = some ops[d] := List.getElem?_eq_getElem hdl
        refine ih d hlt _ hod (hL d _ hod hLd) j ?_
        unfold bef befs
        rw [h3 d (by omega)]
        exact hdj
      · have : acc'.getD d 0 = 0 := by
          simp only [List.getD]
          rw [List.getElem?_eq_none (by omega)]
          rfl
        rw [this] at hdj
        simp at hdj

abbrev Seq := List (Nat × Item)
def isEff : Item → Bool
  | .run ⟨_, _, .e _⟩ => true
  | _ => false
def isRun : Item → Bool
  | .run _ => true
  | _ => false
def runsOf (q : Seq) : List Nat := (q.filter fun x => isRun x.2).map (·.1)
def opSlots (oc : OpC) : List Nat := gSlots oc.g ++ oc.i.slots

def dstAt (ops : Array Oper) (i : Nat) : Option Nat := (ops[i]?).bind (·.dst)

/-- Each slot that an operation looks at: who writes it comes ahead of it, or behind it; nobody else. -/
def chkReads (B : List Nat) (ops : Array Oper) (i : Nat) (slots : List Nat) (strict : Bool) : Bool :=
  slots.all fun t => (List.range ops.size).all fun j => if dstAt ops j = some t then (j != i && (bef B i j || (!strict && bef B j i))) else true

/-- Behind an operation that acts: what looked at the store is asked once more. -/
def chkBehind (B : List Nat) (before : Seq) (e : Nat) (rest : Seq) : Bool :=
  before.all fun x => match x.2 with
    | .run ⟨_, _, .f fi⟩ => !fi.reader || bef B e x.1 || (rest.takeWhile fun y => !isEff y.2).any fun y => y.1 == x.1 && !isRun y.2
    | _ => true

def chkSeq (P : Program) (n : Nat) (B : List Nat) (ops : Array Oper) : Seq → Seq → Bool
  | _, [] => true
  | before, (i, x) :: rest =>
    (match x with
     | .run oc => (match ops[i]? with
       | some o => chkOp P n ops o oc && chkReads B ops i (opSlots oc) false
       | none => false) &&
       -- nothing that comes ahead of it comes behind it here; it was not there before
       (rest.all fun y => !(isRun y.2 && bef B i y.1)) && !(runsOf before).contains i && !bef B i i &&
       -- who acts ahead of it here comes ahead of it
       (before.all fun y => !isEff y.2 || bef B i y.1) &&
       (match oc.i with | .e _ => chkBehind B before i rest | .f _ => true)
     | .chk d g fi => (before.any fun y => y.1 == i && (match y.2 with | .run ⟨_, _, .f fi'⟩ => fi'.reader | _ => false)) && (match ops[i]? with
       | some o => chkOp P n ops o ⟨some d, g, .f fi⟩ && chkReads B ops i (opSlots ⟨some d, g, .f fi⟩) true
       | none => false)) &&
    chkSeq P n B ops (before ++ [(i, x)]) rest
def uniqDst (ops : Array Oper) : Bool :=
  (List.range ops.size).all fun i => (List.range ops.size).all fun j => i == j || (match dstAt ops i with | some t => decide (dstAt ops j ≠ some t) | none => true)

def chkDraw (P : Program) (n : Nat) (ops : Array Oper) (q : Seq) : Bool :=
  decide (ops.size = (runsOf q).length) && ((List.range ops.size).all fun i => (runsOf q).contains i) && uniqDst ops &&
  ((List.range ops.size).all fun i => match ops[i]? with | some o => (depsOf o).all fun d => decide (d < i) | none => false) &&
  chkSeq P n (befs ops.toList) ops [] q

end Go.VM

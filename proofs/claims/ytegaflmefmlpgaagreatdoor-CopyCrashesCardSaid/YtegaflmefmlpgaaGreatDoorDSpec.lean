/-
  What a disk's calls do, as functions of plain data. NEWPP
-/
import Derived.Test.YtegaflmefmlpgaaGreatDoorDGet
set_option linter.unusedVariables false
set_option linter.unusedSimpArgs false
namespace Go.VM
open Go Go.RowKit Go.Proofs

structure File where
  name : List UInt8
  p : List UInt8
  sure : Nat
structure DS where
  files : List File
  room : Int
  used : Int
  ops : Int
  arm : Int
  off : Bool
def Ent.file (e : Ent) : File := ⟨e.name, e.p, e.sure⟩
def Dk.abs (D : Dk) : DS := ⟨D.ents.map Ent.file, D.room, D.used, D.ops, D.arm, D.off⟩
def DS.begun (D : DS) : DS := { D with ops := IntKind.i64.wrap (D.ops + 1), arm := if D.arm > 0 then IntKind.i64.wrap (D.arm - 1) else D.arm, off := decide (D.arm > 0) && IntKind.i64.wrap (D.arm - 1) == 0 }
theorem abs_begun (D : Dk) : D.begun.abs = D.abs.begun := rfl
def findF (s : List UInt8) : List File → Option File
  | [] => none
  | x :: r => if x.name = s then some x else findF s r
def putF (x : File) : List File → List File
  | [] => [x]
  | y :: r => if y.name = x.name then x :: r else y :: putF x r
def delF (s : List UInt8) : List File → List File
  | [] => []
  | y :: r => if y.name = s then r else y :: delF s r
theorem findF_some {s : List UInt8} {e : Ent} {b : List Ent} (he : e.name = s) : ∀ {a : List Ent}, (∀ x ∈ a, x.name ≠ s) → findF s ((a ++ e :: b).map Ent.file) = some e.file
  | [], _ => by simp [findF, Ent.file, he]
  | x :: a, h => by
    have h1 : ¬ x.name = s := h x (by simp)
    have := findF_some (b := b) he (a := a) fun y hy => h y (by simp [hy])
    simpa [findF, Ent.file, h1] using this
theorem findF_none {s : List UInt8} : ∀ {l : List Ent}, (∀ x ∈ l, x.name ≠ s) → findF s (l.map Ent.file) = none
  | [], _ => rfl
  | x :: l, h => by
    have h1 : ¬ x.name = s := h x (by simp)
    have := findF_none (l := l) fun y hy => h y (by simp [hy])
    simpa [findF, Ent.file, h1] using this
theorem putF_some {s : List UInt8} {e e' : Ent} {b : List Ent} (he : e.name = s) (he' : e'.name = s) : ∀ {a : List Ent}, (∀ x ∈ a, x.name ≠ s) → putF e'.file ((a ++ e :: b).map Ent.file) = (a ++ e' :: b).map Ent.file
  | [], _ => by simp [putF, Ent.file, he, he']
  | x :: a, h => by
    have h1 : ¬ x.name = s := h x (by simp)
    have := putF_some (b := b) he he' (a := a) fun y hy => h y (by simp [hy])
    simpa [putF, Ent.file, h1, he'] using this
theorem putF_none {s : List UInt8} {e' : Ent} (he' : e'.name = s) : ∀ {l : List Ent}, (∀ x ∈ l, x.name ≠ s) → putF e'.file (l.map Ent.file) = (l ++ [e']).map Ent.file
  | [], _ => rfl
  | x :: l, h => by
    have h1 : ¬ x.name = s := h x (by simp)
    have := putF_none he' (l := l) fun y hy => h y (by simp [hy])
    simpa [putF, Ent.file, h1, he'] using this
theorem delF_some {s : List UInt8} {e : Ent} {b : List Ent} (he : e.name = s) : ∀ {a : List Ent}, (∀ x ∈ a, x.name ≠ s) → delF s ((a ++ e :: b).map Ent.file) = (a ++ b).map Ent.file
  | [], _ => by simp [delF, Ent.file, he]
  | x :: a, h => by
    have h1 : ¬ x.name = s := h x (by simp)
    have := delF_some (b := b) he (a := a) fun y hy => h y (by simp [hy])
    simpa [delF, Ent.file, h1] using this
theorem delF_none {s : List UInt8} : ∀ {l : List Ent}, (∀ x ∈ l, x.name ≠ s) → delF s (l.map Ent.file) = l.map Ent.file
  | [], _ => rfl
  | x :: l, h => by
    have h1 : ¬ x.name = s := h x (by simp)
    have := delF_none (l := l) fun y hy => h y (by simp [hy])
    simpa [delF, Ent.file, h1] using this

def DS.grow (D : DS) (s p : List UInt8) (fresh : Bool) : Int × DS :=
  if nameOk s = false then (1, D)
  else if D.off = true then (10, D)
  else if fresh = true ∧ (findF s D.files).isSome = true then (9, D)
  else if (p.length : Int) > D.room - D.used then (11, D)
  else
    let x := (findF s D.files).getD ⟨s, [], 0⟩
    (if D.begun.off = true then 10 else 0, { D.begun with files := putF { x with p := x.p ++ p } D.files, used := D.used + p.length })
theorem grow_off {D : DS} {s p : List UInt8} {fresh : Bool} (hn : nameOk s = true) (ho : D.off = true) : D.grow s p fresh = (10, D) := by
  unfold DS.grow; rw [if_neg (by simp [hn]), if_pos ho]
theorem grow_exists {D : DS} {s p : List UInt8} {fresh : Bool} (hn : nameOk s = true) (ho : D.off = false) (hf : fresh = true ∧ (findF s D.files).isSome = true) : D.grow s p fresh = (9, D) := by
  unfold DS.grow; rw [if_neg (by simp [hn]), if_neg (by simp [ho]), if_pos hf]
theorem grow_full {D : DS} {s p : List UInt8} {fresh : Bool} (hn : nameOk s = true) (ho : D.off = false) (hf : ¬ (fresh = true ∧ (findF s D.files).isSome = true)) (hc : (p.length : Int) > D.room - D.used) : D.grow s p fresh = (11, D) := by
  unfold DS.grow; rw [if_neg (by simp [hn]), if_neg (by simp [ho]), if_neg hf, if_pos hc]
theorem grow_done {D : DS} {s p : List UInt8} {fresh : Bool} (hn : nameOk s = true) (ho : D.off = false) (hf : ¬ (fresh = true ∧ (findF s D.files).isSome = true)) (hc : ¬ (p.length : Int) > D.room - D.used) :
    D.grow s p fresh = (if D.begun.off = true then 10 else 0, { D.begun with files := putF { ((findF s D.files).getD ⟨s, [], 0⟩) with p := ((findF s D.files).getD ⟨s, [], 0⟩).p ++ p } D.files, used := D.used + p.length }) := by
  unfold DS.grow; rw [if_neg (by simp [hn]), if_neg (by simp [ho]), if_neg hf, if_neg hc]
end Go.VM

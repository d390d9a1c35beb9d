/-
  What a packet is as an argument; closed facts of the program.
-/
import Derived.Test.YthgpedcldmlceaaVmTop
import Derived.Test.YthgpedcldmlceaaWBase
import Derived.Test.YthgpedcldmlceaaRows
set_option linter.unusedVariables false
set_option linter.unusedSimpArgs false
namespace Go.Proofs.Ythgpedcldmlceaa
open Go.VM Go.ChangeShapes Go.WideShapes Go.ChangeAt Go.RowKit

def pktTy : Ty := .field 1 (.int .i64) (.field 1 (.int .i64) (.field 1 (.slice 1 1 (.int .u8)) .fin))
theorem pkt_ty {c : List V} (h : HasTy pktTy c) : ∃ p, PktR c p ∧ p.data.length ≤ maxB := by
  obtain ⟨x1, y1, rfl, _, ⟨n1, rfl, _, _⟩, x2, y2, rfl, _, ⟨n2, rfl, _, _⟩, x3, y3, rfl, h3, h4, rfl⟩ := h
  obtain ⟨v, rfl⟩ := List.length_eq_one_iff.1 h3
  obtain ⟨bs, h5, h6⟩ := bytes_ty h4
  exact ⟨⟨n1, n2, bs⟩, ⟨v, rfl, h5⟩, Nat.le_trans h6 (by decide)⟩

theorem Try.own : ownKnob Try.prog.godebug = none := by kernel_rfl
theorem Try.laidOut : laidOutB Try.prog = true := by kernel_rfl

end Go.Proofs.Ythgpedcldmlceaa

/-
  What a call of a disk's script is as an argument.
-/
import Derived.Test.YtddjanglghgoeaaVmFin
import Derived.Test.YtddjanglghgoeaaDOff
set_option linter.unusedVariables false
set_option linter.unusedSimpArgs false
namespace Go.Proofs.Ytddjanglghgoeaa
open Go.VM Go.ChangeShapes Go.WideShapes Go.ChangeAt Go.RowKit

def dactTy : Ty := .field 1 (.int .u8) (.field 1 .str (.field 1 .str (.field 1 (.slice 1 1 (.int .u8)) (.field 1 (.int .i64) (.field 1 (.slice 1 8 (.int .i64)) .fin)))))
theorem dact_ty {c : List V} (h : HasTy dactTy c) : ∃ a : DAct, DActR c a ∧ a.Small := by
  obtain ⟨x1, y1, rfl, _, ⟨n1, rfl, h1, h2⟩, x2, y2, rfl, _, ⟨s2, rfl, h3⟩, x3, y3, rfl, _, ⟨s3, rfl, h4⟩, x4, y4, rfl, h5, h6, x5, y5, rfl, _, ⟨n5, rfl, h7, h8⟩, x6, y6, rfl, h9, h10, rfl⟩ := h
  obtain ⟨v4, rfl⟩ := List.length_eq_one_iff.1 h5
  obtain ⟨v6, rfl⟩ := List.length_eq_one_iff.1 h9
  obtain ⟨p, hp, hpl⟩ := bytes_ty h6
  obtain ⟨ks, t, rfl, ht, hkl, hk⟩ := ints_ty (by decide) h10
  obtain ⟨s2, rfl⟩ := mkS_of s2
  obtain ⟨s3, rfl⟩ := mkS_of s3
  have h1 : 0 ≤ n1 := h1
  have h2 : n1 ≤ 255 := h2
  have e : ((UInt8.ofNat n1.toNat).toNat : Int) = n1 := by simp; omega
  refine ⟨⟨UInt8.ofNat n1.toNat, s2, s3, p, n5, ks⟩, ⟨v4, _, t, ?_, hp, rfl, ht⟩, ⟨Nat.le_trans h3 (by decide), Nat.le_trans h4 (by decide), Nat.le_trans hpl (by decide), hkl, ⟨h7, h8⟩⟩⟩
  simp only [e, List.cons_append, List.nil_append, intsV]
end Go.Proofs.Ytddjanglghgoeaa

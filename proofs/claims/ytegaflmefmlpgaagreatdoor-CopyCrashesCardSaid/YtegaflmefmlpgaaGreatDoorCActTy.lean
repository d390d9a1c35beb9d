/-
  What a script of calls of a copy is as an argument.
-/
import Derived.Test.YtegaflmefmlpgaaGreatDoorCTy
import Derived.Test.YtegaflmefmlpgaaGreatDoorVmBulk
import Derived.Test.YtegaflmefmlpgaaGreatDoorCStep
set_option linter.unusedVariables false
set_option linter.unusedSimpArgs false
namespace Go.Proofs.YtegaflmefmlpgaaGreatDoor
open Go.VM Go.ChangeShapes Go.WideShapes Go.ChangeAt Go.RowKit

def ty_l16_Act : Ty := .field 1 (.int .u8) (.field 1 (.int .u64) (.field 4 ty_api_Op (.field 1 (.slice 4 48 ty_api_Op) .fin)))
theorem act_ty {c : List V} (h : HasTy ty_l16_Act c) : ∃ a : CAct, CActR c a ∧ True := by
  obtain ⟨x1, y1, rfl, _, ⟨n1, rfl, h1, h2⟩, x2, y2, rfl, _, ⟨n2, rfl, h3, h4⟩, x3, y3, rfl, _, h5, x4, y4, rfl, h6, h7, rfl⟩ := h
  obtain ⟨o, rfl, ho⟩ := op_ty h5
  obtain ⟨v4, rfl⟩ := List.length_eq_one_iff.1 h6
  obtain ⟨L, t, rfl, ht, hl, hL⟩ := ops_arg h7
  have h1 : 0 ≤ n1 := h1
  have h2 : n1 ≤ 255 := h2
  have h3 : 0 ≤ n2 := h3
  have h4 : n2 ≤ 18446744073709551615 := h4
  have e1 : ((n1.toNat : Nat) : Int) = n1 := by omega
  have e2 : ((n2.toNat : Nat) : Int) = n2 := by omega
  refine ⟨⟨n1.toNat, n2.toNat, o, L⟩, ⟨t, ?_, ht, ⟨by simp only; omega, by simp only; omega, ho, hL⟩, hl⟩, trivial⟩
  simp only [CAct.v, Go.VM.Op.v, Dc.v, e1, e2, List.cons_append, List.nil_append, List.append_nil]
theorem acts_arg {v : V} (h : ArgTy (.slice 7 88 ty_l16_Act) v) : ∃ (A : List CAct) (t : Tok), IsSlice CActR 7 v A t ∧ A.length ≤ 1000000000000000 := by
  obtain ⟨A, t, h1, _, h2⟩ := slice_ty (e := ty_l16_Act) (R := CActR) (B := fun _ => True) (fun c => act_ty) h
  have hr : reachBytes ≤ 1000000000000000 := by decide
  exact ⟨A, t, h1, by omega⟩
theorem act_arg {v : V} (h : ArgTy ty_l16_Act v) : ∃ (a : CAct) (tl : Tok), v = .agg (a.v tl) ∧ (tl = .nil → a.l = []) ∧ a.Ok := by
  obtain ⟨cs, rfl, h⟩ : ∃ cs, v = .agg cs ∧ HasTy ty_l16_Act cs := h
  obtain ⟨a, ⟨tl, rfl, h1, h2, _⟩, _⟩ := act_ty h
  exact ⟨a, tl, rfl, h1, h2⟩
theorem op_argB {o : Go.VM.Op} {q : Nat} (h : ArgTyB q ty_api_Op (.agg o.v)) : o.d.id.length ≤ q ∧ o.d.tx.length ≤ q := by
  obtain ⟨cs, e, h⟩ : ∃ cs, V.agg o.v = .agg cs ∧ HasTyB q ty_api_Op cs := h
  injection e with e
  subst e
  obtain ⟨x1, y1, e1, l1, _, x2, y2, rfl, l2, ⟨x3, y3, rfl, l3, ⟨s3, rfl, h3⟩, x4, y4, rfl, l4, _, x5, y5, rfl, l5, ⟨s5, rfl, h5⟩, _⟩, _⟩ := h
  obtain ⟨v1, rfl⟩ := List.length_eq_one_iff.1 l1
  obtain ⟨v4, rfl⟩ := List.length_eq_one_iff.1 l4
  simp only [Go.VM.Op.v, Dc.v, List.cons_append, List.nil_append, List.append_nil, List.cons.injEq, V.str.injEq] at e1
  obtain ⟨_, rfl, _, rfl, _⟩ := e1
  exact ⟨h3, h5⟩
end Go.Proofs.YtegaflmefmlpgaaGreatDoor

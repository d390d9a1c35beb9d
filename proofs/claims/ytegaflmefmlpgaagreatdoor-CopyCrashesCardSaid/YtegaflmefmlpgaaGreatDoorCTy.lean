/-
  What an entry is as an argument.
-/
import Derived.Test.YtegaflmefmlpgaaGreatDoorVmFin
import Derived.Test.YtegaflmefmlpgaaGreatDoorCAt
set_option linter.unusedVariables false
set_option linter.unusedSimpArgs false
namespace Go.Proofs.YtegaflmefmlpgaaGreatDoor
open Go.VM Go.ChangeShapes Go.WideShapes Go.ChangeAt Go.RowKit

def ty_api_Doc : Ty := .field 1 .str (.field 1 (.int .i64) (.field 1 .str .fin))
def ty_api_Op : Ty := .field 1 (.int .u64) (.field 3 ty_api_Doc .fin)
theorem op_ty {c : List V} (h : HasTy ty_api_Op c) : ∃ o : Go.VM.Op, c = o.v ∧ o.Ok := by
  obtain ⟨x1, y1, rfl, _, ⟨n1, rfl, h1, h2⟩, x2, y2, rfl, _, ⟨x3, y3, rfl, _, ⟨s3, rfl, h3⟩, x4, y4, rfl, _, ⟨n4, rfl, h4, h5⟩, x5, y5, rfl, _, ⟨s5, rfl, h6⟩, rfl⟩, rfl⟩ := h
  obtain ⟨s3, rfl⟩ := mkS_of s3
  obtain ⟨s5, rfl⟩ := mkS_of s5
  have h1 : 0 ≤ n1 := h1
  have h2 : n1 ≤ 18446744073709551615 := h2
  have h4 : -9223372036854775808 ≤ n4 := h4
  have h5 : n4 ≤ 9223372036854775807 := h5
  have e : ((n1.toNat : Nat) : Int) = n1 := by omega
  refine ⟨⟨n1.toNat, ⟨s3, n4, s5⟩⟩, ?_, ⟨by simp only; omega, ⟨h4, by simp only; omega, Nat.le_trans h3 (by decide), Nat.le_trans h6 (by decide)⟩⟩⟩
  simp only [Go.VM.Op.v, Dc.v, e, List.cons_append, List.nil_append, List.append_nil]
theorem op_arg {v : V} (h : ArgTy ty_api_Op v) : ∃ o : Go.VM.Op, v = .agg o.v ∧ o.Ok := by
  obtain ⟨cs, rfl, h⟩ : ∃ cs, v = .agg cs ∧ HasTy ty_api_Op cs := h
  obtain ⟨o, rfl, ho⟩ := op_ty h
  exact ⟨o, rfl, ho⟩
theorem ops_of : ∀ {M : List (List V)} {n : Nat}, (∀ c ∈ M, c.length = 4 ∧ HasTy ty_api_Op c) → ∃ L : List Go.VM.Op, M.flatten = L.flatMap Go.VM.Op.v ∧ L.length = M.length ∧ ∀ o ∈ L, o.Ok := by
  intro M n
  induction M with
  | nil => intro _; exact ⟨[], rfl, rfl, fun _ h => by cases h⟩
  | cons c M ih =>
    intro h
    obtain ⟨L, h1, h2, h3⟩ := ih fun c hc => h c (List.mem_cons_of_mem _ hc)
    obtain ⟨o, rfl, ho⟩ := op_ty (h c (by simp)).2
    refine ⟨o :: L, by simp [h1], by simp [h2], fun p hp => ?_⟩
    rcases List.mem_cons.1 hp with rfl | hp
    · exact ho
    · exact h3 p hp
theorem ops_arg {v : V} (h : ArgTy (.slice 4 48 ty_api_Op) v) : ∃ (L : List Go.VM.Op) (t : Tok), v = opsV L t ∧ (t = .nil → L = []) ∧ L.length ≤ 1000000000000000 ∧ ∀ o ∈ L, o.Ok := by
  obtain ⟨M, t, e, ht, hl, hM⟩ : HasTy (.slice 4 48 ty_api_Op) [v] := h
  injection e with e _
  subst e
  obtain ⟨L, h1, h2, h3⟩ := ops_of (n := 0) hM
  have hr : reachBytes ≤ 1000000000000000 := by decide
  refine ⟨L, t, by rw [opsV, ← h1, h2], fun e => ?_, by omega, h3⟩
  subst e
  rcases ht with ⟨_, rfl⟩ | ht
  · exact List.eq_nil_of_length_eq_zero (by simpa using h2)
  · cases ht
end Go.Proofs.YtegaflmefmlpgaaGreatDoor

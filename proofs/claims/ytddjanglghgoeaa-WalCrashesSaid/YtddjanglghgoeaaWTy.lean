/-
  What records are as an argument.
-/
import Derived.Test.YtddjanglghgoeaaVmFin
import Derived.Test.YtddjanglghgoeaaWScan
set_option linter.unusedVariables false
set_option linter.unusedSimpArgs false
namespace Go.Proofs.Ytddjanglghgoeaa
open Go.VM Go.ChangeShapes Go.WideShapes Go.ChangeAt Go.RowKit

theorem recs_arg {v : V} (h : ArgTy (.slice 1 24 (.slice 1 1 (.int .u8))) v) : ∃ (L : List (List UInt8)) (t : Tok), IsSlice BytesR 1 v L t ∧ L.length ≤ 1000000000000000 := by
  have h : HasTy (.slice 1 24 (.slice 1 1 (.int .u8))) [v] := h
  obtain ⟨L, t, h1, _, h2⟩ := slice_ty (R := BytesR) (B := fun _ => True) (fun c hc => by
    obtain ⟨M, tm, e, h3⟩ := id hc
    subst e
    obtain ⟨bs, hb, _⟩ := bytes_ty hc
    exact ⟨bs, ⟨_, rfl, hb⟩, trivial⟩) h
  have hr : reachBytes ≤ 1000000000000000 := by decide
  exact ⟨L, t, h1, by omega⟩
end Go.Proofs.Ytddjanglghgoeaa

/-
  DiskNames answers true, whatever it is asked.
-/
import Derived.Test.YtddjanglghgoeaaVmFin
import Derived.Test.YtddjanglghgoeaaDAbs
set_option linter.unusedVariables false
set_option linter.unusedSimpArgs false
namespace Go.Proofs.Ytddjanglghgoeaa
open Go.VM Go.ChangeShapes Go.WideShapes Go.ChangeAt Go.RowKit

set_option maxRecDepth 100000 in
theorem diskNames_lifted (os : Os) (started : os.Started) (H : Type) (enc : TypeId × Value → H) :
    ReturnsInHanded {} Try.checked os 3 .any (Rows.diskNamesSpec.pre6 enc Try.prog Try.f3 Rows.diskNamesRow.domain false) (Rows.diskNamesSpec.post enc Try.prog Try.f3 false true false false) := by
  refine returnsInHanded_of_change_sized (C := Try.checked) Try.own started (by kernel_rfl) Try.func3
    (ChangeSpec.witness6 (enc := enc) (C := Try.checked) false ⟨#[], #[.string ⟨#[]⟩], []⟩ 8 (by kernel_rfl) (by kernel_rfl) (by kernel_rfl) (by kernel_rfl)) ?_
  intro W base args ds gs before hval0 hW _ hw _
  have hval : ∀ (j : Nat) t v, Try.f3.params[j]? = some t → args[j]? = some v → Value.okWide Try.prog W .any base t v := hval0
  have hW' := hW
  obtain ⟨p, q, hA0, hV, rfl, hfz, hnd⟩ := hW
  have hA : DataW.TrodAll enc Try.prog W 0 (fun _ => true) true Try.f3.params.toList args.toList ds p := hA0
  rw [Try.params3] at hA hval
  obtain ⟨v0, d0, rfl, rfl, h0⟩ := trodAll_one hA
  obtain ⟨rfl, rfl⟩ := trodVars_none hV
  have hw0 : (DataW.weightsEach Try.prog (Try.f3.params.toList ++ []) ([d0] ++ [])).all (· ≤ reachBytes) = true := hw
  rw [List.append_nil, List.append_nil, Try.params3] at hw0
  have hw' : ∀ n ∈ DataW.weightsEach Try.prog [9] [d0], n ≤ reachBytes := fun n hn => by
    have := List.all_eq_true.1 hw0 n hn
    simpa using this
  simp only [DataW.weightsEach, List.append_nil, List.mem_append] at hw'
  obtain ⟨a0, r0, t0⟩ := open_arg (P := Try.prog) (ty := .str) (by kernel_rfl) (hval 0 9 v0 rfl rfl) h0 hw'
  obtain ⟨s, rfl, hs⟩ := str_arg t0
  refine (law_calls (P := Try.prog) (vs := [.str (mkS s)]) (us := [v0]) (diskNames_runs hs fun _ => rfl) ⟨_, _, rfl, r0, rfl⟩).mono fun e W' ⟨he, hb⟩ => ⟨_, he, ?_⟩
  exact post_true Try.laidOut (tb := 4) (by kernel_rfl) (by kernel_rfl) (by kernel_rfl) rfl hW' rfl hb

theorem diskNames_holds : Rows.DiskNamesSaid :=
  OpenClaim.holds_of_wide 3 Try.f3 rfl rfl rfl rfl rfl rfl rfl ⟨rfl, rfl, rfl, rfl, rfl⟩ rfl rfl rfl rfl rfl (by kernel_rfl) Try.func3 (by kernel_rfl)
    (of_decide_eq_true (by kernel_rfl)) (by unfold Func.isWrapper; first | (rw [if_pos (by decide +kernel)]; kernel_rfl) | (rw [if_neg (by decide +kernel)]; exact ⟨rfl, rfl⟩))
    (fun os started H enc _ => diskNames_lifted os started H enc)
#print axioms diskNames_holds
end Go.Proofs.Ytddjanglghgoeaa

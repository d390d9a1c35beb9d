/-
  WalAgain answers true, whatever it is asked.
-/
import Derived.Test.YtddjanglghgoeaaVmFin
import Derived.Test.YtddjanglghgoeaaWAgain
set_option linter.unusedVariables false
set_option linter.unusedSimpArgs false
namespace Go.Proofs.Ytddjanglghgoeaa
open Go.VM Go.ChangeShapes Go.WideShapes Go.ChangeAt Go.RowKit

set_option maxRecDepth 100000 in
theorem walAgain_lifted (os : Os) (started : os.Started) (H : Type) (enc : TypeId × Value → H) :
    ReturnsInHanded {} Try.checked os 11 .any (Rows.walAgainSpec.pre6 enc Try.prog Try.f11 Rows.walAgainRow.domain false) (Rows.walAgainSpec.post enc Try.prog Try.f11 false true false false) := by
  refine returnsInHanded_of_change_sized (C := Try.checked) Try.own started (by kernel_rfl) Try.func11
    (ChangeSpec.witness6 (enc := enc) (C := Try.checked) false ⟨#[], #[.slice none 0 0, .slice none 0 0, .slice none 0 0, .int .i64 0], []⟩ 8 (by kernel_rfl) (by kernel_rfl) (by kernel_rfl) (by kernel_rfl)) ?_
  intro W base args ds gs before hval0 hW _ hw _
  have hval : ∀ (j : Nat) t v, Try.f11.params[j]? = some t → args[j]? = some v → Value.okWide Try.prog W .any base t v := hval0
  have hW' := hW
  obtain ⟨p, q, hA0, hV, rfl, hfz, hnd⟩ := hW
  have hA : DataW.TrodAll enc Try.prog W 0 (fun _ => true) true Try.f11.params.toList args.toList ds p := hA0
  rw [Try.params11] at hA hval
  obtain ⟨v0, v1, v2, v3, d0, d1, d2, d3, p0, p1, p2, p3, rfl, rfl, rfl, h0, h1, h2, h3⟩ := trodAll_four hA
  obtain ⟨rfl, rfl⟩ := trodVars_none hV
  have hw0 : (DataW.weightsEach Try.prog (Try.f11.params.toList ++ []) ([d0, d1, d2, d3] ++ [])).all (· ≤ reachBytes) = true := hw
  rw [List.append_nil, List.append_nil, Try.params11] at hw0
  have hw' : ∀ n ∈ DataW.weightsEach Try.prog [24, 24, 24, 3] [d0, d1, d2, d3], n ≤ reachBytes := fun n hn => by
    have := List.all_eq_true.1 hw0 n hn
    simpa using this
  simp only [DataW.weightsEach, List.append_nil, List.mem_append] at hw'
  obtain ⟨a0, r0, t0⟩ := open_arg (P := Try.prog) (ty := (.slice 1 1 (.int .u8))) (by kernel_rfl) (hval 0 24 v0 rfl rfl) h0 (fun n hn => hw' n (.inl hn))
  obtain ⟨a1, r1, t1⟩ := open_arg (P := Try.prog) (ty := (.slice 1 1 (.int .u8))) (by kernel_rfl) (hval 1 24 v1 rfl rfl) h1 (fun n hn => hw' n (.inr (.inl hn)))
  obtain ⟨a2, r2, t2⟩ := open_arg (P := Try.prog) (ty := (.slice 1 1 (.int .u8))) (by kernel_rfl) (hval 2 24 v2 rfl rfl) h2 (fun n hn => hw' n (.inr (.inr (.inl hn))))
  obtain ⟨a3, r3, t3⟩ := open_arg (P := Try.prog) (ty := (.int .i64)) (by kernel_rfl) (hval 3 3 v3 rfl rfl) h3 (fun n hn => hw' n (.inr (.inr (.inr hn))))
  obtain ⟨a, ha, la⟩ := bytes_arg t0
  obtain ⟨b, hb', lb⟩ := bytes_arg t1
  obtain ⟨c, hc', lc⟩ := bytes_arg t2
  obtain ⟨k, rfl, _⟩ := int_arg t3
  refine (law_calls (P := Try.prog) (vs := [a0, a1, a2, .int .i64 k]) (us := [v0, v1, v2, v3]) (walAgain_runs ha hb' hc' la lb lc fun _ => rfl) ⟨_, _, rfl, r0, ⟨_, _, rfl, r1, ⟨_, _, rfl, r2, ⟨_, _, rfl, r3, rfl⟩⟩⟩⟩).mono fun e W' ⟨he, hb⟩ => ⟨_, he, ?_⟩
  exact post_true Try.laidOut (tb := 4) (by kernel_rfl) (by kernel_rfl) (by kernel_rfl) rfl hW' rfl hb

theorem walAgain_holds : Rows.WalAgainSaid :=
  OpenClaim.holds_of_wide 11 Try.f11 rfl rfl rfl rfl rfl rfl rfl ⟨rfl, rfl, rfl, rfl, rfl⟩ rfl rfl rfl rfl rfl (by kernel_rfl) Try.func11 (by kernel_rfl)
    (of_decide_eq_true (by kernel_rfl)) (by unfold Func.isWrapper; first | (rw [if_pos (by decide +kernel)]; kernel_rfl) | (rw [if_neg (by decide +kernel)]; exact ⟨rfl, rfl⟩))
    (fun os started H enc _ => walAgain_lifted os started H enc)
#print axioms walAgain_holds
end Go.Proofs.Ytddjanglghgoeaa

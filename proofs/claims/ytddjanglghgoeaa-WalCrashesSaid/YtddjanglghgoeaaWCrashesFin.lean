/-
  WalCrashes answers true, whatever it is asked.
-/
import Derived.Test.YtddjanglghgoeaaVmFin
import Derived.Test.YtddjanglghgoeaaWTy
import Derived.Test.YtddjanglghgoeaaWCrashes
set_option linter.unusedVariables false
set_option linter.unusedSimpArgs false
namespace Go.Proofs.Ytddjanglghgoeaa
open Go.VM Go.ChangeShapes Go.WideShapes Go.ChangeAt Go.RowKit

set_option maxRecDepth 100000 in
theorem walCrashes_lifted (os : Os) (started : os.Started) (H : Type) (enc : TypeId × Value → H) :
    ReturnsInHanded {} Try.checked os 14 .any (Rows.walCrashesSpec.pre6 enc Try.prog Try.f14 Rows.walCrashesRow.domain false) (Rows.walCrashesSpec.post enc Try.prog Try.f14 false true false false) := by
  refine returnsInHanded_of_change_sized (C := Try.checked) Try.own started (by kernel_rfl) Try.func14
    (ChangeSpec.witness6 (enc := enc) (C := Try.checked) false ⟨#[], #[.slice none 0 0, .slice none 0 0, .slice none 0 0, .int .u8 0, .slice none 0 0], []⟩ 8 (by kernel_rfl) (by kernel_rfl) (by kernel_rfl) (by kernel_rfl)) ?_
  intro W base args ds gs before hval0 hW _ hw _
  have hval : ∀ (j : Nat) t v, Try.f14.params[j]? = some t → args[j]? = some v → Value.okWide Try.prog W .any base t v := hval0
  have hW' := hW
  obtain ⟨p, q, hA0, hV, rfl, hfz, hnd⟩ := hW
  have hA : DataW.TrodAll enc Try.prog W 0 (fun _ => true) true Try.f14.params.toList args.toList ds p := hA0
  rw [Try.params14] at hA hval
  obtain ⟨v0, v1, v2, v3, v4, d0, d1, d2, d3, d4, p0, p1, p2, p3, p4, rfl, rfl, rfl, h0, h1, h2, h3, h4⟩ := trodAll_five hA
  obtain ⟨rfl, rfl⟩ := trodVars_none hV
  have hw0 : (DataW.weightsEach Try.prog (Try.f14.params.toList ++ []) ([d0, d1, d2, d3, d4] ++ [])).all (· ≤ reachBytes) = true := hw
  rw [List.append_nil, List.append_nil, Try.params14] at hw0
  have hw' : ∀ n ∈ DataW.weightsEach Try.prog [56, 56, 56, 5, 34] [d0, d1, d2, d3, d4], n ≤ reachBytes := fun n hn => by
    have := List.all_eq_true.1 hw0 n hn
    simpa using this
  simp only [DataW.weightsEach, List.append_nil, List.mem_append] at hw'
  obtain ⟨a0, r0, t0⟩ := open_arg (P := Try.prog) (ty := (.slice 1 24 (.slice 1 1 (.int .u8)))) (by kernel_rfl) (hval 0 56 v0 rfl rfl) h0 (fun n hn => hw' n (.inl hn))
  obtain ⟨a1, r1, t1⟩ := open_arg (P := Try.prog) (ty := (.slice 1 24 (.slice 1 1 (.int .u8)))) (by kernel_rfl) (hval 1 56 v1 rfl rfl) h1 (fun n hn => hw' n (.inr (.inl hn)))
  obtain ⟨a2, r2, t2⟩ := open_arg (P := Try.prog) (ty := (.slice 1 24 (.slice 1 1 (.int .u8)))) (by kernel_rfl) (hval 2 56 v2 rfl rfl) h2 (fun n hn => hw' n (.inr (.inr (.inl hn))))
  obtain ⟨a3, r3, t3⟩ := open_arg (P := Try.prog) (ty := (.int .u8)) (by kernel_rfl) (hval 3 5 v3 rfl rfl) h3 (fun n hn => hw' n (.inr (.inr (.inr (.inl hn)))))
  obtain ⟨a4, r4, t4⟩ := open_arg (P := Try.prog) (ty := (.slice 1 8 (.int .i64))) (by kernel_rfl) (hval 4 34 v4 rfl rfl) h4 (fun n hn => hw' n (.inr (.inr (.inr (.inr hn)))))
  obtain ⟨F, s0, i0, l0⟩ := recs_arg t0
  obtain ⟨G, s1, i1, l1⟩ := recs_arg t1
  obtain ⟨T, s2, i2, l2⟩ := recs_arg t2
  obtain ⟨n0, rfl, h1, h2⟩ := int_arg t3
  obtain ⟨n, rfl⟩ : ∃ n : Nat, n0 = (n : Int) := ⟨n0.toNat, by have : (0 : Int) ≤ n0 := h1; omega⟩
  have hn' : n ≤ 255 := by have : (n : Int) ≤ 255 := h2; omega
  obtain ⟨ks, kt, rfl, hk, _⟩ := ints_ty (by decide) t4
  refine (law_calls (P := Try.prog) (vs := [a0, a1, a2, .int .u8 n, intsV ks kt]) (us := [v0, v1, v2, v3, v4]) (walCrashes_runs hn' i0 i1 i2 l0 l1 l2 hk fun _ => rfl) ⟨_, _, rfl, r0, ⟨_, _, rfl, r1, ⟨_, _, rfl, r2, ⟨_, _, rfl, r3, ⟨_, _, rfl, r4, rfl⟩⟩⟩⟩⟩).mono fun e W' ⟨he, hb⟩ => ⟨_, he, ?_⟩
  exact post_true Try.laidOut (tb := 4) (by kernel_rfl) (by kernel_rfl) (by kernel_rfl) rfl hW' rfl hb

theorem walCrashes_holds : Rows.WalCrashesSaid :=
  OpenClaim.holds_of_wide 14 Try.f14 rfl rfl rfl rfl rfl rfl rfl ⟨rfl, rfl, rfl, rfl, rfl⟩ rfl rfl rfl rfl rfl (by kernel_rfl) Try.func14 (by kernel_rfl)
    (of_decide_eq_true (by kernel_rfl)) (by unfold Func.isWrapper; first | (rw [if_pos (by decide +kernel)]; kernel_rfl) | (rw [if_neg (by decide +kernel)]; exact ⟨rfl, rfl⟩))
    (fun os started H enc _ => walCrashes_lifted os started H enc)
#print axioms walCrashes_holds
end Go.Proofs.Ytddjanglghgoeaa

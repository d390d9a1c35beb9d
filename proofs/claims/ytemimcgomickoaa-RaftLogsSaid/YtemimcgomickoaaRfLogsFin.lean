/-
  RaftLogs answers true, whatever it is asked.
-/
import Derived.Test.YtemimcgomickoaaL12
set_option linter.unusedVariables false
set_option linter.unusedSimpArgs false
namespace Go.Proofs.Ytemimcgomickoaa
open Go.VM Go.ChangeShapes Go.WideShapes Go.ChangeAt Go.RowKit
set_option maxRecDepth 100000 in
theorem raftLogs_lifted (os : Os) (started : os.Started) (H : Type) (enc : TypeId × Value → H) :
  ReturnsInHanded {} Try.checked os 4 .any (Rows.raftLogsSpec.pre6 enc Try.prog Try.f4 Rows.raftLogsRow.domain false) (Rows.raftLogsSpec.post enc Try.prog Try.f4 false true false false) := by
 refine returnsInHanded_of_change_sized (C := Try.checked) Try.own started (by kernel_rfl) Try.func4
  (ChangeSpec.witness6 (enc := enc) (C := Try.checked) false ⟨#[], #[.int .u8 0, .slice none 0 0], []⟩ 8 (by kernel_rfl) (by kernel_rfl) (by kernel_rfl) (by kernel_rfl)) ?_
 intro W base args ds gs before hval0 hW _ hw _
 have hval : ∀ (j : Nat) t v, Try.f4.params[j]? = some t → args[j]? = some v → Value.okWide Try.prog W .any base t v := hval0
 have hW' := hW
 obtain ⟨p, q, hA0, hV, rfl, hfz, hnd⟩ := hW
 have hA : DataW.TrodAll enc Try.prog W 0 (fun _ => true) true Try.f4.params.toList args.toList ds p := hA0
 rw [Try.params4] at hA hval
 obtain ⟨v0, v1, d0, d1, p0, p1, rfl, rfl, rfl, h0, h1⟩ := trodAll_two hA
 obtain ⟨rfl, rfl⟩ := trodVars_none hV
 have hw0 : (DataW.weightsEach Try.prog (Try.f4.params.toList ++ []) ([d0, d1] ++ [])).all (· ≤ reachBytes) = true := hw
 rw [List.append_nil, List.append_nil, Try.params4] at hw0
 have hw' : ∀ n ∈ DataW.weightsEach Try.prog [5, 22] [d0, d1], n ≤ reachBytes := fun n hn => by
  have := List.all_eq_true.1 hw0 n hn
  simpa using this
 simp only [DataW.weightsEach, List.append_nil, List.mem_append] at hw'
 obtain ⟨a0, r0, t0⟩ := open_arg (P := Try.prog) (ty := (.int .u8)) (by kernel_rfl) (hval 0 5 v0 rfl rfl) h0 (fun n hn => hw' n (.inl hn))
 obtain ⟨a1, r1, t1⟩ := open_arg (P := Try.prog) (ty := (.slice 6 64 (.field 1 (.int .u8) (.field 1 (.int .u8) (.field 1 (.int .u16) (.field 1 (.int .u64) (.field 1 (.slice 1 1 (.int .u8)) (.field 1 (.slice 1 8 (.int .i64)) .fin)))))))) (by kernel_rfl) (hval 1 22 v1 rfl rfl) h1 (fun n hn => hw' n (.inr hn))
 obtain ⟨n0, rfl, h1, h2⟩ := int_arg t0
 obtain ⟨n, rfl⟩ : ∃ n : Nat, n0 = (n : Int) := ⟨n0.toNat, by have : (0 : Int) ≤ n0 := h1; omega⟩
 have h2' : (n : Int) ≤ 255 := h2
 obtain ⟨l, t, hl, hb, hlen⟩ := slice_ty (e := ractTy) (R := ActR) (B := fun q : AC × List Int => q.1.Ok) (fun c => ract_ty) t1
 refine (law_calls (P := Try.prog) (vs := [.int .u8 (n : Int), a1]) (us := [v0, v1]) (raftLogs_law (by omega) hl hb hlen fun _ => rfl) ⟨_, _, rfl, r0, ⟨_, _, rfl, r1, rfl⟩⟩).mono fun e W' ⟨he, hb⟩ => ⟨_, he, ?_⟩
 exact post_true Try.laidOut (tb := 4) (by kernel_rfl) (by kernel_rfl) (by kernel_rfl) rfl hW' rfl hb
theorem raftLogs_holds : Rows.RaftLogsSaid :=
 OpenClaim.holds_of_wide 4 Try.f4 rfl rfl rfl rfl rfl rfl rfl ⟨rfl, rfl, rfl, rfl, rfl⟩ rfl rfl rfl rfl rfl (by kernel_rfl) Try.func4 (by kernel_rfl)
  (of_decide_eq_true (by kernel_rfl)) (by unfold Func.isWrapper; first | (rw [if_pos (by decide +kernel)]; kernel_rfl) | (rw [if_neg (by decide +kernel)]; exact ⟨rfl, rfl⟩))
  (fun os started H enc _ => raftLogs_lifted os started H enc)
#print axioms raftLogs_holds
end Go.Proofs.Ytemimcgomickoaa

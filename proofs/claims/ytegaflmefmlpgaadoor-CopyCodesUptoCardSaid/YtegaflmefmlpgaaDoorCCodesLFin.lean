/-
  CopyCodes answers true, whatever it is asked: the row, and its tied card.
-/
import Derived.Test.YtegaflmefmlpgaaDoorVmBulk
import Derived.Test.YtegaflmefmlpgaaDoorCActTy
import Derived.Test.YtegaflmefmlpgaaDoorCRefP
import Derived.Test.YtegaflmefmlpgaaDoorCards
import Derived.Test.YtegaflmefmlpgaaDoorTie
import Derived.Deep.DeepHandedRow
import Derived.Lib.LaidTab
import Derived.SevenTiedAt
set_option linter.unusedVariables false
set_option linter.unusedSimpArgs false
namespace Go.Proofs.YtegaflmefmlpgaaDoor
open Go.VM Go.ChangeShapes Go.WideShapes Go.ChangeAt Go.RowKit

noncomputable def copyCodesWorld (os : Os) : World := { World.holding Tryd.prog os ⟨#[], #[], []⟩ with heap := ((((World.holding Tryd.prog os ⟨#[], #[], []⟩).heap.modify 0 fun | .cells _ t fr => .cells #[.int .u64 1, .int .u64 10, .int .u64 100, .int .u64 1000, .int .u64 10000, .int .u64 100000, .int .u64 1000000, .int .u64 10000000, .int .u64 100000000, .int .u64 1000000000, .int .u64 10000000000, .int .u64 100000000000, .int .u64 1000000000000, .int .u64 10000000000000, .int .u64 100000000000000, .int .u64 1000000000000000, .int .u64 10000000000000000, .int .u64 100000000000000000, .int .u64 1000000000000000000, .int .u64 10000000000000000000] t fr | o => o).modify 1 fun | .cells _ t fr => .cells #[.int .u8 0, .int .u8 1, .int .u8 28, .int .u8 2, .int .u8 29, .int .u8 14, .int .u8 24, .int .u8 3, .int .u8 30, .int .u8 22, .int .u8 20, .int .u8 15, .int .u8 25, .int .u8 17, .int .u8 4, .int .u8 8, .int .u8 31, .int .u8 27, .int .u8 13, .int .u8 23, .int .u8 21, .int .u8 19, .int .u8 16, .int .u8 7, .int .u8 26, .int .u8 12, .int .u8 18, .int .u8 6, .int .u8 11, .int .u8 5, .int .u8 10, .int .u8 9] t fr | o => o).modify 2 fun | .cells _ t fr => .cells #[.int .u8 0, .int .u8 1, .int .u8 56, .int .u8 2, .int .u8 57, .int .u8 49, .int .u8 28, .int .u8 3, .int .u8 61, .int .u8 58, .int .u8 42, .int .u8 50, .int .u8 38, .int .u8 29, .int .u8 17, .int .u8 4, .int .u8 62, .int .u8 47, .int .u8 59, .int .u8 36, .int .u8 45, .int .u8 43, .int .u8 51, .int .u8 22, .int .u8 53, .int .u8 39, .int .u8 33, .int .u8 30, .int .u8 24, .int .u8 18, .int .u8 12, .int .u8 5, .int .u8 63, .int .u8 55, .int .u8 48, .int .u8 27, .int .u8 60, .int .u8 41, .int .u8 37, .int .u8 16, .int .u8 46, .int .u8 35, .int .u8 44, .int .u8 21, .int .u8 52, .int .u8 32, .int .u8 23, .int .u8 11, .int .u8 54, .int .u8 26, .int .u8 40, .int .u8 15, .int .u8 34, .int .u8 20, .int .u8 31, .int .u8 10, .int .u8 25, .int .u8 14, .int .u8 19, .int .u8 9, .int .u8 13, .int .u8 8, .int .u8 7, .int .u8 6] t fr | o => o) }
theorem copyCodes_met (os : Os) : laidMet Tryd.prog Rows.copyCodesUptoRow.laid ((copyCodesWorld os).forCall (fun _ _ => 0) ⟨#[], #[.agg #[.int .u64 0, .string ⟨#[]⟩, .int .i64 0, .string ⟨#[]⟩], .slice none 0 0], []⟩).memory := laidMet_of_run' 8 (by kernel_rfl) (by kernel_rfl)
theorem copyCodes_reads (os : Os) {H : Type} (enc : TypeId × Value → H) : ∃ places, DataW.whole enc Tryd.prog ((copyCodesWorld os).forCall (fun _ _ => 0) ⟨#[], #[.agg #[.int .u64 0, .string ⟨#[]⟩, .int .i64 0, .string ⟨#[]⟩], .slice none 0 0], []⟩).memory Tryd.f6.params.toList Rows.copyCodesSpec.vars false #[Value.agg #[.int .u64 0, .string ⟨#[]⟩, .int .i64 0, .string ⟨#[]⟩], .slice none 0 0].toList 8 = some ([.agg [.lit (.int .u64 0), .agg [.lit (.string []), .lit (.int .i64 0), .lit (.string [])]], .nil], [], places) := ⟨[], by kernel_rfl⟩

set_option maxRecDepth 100000 in
theorem copyCodes_lifted (os : Os) (started : os.Started) (H : Type) (enc : TypeId × Value → H) (F : Stop.Interp) :
    ReturnsInHanded {} Tryd.checked os 6 .any ((Rows.OpenSpec.upto Rows.copyCodesSpec).preRow enc Tryd.prog Tryd.f6 Rows.copyCodesUptoRow.domain false Rows.copyCodesUptoRow.laid) (((Rows.OpenSpec.upto Rows.copyCodesSpec).at F).post enc Tryd.prog Tryd.f6 false true false false) := by
  obtain ⟨places, hx⟩ := copyCodes_reads os enc
  refine returnsInHanded_of_row (C := Tryd.checked) (s := (Rows.OpenSpec.upto Rows.copyCodesSpec)) Tryd.own started (by kernel_rfl) Tryd.func6
    (witness_row_at (enc := enc) (C := Tryd.checked) false (copyCodesWorld os) #[.agg #[.int .u64 0, .string ⟨#[]⟩, .int .i64 0, .string ⟨#[]⟩], .slice none 0 0] rfl (by kernel_rfl) (by kernel_rfl) (by kernel_rfl)
      (OpenSpec.preRow_of_cond 8 hx (by kernel_rfl) (fun k hk => by cases hk; kernel_rfl) (by kernel_rfl) (copyCodes_met os))) ?_
  intro W base args ds gs before hval0 hW _ hkk hw _ _ _
  have hval : ∀ (j : Nat) t v, Tryd.f6.params[j]? = some t → args[j]? = some v → Value.okWide Tryd.prog W .any base t v := hval0
  have hW' := hW
  obtain ⟨p, q, hA0, hV, rfl, hfz, hnd⟩ := hW
  have hA : DataW.TrodAll enc Tryd.prog W 0 (fun _ => true) true Tryd.f6.params.toList args.toList ds p := hA0
  rw [Tryd.params6] at hA hval
  obtain ⟨v0, v1, d0, d1, p0, p1, rfl, rfl, rfl, h0, h1⟩ := trodAll_two hA
  obtain ⟨rfl, rfl⟩ := trodVars_none hV
  have hw0 : (DataW.weightsEach Tryd.prog (Tryd.f6.params.toList ++ []) ([d0, d1] ++ [])).all (· ≤ reachBytes) = true := hw
  rw [List.append_nil, List.append_nil, Tryd.params6] at hw0
  have hw' : ∀ n ∈ DataW.weightsEach Tryd.prog [37, 32] [d0, d1], n ≤ reachBytes := fun n hn => by
    have := List.all_eq_true.1 hw0 n hn
    simpa using this
  simp only [DataW.weightsEach, List.append_nil, List.mem_append] at hw'
  obtain ⟨a0, r0, t0, b0⟩ := open_argB (P := Tryd.prog) (ty := ty_api_Op) (by kernel_rfl) (hval 0 37 v0 rfl rfl) h0 (fun n hn => hw' n (.inl hn))
  obtain ⟨a1, r1, t1, b1⟩ := open_argB (P := Tryd.prog) (ty := (.slice 1 1 (.int .u8))) (by kernel_rfl) (hval 1 32 v1 rfl rfl) h1 (fun n hn => hw' n (.inr hn))
  have hbulk : Rows.uptoBulkAll ([d0, d1] ++ []) ≤ 1048576 := of_decide_eq_true (hkk _ rfl)
  simp only [List.append_nil, Rows.uptoBulkAll] at hbulk
  have q0 := b0 1048576 (by omega)
  have q1 := b1 1048576 (by omega)
  obtain ⟨o, rfl, ho⟩ := op_arg t0
  obtain ⟨hi, hx⟩ := op_argB q0
  obtain ⟨bs, hbs, _⟩ := bytes_arg t1
  have lb := bytes_argB hbs q1
  refine (law_calls (P := Tryd.prog) (vs := [.agg o.v, a1]) (us := [v0, v1]) (copyCodes_runs ho (by omega) (by omega) hbs (by omega) fun _ => rfl) ⟨_, _, rfl, r0, ⟨_, _, rfl, r1, rfl⟩⟩).mono fun e W' ⟨he, hb⟩ => ⟨_, he, ?_⟩
  exact post_true Tryd.laidOut (tb := 4) (by kernel_rfl) (by kernel_rfl) (by kernel_rfl) rfl hW' rfl hb

theorem copyCodes_said : Rows.CopyCodesUptoSaid :=
  OpenClaim.holds_of_cond 6 Tryd.f6 rfl rfl rfl rfl rfl rfl rfl ⟨rfl, rfl, rfl, rfl, rfl⟩ rfl rfl rfl rfl rfl (by kernel_rfl) Tryd.func6 (by kernel_rfl)
    (of_decide_eq_true (by kernel_rfl)) (by unfold Func.isWrapper; first | (rw [if_pos (by decide +kernel)]; kernel_rfl) | (rw [if_neg (by decide +kernel)]; exact ⟨rfl, rfl⟩))
    (fun os started H enc _ F => by rw [OpenClaim.pre_eq_preRow]; exact copyCodes_lifted os started H enc F)
theorem copyCodes_plain (f : FuncId) (fn : Func) (hf : Tryd.pinned.checked.prog.funcNamed "fascine/fascinelaw16.CopyCodes" = some f) (hfn : Tryd.pinned.checked.prog.funcs[f]? = some fn) :
    false = Tryd.pinned.checked.prog.looks [] ∧ ∀ (j : Nat) t, fn.params[j]? = some t → Tryd.pinned.checked.prog.wantsStandIn t = false := by
  obtain rfl : f = 6 := Option.some.inj ((show Tryd.prog.funcNamed "fascine/fascinelaw16.CopyCodes" = some 6 by kernel_rfl).symm.trans hf) |>.symm
  obtain rfl : fn = Tryd.f6 := (Option.some.inj (Tryd.func6.symm.trans hfn)).symm
  refine ⟨by kernel_rfl, fun j t ht => ?_⟩
  rw [Tryd.params6] at ht
  have hm := Array.mem_of_getElem? ht
  simp only [List.mem_toArray, List.mem_cons, List.not_mem_nil, or_false] at hm
  rcases hm with rfl | rfl
  · exact (show Tryd.prog.wantsStandIn 37 = false by kernel_rfl)
  · exact (show Tryd.prog.wantsStandIn 32 = false by kernel_rfl)
theorem copyCodesUpto_holds : Rows.CopyCodesUptoCardSaid :=
  Claim7.holds_tied_plain_at .later [] _ _ _ _ copyCodes_said (fun _ h => by cases h) (by kernel_rfl) (fun _ h => by cases h) copyCodesUpto_row_tie rfl ⟨rfl, rfl⟩ (by kernel_rfl) rfl copyCodes_plain (by kernel_rfl)
#print axioms copyCodesUpto_holds
end Go.Proofs.YtegaflmefmlpgaaDoor

/-
  CopyCrashes answers true, whatever it is asked: the row, and its tied card.
-/
import Derived.Test.YtegaflmefmlpgaaGreatDoorVmFin
import Derived.Test.YtegaflmefmlpgaaGreatDoorCActTy
import Derived.Test.YtegaflmefmlpgaaGreatDoorCCrashes
import Derived.Test.YtegaflmefmlpgaaGreatDoorCards
import Derived.Test.YtegaflmefmlpgaaGreatDoorTie
import Derived.Deep.DeepHandedRow
import Derived.Lib.LaidTab
import Derived.SevenTiedAt
set_option linter.unusedVariables false
set_option linter.unusedSimpArgs false
namespace Go.Proofs.YtegaflmefmlpgaaGreatDoor
open Go.VM Go.ChangeShapes Go.WideShapes Go.ChangeAt Go.RowKit

noncomputable def copyCrashesWorld (os : Os) : World := { World.holding Tryz.prog os ⟨#[], #[], []⟩ with heap := ((((World.holding Tryz.prog os ⟨#[], #[], []⟩).heap.modify 0 fun | .cells _ t fr => .cells #[.int .u64 1, .int .u64 10, .int .u64 100, .int .u64 1000, .int .u64 10000, .int .u64 100000, .int .u64 1000000, .int .u64 10000000, .int .u64 100000000, .int .u64 1000000000, .int .u64 10000000000, .int .u64 100000000000, .int .u64 1000000000000, .int .u64 10000000000000, .int .u64 100000000000000, .int .u64 1000000000000000, .int .u64 10000000000000000, .int .u64 100000000000000000, .int .u64 1000000000000000000, .int .u64 10000000000000000000] t fr | o => o).modify 1 fun | .cells _ t fr => .cells #[.int .u8 0, .int .u8 1, .int .u8 28, .int .u8 2, .int .u8 29, .int .u8 14, .int .u8 24, .int .u8 3, .int .u8 30, .int .u8 22, .int .u8 20, .int .u8 15, .int .u8 25, .int .u8 17, .int .u8 4, .int .u8 8, .int .u8 31, .int .u8 27, .int .u8 13, .int .u8 23, .int .u8 21, .int .u8 19, .int .u8 16, .int .u8 7, .int .u8 26, .int .u8 12, .int .u8 18, .int .u8 6, .int .u8 11, .int .u8 5, .int .u8 10, .int .u8 9] t fr | o => o).modify 2 fun | .cells _ t fr => .cells #[.int .u8 0, .int .u8 1, .int .u8 56, .int .u8 2, .int .u8 57, .int .u8 49, .int .u8 28, .int .u8 3, .int .u8 61, .int .u8 58, .int .u8 42, .int .u8 50, .int .u8 38, .int .u8 29, .int .u8 17, .int .u8 4, .int .u8 62, .int .u8 47, .int .u8 59, .int .u8 36, .int .u8 45, .int .u8 43, .int .u8 51, .int .u8 22, .int .u8 53, .int .u8 39, .int .u8 33, .int .u8 30, .int .u8 24, .int .u8 18, .int .u8 12, .int .u8 5, .int .u8 63, .int .u8 55, .int .u8 48, .int .u8 27, .int .u8 60, .int .u8 41, .int .u8 37, .int .u8 16, .int .u8 46, .int .u8 35, .int .u8 44, .int .u8 21, .int .u8 52, .int .u8 32, .int .u8 23, .int .u8 11, .int .u8 54, .int .u8 26, .int .u8 40, .int .u8 15, .int .u8 34, .int .u8 20, .int .u8 31, .int .u8 10, .int .u8 25, .int .u8 14, .int .u8 19, .int .u8 9, .int .u8 13, .int .u8 8, .int .u8 7, .int .u8 6] t fr | o => o) }
theorem copyCrashes_met (os : Os) : laidMet Tryz.prog Rows.copyCrashesRow.laid ((copyCrashesWorld os).forCall (fun _ _ => 0) ⟨#[], #[.slice none 0 0, .int .u8 0, .agg #[.int .u8 0, .int .u64 0, .int .u64 0, .string ⟨#[]⟩, .int .i64 0, .string ⟨#[]⟩, .slice none 0 0], .slice none 0 0], []⟩).memory := laidMet_of_run' 8 (by kernel_rfl) (by kernel_rfl)
theorem copyCrashes_reads (os : Os) {H : Type} (enc : TypeId × Value → H) : ∃ places, DataW.whole enc Tryz.prog ((copyCrashesWorld os).forCall (fun _ _ => 0) ⟨#[], #[.slice none 0 0, .int .u8 0, .agg #[.int .u8 0, .int .u64 0, .int .u64 0, .string ⟨#[]⟩, .int .i64 0, .string ⟨#[]⟩, .slice none 0 0], .slice none 0 0], []⟩).memory Tryz.f4.params.toList Rows.copyCrashesSpec.vars false #[Value.slice none 0 0, .int .u8 0, .agg #[.int .u8 0, .int .u64 0, .int .u64 0, .string ⟨#[]⟩, .int .i64 0, .string ⟨#[]⟩, .slice none 0 0], .slice none 0 0].toList 8 = some ([.nil, .lit (.int .u8 0), .agg [.lit (.int .u8 0), .lit (.int .u64 0), .agg [.lit (.int .u64 0), .agg [.lit (.string []), .lit (.int .i64 0), .lit (.string [])]], .nil], .nil], [], places) := ⟨[], by kernel_rfl⟩

set_option maxRecDepth 100000 in
theorem copyCrashes_lifted (os : Os) (started : os.Started) (H : Type) (enc : TypeId × Value → H) (F : Stop.Interp) :
    ReturnsInHanded {} Tryz.checked os 4 .any ((OpenSpec.ofChange Rows.copyCrashesSpec).preRow enc Tryz.prog Tryz.f4 Rows.copyCrashesRow.domain false Rows.copyCrashesRow.laid) (((OpenSpec.ofChange Rows.copyCrashesSpec).at F).post enc Tryz.prog Tryz.f4 false true false false) := by
  obtain ⟨places, hx⟩ := copyCrashes_reads os enc
  refine returnsInHanded_of_row (C := Tryz.checked) (s := (OpenSpec.ofChange Rows.copyCrashesSpec)) Tryz.own started (by kernel_rfl) Tryz.func4
    (witness_row_at (enc := enc) (C := Tryz.checked) false (copyCrashesWorld os) #[.slice none 0 0, .int .u8 0, .agg #[.int .u8 0, .int .u64 0, .int .u64 0, .string ⟨#[]⟩, .int .i64 0, .string ⟨#[]⟩, .slice none 0 0], .slice none 0 0] rfl (by kernel_rfl) (by kernel_rfl) (by kernel_rfl)
      (OpenSpec.preRow_of_cond 8 hx (by kernel_rfl) (fun k hk => by cases hk) (by kernel_rfl) (copyCrashes_met os))) ?_
  intro W base args ds gs before hval0 hW _ hkk hw _ _ _
  have hval : ∀ (j : Nat) t v, Tryz.f4.params[j]? = some t → args[j]? = some v → Value.okWide Tryz.prog W .any base t v := hval0
  have hW' := hW
  obtain ⟨p, q, hA0, hV, rfl, hfz, hnd⟩ := hW
  have hA : DataW.TrodAll enc Tryz.prog W 0 (fun _ => true) true Tryz.f4.params.toList args.toList ds p := hA0
  rw [Tryz.params4] at hA hval
  obtain ⟨v0, v1, v2, v3, d0, d1, d2, d3, p0, p1, p2, p3, rfl, rfl, rfl, h0, h1, h2, h3⟩ := trodAll_four hA
  obtain ⟨rfl, rfl⟩ := trodVars_none hV
  have hw0 : (DataW.weightsEach Tryz.prog (Tryz.f4.params.toList ++ []) ([d0, d1, d2, d3] ++ [])).all (· ≤ reachBytes) = true := hw
  rw [List.append_nil, List.append_nil, Tryz.params4] at hw0
  have hw' : ∀ n ∈ DataW.weightsEach Tryz.prog [22, 5, 41, 47] [d0, d1, d2, d3], n ≤ reachBytes := fun n hn => by
    have := List.all_eq_true.1 hw0 n hn
    simpa using this
  simp only [DataW.weightsEach, List.append_nil, List.mem_append] at hw'
  obtain ⟨a0, r0, t0⟩ := open_arg (P := Tryz.prog) (ty := (.slice 7 88 ty_l16_Act)) (by kernel_rfl) (hval 0 22 v0 rfl rfl) h0 (fun n hn => hw' n (.inl hn))
  obtain ⟨a1, r1, t1⟩ := open_arg (P := Tryz.prog) (ty := (.int .u8)) (by kernel_rfl) (hval 1 5 v1 rfl rfl) h1 (fun n hn => hw' n (.inr (.inl hn)))
  obtain ⟨a2, r2, t2⟩ := open_arg (P := Tryz.prog) (ty := ty_l16_Act) (by kernel_rfl) (hval 2 41 v2 rfl rfl) h2 (fun n hn => hw' n (.inr (.inr (.inl hn))))
  obtain ⟨a3, r3, t3⟩ := open_arg (P := Tryz.prog) (ty := (.slice 1 8 (.int .i64))) (by kernel_rfl) (hval 3 47 v3 rfl rfl) h3 (fun n hn => hw' n (.inr (.inr (.inr hn))))
  obtain ⟨A, ta, hA, _⟩ := acts_arg t0
  obtain ⟨n0, rfl, h1, h2⟩ := int_arg t1
  obtain ⟨n, rfl⟩ : ∃ n : Nat, n0 = (n : Int) := ⟨n0.toNat, by have : (0 : Int) ≤ n0 := h1; omega⟩
  have hn' : n ≤ 255 := by have : (n : Int) ≤ 255 := h2; omega
  obtain ⟨a, tl, rfl, htl, hao⟩ := act_arg t2
  obtain ⟨ks, kt, rfl, hk, _⟩ := ints_ty (by decide) t3
  refine (law_calls (P := Tryz.prog) (vs := [a0, .int .u8 n, .agg (a.v tl), intsV ks kt]) (us := [v0, v1, v2, v3]) (copyCrashes_runs hA hn' hao htl hk fun _ => rfl) ⟨_, _, rfl, r0, ⟨_, _, rfl, r1, ⟨_, _, rfl, r2, ⟨_, _, rfl, r3, rfl⟩⟩⟩⟩).mono fun e W' ⟨he, hb⟩ => ⟨_, he, ?_⟩
  exact post_true Tryz.laidOut (tb := 4) (by kernel_rfl) (by kernel_rfl) (by kernel_rfl) rfl hW' rfl hb

theorem copyCrashes_said : Rows.CopyCrashesSaid :=
  OpenClaim.holds_of_cond 4 Tryz.f4 rfl rfl rfl rfl rfl rfl rfl ⟨rfl, rfl, rfl, rfl, rfl⟩ rfl rfl rfl rfl rfl (by kernel_rfl) Tryz.func4 (by kernel_rfl)
    (of_decide_eq_true (by kernel_rfl)) (by unfold Func.isWrapper; first | (rw [if_pos (by decide +kernel)]; kernel_rfl) | (rw [if_neg (by decide +kernel)]; exact ⟨rfl, rfl⟩))
    (fun os started H enc _ F => by rw [OpenClaim.pre_eq_preRow]; exact copyCrashes_lifted os started H enc F)
theorem copyCrashes_plain (f : FuncId) (fn : Func) (hf : Tryz.pinned.checked.prog.funcNamed "fascine/fascinelaw16.CopyCrashes" = some f) (hfn : Tryz.pinned.checked.prog.funcs[f]? = some fn) :
    false = Tryz.pinned.checked.prog.looks [] ∧ ∀ (j : Nat) t, fn.params[j]? = some t → Tryz.pinned.checked.prog.wantsStandIn t = false := by
  obtain rfl : f = 4 := Option.some.inj ((show Tryz.prog.funcNamed "fascine/fascinelaw16.CopyCrashes" = some 4 by kernel_rfl).symm.trans hf) |>.symm
  obtain rfl : fn = Tryz.f4 := (Option.some.inj (Tryz.func4.symm.trans hfn)).symm
  refine ⟨by kernel_rfl, fun j t ht => ?_⟩
  rw [Tryz.params4] at ht
  have hm := Array.mem_of_getElem? ht
  simp only [List.mem_toArray, List.mem_cons, List.not_mem_nil, or_false] at hm
  rcases hm with rfl | rfl | rfl | rfl
  · exact (show Tryz.prog.wantsStandIn 22 = false by kernel_rfl)
  · exact (show Tryz.prog.wantsStandIn 5 = false by kernel_rfl)
  · exact (show Tryz.prog.wantsStandIn 41 = false by kernel_rfl)
  · exact (show Tryz.prog.wantsStandIn 47 = false by kernel_rfl)
theorem copyCrashes_holds : Rows.CopyCrashesCardSaid :=
  Claim7.holds_tied_plain_at .later [] _ _ _ _ copyCrashes_said (fun _ h => by cases h) (by kernel_rfl) (fun _ h => by cases h) copyCrashes_row_tie rfl ⟨rfl, rfl⟩ (by kernel_rfl) rfl copyCrashes_plain (by kernel_rfl)
#print axioms copyCrashes_holds
end Go.Proofs.YtegaflmefmlpgaaGreatDoor

/-
  NodePatience answers true, whatever it is asked: the row, and its tied card.
-/
import Derived.Test.YthpiomallkidlaaGreatDoorJ04
import Derived.Test.YthpiomallkidlaaGreatDoorJ15
import Derived.LaidMore
import Derived.Deep.DeepLaidRun
import Derived.Deep.DeepWitnessRowRef
import Derived.Test.YthpiomallkidlaaGreatDoorCards
import Derived.Test.YthpiomallkidlaaGreatDoorTie
import Derived.Deep.DeepHandedRow
import Derived.Lib.LaidTab
import Derived.SevenTiedAt
set_option linter.unusedVariables false
set_option linter.unusedSimpArgs false
namespace Go.Proofs.YthpiomallkidlaaGreatDoor
open Go.VM Go.ChangeShapes Go.WideShapes Go.ChangeAt Go.RowKit
noncomputable def nodePatienceWorld (os : Os) : World := { World.doorLaid Tryz.prog 64 os with heap := (World.doorLaid Tryz.prog 64 os).heap.modify 6 fun | .cells _ t fr => .cells (Go.Pinned.utf8FirstZ.map fun (n : Nat) => Value.int .u8 (n : Int)).toArray t fr | o => o }
theorem nodePatience_met (os : Os) : laidMet Tryz.prog Rows.nodePatienceRow.laid ((nodePatienceWorld os).forCall (fun _ _ => 0) ⟨#[], #[.agg #[.string ⟨#[]⟩, .int .i64 0, .string ⟨#[]⟩], .int .u8 0], []⟩).memory := laidMet_of_run3 8 (by kernel_rfl) (by kernel_rfl) (by kernel_rfl)
theorem nodePatience_reads (os : Os) {H : Type} (enc : TypeId × Value → H) : ∃ places, DataW.whole enc Tryz.prog ((nodePatienceWorld os).forCall (fun _ _ => 0) ⟨#[], #[.agg #[.string ⟨#[]⟩, .int .i64 0, .string ⟨#[]⟩], .int .u8 0], []⟩).memory Tryz.f4.params.toList Rows.nodePatienceSpec.vars false #[Value.agg #[.string ⟨#[]⟩, .int .i64 0, .string ⟨#[]⟩], .int .u8 0].toList 8 = some ([.agg [.lit (.string []), .lit (.int .i64 0), .lit (.string [])], .lit (.int .u8 0)], [], places) := ⟨[], by kernel_rfl⟩
set_option maxRecDepth 100000 in
theorem nodePatience_lifted (os : Os) (started : os.Started) (H : Type) (enc : TypeId × Value → H) (F : Stop.Interp) :
  ReturnsInHanded {} Tryz.checked os 4 .any ((OpenSpec.ofChange Rows.nodePatienceSpec).preRow enc Tryz.prog Tryz.f4 Rows.nodePatienceRow.domain false Rows.nodePatienceRow.laid) (((OpenSpec.ofChange Rows.nodePatienceSpec).at F).post enc Tryz.prog Tryz.f4 false true false false) := by
 obtain ⟨places, hx⟩ := nodePatience_reads os enc
 refine returnsInHanded_of_row (C := Tryz.checked) (s := (OpenSpec.ofChange Rows.nodePatienceSpec)) Tryz.own started (by kernel_rfl) Tryz.func4
  (witness_row_atRef (enc := enc) (C := Tryz.checked) false (nodePatienceWorld os) #[.agg #[.string ⟨#[]⟩, .int .i64 0, .string ⟨#[]⟩], .int .u8 0] rfl (by kernel_rfl) (by kernel_rfl) (by kernel_rfl)
   (OpenSpec.preRow_of_cond 8 hx (by kernel_rfl) (fun k hk => by cases hk) (by kernel_rfl) (nodePatience_met os))) ?_
 intro W base args ds gs before hval0 hW _ hkk hw _ _ _
 have hval : ∀ (j : Nat) t v, Tryz.f4.params[j]? = some t → args[j]? = some v → Value.okWide Tryz.prog W .any base t v := hval0
 have hW' := hW
 obtain ⟨p, q, hA0, hV, rfl, hfz, hnd⟩ := hW
 have hA : DataW.TrodAll enc Tryz.prog W 0 (fun _ => true) true Tryz.f4.params.toList args.toList ds p := hA0
 rw [Tryz.params4] at hA hval
 obtain ⟨v0, v1, d0, d1, p0, p1, rfl, rfl, rfl, h0, h1⟩ := trodAll_two hA
 obtain ⟨rfl, rfl⟩ := trodVars_none hV
 have hw0 : (DataW.weightsEach Tryz.prog (Tryz.f4.params.toList ++ []) ([d0, d1] ++ [])).all (· ≤ reachBytes) = true := hw
 rw [List.append_nil, List.append_nil, Tryz.params4] at hw0
 have hw' : ∀ n ∈ DataW.weightsEach Tryz.prog [48, 5] [d0, d1], n ≤ reachBytes := fun n hn => by
  have := List.all_eq_true.1 hw0 n hn
  simpa using this
 simp only [DataW.weightsEach, List.append_nil, List.mem_append] at hw'
 obtain ⟨a0, r0, t0⟩ := open_arg (P := Tryz.prog) (ty := ty_api_Doc) (by kernel_rfl) (hval 0 48 v0 rfl rfl) h0 (fun n hn => hw' n (.inl hn))
 obtain ⟨a1, r1, t1⟩ := open_arg (P := Tryz.prog) (ty := (.int .u8)) (by kernel_rfl) (hval 1 5 v1 rfl rfl) h1 (fun n hn => hw' n (.inr hn))
 obtain ⟨d, rfl, hd⟩ := doc_arg t0
 obtain ⟨a1, rfl, h11, h12⟩ := int_arg t1
 obtain ⟨n1, rfl⟩ : ∃ n : Nat, a1 = (n : Int) := ⟨a1.toNat, by have : (0 : Int) ≤ a1 := h11; omega⟩
 have g1 : n1 ≤ 255 := by have : (n1 : Int) ≤ 255 := h12; omega
 refine (law_calls (P := Tryz.prog) (vs := [.agg d.v, .int .u8 n1]) (us := [v0, v1]) (patience_all hd g1) ⟨_, _, rfl, r0, ⟨_, _, rfl, r1, rfl⟩⟩).mono fun e W' ⟨he, hb⟩ => ⟨_, he, ?_⟩
 exact post_true Tryz.laidOut (tb := 4) (by kernel_rfl) (by kernel_rfl) (by kernel_rfl) rfl hW' rfl hb
theorem and_yes {a b : Bool} (ha : a = true) (hb : b = true) : (a && b) = true := by rw [ha, hb]; rfl
set_option maxHeartbeats 40000000 in
theorem nodePatience_closed : joinedFacts Tryz.pinned.checked.prog 4 Tryz.f4 ((OpenSpec.ofChange Rows.nodePatienceSpec)).bare Rows.nodePatienceRow = true := by
 unfold joinedFacts
 repeat' (with_reducible apply and_yes)
 all_goals (as_aux_lemma => kernel_rfl)
theorem nodePatience_said : Rows.NodePatienceSaid :=
 OpenClaim.holds_of_cond 4 Tryz.f4 rfl rfl rfl rfl rfl rfl rfl ⟨rfl, rfl, rfl, rfl, rfl⟩ rfl rfl rfl rfl rfl (by kernel_rfl) Tryz.func4 nodePatience_closed
  (of_decide_eq_true (by kernel_rfl)) (by unfold Func.isWrapper; first | (rw [if_pos (by decide +kernel)]; kernel_rfl) | (rw [if_neg (by decide +kernel)]; exact ⟨rfl, rfl⟩))
  (fun os started H enc _ F => by rw [OpenClaim.pre_eq_preRow]; exact nodePatience_lifted os started H enc F)
theorem nodePatience_plain (f : FuncId) (fn : Func) (hf : Tryz.pinned.checked.prog.funcNamed "fascine/fascinelaw20.NodePatience" = some f) (hfn : Tryz.pinned.checked.prog.funcs[f]? = some fn) :
  true = Tryz.pinned.checked.prog.looks [] ∧ ∀ (j : Nat) t, fn.params[j]? = some t → Tryz.pinned.checked.prog.wantsStandIn t = false := by
 obtain rfl : f = 4 := Option.some.inj ((show Tryz.prog.funcNamed "fascine/fascinelaw20.NodePatience" = some 4 by kernel_rfl).symm.trans hf) |>.symm
 obtain rfl : fn = Tryz.f4 := (Option.some.inj (Tryz.func4.symm.trans hfn)).symm
 refine ⟨by kernel_rfl, fun j t ht => ?_⟩
 rw [Tryz.params4] at ht
 have hm := Array.mem_of_getElem? ht
 simp only [List.mem_toArray, List.mem_cons, List.not_mem_nil, or_false] at hm
 rcases hm with rfl | rfl
 ·exact (show Tryz.prog.wantsStandIn 48 = false by kernel_rfl)
 ·exact (show Tryz.prog.wantsStandIn 5 = false by kernel_rfl)
theorem nodePatience_holds : Rows.NodePatienceCardSaid :=
 Claim7.holds_tied_plain_at .later [] _ _ _ _ nodePatience_said (fun _ h => by cases h) (by kernel_rfl) (fun _ h => by cases h) nodePatience_row_tie rfl ⟨rfl, rfl⟩ (by kernel_rfl) rfl nodePatience_plain (by kernel_rfl)
#print axioms nodePatience_holds
end Go.Proofs.YthpiomallkidlaaGreatDoor

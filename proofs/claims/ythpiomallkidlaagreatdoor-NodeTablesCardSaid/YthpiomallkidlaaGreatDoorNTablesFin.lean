/-
  NodeTables answers true, whatever it is asked: the row, and its tied card.
-/
import Derived.Test.YthpiomallkidlaaGreatDoorK04
import Derived.Test.YthpiomallkidlaaGreatDoorK25
import Derived.LaidMore
import Derived.Deep.DeepLaidRun
import Derived.Deep.DeepWitnessRowRef
import Derived.Test.YthpiomallkidlaaGreatDoorCards
import Derived.Test.YthpiomallkidlaaGreatDoorTie
import Derived.Deep.DeepHandedRow
import Derived.Lib.LaidTab
import Derived.SevenTiedAt
set_option linter.unusedVariables false
set_option linter.unusedSimpArgs false
namespace Go.Proofs.YthpiomallkidlaaGreatDoor
open Go.VM Go.ChangeShapes Go.WideShapes Go.ChangeAt Go.RowKit
noncomputable def nodeTablesWorld (os : Os) : World := { World.doorLaid Tryz.prog 64 os with heap := (World.doorLaid Tryz.prog 64 os).heap.modify 6 fun | .cells _ t fr => .cells (Go.Pinned.utf8FirstZ.map fun (n : Nat) => Value.int .u8 (n : Int)).toArray t fr | o => o }
theorem nodeTables_met (os : Os) : laidMet Tryz.prog Rows.nodeTablesRow.laid ((nodeTablesWorld os).forCall (fun _ _ => 0) ⟨#[], #[.int .u8 0, .int .u8 0, .int .u8 0, .int .u8 0], []⟩).memory := laidMet_of_run3 8 (by kernel_rfl) (by kernel_rfl) (by kernel_rfl)
theorem nodeTables_reads (os : Os) {H : Type} (enc : TypeId × Value → H) : ∃ places, DataW.whole enc Tryz.prog ((nodeTablesWorld os).forCall (fun _ _ => 0) ⟨#[], #[.int .u8 0, .int .u8 0, .int .u8 0, .int .u8 0], []⟩).memory Tryz.f3.params.toList Rows.nodeTablesSpec.vars false #[Value.int .u8 0, .int .u8 0, .int .u8 0, .int .u8 0].toList 8 = some ([.lit (.int .u8 0), .lit (.int .u8 0), .lit (.int .u8 0), .lit (.int .u8 0)], [], places) := ⟨[], by kernel_rfl⟩
set_option maxRecDepth 100000 in
theorem nodeTables_lifted (os : Os) (started : os.Started) (H : Type) (enc : TypeId × Value → H) (F : Stop.Interp) :
  ReturnsInHanded {} Tryz.checked os 3 .any ((OpenSpec.ofChange Rows.nodeTablesSpec).preRow enc Tryz.prog Tryz.f3 Rows.nodeTablesRow.domain false Rows.nodeTablesRow.laid) (((OpenSpec.ofChange Rows.nodeTablesSpec).at F).post enc Tryz.prog Tryz.f3 false true false false) := by
 obtain ⟨places, hx⟩ := nodeTables_reads os enc
 refine returnsInHanded_of_row (C := Tryz.checked) (s := (OpenSpec.ofChange Rows.nodeTablesSpec)) Tryz.own started (by kernel_rfl) Tryz.func3
  (witness_row_atRef (enc := enc) (C := Tryz.checked) false (nodeTablesWorld os) #[.int .u8 0, .int .u8 0, .int .u8 0, .int .u8 0] rfl (by kernel_rfl) (by kernel_rfl) (by kernel_rfl)
   (OpenSpec.preRow_of_cond 8 hx (by kernel_rfl) (fun k hk => by cases hk) (by kernel_rfl) (nodeTables_met os))) ?_
 intro W base args ds gs before hval0 hW _ hkk hw _ _ _
 have hval : ∀ (j : Nat) t v, Tryz.f3.params[j]? = some t → args[j]? = some v → Value.okWide Tryz.prog W .any base t v := hval0
 have hW' := hW
 obtain ⟨p, q, hA0, hV, rfl, hfz, hnd⟩ := hW
 have hA : DataW.TrodAll enc Tryz.prog W 0 (fun _ => true) true Tryz.f3.params.toList args.toList ds p := hA0
 rw [Tryz.params3] at hA hval
 obtain ⟨v0, v1, v2, v3, d0, d1, d2, d3, p0, p1, p2, p3, rfl, rfl, rfl, h0, h1, h2, h3⟩ := trodAll_four hA
 obtain ⟨rfl, rfl⟩ := trodVars_none hV
 have hw0 : (DataW.weightsEach Tryz.prog (Tryz.f3.params.toList ++ []) ([d0, d1, d2, d3] ++ [])).all (· ≤ reachBytes) = true := hw
 rw [List.append_nil, List.append_nil, Tryz.params3] at hw0
 have hw' : ∀ n ∈ DataW.weightsEach Tryz.prog [5, 5, 5, 5] [d0, d1, d2, d3], n ≤ reachBytes := fun n hn => by
  have := List.all_eq_true.1 hw0 n hn
  simpa using this
 simp only [DataW.weightsEach, List.append_nil, List.mem_append] at hw'
 obtain ⟨a0, r0, t0⟩ := open_arg (P := Tryz.prog) (ty := (.int .u8)) (by kernel_rfl) (hval 0 5 v0 rfl rfl) h0 (fun n hn => hw' n (.inl hn))
 obtain ⟨a1, r1, t1⟩ := open_arg (P := Tryz.prog) (ty := (.int .u8)) (by kernel_rfl) (hval 1 5 v1 rfl rfl) h1 (fun n hn => hw' n (.inr (.inl hn)))
 obtain ⟨a2, r2, t2⟩ := open_arg (P := Tryz.prog) (ty := (.int .u8)) (by kernel_rfl) (hval 2 5 v2 rfl rfl) h2 (fun n hn => hw' n (.inr (.inr (.inl hn))))
 obtain ⟨a3, r3, t3⟩ := open_arg (P := Tryz.prog) (ty := (.int .u8)) (by kernel_rfl) (hval 3 5 v3 rfl rfl) h3 (fun n hn => hw' n (.inr (.inr (.inr hn))))
 obtain ⟨a0, rfl, h01, h02⟩ := int_arg t0
 obtain ⟨a1, rfl, h11, h12⟩ := int_arg t1
 obtain ⟨a2, rfl, h21, h22⟩ := int_arg t2
 obtain ⟨a3, rfl, h31, h32⟩ := int_arg t3
 obtain ⟨n0, rfl⟩ : ∃ n : Nat, a0 = (n : Int) := ⟨a0.toNat, by have : (0 : Int) ≤ a0 := h01; omega⟩
 obtain ⟨n1, rfl⟩ : ∃ n : Nat, a1 = (n : Int) := ⟨a1.toNat, by have : (0 : Int) ≤ a1 := h11; omega⟩
 obtain ⟨n2, rfl⟩ : ∃ n : Nat, a2 = (n : Int) := ⟨a2.toNat, by have : (0 : Int) ≤ a2 := h21; omega⟩
 obtain ⟨n3, rfl⟩ : ∃ n : Nat, a3 = (n : Int) := ⟨a3.toNat, by have : (0 : Int) ≤ a3 := h31; omega⟩
 have g0 : n0 ≤ 255 := by have : (n0 : Int) ≤ 255 := h02; omega
 have g1 : n1 ≤ 255 := by have : (n1 : Int) ≤ 255 := h12; omega
 have g2 : n2 ≤ 255 := by have : (n2 : Int) ≤ 255 := h22; omega
 have g3 : n3 ≤ 255 := by have : (n3 : Int) ≤ 255 := h32; omega
 refine (law_calls (P := Tryz.prog) (vs := [.int .u8 n0, .int .u8 n1, .int .u8 n2, .int .u8 n3]) (us := [v0, v1, v2, v3]) (nodeTables_all g0 g1 g2 g3) ⟨_, _, rfl, r0, ⟨_, _, rfl, r1, ⟨_, _, rfl, r2, ⟨_, _, rfl, r3, rfl⟩⟩⟩⟩).mono fun e W' ⟨he, hb⟩ => ⟨_, he, ?_⟩
 exact post_true Tryz.laidOut (tb := 4) (by kernel_rfl) (by kernel_rfl) (by kernel_rfl) rfl hW' rfl hb
theorem and_yes {a b : Bool} (ha : a = true) (hb : b = true) : (a && b) = true := by rw [ha, hb]; rfl
set_option maxHeartbeats 40000000 in
theorem nodeTables_closed : joinedFacts Tryz.pinned.checked.prog 3 Tryz.f3 ((OpenSpec.ofChange Rows.nodeTablesSpec)).bare Rows.nodeTablesRow = true := by
 unfold joinedFacts
 repeat' (with_reducible apply and_yes)
 all_goals (as_aux_lemma => kernel_rfl)
theorem nodeTables_said : Rows.NodeTablesSaid :=
 OpenClaim.holds_of_cond 3 Tryz.f3 rfl rfl rfl rfl rfl rfl rfl ⟨rfl, rfl, rfl, rfl, rfl⟩ rfl rfl rfl rfl rfl (by kernel_rfl) Tryz.func3 nodeTables_closed
  (of_decide_eq_true (by kernel_rfl)) (by unfold Func.isWrapper; first | (rw [if_pos (by decide +kernel)]; kernel_rfl) | (rw [if_neg (by decide +kernel)]; exact ⟨rfl, rfl⟩))
  (fun os started H enc _ F => by rw [OpenClaim.pre_eq_preRow]; exact nodeTables_lifted os started H enc F)
theorem nodeTables_plain (f : FuncId) (fn : Func) (hf : Tryz.pinned.checked.prog.funcNamed "fascine/fascinelaw20.NodeTables" = some f) (hfn : Tryz.pinned.checked.prog.funcs[f]? = some fn) :
  true = Tryz.pinned.checked.prog.looks [] ∧ ∀ (j : Nat) t, fn.params[j]? = some t → Tryz.pinned.checked.prog.wantsStandIn t = false := by
 obtain rfl : f = 3 := Option.some.inj ((show Tryz.prog.funcNamed "fascine/fascinelaw20.NodeTables" = some 3 by kernel_rfl).symm.trans hf) |>.symm
 obtain rfl : fn = Tryz.f3 := (Option.some.inj (Tryz.func3.symm.trans hfn)).symm
 refine ⟨by kernel_rfl, fun j t ht => ?_⟩
 rw [Tryz.params3] at ht
 have hm := Array.mem_of_getElem? ht
 simp only [List.mem_toArray, List.mem_cons, List.not_mem_nil, or_false] at hm
 rcases hm with rfl | rfl | rfl | rfl
 ·exact (show Tryz.prog.wantsStandIn 5 = false by kernel_rfl)
 ·exact (show Tryz.prog.wantsStandIn 5 = false by kernel_rfl)
 ·exact (show Tryz.prog.wantsStandIn 5 = false by kernel_rfl)
 ·exact (show Tryz.prog.wantsStandIn 5 = false by kernel_rfl)
theorem nodeTables_holds : Rows.NodeTablesCardSaid :=
 Claim7.holds_tied_plain_at .later [] _ _ _ _ nodeTables_said (fun _ h => by cases h) (by kernel_rfl) (fun _ h => by cases h) nodeTables_row_tie rfl ⟨rfl, rfl⟩ (by kernel_rfl) rfl nodeTables_plain (by kernel_rfl)
#print axioms nodeTables_holds
end Go.Proofs.YthpiomallkidlaaGreatDoor

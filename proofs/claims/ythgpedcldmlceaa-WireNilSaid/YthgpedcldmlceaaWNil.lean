/-
  WireNil answers true, whatever the packet and the number.
-/
import Derived.Test.YthgpedcldmlceaaVmTop
import Derived.Test.YthgpedcldmlceaaWAwake
import Derived.Test.YthgpedcldmlceaaRows
set_option linter.unusedVariables false
set_option linter.unusedSimpArgs false
namespace Go.Proofs.Ythgpedcldmlceaa
open Go.VM Go.ChangeShapes Go.WideShapes Go.ChangeAt Go.RowKit

def pktTy : Ty := .field 1 (.int .i64) (.field 1 (.int .i64) (.field 1 (.slice 1 1 (.int .u8)) .fin))
theorem pkt_ty {c : List V} (h : HasTy pktTy c) : ∃ p, PktR c p ∧ p.data.length ≤ maxB := by
  obtain ⟨x1, y1, rfl, _, ⟨n1, rfl, _, _⟩, x2, y2, rfl, _, ⟨n2, rfl, _, _⟩, x3, y3, rfl, h3, h4, rfl⟩ := h
  obtain ⟨v, rfl⟩ := List.length_eq_one_iff.1 h3
  obtain ⟨bs, h5, h6⟩ := bytes_ty h4
  exact ⟨⟨n1, n2, bs⟩, ⟨v, rfl, h5⟩, Nat.le_trans h6 (by decide)⟩

theorem Try.own : ownKnob Try.prog.godebug = none := by kernel_rfl
theorem Try.laidOut : laidOutB Try.prog = true := by kernel_rfl

set_option maxRecDepth 100000 in
theorem wireNil_lifted (os : Os) (started : os.Started) (H : Type) (enc : TypeId × Value → H) :
    ReturnsInHanded {} Try.checked os 6 .any (Rows.wireNilSpec.pre6 enc Try.prog Try.f6 Rows.wireNilRow.domain false) (Rows.wireNilSpec.post enc Try.prog Try.f6 false true false false) := by
  refine returnsInHanded_of_change_sized (C := Try.checked) Try.own started (by kernel_rfl) Try.func6
    (ChangeSpec.witness6 (enc := enc) (C := Try.checked) false ⟨#[], #[.agg #[.int .i64 0, .int .i64 0, .slice none 0 0], .int .i64 0], []⟩ 8 (by kernel_rfl) (by kernel_rfl) (by kernel_rfl) (by kernel_rfl)) ?_
  intro W base args ds gs before hval0 hW _ hw _
  have hval : ∀ (j : Nat) t v, Try.f6.params[j]? = some t → args[j]? = some v → Value.okWide Try.prog W .any base t v := hval0
  have hW' := hW
  obtain ⟨p, q, hA0, hV, rfl, hfz, hnd⟩ := hW
  have hA : DataW.TrodAll enc Try.prog W 0 (fun _ => true) true Try.f6.params.toList args.toList ds p := hA0
  rw [Try.params6] at hA hval
  obtain ⟨v0, v1, d0, d1, p0, p1, rfl, rfl, rfl, h0, h1⟩ := trodAll_two hA
  obtain ⟨rfl, rfl⟩ := trodVars_none hV
  have hw0 : (DataW.weightsEach Try.prog (Try.f6.params.toList ++ []) ([d0, d1] ++ [])).all (· ≤ reachBytes) = true := hw
  rw [List.append_nil, List.append_nil, Try.params6] at hw0
  have hw' : ∀ n ∈ DataW.weightsEach Try.prog [29, 3] [d0, d1], n ≤ reachBytes := fun n hn => by
    have := List.all_eq_true.1 hw0 n hn
    simpa using this
  simp only [DataW.weightsEach, List.append_nil, List.mem_append] at hw'
  obtain ⟨a0, r0, t0⟩ := open_arg (P := Try.prog) (ty := pktTy) (by kernel_rfl) (hval 0 29 v0 rfl rfl) h0 (fun n hn => hw' n (.inl hn))
  obtain ⟨a1, r1, t1⟩ := open_arg (P := Try.prog) (ty := .int .i64) (by kernel_rfl) (hval 1 3 v1 rfl rfl) h1 (fun n hn => hw' n (.inr hn))
  obtain ⟨c, rfl, t0⟩ : ∃ cs, a0 = .agg cs ∧ HasTy pktTy cs := t0
  obtain ⟨k, e, _, _⟩ : ∃ n, [a1] = [.int .i64 n] ∧ _ := t1
  injection e with e _
  subst e
  obtain ⟨pk, hp, _⟩ := pkt_ty t0
  refine (law_calls (P := Try.prog) (vs := [.agg c, .int .i64 k]) (us := [v0, v1]) (wireNil_runs hp k fun _ => rfl) ⟨_, _, rfl, r0, _, _, rfl, r1, rfl⟩).mono fun e W' ⟨he, hb⟩ => ⟨_, he, ?_⟩
  exact post_true Try.laidOut (tb := 4) (by kernel_rfl) (by kernel_rfl) (by kernel_rfl) rfl hW' rfl hb

theorem wireNil_holds : Rows.WireNilSaid :=
  OpenClaim.holds_of_wide 6 Try.f6 rfl rfl rfl rfl rfl rfl rfl ⟨rfl, rfl, rfl, rfl, rfl⟩ rfl rfl rfl rfl rfl (by kernel_rfl) Try.func6 (by kernel_rfl)
    (of_decide_eq_true (by kernel_rfl)) (by unfold Func.isWrapper; first | (rw [if_pos (by decide +kernel)]; kernel_rfl) | (rw [if_neg (by decide +kernel)]; exact ⟨rfl, rfl⟩))
    (fun os started H enc _ => wireNil_lifted os started H enc)
#print axioms wireNil_holds
end Go.Proofs.Ythgpedcldmlceaa

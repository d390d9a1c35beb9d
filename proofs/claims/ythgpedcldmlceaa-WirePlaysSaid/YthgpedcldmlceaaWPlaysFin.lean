/-
  WirePlays answers true, whatever the calls.
-/
import Derived.Test.YthgpedcldmlceaaVmTop
import Derived.Test.YthgpedcldmlceaaWPlaysRun
import Derived.Test.YthgpedcldmlceaaWTy
set_option linter.unusedVariables false
set_option linter.unusedSimpArgs false
namespace Go.Proofs.Ythgpedcldmlceaa
open Go.VM Go.ChangeShapes Go.WideShapes Go.ChangeAt Go.RowKit

def actTy : Ty := .field 1 (.int .u8) (.field 3 pktTy (.field 1 (.int .i64) .fin))
theorem act_ty {c : List V} (h : HasTy actTy c) : ∃ a : VM.Act, ActR c a ∧ a.p.data.length ≤ maxB := by
  obtain ⟨x1, y1, rfl, _, ⟨n1, rfl, h1, h2⟩, x2, y2, rfl, _, hp, x3, y3, rfl, _, ⟨n3, rfl, _, _⟩, rfl⟩ := h
  obtain ⟨p, ⟨d, rfl, hd⟩, hb⟩ := pkt_ty hp
  have h1 : 0 ≤ n1 := h1
  have h2 : n1 ≤ 255 := h2
  refine ⟨(⟨UInt8.ofNat n1.toNat, p, n3⟩ : VM.Act), ⟨d, ?_, hd⟩, hb⟩
  have e : ((UInt8.ofNat n1.toNat).toNat : Int) = n1 := by simp; omega
  simp only [e, List.cons_append, List.nil_append]

set_option maxRecDepth 100000 in
theorem wirePlays_lifted (os : Os) (started : os.Started) (H : Type) (enc : TypeId × Value → H) :
    ReturnsInHanded {} Try.checked os 4 .any (Rows.wirePlaysSpec.pre6 enc Try.prog Try.f4 Rows.wirePlaysRow.domain false) (Rows.wirePlaysSpec.post enc Try.prog Try.f4 false true false false) := by
  refine returnsInHanded_of_change_sized (C := Try.checked) Try.own started (by kernel_rfl) Try.func4
    (ChangeSpec.witness6 (enc := enc) (C := Try.checked) false ⟨#[], #[.slice none 0 0], []⟩ 8 (by kernel_rfl) (by kernel_rfl) (by kernel_rfl) (by kernel_rfl)) ?_
  intro W base args ds gs before hval0 hW _ hw _
  have hval : ∀ (j : Nat) t v, Try.f4.params[j]? = some t → args[j]? = some v → Value.okWide Try.prog W .any base t v := hval0
  have hW' := hW
  obtain ⟨p, q, hA0, hV, rfl, hfz, hnd⟩ := hW
  have hA : DataW.TrodAll enc Try.prog W 0 (fun _ => true) true Try.f4.params.toList args.toList ds p := hA0
  rw [Try.params4] at hA hval
  obtain ⟨v0, d0, rfl, rfl, h0⟩ := trodAll_one hA
  obtain ⟨rfl, rfl⟩ := trodVars_none hV
  have hw0 : (DataW.weightsEach Try.prog (Try.f4.params.toList ++ []) ([d0] ++ [])).all (· ≤ reachBytes) = true := hw
  rw [List.append_nil, List.append_nil, Try.params4] at hw0
  have hw' : ∀ n ∈ DataW.weightsEach Try.prog [36] [d0], n ≤ reachBytes := fun n hn => by
    have := List.all_eq_true.1 hw0 n hn
    simpa using this
  simp only [DataW.weightsEach, List.append_nil] at hw'
  obtain ⟨a0, r0, t0⟩ := open_arg (P := Try.prog) (ty := .slice 5 56 actTy) (by kernel_rfl) (hval 0 36 v0 rfl rfl) h0 hw'
  obtain ⟨l, t, hl, hb, _⟩ := slice_ty (R := ActR) (B := fun a => a.p.data.length ≤ maxB) (fun c => act_ty) t0
  refine (law_calls (P := Try.prog) (vs := [a0]) (us := [v0]) (wirePlays_runs hl hb fun _ => rfl) ⟨_, _, rfl, r0, rfl⟩).mono fun e W' ⟨he, hb⟩ => ⟨_, he, ?_⟩
  exact post_true Try.laidOut (tb := 4) (by kernel_rfl) (by kernel_rfl) (by kernel_rfl) rfl hW' rfl hb

theorem wirePlays_holds : Rows.WirePlaysSaid :=
  OpenClaim.holds_of_wide 4 Try.f4 rfl rfl rfl rfl rfl rfl rfl ⟨rfl, rfl, rfl, rfl, rfl⟩ rfl rfl rfl rfl rfl (by kernel_rfl) Try.func4 (by kernel_rfl)
    (of_decide_eq_true (by kernel_rfl)) (by unfold Func.isWrapper; first | (rw [if_pos (by decide +kernel)]; kernel_rfl) | (rw [if_neg (by decide +kernel)]; exact ⟨rfl, rfl⟩))
    (fun os started H enc _ => wirePlays_lifted os started H enc)
#print axioms wirePlays_holds
end Go.Proofs.Ythgpedcldmlceaa

/-
  awake of the node's laws, run by the kernel; and what is behind a call may be forgotten.
-/
import Derived.Test.YthpiomallkidlaaGreatDoorJ09
import Derived.Test.YthpiomallkidlaaGreatDoorJ10
import Derived.KernelRfl
set_option maxRecDepth 1000000
set_option linter.unusedVariables false
namespace Go.VM
open Go Go.Proofs
theorem RSim.lost {P : Program} {w0 : World} {f : FuncId} {args : List V} {S : St} {m : Nat} {Q : AEnd → St → Prop} (h : RSim P w0 f args S fun e S' => (∃ b, e = .ret (.bool b)) ∧ S'.n ≤ m ∧ Q e ⟨fun _ => none, m⟩) : RSim P w0 f args S Q :=
 ⟨h.1, fun g w us hW hr => (h.2 g w us hW hr).mono fun e w' ⟨g', S', e', a, b, c, ⟨x, hx⟩, hn, d⟩ => by
  subst hx
  refine ⟨{ g' with n := m }, ⟨fun _ => none, m⟩, .ret (.bool x), a.trans ⟨fun _ _ _ h => h, by rw [b.n]; exact hn, fun _ _ => rfl, Nat.le_refl _, fun _ _ => rfl⟩, ⟨b.below, b.nb, rfl, b.ice, fun i x hx => (nomatch hx), fun i j x y hx => (nomatch hx)⟩, ?_, d⟩
  cases e <;> exact c⟩
noncomputable def kAw : KX := fun v S => asBool v fun b => cnd b (Nat.ble S.n 1000) false
theorem awakeZ : zCall tabT.get primA 40 n_l20_awake [] ⟨Hp.nil, 0⟩ kAw = true := by kernel_rfl
theorem hpNil_st : (⟨Hp.nil, 0⟩ : CSt).st = St.empty := by
 unfold CSt.st St.empty
 congr 1
 funext i
 show cond (Nat.blt i 32768) (h5get Hp.nil i) none = none
 cases Nat.blt i 32768
 ·rfl
 ·show h5get (N8.all (N8.all (N8.all (N8.all (N8.all none))))) i = none
  unfold h5get
  cases h : Nat.blt i 32768
  ·have : zSel (α := N8 (N8 (N8 (N8 (Option AObj))))) (Nat.div i 4096) = ⟨fun n => n.a7⟩ ∨ True := .inr trivial
   generalize Nat.div i 4096 = q
   have q7 : ∀ {α : Type} (x : α) (k : Nat), (zSel k).f (N8.all x) = x := fun x k => by
    unfold zSel; split <;> rfl
   rw [q7, q7, q7, q7, q7]
  ·have q7 : ∀ {α : Type} (x : α) (k : Nat), (zSel k).f (N8.all x) = x := fun x k => by
    unfold zSel; split <;> rfl
   rw [q7, q7, q7, q7, q7]
theorem awake_runs {w0 : World} {Q : AEnd → St → Prop} (hQ : Q (.ret (.bool true)) ⟨fun _ => none, 1000⟩) : RSim Tryz.prog w0 n_l20_awake [] St.empty Q := by
 refine RSim.lost (m := 1000) ?_
 rw [← hpNil_st]
 refine z_runs tabT_ok (primA_ok w0) awakeZ fun v S' h => ?_
 replace h := asBool_ok h
 obtain ⟨b, rfl, h⟩ := h
 replace h := cond_f h
 obtain ⟨rfl, h⟩ := h
 exact ⟨⟨_, rfl⟩, ble_n h, hQ⟩
end Go.VM

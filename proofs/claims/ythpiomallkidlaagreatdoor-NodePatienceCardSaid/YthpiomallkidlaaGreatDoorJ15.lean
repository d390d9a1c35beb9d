/-
  NodePatience: any entry, any draw.
-/
import Derived.Test.YthpiomallkidlaaGreatDoorJ04
import Derived.Test.YthpiomallkidlaaGreatDoorJ13
import Derived.Test.YthpiomallkidlaaGreatDoorJ14
set_option maxRecDepth 20000
set_option linter.unusedVariables false
set_option linter.unusedSimpArgs false
namespace Go.VM
open Go Go.RowKit Go.Proofs
theorem RSim.weaken {P : Program} {w0 : World} {f : FuncId} {args args' : List V} {S : St} {Q : AEnd → St → Prop} (h : RSim P w0 f args' S Q) (hr : ∀ g us, RelL g args us → RelL g args' us) : RSim P w0 f args S Q :=
 ⟨h.1, fun g w us hW hu => h.2 g w us hW (hr g us hu)⟩
theorem pat_all : ∀ r, r < 10 → runPat r = true
 | 0, _ => pat0
 | 1, _ => pat1
 | 2, _ => pat2
 | 3, _ => pat3
 | 4, _ => pat4
 | 5, _ => pat5
 | 6, _ => pat6
 | 7, _ => pat7
 | 8, _ => pat8
 | 9, _ => pat9
 | n + 10, h => absurd h (by omega)
theorem patience_all {w0 : World} {d : Dc} (hd : d.Ok) {t : Nat} (ht : t ≤ 255) : RSim Tryz.prog w0 n_l20_NodePatience [.agg d.v, .int .u8 (t : Nat)] St.empty (fun e _ => e = .ret (.bool true)) := by
 have h0 : runPat (t % 10) = true := pat_all _ (Nat.mod_lt _ (by decide))
 unfold runPat at h0
 have h : RSim Tryz.prog w0 n_l20_NodePatience [.agg [.abs (.str 1000000000000000), .abs (.int .i64), .abs (.str 1000000000000000)], .abs (.res .u8 10 (t % 10) 255)] (⟨Hp.nil, 0⟩ : CSt).st (fun e _ => e = .ret (.bool true)) :=
  z_runs tabT_ok (primP_ok w0) h0 fun v S' h => by
   obtain ⟨b, rfl, hb⟩ := asBool_ok h
   subst hb
   rfl
 rw [hpNil_st] at h
 refine h.weaken fun g us hr => ?_
 obtain ⟨u, r, rfl, hu, hr⟩ := RelL_cons hr
 obtain ⟨u2, r2, rfl, hu2, hr2⟩ := RelL_cons hr
 obtain ⟨xs, rfl, hx, ho⟩ := hu
 obtain ⟨x0, r0, rfl, h0, hx⟩ := RelL_cons hx
 obtain ⟨x1, r1, rfl, h1, hx⟩ := RelL_cons hx
 obtain ⟨x2, r2, rfl, h2, hx⟩ := RelL_cons hx
 exact ⟨_, _, rfl, ⟨_, rfl, ⟨_, _, rfl, ⟨_, h0, by rw [mkS_size]; exact hd.id⟩, _, _, rfl, ⟨_, h1, w64 hd.lo hd.hi⟩, _, _, rfl, ⟨_, h2, by rw [mkS_size]; exact hd.tx⟩, hx⟩, ho⟩, _, _, rfl, ⟨t, hu2, ht, rfl⟩, hr2⟩
end Go.VM
namespace Go.Proofs.YthpiomallkidlaaGreatDoor
open Go.VM Go.ChangeShapes Go.WideShapes Go.ChangeAt Go.RowKit
def ty_api_Doc : Ty := .field 1 .str (.field 1 (.int .i64) (.field 1 .str .fin))
theorem doc_arg {v : V} (h : ArgTy ty_api_Doc v) : ∃ d : Go.VM.Dc, v = .agg d.v ∧ d.Ok := by
 obtain ⟨cs, rfl, h⟩ : ∃ cs, v = .agg cs ∧ HasTy ty_api_Doc cs := h
 obtain ⟨x3, y3, rfl, _, ⟨s3, rfl, h3⟩, x4, y4, rfl, _, ⟨n4, rfl, h4, h5⟩, x5, y5, rfl, _, ⟨s5, rfl, h6⟩, rfl⟩ := h
 obtain ⟨s3, rfl⟩ := mkS_of s3
 obtain ⟨s5, rfl⟩ := mkS_of s5
 have h4 : -9223372036854775808 ≤ n4 := h4
 have h5 : n4 ≤ 9223372036854775807 := h5
 exact ⟨⟨s3, n4, s5⟩, rfl, ⟨h4, by simp only; omega, Nat.le_trans h3 (by decide), Nat.le_trans h6 (by decide)⟩⟩
end Go.Proofs.YthpiomallkidlaaGreatDoor

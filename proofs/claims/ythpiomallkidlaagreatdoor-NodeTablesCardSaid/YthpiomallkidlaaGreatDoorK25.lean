/-
  Parts: NNtW, NQ.
-/
import Derived.Test.YthpiomallkidlaaGreatDoorK12
import Derived.Test.YthpiomallkidlaaGreatDoorK13
import Derived.Test.YthpiomallkidlaaGreatDoorK14
import Derived.Test.YthpiomallkidlaaGreatDoorK15
import Derived.Test.YthpiomallkidlaaGreatDoorK16
import Derived.Test.YthpiomallkidlaaGreatDoorK17
import Derived.Test.YthpiomallkidlaaGreatDoorK18
import Derived.Test.YthpiomallkidlaaGreatDoorK19
import Derived.Test.YthpiomallkidlaaGreatDoorK20
import Derived.Test.YthpiomallkidlaaGreatDoorK21
import Derived.Test.YthpiomallkidlaaGreatDoorK22
import Derived.Test.YthpiomallkidlaaGreatDoorK23
import Derived.Test.YthpiomallkidlaaGreatDoorK24
import Derived.KernelRfl
set_option maxRecDepth 1000000
set_option linter.unusedVariables false
set_option linter.unusedSimpArgs false
namespace Go.VM
open Go Go.Proofs Go.RowKit
theorem ntStore_st (n s cc : Nat) : (ntStore n s cc).st = ((⟨fun _ => none, 1000⟩ : St).add (.cells [iV 0, iV 0, iV 0, iV 0, iV 0, iV 0])).set 1000 (.cells [iV n, iV s, iV cc, iV 1, iV 2, iV 1048576]) := by
 have e : (⟨Hp.nil, 1000⟩ : CSt).st = ⟨fun _ => none, 1000⟩ := by
  have := hpNil_st
  unfold CSt.st St.empty at this
  injection this with h1 h2
  unfold CSt.st
  congr 1
 unfold ntStore
 rw [CSt.set_st rfl, CSt.add_st rfl, e]
theorem i8_conv {a : Nat} (h : a ≤ 255) (S : St) : V.conv S (.int .i64) (.int .u8 (a : Int)) = some (.int .i64 (a : Int)) := by
 simp only [V.conv, w64 (show (-9223372036854775808 : Int) ≤ (a : Int) by omega) (show (a : Int) < 9223372036854775808 by omega)]
theorem nodeTables_runs {w0 : World} {a b c d : Nat} (ha : a ≤ 255) (hb : b ≤ 255) (hc : c ≤ 255) (hd : d ≤ 255)
  (hall : okNT a b c d (a % 5 + 1) (b % 8 + 1) (c % (a % 5 + 1) + 1) (d % (a % 5 + 1)) = true) : RSim Tryz.prog w0 n_l20_NodeTables [.int .u8 a, .int .u8 b, .int .u8 c, .int .u8 d] St.empty (fun e _ => e = .ret (.bool true)) := by
 have c1 := i8_conv ha
 have c2 := i8_conv hb
 have c3 := i8_conv hc
 have c4 := i8_conv hd
 have m1 : (a : Int).tmod 5 = ((a % 5 : Nat) : Int) := by rw [Int.tmod_eq_emod_of_nonneg (by omega)]; omega
 have m2 : (b : Int).tmod 8 = ((b % 8 : Nat) : Int) := by rw [Int.tmod_eq_emod_of_nonneg (by omega)]; omega
 have p1 : IntKind.i64.wrap (1 + ((a % 5 : Nat) : Int)) = ((a % 5 + 1 : Nat) : Int) := by rw [w64 (by omega) (by omega)]; omega
 have p2 : IntKind.i64.wrap (1 + ((b % 8 : Nat) : Int)) = ((b % 8 + 1 : Nat) : Int) := by rw [w64 (by omega) (by omega)]; omega
 have z1 : (((a % 5 + 1 : Nat) : Int) = 0) = False := eq_false (by omega)
 generalize hn : a % 5 + 1 = n at *
 have hn5 : n ≤ 5 ∧ 1 ≤ n := by omega
 have m3 : (c : Int).tmod (n : Int) = ((c % n : Nat) : Int) := by rw [Int.tmod_eq_emod_of_nonneg (by omega)]; rfl
 have m4 : (d : Int).tmod (n : Int) = ((d % n : Nat) : Int) := by rw [Int.tmod_eq_emod_of_nonneg (by omega)]; rfl
 have l3 : c % n < n := Nat.mod_lt _ (by omega)
 have p3 : IntKind.i64.wrap (1 + ((c % n : Nat) : Int)) = ((c % n + 1 : Nat) : Int) := by rw [w64 (by omega) (by omega)]; omega
 refine RSim.run mixed k_l20_NodeTables ?_ (by simp)
 rw [ntSplit]
 simp only [go_sem]
 refine awake_runs ?_
 simp only [go_sem]
 refine wc_ite (b := false) (by simp only [go_sem] <;> rfl) (fun h => by cases h) (fun _ => ?_)
 simp only [go_sem, c1, c2, c3, c4, m1, m2, p1, p2, z1, m3, m4, p3]
 have e5 : a % 5 = Nat.pred n := by rw [← hn]; rfl
 rw [e5]
 have h2 : wCode (RSim Tryz.prog w0) restNT (Fr8 (ntSlots a b c d n (b % 8 + 1) (c % n + 1) (d % n))).den (ntStore n (b % 8 + 1) (c % n + 1)).st (resQ [RV.tmp 8] fun e x => e = AEnd.ret (V.bool true)) :=
  zC_sound (P := Tryz.prog) (w0 := w0) restNT (zCall tabT.get primT 40) (zCall_sound mixed tabT_ok (primT_ok w0) 40) _ _ _ _ hall fun e fr' S' h => by
   cases e with
   | normal => cases h
   | exit i => cases h
   | ret =>
    obtain ⟨q, e8, hq⟩ := asBool_ok (show asBool ((zGet 8).f fr') (fun b => b) = true from h)
    subst hq
    have e9 : fr'.den 8 = .bool true := e8
    simp only [AX.out, go_sem, e9]
 rw [Fr8_den rfl, ntStore_st] at h2
 exact h2
end Go.VM
namespace Go.VM
open Go Go.Proofs
theorem nq_all (a b c d : Int) : ∀ n s cc k : Nat, 1 ≤ n → n ≤ 5 → 1 ≤ s → s ≤ 8 → 1 ≤ cc → cc ≤ n → k < n → okNT a b c d n s cc k = true := by
 intro n s cc k h1 h2 h3 h4 h5 h6 hk
 refine okK_ok ?_ hk
 have hn : n = 1 ∨ n = 2 ∨ n = 3 ∨ n = 4 ∨ n = 5 := by omega
 have hs : s = 1 ∨ s = 2 ∨ s = 3 ∨ s = 4 ∨ s = 5 ∨ s = 6 ∨ s = 7 ∨ s = 8 := by omega
 rcases hn with rfl | rfl | rfl | rfl | rfl
 ·have hc : cc = 1 := by omega
  rcases hc with rfl <;> rcases hs with rfl | rfl | rfl | rfl | rfl | rfl | rfl | rfl
  ·exact (nq111 a b c d).ok
  ·exact (nq121 a b c d).ok
  ·exact (nq131 a b c d).ok
  ·exact (nq141 a b c d).ok
  ·exact (nq151 a b c d).ok
  ·exact (nq161 a b c d).ok
  ·exact (nq171 a b c d).ok
  ·exact (nq181 a b c d).ok
 ·have hc : cc = 1 ∨ cc = 2 := by omega
  rcases hc with rfl | rfl <;> rcases hs with rfl | rfl | rfl | rfl | rfl | rfl | rfl | rfl
  ·exact (nq211 a b c d).ok
  ·exact (nq221 a b c d).ok
  ·exact (nq231 a b c d).ok
  ·exact (nq241 a b c d).ok
  ·exact (nq251 a b c d).ok
  ·exact (nq261 a b c d).ok
  ·exact (nq271 a b c d).ok
  ·exact (nq281 a b c d).ok
  ·exact (nq212 a b c d).ok
  ·exact (nq222 a b c d).ok
  ·exact (nq232 a b c d).ok
  ·exact (nq242 a b c d).ok
  ·exact (nq252 a b c d).ok
  ·exact (nq262 a b c d).ok
  ·exact (nq272 a b c d).ok
  ·exact (nq282 a b c d).ok
 ·have hc : cc = 1 ∨ cc = 2 ∨ cc = 3 := by omega
  rcases hc with rfl | rfl | rfl <;> rcases hs with rfl | rfl | rfl | rfl | rfl | rfl | rfl | rfl
  ·exact (nq311 a b c d).ok
  ·exact (nq321 a b c d).ok
  ·exact (nq331 a b c d).ok
  ·exact (nq341 a b c d).ok
  ·exact (nq351 a b c d).ok
  ·exact (nq361 a b c d).ok
  ·exact (nq371 a b c d).ok
  ·exact (nq381 a b c d).ok
  ·exact (nq312 a b c d).ok
  ·exact (nq322 a b c d).ok
  ·exact (nq332 a b c d).ok
  ·exact (nq342 a b c d).ok
  ·exact (nq352 a b c d).ok
  ·exact (nq362 a b c d).ok
  ·exact (nq372 a b c d).ok
  ·exact (nq382 a b c d).ok
  ·exact (nq313 a b c d).ok
  ·exact (nq323 a b c d).ok
  ·exact (nq333 a b c d).ok
  ·exact (nq343 a b c d).ok
  ·exact (nq353 a b c d).ok
  ·exact (nq363 a b c d).ok
  ·exact (nq373 a b c d).ok
  ·exact (nq383 a b c d).ok
 ·have hc : cc = 1 ∨ cc = 2 ∨ cc = 3 ∨ cc = 4 := by omega
  rcases hc with rfl | rfl | rfl | rfl <;> rcases hs with rfl | rfl | rfl | rfl | rfl | rfl | rfl | rfl
  ·exact (nq411 a b c d).ok
  ·exact (nq421 a b c d).ok
  ·exact (nq431 a b c d).ok
  ·exact (nq441 a b c d).ok
  ·exact (nq451 a b c d).ok
  ·exact (nq461 a b c d).ok
  ·exact (nq471 a b c d).ok
  ·exact (nq481 a b c d).ok
  ·exact (nq412 a b c d).ok
  ·exact (nq422 a b c d).ok
  ·exact (nq432 a b c d).ok
  ·exact (nq442 a b c d).ok
  ·exact (nq452 a b c d).ok
  ·exact (nq462 a b c d).ok
  ·exact (nq472 a b c d).ok
  ·exact (nq482 a b c d).ok
  ·exact (nq413 a b c d).ok
  ·exact (nq423 a b c d).ok
  ·exact (nq433 a b c d).ok
  ·exact (nq443 a b c d).ok
  ·exact (nq453 a b c d).ok
  ·exact (nq463 a b c d).ok
  ·exact (nq473 a b c d).ok
  ·exact (nq483 a b c d).ok
  ·exact (nq414 a b c d).ok
  ·exact (nq424 a b c d).ok
  ·exact (nq434 a b c d).ok
  ·exact (nq444 a b c d).ok
  ·exact (nq454 a b c d).ok
  ·exact (nq464 a b c d).ok
  ·exact (nq474 a b c d).ok
  ·exact (nq484 a b c d).ok
 ·have hc : cc = 1 ∨ cc = 2 ∨ cc = 3 ∨ cc = 4 ∨ cc = 5 := by omega
  rcases hc with rfl | rfl | rfl | rfl | rfl <;> rcases hs with rfl | rfl | rfl | rfl | rfl | rfl | rfl | rfl
  ·exact (nq511 a b c d).ok
  ·exact (nq521 a b c d).ok
  ·exact (nq531 a b c d).ok
  ·exact (nq541 a b c d).ok
  ·exact (nq551 a b c d).ok
  ·exact (nq561 a b c d).ok
  ·exact (nq571 a b c d).ok
  ·exact (nq581 a b c d).ok
  ·exact (nq512 a b c d).ok
  ·exact (nq522 a b c d).ok
  ·exact (nq532 a b c d).ok
  ·exact (nq542 a b c d).ok
  ·exact (nq552 a b c d).ok
  ·exact (nq562 a b c d).ok
  ·exact (nq572 a b c d).ok
  ·exact (nq582 a b c d).ok
  ·exact (nq513 a b c d).ok
  ·exact (nq523 a b c d).ok
  ·exact (nq533 a b c d).ok
  ·exact (nq543 a b c d).ok
  ·exact (nq553 a b c d).ok
  ·exact (nq563 a b c d).ok
  ·exact (nq573 a b c d).ok
  ·exact (nq583 a b c d).ok
  ·exact (nq514 a b c d).ok
  ·exact (nq524 a b c d).ok
  ·exact (nq534 a b c d).ok
  ·exact (nq544 a b c d).ok
  ·exact (nq554 a b c d).ok
  ·exact (nq564 a b c d).ok
  ·exact (nq574 a b c d).ok
  ·exact (nq584 a b c d).ok
  ·exact (nq515 a b c d).ok
  ·exact (nq525 a b c d).ok
  ·exact (nq535 a b c d).ok
  ·exact (nq545 a b c d).ok
  ·exact (nq555 a b c d).ok
  ·exact (nq565 a b c d).ok
  ·exact (nq575 a b c d).ok
  ·exact (nq585 a b c d).ok
theorem nodeTables_all {w0 : World} {a b c d : Nat} (ha : a ≤ 255) (hb : b ≤ 255) (hc : c ≤ 255) (hd : d ≤ 255) : RSim Tryz.prog w0 n_l20_NodeTables [.int .u8 a, .int .u8 b, .int .u8 c, .int .u8 d] St.empty (fun e _ => e = .ret (.bool true)) :=
 nodeTables_runs ha hb hc hd (nq_all a b c d _ _ _ _ (by omega) (by omega) (by omega) (by omega) (by omega) (by have := Nat.mod_lt c (show 0 < a % 5 + 1 by omega); omega) (Nat.mod_lt _ (by omega)))
end Go.VM

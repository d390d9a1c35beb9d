/-
  The reference's ReadFrame.
  The reference's Scan. NEWPP
-/
import Derived.Test.YtddjanglghgoeaaWRefE
set_option maxRecDepth 20000
set_option linter.unusedVariables false
set_option linter.unusedSimpArgs false
namespace Go.VM
open Go Go.RowKit Go.Proofs

theorem refReadFrame_runs {w0 : World} {S : St} {Q : AEnd → St → Prop} {v : V} {bs : List UInt8} {p : Nat} (hv : IsBytes v bs) (hp : p ≤ bs.length) (hl : bs.length ≤ 100000000000000)
    (hQ : ∀ e S', readF (bs.drop p) = .inl e → Keeps (fun _ => False) S S' → Q (.ret (.tup [.sl [] 0 1 .nil, .int .i64 0, .int .i64 e])) S')
    (hQ' : ∀ q k S' v', readF (bs.drop p) = .inr (q, k) → IsBytes v' q → 7 ≤ k → p + k ≤ bs.length → Keeps (fun _ => False) S S' → Q (.ret (.tup [v', .int .i64 ((p + k : Nat) : Int), .int .i64 0])) S') :
    RSim Try.prog w0 n_r01_ReadFrame [v, .int .i64 p] S Q := by
  obtain ⟨t, rfl, ht⟩ := id hv
  have e1 : decide ((p : Int) > (bs.length : Int)) = false := decide_eq_false (by omega)
  have e0 : decide ((p : Int) < 0) = false := decide_eq_false (by omega)
  refine RSim.run mixed k_r01_ReadFrame ?_ (by simp)
  simp only [b_r01_ReadFrame, go_sem, Nat.reduceEqDiff, Nat.reduceAdd, Nat.reduceMul, Nat.reduceSub, Nat.reduceLeDiff, Int.reduceBEq, Int.reduceBNe, Int.reduceLT, Int.reduceLE, Int.reduceGT, Int.reduceGE, Int.reduceEq, ↓reduceIte, reduceCtorEq, e1, e0]
  refine wc_ite (b := false) (by simp only [go_sem, Nat.reduceEqDiff, Nat.reduceAdd, Nat.reduceMul, Nat.reduceSub, Nat.reduceLeDiff, Int.reduceBEq, Int.reduceBNe, Int.reduceLT, Int.reduceLE, Int.reduceGT, Int.reduceGE, Int.reduceEq, ↓reduceIte, reduceCtorEq] <;> rfl) (fun h => by cases h) (fun _ => ?_)
  have e2 : ((p : Int) == (bs.length : Int)) = decide (p = bs.length) := by rw [Bool.eq_iff_iff, beq_iff_eq, decide_eq_true_iff]; omega
  simp only [go_sem, Nat.reduceEqDiff, Nat.reduceAdd, Nat.reduceMul, Nat.reduceSub, Nat.reduceLeDiff, Int.reduceBEq, Int.reduceBNe, Int.reduceLT, Int.reduceLE, Int.reduceGT, Int.reduceGE, Int.reduceEq, ↓reduceIte, reduceCtorEq, e2]
  refine wc_ite (b := decide (p = bs.length)) (by simp only [go_sem, Nat.reduceEqDiff, Nat.reduceAdd, Nat.reduceMul, Nat.reduceSub, Nat.reduceLeDiff, Int.reduceBEq, Int.reduceBNe, Int.reduceLT, Int.reduceLE, Int.reduceGT, Int.reduceGE, Int.reduceEq, ↓reduceIte, reduceCtorEq]) (fun hc => ?_) (fun hc => ?_)
  · have := of_decide_eq_true hc
    have hq := hQ 8 S (by rw [List.drop_eq_nil_of_le (by omega)]; rfl) (Keeps.refl _ S)
    simp only [go_sem, Nat.reduceEqDiff, Nat.reduceAdd, Nat.reduceMul, Nat.reduceSub, Nat.reduceLeDiff, Int.reduceBEq, Int.reduceBNe, Int.reduceLT, Int.reduceLE, Int.reduceGT, Int.reduceGE, Int.reduceEq, ↓reduceIte, reduceCtorEq]
    exact hq
  have hlt : p < bs.length := by have := of_decide_eq_false hc; omega
  obtain ⟨b, hb⟩ : ∃ b, bs[p]? = some b := ⟨bs[p], List.getElem?_eq_getElem hlt⟩
  have hd : bs.drop p = b :: bs.drop (p + 1) := by
    rw [List.drop_eq_getElem_cons hlt]; congr 1
    rw [List.getElem?_eq_getElem hlt] at hb; injection hb
  rw [hd] at hQ hQ'
  have w1 : IntKind.i64.wrap ((p : Int) + 1) = ((p + 1 : Nat) : Int) := by rw [w64 (by omega) (by omega)]; omega
  have hb' := drop_get hb
  have hlt' : (p < bs.length) = True := eq_true hlt
  have htn : (t = .nil) = False := eq_false fun h => by rw [ht h] at hlt; simp at hlt
  have hbl := b.toNat_lt
  simp only [go_sem, Nat.reduceEqDiff, Nat.reduceAdd, Nat.reduceMul, Nat.reduceSub, Nat.reduceLeDiff, Int.reduceBEq, Int.reduceBNe, Int.reduceLT, Int.reduceLE, Int.reduceGT, Int.reduceGE, Int.reduceEq, ↓reduceIte, reduceCtorEq, w1]
  refine wi_call ?_
  simp only [go_sem, Nat.reduceEqDiff, Nat.reduceAdd, Nat.reduceMul, Nat.reduceSub, Nat.reduceLeDiff, Int.reduceBEq, Int.reduceBNe, Int.reduceLT, Int.reduceLE, Int.reduceGT, Int.reduceGE, Int.reduceEq, ↓reduceIte, reduceCtorEq]
  have neq : ∀ (x c : UInt8), ((x.toNat : Int) != (c.toNat : Int)) = decide (x ≠ c) := fun x c => by
    rw [Bool.eq_iff_iff, bne_iff_ne, decide_eq_true_iff]; constructor
    · intro h h'; exact h (by rw [h'])
    · intro h h'; exact h (UInt8.toNat_inj.mp (by omega))
  have q1 : ((b.toNat : Int) != 241) = decide (b ≠ 0xf1) := neq b 0xf1
  refine refReadUvarint_runs hv (by omega) (by omega) (fun n k S0 hr hn hk k0 => ?_) fun S0 hr k0 => ?_
  · have q2 : decide ((n : Int) > 65535) = decide (n > 65535) := decide_eq_decide.mpr (by omega)
    have hll : (bs.drop (p + 1)).length = bs.length - (p + 1) := List.length_drop
    have cv : n ≤ 65535 → ∀ S, V.conv S (.int .i64) (.int .u64 (n : Int)) = some (.int .i64 (n : Int)) := fun h S => by
      simp only [V.conv, w64 (show (-9223372036854775808 : Int) ≤ (n : Int) by omega) (show (n : Int) < 9223372036854775808 by omega)]
    have w2 : IntKind.i64.wrap ((bs.length : Int) - ((p + 1 + k : Nat) : Int)) = ((bs.length - (p + 1 + k) : Nat) : Int) := by rw [w64 (by omega) (by omega)]; omega
    have w3 : n ≤ 65535 → IntKind.i64.wrap ((n : Int) + 5) = ((n + 5 : Nat) : Int) := fun h => by rw [w64 (by omega) (by omega)]; omega
    have q3 : decide (((bs.length - (p + 1 + k) : Nat) : Int) < ((n + 5 : Nat) : Int)) = decide (bs.length < p + 1 + k + 5 + n) := decide_eq_decide.mpr (by omega)
    by_cases hb1 : b ≠ 0xf1
    · have hq := hQ 3 S0 (by simp only [readF, hr]; rw [if_pos (.inl hb1)]) k0
      have q1' := q1.trans (decide_eq_true hb1)
      simp only [go_sem, Nat.reduceEqDiff, Nat.reduceAdd, Nat.reduceMul, Nat.reduceSub, Nat.reduceLeDiff, Int.reduceBEq, Int.reduceBNe, Int.reduceLT, Int.reduceLE, Int.reduceGT, Int.reduceGE, Int.reduceEq, ↓reduceIte, reduceCtorEq, hlt', htn, hb', List.head?_cons, q1']
      refine wc_ite (b := true) (by simp only [go_sem, Nat.reduceEqDiff, Nat.reduceAdd, Nat.reduceMul, Nat.reduceSub, Nat.reduceLeDiff, Int.reduceBEq, Int.reduceBNe, Int.reduceLT, Int.reduceLE, Int.reduceGT, Int.reduceGE, Int.reduceEq, ↓reduceIte, reduceCtorEq] <;> rfl) (fun _ => ?_) (fun h => by cases h)
      simp only [go_sem, Nat.reduceEqDiff, Nat.reduceAdd, Nat.reduceMul, Nat.reduceSub, Nat.reduceLeDiff, Int.reduceBEq, Int.reduceBNe, Int.reduceLT, Int.reduceLE, Int.reduceGT, Int.reduceGE, Int.reduceEq, ↓reduceIte, reduceCtorEq]
      exact hq
    have q1' := q1.trans (decide_eq_false hb1)
    by_cases hb2 : n > 65535
    · have hq := hQ 3 S0 (by simp only [readF, hr]; rw [if_pos (.inr (.inl hb2))]) k0
      have q2' := q2.trans (decide_eq_true hb2)
      simp only [go_sem, Nat.reduceEqDiff, Nat.reduceAdd, Nat.reduceMul, Nat.reduceSub, Nat.reduceLeDiff, Int.reduceBEq, Int.reduceBNe, Int.reduceLT, Int.reduceLE, Int.reduceGT, Int.reduceGE, Int.reduceEq, ↓reduceIte, reduceCtorEq, hlt', htn, hb', List.head?_cons, q1', q2']
      refine wc_ite (b := true) (by simp only [go_sem, Nat.reduceEqDiff, Nat.reduceAdd, Nat.reduceMul, Nat.reduceSub, Nat.reduceLeDiff, Int.reduceBEq, Int.reduceBNe, Int.reduceLT, Int.reduceLE, Int.reduceGT, Int.reduceGE, Int.reduceEq, ↓reduceIte, reduceCtorEq] <;> rfl) (fun _ => ?_) (fun h => by cases h)
      simp only [go_sem, Nat.reduceEqDiff, Nat.reduceAdd, Nat.reduceMul, Nat.reduceSub, Nat.reduceLeDiff, Int.reduceBEq, Int.reduceBNe, Int.reduceLT, Int.reduceLE, Int.reduceGT, Int.reduceGE, Int.reduceEq, ↓reduceIte, reduceCtorEq]
      exact hq
    have q2' := q2.trans (decide_eq_false hb2)
    have cv := cv (by omega)
    have w3 := w3 (by omega)
    have w4' : IntKind.i64.wrap (((p + 1 + k : Nat) : Int) + (n : Int)) = ((p + 1 + k + n : Nat) : Int) := by rw [w64 (by omega) (by omega)]; omega
    by_cases hb3 : bs.length < p + 1 + k + 5 + n
    · have hq := hQ 3 S0 (by simp only [readF, hr]; rw [if_pos (.inr (.inr (.inl (by rw [hll]; omega))))]) k0
      have q3' := q3.trans (decide_eq_true hb3)
      simp only [go_sem, Nat.reduceEqDiff, Nat.reduceAdd, Nat.reduceMul, Nat.reduceSub, Nat.reduceLeDiff, Int.reduceBEq, Int.reduceBNe, Int.reduceLT, Int.reduceLE, Int.reduceGT, Int.reduceGE, Int.reduceEq, ↓reduceIte, reduceCtorEq, hlt', htn, hb', List.head?_cons, q1', q2', cv, w2, w3, q3']
      refine wc_ite (b := true) (by simp only [go_sem, Nat.reduceEqDiff, Nat.reduceAdd, Nat.reduceMul, Nat.reduceSub, Nat.reduceLeDiff, Int.reduceBEq, Int.reduceBNe, Int.reduceLT, Int.reduceLE, Int.reduceGT, Int.reduceGE, Int.reduceEq, ↓reduceIte, reduceCtorEq] <;> rfl) (fun _ => ?_) (fun h => by cases h)
      simp only [go_sem, Nat.reduceEqDiff, Nat.reduceAdd, Nat.reduceMul, Nat.reduceSub, Nat.reduceLeDiff, Int.reduceBEq, Int.reduceBNe, Int.reduceLT, Int.reduceLE, Int.reduceGT, Int.reduceGE, Int.reduceEq, ↓reduceIte, reduceCtorEq]
      exact hq
    have q3' := q3.trans (decide_eq_false hb3)
    have hlt2 : p + 1 + k + 4 + n < bs.length := by omega
    obtain ⟨c, hcb⟩ : ∃ c, bs[p + 1 + k + 4 + n]? = some c := ⟨_, List.getElem?_eq_getElem hlt2⟩
    have hcb' := drop_get hcb
    have hlt2' : (p + 1 + k + 4 + n < bs.length) = True := eq_true hlt2
    have w4 : IntKind.i64.wrap (((p + 1 + k : Nat) : Int) + 4) = ((p + 1 + k + 4 : Nat) : Int) := by rw [w64 (by omega) (by omega)]; omega
    have w5 : IntKind.i64.wrap (((p + 1 + k + 4 : Nat) : Int) + (n : Int)) = ((p + 1 + k + 4 + n : Nat) : Int) := by rw [w64 (by omega) (by omega)]; omega
    have w5' : IntKind.i64.wrap (((p + 1 + k + n : Nat) : Int) + 4) = ((p + 1 + k + 4 + n : Nat) : Int) := by rw [w64 (by omega) (by omega)]; omega
    have q4 : ((c.toNat : Int) != 31) = decide (c ≠ 0x1f) := neq c 0x1f
    have hget : (bs.drop (p + 1))[k + 4 + n]? = some c := by rw [List.getElem?_drop, ← hcb]; congr 1; omega
    by_cases hb4 : c ≠ 0x1f
    · have hq := hQ 3 S0 (by simp only [readF, hr]; rw [if_pos (.inr (.inr (.inr (by rw [hget]; intro h; injection h with h; exact hb4 h))))]) k0
      have q4' := q4.trans (decide_eq_true hb4)
      simp only [go_sem, Nat.reduceEqDiff, Nat.reduceAdd, Nat.reduceMul, Nat.reduceSub, Nat.reduceLeDiff, Int.reduceBEq, Int.reduceBNe, Int.reduceLT, Int.reduceLE, Int.reduceGT, Int.reduceGE, Int.reduceEq, ↓reduceIte, reduceCtorEq, hlt', htn, hb', List.head?_cons, q1', q2', cv, w2, w3, q3', w4, w5, w4', w5', hlt2', hcb', q4']
      refine wc_ite (b := true) (by simp only [go_sem, Nat.reduceEqDiff, Nat.reduceAdd, Nat.reduceMul, Nat.reduceSub, Nat.reduceLeDiff, Int.reduceBEq, Int.reduceBNe, Int.reduceLT, Int.reduceLE, Int.reduceGT, Int.reduceGE, Int.reduceEq, ↓reduceIte, reduceCtorEq] <;> rfl) (fun _ => ?_) (fun h => by cases h)
      simp only [go_sem, Nat.reduceEqDiff, Nat.reduceAdd, Nat.reduceMul, Nat.reduceSub, Nat.reduceLeDiff, Int.reduceBEq, Int.reduceBNe, Int.reduceLT, Int.reduceLE, Int.reduceGT, Int.reduceGE, Int.reduceEq, ↓reduceIte, reduceCtorEq]
      exact hq
    have q4' := q4.trans (decide_eq_false hb4)
    simp only [go_sem, Nat.reduceEqDiff, Nat.reduceAdd, Nat.reduceMul, Nat.reduceSub, Nat.reduceLeDiff, Int.reduceBEq, Int.reduceBNe, Int.reduceLT, Int.reduceLE, Int.reduceGT, Int.reduceGE, Int.reduceEq, ↓reduceIte, reduceCtorEq, hlt', htn, hb', List.head?_cons, q1', q2', cv, w2, w3, q3', w4, w5, w4', w5', hlt2', hcb', q4']
    refine wc_ite (b := false) (by simp only [go_sem, Nat.reduceEqDiff, Nat.reduceAdd, Nat.reduceMul, Nat.reduceSub, Nat.reduceLeDiff, Int.reduceBEq, Int.reduceBNe, Int.reduceLT, Int.reduceLE, Int.reduceGT, Int.reduceGE, Int.reduceEq, ↓reduceIte, reduceCtorEq] <;> rfl) (fun h => by cases h) (fun _ => ?_)
    have hA : (p + 1 + k + 4 ≤ p + 1 + k + 4 + n) = True := eq_true (by omega)
    have hB : (p + 1 + k + 4 + n ≤ bs.length) = True := eq_true (by omega)
    have hC : (p + 1 + k + 4 + n = bs.length) = False := eq_false (by omega)
    have hA2 : (p + 1 + k ≤ p + 1 + k + 4) = True := eq_true (by omega)
    have hB2 : (p + 1 + k + 4 ≤ bs.length) = True := eq_true (by omega)
    have hC2 : (p + 1 + k + 4 = bs.length) = False := eq_false (by omega)
    have eq1 : ((bs.map u8V).drop (p + 1 + k + 4)).take n = ((bs.drop (p + 1 + k + 4)).take n).map u8V := by rw [← List.map_drop, ← List.map_take]
    have eq2 : ((bs.map u8V).drop (p + 1 + k)).take 4 = ((bs.drop (p + 1 + k)).take 4).map u8V := by rw [← List.map_drop, ← List.map_take]
    have l1 : ((bs.drop (p + 1 + k + 4)).take n).length = n := by rw [List.length_take, List.length_drop]; omega
    have l2 : ((bs.drop (p + 1 + k)).take 4).length = 4 := by rw [List.length_take, List.length_drop]; omega
    have r1 : ((bs.drop (p + 1)).drop (k + 4)).take n = (bs.drop (p + 1 + k + 4)).take n := by rw [List.drop_drop]; congr 2
    have r2 : ((bs.drop (p + 1)).drop k).take 4 = (bs.drop (p + 1 + k)).take 4 := by rw [List.drop_drop]
    have hF : readF (b :: bs.drop (p + 1)) = if (bs.drop (p + 1 + k)).take 4 ≠ fourB (sumN ((bs.drop (p + 1 + k + 4)).take n)) then .inl 5 else .inr ((bs.drop (p + 1 + k + 4)).take n, k + 6 + n) := by
      simp only [readF, hr]
      rw [if_neg (by
        rintro (h | h | h | h)
        · exact hb1 h
        · exact hb2 h
        · rw [hll] at h; omega
        · rw [hget] at h; exact h (by rw [Decidable.not_not.mp hb4])), r1, r2]
    rw [hF] at hQ hQ'
    generalize hq : (bs.drop (p + 1 + k + 4)).take n = q at *
    generalize hq2 : (bs.drop (p + 1 + k)).take 4 = q2 at *
    simp only [go_sem, Nat.reduceEqDiff, Nat.reduceAdd, Nat.reduceMul, Nat.reduceSub, Nat.reduceLeDiff, Int.reduceBEq, Int.reduceBNe, Int.reduceLT, Int.reduceLE, Int.reduceGT, Int.reduceGE, Int.reduceEq, ↓reduceIte, reduceCtorEq, cv, w4, w5, hA, hB, hC, htn, Nat.add_sub_cancel_left, Nat.mul_one, eq1]
    have hqv : IsBytes (.sl (q.map u8V) n 1 .no) q := ⟨.no, by rw [l1], fun h => by cases h⟩
    have cvb : ∀ S, V.conv S .bytesStr (.sl (q2.map u8V) 4 1 .no) = some (.str (mkS q2)) := fun S => by
      have := (isBytes_mk q2 (t := .no) (by simp)).convS S
      rwa [l2] at this
    have cvf : ∀ S, V.conv S .bytesStr (.sl ((fourB (sumN q)).map u8V) 4 1 .cap) = some (.str (mkS (fourB (sumN q)))) := fun S => (isBytes_mk (fourB (sumN q)) (t := .cap) (by simp)).convS S
    simp only [go_sem, Nat.reduceEqDiff, Nat.reduceAdd, Nat.reduceMul, Nat.reduceSub, Nat.reduceLeDiff, Int.reduceBEq, Int.reduceBNe, Int.reduceLT, Int.reduceLE, Int.reduceGT, Int.reduceGE, Int.reduceEq, ↓reduceIte, reduceCtorEq, hA2, hB2, hC2, htn, Nat.add_sub_cancel_left, Nat.mul_one, eq2, cvb, w4]
    refine wi_call ?_
    simp only [go_sem, Nat.reduceEqDiff, Nat.reduceAdd, Nat.reduceMul, Nat.reduceSub, Nat.reduceLeDiff, Int.reduceBEq, Int.reduceBNe, Int.reduceLT, Int.reduceLE, Int.reduceGT, Int.reduceGE, Int.reduceEq, ↓reduceIte, reduceCtorEq]
    refine refSum_runs hqv (by omega) ?_
    simp only [go_sem, Nat.reduceEqDiff, Nat.reduceAdd, Nat.reduceMul, Nat.reduceSub, Nat.reduceLeDiff, Int.reduceBEq, Int.reduceBNe, Int.reduceLT, Int.reduceLE, Int.reduceGT, Int.reduceGE, Int.reduceEq, ↓reduceIte, reduceCtorEq, hA2, hB2, hC2, htn, Nat.add_sub_cancel_left, Nat.mul_one, eq2, cvb, w4]
    refine wi_call ?_
    simp only [go_sem, Nat.reduceEqDiff, Nat.reduceAdd, Nat.reduceMul, Nat.reduceSub, Nat.reduceLeDiff, Int.reduceBEq, Int.reduceBNe, Int.reduceLT, Int.reduceLE, Int.reduceGT, Int.reduceGE, Int.reduceEq, ↓reduceIte, reduceCtorEq]
    refine refFour_runs (sumN_lt _) ?_
    simp only [go_sem, Nat.reduceEqDiff, Nat.reduceAdd, Nat.reduceMul, Nat.reduceSub, Nat.reduceLeDiff, Int.reduceBEq, Int.reduceBNe, Int.reduceLT, Int.reduceLE, Int.reduceGT, Int.reduceGE, Int.reduceEq, ↓reduceIte, reduceCtorEq, hA2, hB2, hC2, htn, Nat.add_sub_cancel_left, Nat.mul_one, eq2, cvb, cvf, w4]
    refine wc_ite (b := !decide (fourB (sumN q) = q2)) (by simp only [go_sem, Nat.reduceEqDiff, Nat.reduceAdd, Nat.reduceMul, Nat.reduceSub, Nat.reduceLeDiff, Int.reduceBEq, Int.reduceBNe, Int.reduceLT, Int.reduceLE, Int.reduceGT, Int.reduceGE, Int.reduceEq, ↓reduceIte, reduceCtorEq]) (fun hc => ?_) (fun hc => ?_)
    · have : q2 ≠ fourB (sumN q) := fun h => by rw [h] at hc; simp at hc
      have hq := hQ 5 S0 (if_pos this) k0
      simp only [go_sem, Nat.reduceEqDiff, Nat.reduceAdd, Nat.reduceMul, Nat.reduceSub, Nat.reduceLeDiff, Int.reduceBEq, Int.reduceBNe, Int.reduceLT, Int.reduceLE, Int.reduceGT, Int.reduceGE, Int.reduceEq, ↓reduceIte, reduceCtorEq]
      exact hq
    · have : ¬ q2 ≠ fourB (sumN q) := fun h => h (of_decide_eq_true (by simpa using hc : decide (fourB (sumN q) = q2) = true)).symm
      have w6 : IntKind.i64.wrap (((p + 1 + k : Nat) : Int) + 5) = ((p + 1 + k + 5 : Nat) : Int) := by rw [w64 (by omega) (by omega)]; omega
      have w7 : IntKind.i64.wrap (((p + 1 + k + 5 : Nat) : Int) + (n : Int)) = ((p + (k + 6 + n) : Nat) : Int) := by rw [w64 (by omega) (by omega)]; omega
      have hq := hQ' q (k + 6 + n) S0 (.sl (q.map u8V) n 1 .no) (if_neg this) hqv (by have := ruv_pos hr; omega) (by omega) k0
      simp only [go_sem, Nat.reduceEqDiff, Nat.reduceAdd, Nat.reduceMul, Nat.reduceSub, Nat.reduceLeDiff, Int.reduceBEq, Int.reduceBNe, Int.reduceLT, Int.reduceLE, Int.reduceGT, Int.reduceGE, Int.reduceEq, ↓reduceIte, reduceCtorEq, cv, w6, w7]
      exact hq
  · have hq := hQ 3 S0 (by simp only [readF, hr]) k0
    by_cases hb1 : b ≠ 0xf1
    · have q1' := q1.trans (decide_eq_true hb1)
      simp only [go_sem, Nat.reduceEqDiff, Nat.reduceAdd, Nat.reduceMul, Nat.reduceSub, Nat.reduceLeDiff, Int.reduceBEq, Int.reduceBNe, Int.reduceLT, Int.reduceLE, Int.reduceGT, Int.reduceGE, Int.reduceEq, ↓reduceIte, reduceCtorEq, hlt', htn, hb', List.head?_cons, q1']
      refine wc_ite (b := true) (by simp only [go_sem, Nat.reduceEqDiff, Nat.reduceAdd, Nat.reduceMul, Nat.reduceSub, Nat.reduceLeDiff, Int.reduceBEq, Int.reduceBNe, Int.reduceLT, Int.reduceLE, Int.reduceGT, Int.reduceGE, Int.reduceEq, ↓reduceIte, reduceCtorEq] <;> rfl) (fun _ => ?_) (fun h => by cases h)
      simp only [go_sem, Nat.reduceEqDiff, Nat.reduceAdd, Nat.reduceMul, Nat.reduceSub, Nat.reduceLeDiff, Int.reduceBEq, Int.reduceBNe, Int.reduceLT, Int.reduceLE, Int.reduceGT, Int.reduceGE, Int.reduceEq, ↓reduceIte, reduceCtorEq]
      exact hq
    · have q1' := q1.trans (decide_eq_false hb1)
      simp only [go_sem, Nat.reduceEqDiff, Nat.reduceAdd, Nat.reduceMul, Nat.reduceSub, Nat.reduceLeDiff, Int.reduceBEq, Int.reduceBNe, Int.reduceLT, Int.reduceLE, Int.reduceGT, Int.reduceGE, Int.reduceEq, ↓reduceIte, reduceCtorEq, hlt', htn, hb', List.head?_cons, q1']
      refine wc_ite (b := true) (by simp only [go_sem, Nat.reduceEqDiff, Nat.reduceAdd, Nat.reduceMul, Nat.reduceSub, Nat.reduceLeDiff, Int.reduceBEq, Int.reduceBNe, Int.reduceLT, Int.reduceLE, Int.reduceGT, Int.reduceGE, Int.reduceEq, ↓reduceIte, reduceCtorEq] <;> rfl) (fun _ => ?_) (fun h => by cases h)
      simp only [go_sem, Nat.reduceEqDiff, Nat.reduceAdd, Nat.reduceMul, Nat.reduceSub, Nat.reduceLeDiff, Int.reduceBEq, Int.reduceBNe, Int.reduceLT, Int.reduceLE, Int.reduceGT, Int.reduceGE, Int.reduceEq, ↓reduceIte, reduceCtorEq]
      exact hq
end Go.VM

namespace Go.VM
open Go Go.RowKit Go.Proofs

theorem refScan_runs {w0 : World} {S : St} {Q : AEnd → St → Prop} {v : V} {bs : List UInt8} (hv : IsBytes v bs) (hl : bs.length ≤ 10000000000000)
    (hQ : ∀ S' v' L n t', Scans bs L n → IsSlice BytesR 1 v' L t' → TokOk S' t' → (∀ j, t' = .at j → S.n ≤ j) → n ≤ bs.length → Keeps (fun _ => False) S S' → Q (.ret (.tup [v', .int .i64 (n : Int)])) S') :
    RSim Try.prog w0 n_r04_Scan [v] S Q := by
  refine RSim.run mixed k_r04_Scan ?_ (by simp)
  simp only [b_r04_Scan, go_sem, Nat.reduceEqDiff, Nat.reduceAdd, Nat.reduceMul, Nat.reduceSub, Nat.reduceLeDiff, Int.reduceBEq, Int.reduceBNe, Int.reduceLT, Int.reduceLE, Int.reduceGT, Int.reduceGE, Int.reduceEq, ↓reduceIte, reduceCtorEq]
  refine loop_rule RSim.le (k := bs.length) (fun m fr S1 => ∃ (p : Nat) (L : List (List UInt8)) (v' : V) (t' : Tok), m = bs.length - p ∧ p ≤ bs.length ∧ 7 * L.length ≤ p ∧ fr 0 = v ∧ fr 4 = v' ∧ fr 5 = .int .i64 p ∧ IsSlice BytesR 1 v' L t' ∧ TokOk S1 t' ∧ (∀ j, t' = .at j → S.n ≤ j) ∧ Keeps (fun _ => False) S S1 ∧ ∀ L' n', Scans (bs.drop p) L' n' → Scans bs (L ++ L') (p + n')) ?_
    ⟨0, [], _, .nil, rfl, by omega, by simp, by simp only [go_sem, Nat.reduceEqDiff, Nat.reduceAdd, Nat.reduceMul, Nat.reduceSub, Nat.reduceLeDiff, Int.reduceBEq, Int.reduceBNe, Int.reduceLT, Int.reduceLE, Int.reduceGT, Int.reduceGE, Int.reduceEq, ↓reduceIte, reduceCtorEq], by simp only [go_sem, Nat.reduceEqDiff, Nat.reduceAdd, Nat.reduceMul, Nat.reduceSub, Nat.reduceLeDiff, Int.reduceBEq, Int.reduceBNe, Int.reduceLT, Int.reduceLE, Int.reduceGT, Int.reduceGE, Int.reduceEq, ↓reduceIte, reduceCtorEq], by simp only [go_sem, Nat.reduceEqDiff, Nat.reduceAdd, Nat.reduceMul, Nat.reduceSub, Nat.reduceLeDiff, Int.reduceBEq, Int.reduceBNe, Int.reduceLT, Int.reduceLE, Int.reduceGT, Int.reduceGE, Int.reduceEq, ↓reduceIte, reduceCtorEq]; rfl, isSlice_nil BytesR 1, trivial, fun j h => (by cases h), Keeps.refl _ _, fun L' n' h => by simpa using h⟩
  rintro m fr S1 ⟨p, L, v', t', hm, hp, h7, f0, f4, f5, hs, ht', ho', k1, hsc⟩
  simp only [l_r04_Scan_0, go_sem, Nat.reduceEqDiff, Nat.reduceAdd, Nat.reduceMul, Nat.reduceSub, Nat.reduceLeDiff, Int.reduceBEq, Int.reduceBNe, Int.reduceLT, Int.reduceLE, Int.reduceGT, Int.reduceGE, Int.reduceEq, ↓reduceIte, reduceCtorEq, f0, f4, f5]
  refine wi_call ?_
  simp only [go_sem, Nat.reduceEqDiff, Nat.reduceAdd, Nat.reduceMul, Nat.reduceSub, Nat.reduceLeDiff, Int.reduceBEq, Int.reduceBNe, Int.reduceLT, Int.reduceLE, Int.reduceGT, Int.reduceGE, Int.reduceEq, ↓reduceIte, reduceCtorEq]
  refine refReadFrame_runs hv hp (by omega) (fun e S2 he k2 => ?_) fun q k S2 vq hq hvq hk hpk k2 => ?_
  · have he0 : (e != 0) = true := by simpa using readF_err he
    simp only [go_sem, Nat.reduceEqDiff, Nat.reduceAdd, Nat.reduceMul, Nat.reduceSub, Nat.reduceLeDiff, Int.reduceBEq, Int.reduceBNe, Int.reduceLT, Int.reduceLE, Int.reduceGT, Int.reduceGE, Int.reduceEq, ↓reduceIte, reduceCtorEq, he0]
    refine wc_ite (b := true) (by simp only [go_sem, Nat.reduceEqDiff, Nat.reduceAdd, Nat.reduceMul, Nat.reduceSub, Nat.reduceLeDiff, Int.reduceBEq, Int.reduceBNe, Int.reduceLT, Int.reduceLE, Int.reduceGT, Int.reduceGE, Int.reduceEq, ↓reduceIte, reduceCtorEq] <;> rfl) (fun _ => ?_) (fun h => by cases h)
    simp only [go_sem, Nat.reduceEqDiff, Nat.reduceAdd, Nat.reduceMul, Nat.reduceSub, Nat.reduceLeDiff, Int.reduceBEq, Int.reduceBNe, Int.reduceLT, Int.reduceLE, Int.reduceGT, Int.reduceGE, Int.reduceEq, ↓reduceIte, reduceCtorEq, f4, f5]
    have := hsc [] 0 (.stop he)
    rw [List.append_nil, Nat.add_zero] at this
    exact hQ S2 v' L p t' this hs (ht'.keep k2 fun _ _ => id) ho' hp (k1.trans k2 fun _ _ h => h)
  · simp only [go_sem, Nat.reduceEqDiff, Nat.reduceAdd, Nat.reduceMul, Nat.reduceSub, Nat.reduceLeDiff, Int.reduceBEq, Int.reduceBNe, Int.reduceLT, Int.reduceLE, Int.reduceGT, Int.reduceGE, Int.reduceEq, ↓reduceIte, reduceCtorEq]
    refine wc_ite (b := false) (by simp only [go_sem, Nat.reduceEqDiff, Nat.reduceAdd, Nat.reduceMul, Nat.reduceSub, Nat.reduceLeDiff, Int.reduceBEq, Int.reduceBNe, Int.reduceLT, Int.reduceLE, Int.reduceGT, Int.reduceGE, Int.reduceEq, ↓reduceIte, reduceCtorEq] <;> rfl) (fun h => by cases h) (fun _ => ?_)
    simp only [go_sem, Nat.reduceEqDiff, Nat.reduceAdd, Nat.reduceMul, Nat.reduceSub, Nat.reduceLeDiff, Int.reduceBEq, Int.reduceBNe, Int.reduceLT, Int.reduceLE, Int.reduceGT, Int.reduceGE, Int.reduceEq, ↓reduceIte, reduceCtorEq, f4, hvq.one, hvq.cells]
    refine wi_appendR (R := BytesR) (v := v') (l := L) (y := q) (c := [vq]) (t := t') (by simp only [go_sem, Nat.reduceEqDiff, Nat.reduceAdd, Nat.reduceMul, Nat.reduceSub, Nat.reduceLeDiff, Int.reduceBEq, Int.reduceBNe, Int.reduceLT, Int.reduceLE, Int.reduceGT, Int.reduceGE, Int.reduceEq, ↓reduceIte, reduceCtorEq, f4]) hs (by simp only [go_sem, Nat.reduceEqDiff, Nat.reduceAdd, Nat.reduceMul, Nat.reduceSub, Nat.reduceLeDiff, Int.reduceBEq, Int.reduceBNe, Int.reduceLT, Int.reduceLE, Int.reduceGT, Int.reduceGE, Int.reduceEq, ↓reduceIte, reduceCtorEq]; exact elems1 _ _ _ (by simp)) rfl ⟨vq, rfl, hvq⟩ (by omega) (ht'.keep k2 fun _ _ => id) fun t2 S3 v2 hs2 k3 ht2 hn2 hz2 => ?_
    simp only [go_sem, Nat.reduceEqDiff, Nat.reduceAdd, Nat.reduceMul, Nat.reduceSub, Nat.reduceLeDiff, Int.reduceBEq, Int.reduceBNe, Int.reduceLT, Int.reduceLE, Int.reduceGT, Int.reduceGE, Int.reduceEq, ↓reduceIte, reduceCtorEq]
    refine ⟨bs.length - (p + k), by omega, p + k, L ++ [q], v2, t2, rfl, hpk, by simp; omega, by simp only [go_sem, Nat.reduceEqDiff, Nat.reduceAdd, Nat.reduceMul, Nat.reduceSub, Nat.reduceLeDiff, Int.reduceBEq, Int.reduceBNe, Int.reduceLT, Int.reduceLE, Int.reduceGT, Int.reduceGE, Int.reduceEq, ↓reduceIte, reduceCtorEq, f0], by simp only [go_sem, Nat.reduceEqDiff, Nat.reduceAdd, Nat.reduceMul, Nat.reduceSub, Nat.reduceLeDiff, Int.reduceBEq, Int.reduceBNe, Int.reduceLT, Int.reduceLE, Int.reduceGT, Int.reduceGE, Int.reduceEq, ↓reduceIte, reduceCtorEq], by simp only [go_sem, Nat.reduceEqDiff, Nat.reduceAdd, Nat.reduceMul, Nat.reduceSub, Nat.reduceLeDiff, Int.reduceBEq, Int.reduceBNe, Int.reduceLT, Int.reduceLE, Int.reduceGT, Int.reduceGE, Int.reduceEq, ↓reduceIte, reduceCtorEq], hs2, ht2, fun j hj => Nat.le_trans (Nat.le_trans k1.n k2.n) (hn2 j hj), keeps_new (k1.trans k2 fun _ _ h => h) k3 ho', fun L' n' h' => ?_⟩
    have := hsc (q :: L') (k + n') (.step hq (by rw [List.drop_drop]; exact h'))
    rw [List.append_assoc, Nat.add_assoc]
    exact this
end Go.VM

/-
  The reference's ReadUvarint.
  The reference's ReadUvarint: the walk. NEWPP
-/
import Derived.Test.YtddjanglghgoeaaWRefA
set_option maxRecDepth 20000
set_option linter.unusedVariables false
set_option linter.unusedSimpArgs false
namespace Go.VM
open Go Go.RowKit Go.Proofs

/-- Of bytes, the first so many are big; and the one behind is not. -/
def BigN (l : List UInt8) (n : Nat) : Prop := ∀ j b, j < n → l[j]? = some b → 128 ≤ b.toNat
theorem ruv_big {l : List UInt8} : ∀ {n v : Nat} (m : Nat), BigN l m → (l.length ≤ m ∨ n + m ≥ 10) → n ≤ 9 → ruv n v l = none := by
  induction l with
  | nil => intro n v m _ _ _; rfl
  | cons b l ih =>
    intro n v m hb hm hn
    by_cases hbad : (n = 9 ∧ b.toNat > 1) ∨ (b.toNat = 0 ∧ n > 0)
    · exact ruv_bad hbad
    cases m with
    | zero => simp at hm; omega
    | succ m =>
      have hb0 := hb 0 b (by omega) rfl
      rw [ruv_more hbad (by omega)]
      refine ih m (fun j c hj hc => hb (j + 1) c (by omega) (by simpa using hc)) ?_ ?_
      · rcases hm with hm | hm
        · left; simpa using hm
        · right; omega
      · rcases Nat.lt_or_ge n 9 with h | h
        · omega
        · exact absurd (.inl ⟨by omega, by omega⟩) hbad
/-- The bytes up to the first small one are read just if they are the bytes of their value. -/
theorem ruv_ref {l : List UInt8} {n : Nat} {b : UInt8} (hn : n < 10) (hb : BigN l n) (hl : l[n]? = some b) (hs : b.toNat < 128) :
    (uvar (valB (l.take (n + 1)) % 18446744073709551616) = l.take (n + 1) → ruv 0 0 l = some (valB (l.take (n + 1)) % 18446744073709551616, n + 1)) ∧
    (uvar (valB (l.take (n + 1)) % 18446744073709551616) ≠ l.take (n + 1) → ruv 0 0 l = none) := by
  have hlen := (List.getElem?_eq_some_iff.1 hl).1
  have htl : (l.take (n + 1)).length = n + 1 := by rw [List.length_take]; omega
  constructor
  · intro h
    have := ruv_uvar' (valB (l.take (n + 1)) % 18446744073709551616) 0 0 (l.drop (n + 1)) (by simp; omega) (fun h => by omega)
    rw [h, List.take_append_drop, htl] at this
    simpa using this
  · intro h
    cases hr : ruv 0 0 l with
    | none => rfl
    | some p =>
      exfalso
      obtain ⟨x, k⟩ := p
      obtain ⟨y, h1, h2, h3, _, h5⟩ := ruv_canon (by omega) hr
      simp only [Nat.mul_zero, Nat.pow_zero, Nat.mul_one, Nat.zero_add] at h1 h2 h5
      have hy := uvar_pos y
      have hget : ∀ j, j < (uvar y).length → (uvar y)[j]? = l[j]? := fun j hj => by
        have := congrArg (fun l : List UInt8 => l[j]?) h3
        simp only [List.getElem?_take, if_pos hj] at this
        exact this.symm
      have hk : (uvar y).length = n + 1 := by
        rcases Nat.lt_trichotomy (uvar y).length (n + 1) with h | h | h
        · obtain ⟨c, hg⟩ : ∃ c, (uvar y)[(uvar y).length - 1]? = some c := ⟨_, List.getElem?_eq_getElem (by omega)⟩
          have h6 := (uvar_hi y _ _ hg).2 (by omega)
          rw [hget _ (by omega)] at hg
          have := hb _ _ (by omega) hg
          omega
        · exact h
        · have hg : (uvar y)[n]? = some b := by rw [hget n (by omega)]; exact hl
          have := (uvar_hi y _ _ hg).1 hs
          omega
      rw [hk] at h3
      apply h
      rw [h3, valB_uvar, Nat.mod_eq_of_lt (by simpa using h5)]
end Go.VM

namespace Go.VM
open Go Go.RowKit Go.Proofs

theorem refRead_count {w0 : World} {fr : Fr} {S : St} {K : CPost} {bs : List UInt8} {t : Tok} {p : Nat} (hp : p ≤ bs.length) (hl : bs.length ≤ 100000000000000) (ht : t = .nil → bs = [])
    (f0 : fr 0 = .sl (bs.map u8V) bs.length 1 t) (f1 : fr 1 = .int .i64 p) (f7 : fr 7 = .int .i64 0)
    (hK : ∀ fr' n, n ≤ 10 → fr' 0 = fr 0 → fr' 1 = fr 1 → fr' 7 = .int .i64 (n : Nat) → BigN (bs.drop p) n → p + n ≤ bs.length → (n = 10 ∨ p + n = bs.length ∨ ∃ b, (bs.drop p)[n]? = some b ∧ b.toNat < 128) → K .normal fr' S) :
    wCode (RSim Try.prog w0) (.loop l_r01_ReadUvarint_0) fr S (blkQ 0 K) := by
  refine loop_rule RSim.le (k := 10) (fun m fr1 S1 => ∃ n : Nat, m = 10 - n ∧ n ≤ 10 ∧ p + n ≤ bs.length ∧ S1 = S ∧ fr1 0 = fr 0 ∧ fr1 1 = fr 1 ∧ fr1 7 = .int .i64 (n : Nat) ∧ BigN (bs.drop p) n) ?_
    ⟨0, rfl, by omega, by omega, rfl, rfl, rfl, f7, fun j b hj _ => by omega⟩
  rintro m fr1 S1 ⟨n, hm, hn, hpn, rfl, e0, e1, e7, hb⟩
  have g0 := e0.trans f0
  have g1 := e1.trans f1
  have w1 : IntKind.i64.wrap ((bs.length : Int) - (p : Int)) = ((bs.length - p : Nat) : Int) := by rw [w64 (by omega) (by omega)]; omega
  have w2 : IntKind.i64.wrap ((p : Int) + (n : Int)) = ((p + n : Nat) : Int) := by rw [w64 (by omega) (by omega)]; omega
  have w3 : IntKind.i64.wrap ((n : Int) + 1) = ((n + 1 : Nat) : Int) := by rw [w64 (by omega) (by omega)]; omega
  simp only [l_r01_ReadUvarint_0, go_sem, Nat.reduceEqDiff, Nat.reduceAdd, Nat.reduceMul, Nat.reduceSub, Nat.reduceLeDiff, Int.reduceBEq, Int.reduceBNe, Int.reduceLT, Int.reduceLE, Int.reduceGT, Int.reduceGE, Int.reduceEq, ↓reduceIte, reduceCtorEq, g0, g1, e7]
  by_cases h10 : n < 10
  · have q1 : decide ((n : Int) < 10) = true := decide_eq_true (by omega)
    by_cases hlt : p + n < bs.length
    · have q2 : decide ((n : Int) < ((bs.length - p : Nat) : Int)) = true := decide_eq_true (by omega)
      obtain ⟨b, hbb⟩ : ∃ b, bs[p + n]? = some b := ⟨bs[p + n], List.getElem?_eq_getElem hlt⟩
      have hd := drop_get hbb
      have hjt : (p + n < bs.length) = True := eq_true hlt
      have htn : (t = .nil) = False := eq_false fun h => by rw [ht h] at hlt; simp at hlt
      have hg : (bs.drop p)[n]? = some b := by rw [List.getElem?_drop]; exact hbb
      by_cases h128 : 128 ≤ b.toNat
      · have q3 : decide ((b.toNat : Int) ≥ 128) = true := decide_eq_true (by omega)
        simp only [go_sem, Nat.reduceEqDiff, Nat.reduceAdd, Nat.reduceMul, Nat.reduceSub, Nat.reduceLeDiff, Int.reduceBEq, Int.reduceBNe, Int.reduceLT, Int.reduceLE, Int.reduceGT, Int.reduceGE, Int.reduceEq, ↓reduceIte, reduceCtorEq, q1, q2, q3, g0, g1, e7, w1, w2, hd, hjt, htn, List.head?_cons]
        refine wc_ite (b := true) (by simp only [go_sem, Nat.reduceEqDiff, Nat.reduceAdd, Nat.reduceMul, Nat.reduceSub, Nat.reduceLeDiff, Int.reduceBEq, Int.reduceBNe, Int.reduceLT, Int.reduceLE, Int.reduceGT, Int.reduceGE, Int.reduceEq, ↓reduceIte, reduceCtorEq] <;> rfl) (fun _ => ?_) (fun h => by cases h)
        simp only [go_sem, Nat.reduceEqDiff, Nat.reduceAdd, Nat.reduceMul, Nat.reduceSub, Nat.reduceLeDiff, Int.reduceBEq, Int.reduceBNe, Int.reduceLT, Int.reduceLE, Int.reduceGT, Int.reduceGE, Int.reduceEq, ↓reduceIte, reduceCtorEq, e7, w3]
        refine ⟨10 - (n + 1), by omega, n + 1, rfl, by omega, by omega, by simp only [go_sem, Nat.reduceEqDiff, Nat.reduceAdd, Nat.reduceMul, Nat.reduceSub, Nat.reduceLeDiff, Int.reduceBEq, Int.reduceBNe, Int.reduceLT, Int.reduceLE, Int.reduceGT, Int.reduceGE, Int.reduceEq, ↓reduceIte, reduceCtorEq, e0], by simp only [go_sem, Nat.reduceEqDiff, Nat.reduceAdd, Nat.reduceMul, Nat.reduceSub, Nat.reduceLeDiff, Int.reduceBEq, Int.reduceBNe, Int.reduceLT, Int.reduceLE, Int.reduceGT, Int.reduceGE, Int.reduceEq, ↓reduceIte, reduceCtorEq, e1], by simp only [go_sem, Nat.reduceEqDiff, Nat.reduceAdd, Nat.reduceMul, Nat.reduceSub, Nat.reduceLeDiff, Int.reduceBEq, Int.reduceBNe, Int.reduceLT, Int.reduceLE, Int.reduceGT, Int.reduceGE, Int.reduceEq, ↓reduceIte, reduceCtorEq], fun j c hj hc => ?_⟩
        rcases Nat.lt_or_ge j n with h | h
        · exact hb j c h hc
        · have : j = n := by omega
          subst this
          rw [hg] at hc; injection hc with hc; subst hc; exact h128
      · have q3 : decide ((b.toNat : Int) ≥ 128) = false := decide_eq_false (by omega)
        simp only [go_sem, Nat.reduceEqDiff, Nat.reduceAdd, Nat.reduceMul, Nat.reduceSub, Nat.reduceLeDiff, Int.reduceBEq, Int.reduceBNe, Int.reduceLT, Int.reduceLE, Int.reduceGT, Int.reduceGE, Int.reduceEq, ↓reduceIte, reduceCtorEq, q1, q2, q3, g0, g1, e7, w1, w2, hd, hjt, htn, List.head?_cons]
        refine wc_ite (b := false) (by simp only [go_sem, Nat.reduceEqDiff, Nat.reduceAdd, Nat.reduceMul, Nat.reduceSub, Nat.reduceLeDiff, Int.reduceBEq, Int.reduceBNe, Int.reduceLT, Int.reduceLE, Int.reduceGT, Int.reduceGE, Int.reduceEq, ↓reduceIte, reduceCtorEq] <;> rfl) (fun h => by cases h) (fun _ => ?_)
        simp only [go_sem, Nat.reduceEqDiff, Nat.reduceAdd, Nat.reduceMul, Nat.reduceSub, Nat.reduceLeDiff, Int.reduceBEq, Int.reduceBNe, Int.reduceLT, Int.reduceLE, Int.reduceGT, Int.reduceGE, Int.reduceEq, ↓reduceIte, reduceCtorEq]
        exact hK _ n hn (by simp only [go_sem, Nat.reduceEqDiff, Nat.reduceAdd, Nat.reduceMul, Nat.reduceSub, Nat.reduceLeDiff, Int.reduceBEq, Int.reduceBNe, Int.reduceLT, Int.reduceLE, Int.reduceGT, Int.reduceGE, Int.reduceEq, ↓reduceIte, reduceCtorEq, e0]) (by simp only [go_sem, Nat.reduceEqDiff, Nat.reduceAdd, Nat.reduceMul, Nat.reduceSub, Nat.reduceLeDiff, Int.reduceBEq, Int.reduceBNe, Int.reduceLT, Int.reduceLE, Int.reduceGT, Int.reduceGE, Int.reduceEq, ↓reduceIte, reduceCtorEq, e1]) (by simp only [go_sem, Nat.reduceEqDiff, Nat.reduceAdd, Nat.reduceMul, Nat.reduceSub, Nat.reduceLeDiff, Int.reduceBEq, Int.reduceBNe, Int.reduceLT, Int.reduceLE, Int.reduceGT, Int.reduceGE, Int.reduceEq, ↓reduceIte, reduceCtorEq, e7]) hb hpn (.inr (.inr ⟨b, hg, by omega⟩))
    · have q2 : decide ((n : Int) < ((bs.length - p : Nat) : Int)) = false := decide_eq_false (by omega)
      simp only [go_sem, Nat.reduceEqDiff, Nat.reduceAdd, Nat.reduceMul, Nat.reduceSub, Nat.reduceLeDiff, Int.reduceBEq, Int.reduceBNe, Int.reduceLT, Int.reduceLE, Int.reduceGT, Int.reduceGE, Int.reduceEq, ↓reduceIte, reduceCtorEq, q1, q2, g0, g1, e7, w1]
      refine wc_ite (b := false) (by simp only [go_sem, Nat.reduceEqDiff, Nat.reduceAdd, Nat.reduceMul, Nat.reduceSub, Nat.reduceLeDiff, Int.reduceBEq, Int.reduceBNe, Int.reduceLT, Int.reduceLE, Int.reduceGT, Int.reduceGE, Int.reduceEq, ↓reduceIte, reduceCtorEq] <;> rfl) (fun h => by cases h) (fun _ => ?_)
      simp only [go_sem, Nat.reduceEqDiff, Nat.reduceAdd, Nat.reduceMul, Nat.reduceSub, Nat.reduceLeDiff, Int.reduceBEq, Int.reduceBNe, Int.reduceLT, Int.reduceLE, Int.reduceGT, Int.reduceGE, Int.reduceEq, ↓reduceIte, reduceCtorEq]
      exact hK _ n hn (by simp only [go_sem, Nat.reduceEqDiff, Nat.reduceAdd, Nat.reduceMul, Nat.reduceSub, Nat.reduceLeDiff, Int.reduceBEq, Int.reduceBNe, Int.reduceLT, Int.reduceLE, Int.reduceGT, Int.reduceGE, Int.reduceEq, ↓reduceIte, reduceCtorEq, e0]) (by simp only [go_sem, Nat.reduceEqDiff, Nat.reduceAdd, Nat.reduceMul, Nat.reduceSub, Nat.reduceLeDiff, Int.reduceBEq, Int.reduceBNe, Int.reduceLT, Int.reduceLE, Int.reduceGT, Int.reduceGE, Int.reduceEq, ↓reduceIte, reduceCtorEq, e1]) (by simp only [go_sem, Nat.reduceEqDiff, Nat.reduceAdd, Nat.reduceMul, Nat.reduceSub, Nat.reduceLeDiff, Int.reduceBEq, Int.reduceBNe, Int.reduceLT, Int.reduceLE, Int.reduceGT, Int.reduceGE, Int.reduceEq, ↓reduceIte, reduceCtorEq, e7]) hb hpn (.inr (.inl (by omega)))
  · have q1 : decide ((n : Int) < 10) = false := decide_eq_false (by omega)
    simp only [go_sem, Nat.reduceEqDiff, Nat.reduceAdd, Nat.reduceMul, Nat.reduceSub, Nat.reduceLeDiff, Int.reduceBEq, Int.reduceBNe, Int.reduceLT, Int.reduceLE, Int.reduceGT, Int.reduceGE, Int.reduceEq, ↓reduceIte, reduceCtorEq, q1]
    refine wc_ite (b := false) (by simp only [go_sem, Nat.reduceEqDiff, Nat.reduceAdd, Nat.reduceMul, Nat.reduceSub, Nat.reduceLeDiff, Int.reduceBEq, Int.reduceBNe, Int.reduceLT, Int.reduceLE, Int.reduceGT, Int.reduceGE, Int.reduceEq, ↓reduceIte, reduceCtorEq] <;> rfl) (fun h => by cases h) (fun _ => ?_)
    simp only [go_sem, Nat.reduceEqDiff, Nat.reduceAdd, Nat.reduceMul, Nat.reduceSub, Nat.reduceLeDiff, Int.reduceBEq, Int.reduceBNe, Int.reduceLT, Int.reduceLE, Int.reduceGT, Int.reduceGE, Int.reduceEq, ↓reduceIte, reduceCtorEq]
    exact hK _ n hn (by simp only [go_sem, Nat.reduceEqDiff, Nat.reduceAdd, Nat.reduceMul, Nat.reduceSub, Nat.reduceLeDiff, Int.reduceBEq, Int.reduceBNe, Int.reduceLT, Int.reduceLE, Int.reduceGT, Int.reduceGE, Int.reduceEq, ↓reduceIte, reduceCtorEq, e0]) (by simp only [go_sem, Nat.reduceEqDiff, Nat.reduceAdd, Nat.reduceMul, Nat.reduceSub, Nat.reduceLeDiff, Int.reduceBEq, Int.reduceBNe, Int.reduceLT, Int.reduceLE, Int.reduceGT, Int.reduceGE, Int.reduceEq, ↓reduceIte, reduceCtorEq, e1]) (by simp only [go_sem, Nat.reduceEqDiff, Nat.reduceAdd, Nat.reduceMul, Nat.reduceSub, Nat.reduceLeDiff, Int.reduceBEq, Int.reduceBNe, Int.reduceLT, Int.reduceLE, Int.reduceGT, Int.reduceGE, Int.reduceEq, ↓reduceIte, reduceCtorEq, e7]) hb hpn (.inl (by omega))

theorem valB_step {l : List UInt8} {k : Nat} {b : UInt8} (h : l[k]? = some b) : valB (l.drop k) = b.toNat % 128 + 128 * valB (l.drop (k + 1)) := by
  have hlt := (List.getElem?_eq_some_iff.1 h).1
  rw [List.drop_eq_getElem_cons hlt]
  have : l[k] = b := (List.getElem?_eq_some_iff.1 h).2
  rw [this]; rfl
theorem refRead_value {w0 : World} {fr : Fr} {S : St} {K : CPost} {bs : List UInt8} {t : Tok} {p n : Nat} (hp : p + n < bs.length) (hn : n < 10) (hl : bs.length ≤ 100000000000000) (ht : t = .nil → bs = [])
    (f0 : fr 0 = .sl (bs.map u8V) bs.length 1 t) (f1 : fr 1 = .int .i64 p) (f8 : fr 8 = .int .u64 0) (f9 : fr 9 = .int .i64 n)
    (hK : ∀ fr', fr' 0 = fr 0 → fr' 1 = fr 1 → fr' 7 = fr 7 → fr' 8 = .int .u64 ((valB ((bs.drop p).take (n + 1)) % 18446744073709551616 : Nat) : Int) → K .normal fr' S) :
    wCode (RSim Try.prog w0) (.loop l_r01_ReadUvarint_1) fr S (blkQ 2 K) := by
  have htl : ((bs.drop p).take (n + 1)).length = n + 1 := by rw [List.length_take, List.length_drop]; omega
  refine loop_rule RSim.le (k := n + 1) (fun m fr1 S1 => ∃ k : Nat, m = k ∧ k ≤ n + 1 ∧ S1 = S ∧ fr1 0 = fr 0 ∧ fr1 1 = fr 1 ∧ fr1 7 = fr 7 ∧ fr1 8 = .int .u64 ((valB (((bs.drop p).take (n + 1)).drop k) % 18446744073709551616 : Nat) : Int) ∧ fr1 9 = .int .i64 ((k : Int) - 1)) ?_
    ⟨n + 1, rfl, Nat.le_refl _, rfl, rfl, rfl, rfl, by rw [f8, List.drop_eq_nil_of_le (by omega)]; rfl, by rw [f9]; congr 1; omega⟩
  rintro m fr1 S1 ⟨k, hm, hk, rfl, e0, e1, e7, e8, e9⟩
  have g0 := e0.trans f0
  have g1 := e1.trans f1
  simp only [l_r01_ReadUvarint_1, go_sem, Nat.reduceEqDiff, Nat.reduceAdd, Nat.reduceMul, Nat.reduceSub, Nat.reduceLeDiff, Int.reduceBEq, Int.reduceBNe, Int.reduceLT, Int.reduceLE, Int.reduceGT, Int.reduceGE, Int.reduceEq, ↓reduceIte, reduceCtorEq, g0, g1, e8, e9]
  cases k with
  | zero =>
    have q : decide (((0 : Nat) : Int) - 1 ≥ 0) = false := by decide
    simp only [go_sem, Nat.reduceEqDiff, Nat.reduceAdd, Nat.reduceMul, Nat.reduceSub, Nat.reduceLeDiff, Int.reduceBEq, Int.reduceBNe, Int.reduceLT, Int.reduceLE, Int.reduceGT, Int.reduceGE, Int.reduceEq, ↓reduceIte, reduceCtorEq, q]
    refine wc_ite (b := false) (by simp only [go_sem, Nat.reduceEqDiff, Nat.reduceAdd, Nat.reduceMul, Nat.reduceSub, Nat.reduceLeDiff, Int.reduceBEq, Int.reduceBNe, Int.reduceLT, Int.reduceLE, Int.reduceGT, Int.reduceGE, Int.reduceEq, ↓reduceIte, reduceCtorEq] <;> rfl) (fun h => by cases h) (fun _ => ?_)
    simp only [go_sem, Nat.reduceEqDiff, Nat.reduceAdd, Nat.reduceMul, Nat.reduceSub, Nat.reduceLeDiff, Int.reduceBEq, Int.reduceBNe, Int.reduceLT, Int.reduceLE, Int.reduceGT, Int.reduceGE, Int.reduceEq, ↓reduceIte, reduceCtorEq]
    rw [List.drop_zero] at e8
    exact hK _ (by simp only [go_sem, Nat.reduceEqDiff, Nat.reduceAdd, Nat.reduceMul, Nat.reduceSub, Nat.reduceLeDiff, Int.reduceBEq, Int.reduceBNe, Int.reduceLT, Int.reduceLE, Int.reduceGT, Int.reduceGE, Int.reduceEq, ↓reduceIte, reduceCtorEq, e0]) (by simp only [go_sem, Nat.reduceEqDiff, Nat.reduceAdd, Nat.reduceMul, Nat.reduceSub, Nat.reduceLeDiff, Int.reduceBEq, Int.reduceBNe, Int.reduceLT, Int.reduceLE, Int.reduceGT, Int.reduceGE, Int.reduceEq, ↓reduceIte, reduceCtorEq, e1]) (by simp only [go_sem, Nat.reduceEqDiff, Nat.reduceAdd, Nat.reduceMul, Nat.reduceSub, Nat.reduceLeDiff, Int.reduceBEq, Int.reduceBNe, Int.reduceLT, Int.reduceLE, Int.reduceGT, Int.reduceGE, Int.reduceEq, ↓reduceIte, reduceCtorEq, e7]) (by simp only [go_sem, Nat.reduceEqDiff, Nat.reduceAdd, Nat.reduceMul, Nat.reduceSub, Nat.reduceLeDiff, Int.reduceBEq, Int.reduceBNe, Int.reduceLT, Int.reduceLE, Int.reduceGT, Int.reduceGE, Int.reduceEq, ↓reduceIte, reduceCtorEq, e8])
  | succ k =>
    have ek : (((k + 1 : Nat) : Int) - 1) = (k : Int) := by omega
    rw [ek] at e9 ⊢
    have q : decide ((k : Int) ≥ 0) = true := decide_eq_true (by omega)
    have hlt : p + k < bs.length := by omega
    obtain ⟨b, hbb⟩ : ∃ b, bs[p + k]? = some b := ⟨bs[p + k], List.getElem?_eq_getElem hlt⟩
    have hd := drop_get hbb
    have hjt : (p + k < bs.length) = True := eq_true hlt
    have htn : (t = .nil) = False := eq_false fun h => by rw [ht h] at hlt; simp at hlt
    have hg : ((bs.drop p).take (n + 1))[k]? = some b := by rw [List.getElem?_take, if_pos (by omega), List.getElem?_drop]; exact hbb
    have hv := valB_step hg
    have hbl := b.toNat_lt
    generalize valB (((bs.drop p).take (n + 1)).drop (k + 1)) = y at *
    generalize hz : valB (((bs.drop p).take (n + 1)).drop k) = z at *
    have w2 : IntKind.i64.wrap ((p : Int) + (k : Int)) = ((p + k : Nat) : Int) := by rw [w64 (by omega) (by omega)]; omega
    have w3 : IntKind.i64.wrap ((k : Int) - 1) = (k : Int) - 1 := w64 (by omega) (by omega)
    have t1 : (b.toNat : Int).tmod 128 = ((b.toNat % 128 : Nat) : Int) := by rw [Int.tmod_eq_emod_of_nonneg (by omega)]; omega
    have cv : ∀ S, V.conv S (.int .u64) (.int .u8 ((b.toNat % 128 : Nat) : Int)) = some (.int .u64 ((b.toNat % 128 : Nat) : Int)) := fun S => by
      simp only [V.conv, wu64 (show (0 : Int) ≤ ((b.toNat % 128 : Nat) : Int) by omega) (show ((b.toNat % 128 : Nat) : Int) < 18446744073709551616 by omega)]
    have m1 : IntKind.u64.wrap (((y % 18446744073709551616 : Nat) : Int) * 128) = ((y * 128 % 18446744073709551616 : Nat) : Int) := by
      rw [IntKind.wrap_u64]; omega
    have m2 : IntKind.u64.wrap (((y * 128 % 18446744073709551616 : Nat) : Int) + ((b.toNat % 128 : Nat) : Int)) = ((z % 18446744073709551616 : Nat) : Int) := by
      rw [IntKind.wrap_u64, hv]; omega
    simp only [go_sem, Nat.reduceEqDiff, Nat.reduceAdd, Nat.reduceMul, Nat.reduceSub, Nat.reduceLeDiff, Int.reduceBEq, Int.reduceBNe, Int.reduceLT, Int.reduceLE, Int.reduceGT, Int.reduceGE, Int.reduceEq, ↓reduceIte, reduceCtorEq, q, g0, g1, e8, e9, w2, hd, hjt, htn, List.head?_cons, t1, cv, m1, m2]
    refine wc_ite (b := true) (by simp only [go_sem, Nat.reduceEqDiff, Nat.reduceAdd, Nat.reduceMul, Nat.reduceSub, Nat.reduceLeDiff, Int.reduceBEq, Int.reduceBNe, Int.reduceLT, Int.reduceLE, Int.reduceGT, Int.reduceGE, Int.reduceEq, ↓reduceIte, reduceCtorEq] <;> rfl) (fun _ => ?_) (fun h => by cases h)
    simp only [go_sem, Nat.reduceEqDiff, Nat.reduceAdd, Nat.reduceMul, Nat.reduceSub, Nat.reduceLeDiff, Int.reduceBEq, Int.reduceBNe, Int.reduceLT, Int.reduceLE, Int.reduceGT, Int.reduceGE, Int.reduceEq, ↓reduceIte, reduceCtorEq, q, g0, g1, e8, e9, w2, hd, hjt, htn, List.head?_cons, t1, cv, m1, m2, w3]
    exact ⟨k, by omega, k, rfl, by omega, f0.symm, f1.symm, e7, by rw [hz], rfl⟩

theorem refReadUvarint_runs {w0 : World} {S : St} {Q : AEnd → St → Prop} {v : V} {bs : List UInt8} {p : Nat} (hv : IsBytes v bs) (hp : p ≤ bs.length) (hl : bs.length ≤ 100000000000000)
    (hQ : ∀ v k S', ruv 0 0 (bs.drop p) = some (v, k) → v < 18446744073709551616 → p + k ≤ bs.length → Keeps (fun _ => False) S S' → Q (.ret (.tup [.int .u64 (v : Nat), .int .i64 ((p + k : Nat) : Int), .int .i64 0])) S')
    (hQ' : ∀ S', ruv 0 0 (bs.drop p) = none → Keeps (fun _ => False) S S' → Q (.ret (.tup [.int .u64 0, .int .i64 0, .int .i64 3])) S') :
    RSim Try.prog w0 n_r01_ReadUvarint [v, .int .i64 p] S Q := by
  obtain ⟨t, rfl, ht⟩ := id hv
  have e1 : decide ((p : Int) > (bs.length : Int)) = false := decide_eq_false (by omega)
  have e0 : decide ((p : Int) < 0) = false := decide_eq_false (by omega)
  have dl : (bs.drop p).length = bs.length - p := List.length_drop
  have w1 : IntKind.i64.wrap ((bs.length : Int) - (p : Int)) = ((bs.length - p : Nat) : Int) := by rw [w64 (by omega) (by omega)]; omega
  refine RSim.run mixed k_r01_ReadUvarint ?_ (by simp)
  simp only [b_r01_ReadUvarint, go_sem, Nat.reduceEqDiff, Nat.reduceAdd, Nat.reduceMul, Nat.reduceSub, Nat.reduceLeDiff, Int.reduceBEq, Int.reduceBNe, Int.reduceLT, Int.reduceLE, Int.reduceGT, Int.reduceGE, Int.reduceEq, ↓reduceIte, reduceCtorEq, e1, e0]
  refine wc_ite (b := false) (by simp only [go_sem, Nat.reduceEqDiff, Nat.reduceAdd, Nat.reduceMul, Nat.reduceSub, Nat.reduceLeDiff, Int.reduceBEq, Int.reduceBNe, Int.reduceLT, Int.reduceLE, Int.reduceGT, Int.reduceGE, Int.reduceEq, ↓reduceIte, reduceCtorEq] <;> rfl) (fun h => by cases h) (fun _ => ?_)
  simp only [go_sem, Nat.reduceEqDiff, Nat.reduceAdd, Nat.reduceMul, Nat.reduceSub, Nat.reduceLeDiff, Int.reduceBEq, Int.reduceBNe, Int.reduceLT, Int.reduceLE, Int.reduceGT, Int.reduceGE, Int.reduceEq, ↓reduceIte, reduceCtorEq]
  refine refRead_count hp hl ht (by simp only [go_sem, Nat.reduceEqDiff, Nat.reduceAdd, Nat.reduceMul, Nat.reduceSub, Nat.reduceLeDiff, Int.reduceBEq, Int.reduceBNe, Int.reduceLT, Int.reduceLE, Int.reduceGT, Int.reduceGE, Int.reduceEq, ↓reduceIte, reduceCtorEq]) (by simp only [go_sem, Nat.reduceEqDiff, Nat.reduceAdd, Nat.reduceMul, Nat.reduceSub, Nat.reduceLeDiff, Int.reduceBEq, Int.reduceBNe, Int.reduceLT, Int.reduceLE, Int.reduceGT, Int.reduceGE, Int.reduceEq, ↓reduceIte, reduceCtorEq]) (by simp only [go_sem, Nat.reduceEqDiff, Nat.reduceAdd, Nat.reduceMul, Nat.reduceSub, Nat.reduceLeDiff, Int.reduceBEq, Int.reduceBNe, Int.reduceLT, Int.reduceLE, Int.reduceGT, Int.reduceGE, Int.reduceEq, ↓reduceIte, reduceCtorEq]) fun fr n hn f0 f1 f7 hb hpn hend => ?_
  simp only [go_sem, Nat.reduceEqDiff, Nat.reduceAdd, Nat.reduceMul, Nat.reduceSub, Nat.reduceLeDiff, Int.reduceBEq, Int.reduceBNe, Int.reduceLT, Int.reduceLE, Int.reduceGT, Int.reduceGE, Int.reduceEq, ↓reduceIte, reduceCtorEq] at f0 f1
  simp only [s_r01_ReadUvarint_1, go_sem, Nat.reduceEqDiff, Nat.reduceAdd, Nat.reduceMul, Nat.reduceSub, Nat.reduceLeDiff, Int.reduceBEq, Int.reduceBNe, Int.reduceLT, Int.reduceLE, Int.reduceGT, Int.reduceGE, Int.reduceEq, ↓reduceIte, reduceCtorEq, f0, f1, f7, w1]
  by_cases hbad : n = 10 ∨ p + n = bs.length
  · clear hend
    have hr : ruv 0 0 (bs.drop p) = none := ruv_big n hb (by rw [dl]; omega) (by omega)
    by_cases h10 : n = 10
    · have q1 : decide ((n : Int) ≥ 10) = true := decide_eq_true (by omega)
      simp only [go_sem, Nat.reduceEqDiff, Nat.reduceAdd, Nat.reduceMul, Nat.reduceSub, Nat.reduceLeDiff, Int.reduceBEq, Int.reduceBNe, Int.reduceLT, Int.reduceLE, Int.reduceGT, Int.reduceGE, Int.reduceEq, ↓reduceIte, reduceCtorEq, q1]
      refine wc_ite (b := true) (by simp only [go_sem, Nat.reduceEqDiff, Nat.reduceAdd, Nat.reduceMul, Nat.reduceSub, Nat.reduceLeDiff, Int.reduceBEq, Int.reduceBNe, Int.reduceLT, Int.reduceLE, Int.reduceGT, Int.reduceGE, Int.reduceEq, ↓reduceIte, reduceCtorEq] <;> rfl) (fun _ => ?_) (fun h => by cases h)
      simp only [go_sem, Nat.reduceEqDiff, Nat.reduceAdd, Nat.reduceMul, Nat.reduceSub, Nat.reduceLeDiff, Int.reduceBEq, Int.reduceBNe, Int.reduceLT, Int.reduceLE, Int.reduceGT, Int.reduceGE, Int.reduceEq, ↓reduceIte, reduceCtorEq]
      exact hQ' S hr (Keeps.refl _ _)
    · have q1 : decide ((n : Int) ≥ 10) = false := decide_eq_false (by omega)
      have q2 : decide ((n : Int) ≥ ((bs.length - p : Nat) : Int)) = true := decide_eq_true (by omega)
      simp only [go_sem, Nat.reduceEqDiff, Nat.reduceAdd, Nat.reduceMul, Nat.reduceSub, Nat.reduceLeDiff, Int.reduceBEq, Int.reduceBNe, Int.reduceLT, Int.reduceLE, Int.reduceGT, Int.reduceGE, Int.reduceEq, ↓reduceIte, reduceCtorEq, q1, q2, f7, f0, f1, w1]
      refine wc_ite (b := true) (by simp only [go_sem, Nat.reduceEqDiff, Nat.reduceAdd, Nat.reduceMul, Nat.reduceSub, Nat.reduceLeDiff, Int.reduceBEq, Int.reduceBNe, Int.reduceLT, Int.reduceLE, Int.reduceGT, Int.reduceGE, Int.reduceEq, ↓reduceIte, reduceCtorEq] <;> rfl) (fun _ => ?_) (fun h => by cases h)
      simp only [go_sem, Nat.reduceEqDiff, Nat.reduceAdd, Nat.reduceMul, Nat.reduceSub, Nat.reduceLeDiff, Int.reduceBEq, Int.reduceBNe, Int.reduceLT, Int.reduceLE, Int.reduceGT, Int.reduceGE, Int.reduceEq, ↓reduceIte, reduceCtorEq]
      exact hQ' S hr (Keeps.refl _ _)
  · have hn10 : n < 10 := Nat.lt_of_le_of_ne hn (fun h => hbad (.inl h))
    have hlt : p + n < bs.length := Nat.lt_of_le_of_ne hpn (fun h => hbad (.inr h))
    obtain ⟨b, hg, hs⟩ : ∃ b, (bs.drop p)[n]? = some b ∧ b.toNat < 128 := by
      rcases hend with h | h | h
      · omega
      · omega
      · exact h
    clear hend
    obtain ⟨R1, R2⟩ := ruv_ref hn10 hb hg hs
    have q1 : decide ((n : Int) ≥ 10) = false := decide_eq_false (by omega)
    have q2 : decide ((n : Int) ≥ ((bs.length - p : Nat) : Int)) = false := decide_eq_false (by omega)
    simp only [go_sem, Nat.reduceEqDiff, Nat.reduceAdd, Nat.reduceMul, Nat.reduceSub, Nat.reduceLeDiff, Int.reduceBEq, Int.reduceBNe, Int.reduceLT, Int.reduceLE, Int.reduceGT, Int.reduceGE, Int.reduceEq, ↓reduceIte, reduceCtorEq, q1, q2, f7, f0, f1, w1]
    refine wc_ite (b := false) (by simp only [go_sem, Nat.reduceEqDiff, Nat.reduceAdd, Nat.reduceMul, Nat.reduceSub, Nat.reduceLeDiff, Int.reduceBEq, Int.reduceBNe, Int.reduceLT, Int.reduceLE, Int.reduceGT, Int.reduceGE, Int.reduceEq, ↓reduceIte, reduceCtorEq] <;> rfl) (fun h => by cases h) (fun _ => ?_)
    simp only [go_sem, Nat.reduceEqDiff, Nat.reduceAdd, Nat.reduceMul, Nat.reduceSub, Nat.reduceLeDiff, Int.reduceBEq, Int.reduceBNe, Int.reduceLT, Int.reduceLE, Int.reduceGT, Int.reduceGE, Int.reduceEq, ↓reduceIte, reduceCtorEq, f7]
    refine refRead_value hlt hn10 hl ht (by simp only [go_sem, Nat.reduceEqDiff, Nat.reduceAdd, Nat.reduceMul, Nat.reduceSub, Nat.reduceLeDiff, Int.reduceBEq, Int.reduceBNe, Int.reduceLT, Int.reduceLE, Int.reduceGT, Int.reduceGE, Int.reduceEq, ↓reduceIte, reduceCtorEq, f0]) (by simp only [go_sem, Nat.reduceEqDiff, Nat.reduceAdd, Nat.reduceMul, Nat.reduceSub, Nat.reduceLeDiff, Int.reduceBEq, Int.reduceBNe, Int.reduceLT, Int.reduceLE, Int.reduceGT, Int.reduceGE, Int.reduceEq, ↓reduceIte, reduceCtorEq, f1]) (by simp only [go_sem, Nat.reduceEqDiff, Nat.reduceAdd, Nat.reduceMul, Nat.reduceSub, Nat.reduceLeDiff, Int.reduceBEq, Int.reduceBNe, Int.reduceLT, Int.reduceLE, Int.reduceGT, Int.reduceGE, Int.reduceEq, ↓reduceIte, reduceCtorEq]) (by simp only [go_sem, Nat.reduceEqDiff, Nat.reduceAdd, Nat.reduceMul, Nat.reduceSub, Nat.reduceLeDiff, Int.reduceBEq, Int.reduceBNe, Int.reduceLT, Int.reduceLE, Int.reduceGT, Int.reduceGE, Int.reduceEq, ↓reduceIte, reduceCtorEq]) fun fr2 g0 g1 g7 g8 => ?_
    simp only [go_sem, Nat.reduceEqDiff, Nat.reduceAdd, Nat.reduceMul, Nat.reduceSub, Nat.reduceLeDiff, Int.reduceBEq, Int.reduceBNe, Int.reduceLT, Int.reduceLE, Int.reduceGT, Int.reduceGE, Int.reduceEq, ↓reduceIte, reduceCtorEq, f0, f1, f7] at g0 g1 g7
    have hx : valB ((bs.drop p).take (n + 1)) % 18446744073709551616 < 18446744073709551616 := Nat.mod_lt _ (by decide)
    have l2 : ((bs.drop p).take (n + 1)).length = n + 1 := by rw [List.length_take, dl]; omega
    have eq2 : ((bs.map u8V).drop p).take (n + 1) = ((bs.drop p).take (n + 1)).map u8V := by rw [← List.map_drop, ← List.map_take]
    generalize valB ((bs.drop p).take (n + 1)) % 18446744073709551616 = x at *
    generalize (bs.drop p).take (n + 1) = q at *
    simp only [s_r01_ReadUvarint_0, go_sem, Nat.reduceEqDiff, Nat.reduceAdd, Nat.reduceMul, Nat.reduceSub, Nat.reduceLeDiff, Int.reduceBEq, Int.reduceBNe, Int.reduceLT, Int.reduceLE, Int.reduceGT, Int.reduceGE, Int.reduceEq, ↓reduceIte, reduceCtorEq, g0, g1, g7, g8]
    refine wi_call ?_
    simp only [go_sem, Nat.reduceEqDiff, Nat.reduceAdd, Nat.reduceMul, Nat.reduceSub, Nat.reduceLeDiff, Int.reduceBEq, Int.reduceBNe, Int.reduceLT, Int.reduceLE, Int.reduceGT, Int.reduceGE, Int.reduceEq, ↓reduceIte, reduceCtorEq]
    refine refUvarint_runs hx fun S1 vw hw k1 => ?_
    have w2 : IntKind.i64.wrap ((p : Int) + (n : Int)) = ((p + n : Nat) : Int) := by rw [w64 (by omega) (by omega)]; omega
    have w3 : IntKind.i64.wrap (((p + n : Nat) : Int) + 1) = ((p + (n + 1) : Nat) : Int) := by rw [w64 (by omega) (by omega)]; omega
    have hA : (p ≤ p + (n + 1)) = True := eq_true (by omega)
    have hB : (p + (n + 1) ≤ bs.length) = True := eq_true (by omega)
    have htn : (t = .nil) = False := eq_false fun h => by rw [ht h] at hlt; simp at hlt
    have cw := fun S => hw.convS S
    have cq : ∀ S t', t' ≠ .nil → V.conv S .bytesStr (.sl (q.map u8V) (n + 1) 1 t') = some (.str (mkS q)) := fun S t' h => by
      have := (isBytes_mk q h).convS S
      rwa [l2] at this
    have htt : (if p + (n + 1) = bs.length then t else Tok.no) ≠ .nil := by
      split
      · exact fun h => by rw [h] at htn; simp at htn
      · simp
    have cq1 := fun S => cq S _ htt
    simp only [go_sem, Nat.reduceEqDiff, Nat.reduceAdd, Nat.reduceMul, Nat.reduceSub, Nat.reduceLeDiff, Int.reduceBEq, Int.reduceBNe, Int.reduceLT, Int.reduceLE, Int.reduceGT, Int.reduceGE, Int.reduceEq, ↓reduceIte, reduceCtorEq, g0, g1, g7, cw, w2, w3, hA, hB, htn, Nat.add_sub_cancel_left, Nat.mul_one, eq2, cq1]
    refine wc_ite (b := !decide (uvar x = q)) (by simp only [go_sem, Nat.reduceEqDiff, Nat.reduceAdd, Nat.reduceMul, Nat.reduceSub, Nat.reduceLeDiff, Int.reduceBEq, Int.reduceBNe, Int.reduceLT, Int.reduceLE, Int.reduceGT, Int.reduceGE, Int.reduceEq, ↓reduceIte, reduceCtorEq]) (fun hc => ?_) (fun hc => ?_)
    · have hne : uvar x ≠ q := by simpa using hc
      simp only [go_sem, Nat.reduceEqDiff, Nat.reduceAdd, Nat.reduceMul, Nat.reduceSub, Nat.reduceLeDiff, Int.reduceBEq, Int.reduceBNe, Int.reduceLT, Int.reduceLE, Int.reduceGT, Int.reduceGE, Int.reduceEq, ↓reduceIte, reduceCtorEq]
      exact hQ' S1 (R2 hne) k1
    · have he : uvar x = q := by simpa using hc
      simp only [go_sem, Nat.reduceEqDiff, Nat.reduceAdd, Nat.reduceMul, Nat.reduceSub, Nat.reduceLeDiff, Int.reduceBEq, Int.reduceBNe, Int.reduceLT, Int.reduceLE, Int.reduceGT, Int.reduceGE, Int.reduceEq, ↓reduceIte, reduceCtorEq, g8, g1, g7, w2, w3]
      exact hQ x (n + 1) S1 (R1 he) hx (by omega) k1
end Go.VM

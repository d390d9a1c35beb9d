/-
  The reference's numbers and sums: plain.
  The reference's Uvarint, Four.
  The reference's Sum. NEWPP
-/
import Derived.Test.YtddjanglghgoeaaWPlain
set_option maxRecDepth 20000
set_option linter.unusedVariables false
set_option linter.unusedSimpArgs false
namespace Go.VM
open Go Go.RowKit Go.Proofs

theorem ruv_uvar' (x : Nat) : ∀ (n v : Nat) (rest : List UInt8), x * 2 ^ (7 * n) < 18446744073709551616 → (n > 0 → x > 0) → ruv n v (uvar x ++ rest) = some (v + x * 2 ^ (7 * n), n + (uvar x).length) := by
  induction x using uvar.induct with
  | case1 x h =>
    intro n v rest hb hx
    rw [uvar_lt h]
    have e := ofNat_toNat (x := x) (by omega)
    have h9 : n = 9 → ¬ x > 1 := fun h9 hx1 => by
      subst h9
      have : 2 * 2 ^ (7 * 9) ≤ x * 2 ^ (7 * 9) := Nat.mul_le_mul_right _ hx1
      omega
    have hgood : ¬ ((n = 9 ∧ x > 1) ∨ (x = 0 ∧ n > 0)) := by
      rintro (⟨h1, h2⟩ | ⟨h1, h2⟩)
      · exact h9 h1 h2
      · have := hx h2; omega
    rw [List.cons_append, ruv_end (by rw [e]; exact hgood) (by rw [e]; exact h), e, Nat.mod_eq_of_lt h]
    rfl
  | case2 x h ih =>
    intro n v rest hb hx
    rw [uvar_ge h]
    have e := ofNat_toNat (x := x % 128 + 128) (by omega)
    have h9 : n ≠ 9 := fun h9 => by
      subst h9
      have : 128 * 2 ^ (7 * 9) ≤ x * 2 ^ (7 * 9) := Nat.mul_le_mul_right _ (by omega)
      omega
    have hp : 2 ^ (7 * (n + 1)) = 128 * 2 ^ (7 * n) := by rw [Nat.mul_add, Nat.pow_add]; omega
    have hb' : x / 128 * 2 ^ (7 * (n + 1)) < 18446744073709551616 := by
      rw [hp, ← Nat.mul_assoc]
      exact Nat.lt_of_le_of_lt (Nat.mul_le_mul_right _ (by omega)) hb
    rw [List.cons_append, ruv_more (by rw [e]; rintro (⟨h1, _⟩ | ⟨h1, _⟩) <;> omega) (by rw [e]; omega), e, ih (n + 1) _ rest hb' (fun _ => by omega), List.length_cons]
    congr 1
    refine Prod.ext ?_ (by simp only; omega)
    simp only
    rw [hp, show (x % 128 + 128) % 128 = x % 128 by omega, ← Nat.mul_assoc, Nat.add_assoc, ← Nat.add_mul]
    congr 2
    omega
/-- What is read is the number's own bytes. -/
theorem ruv_canon {l : List UInt8} : ∀ {n v x k : Nat}, n ≤ 9 → ruv n v l = some (x, k) → ∃ y, x = v + y * 2 ^ (7 * n) ∧ k = n + (uvar y).length ∧ l.take (uvar y).length = uvar y ∧ (n > 0 → y > 0) ∧ y * 2 ^ (7 * n) < 18446744073709551616 := by
  induction l with
  | nil => intro n v x k _ h; cases h
  | cons b l ih =>
    intro n v x k hn h
    by_cases hbad : (n = 9 ∧ b.toNat > 1) ∨ (b.toNat = 0 ∧ n > 0)
    · rw [ruv_bad hbad] at h; cases h
    by_cases hlt : b.toNat < 128
    · rw [ruv_end hbad hlt] at h
      injection h with h; injection h with h1 h2
      have hu := uvar_lt hlt
      refine ⟨b.toNat, ?_, ?_, ?_, ?_, ?_⟩
      · rw [← h1, Nat.mod_eq_of_lt hlt]
      · rw [hu, ← h2]; rfl
      · rw [hu]; simp
      · intro hn0
        rcases Nat.eq_zero_or_pos b.toNat with h0 | h0
        · exact absurd (.inr ⟨h0, hn0⟩) hbad
        · exact h0
      · by_cases h9 : n = 9
        · subst h9
          have : b.toNat ≤ 1 := by
            rcases Nat.lt_or_ge 1 b.toNat with h | h
            · exact absurd (.inl ⟨rfl, h⟩) hbad
            · exact h
          have := Nat.mul_le_mul_right (2 ^ (7 * 9)) this
          omega
        · have h1 : 2 ^ (7 * n) ≤ 2 ^ 56 := Nat.pow_le_pow_right (by decide) (by omega)
          have h2 : b.toNat * 2 ^ (7 * n) ≤ 127 * 2 ^ 56 := Nat.mul_le_mul (by omega) h1
          omega
    · rw [ruv_more hbad hlt] at h
      have h9 : n ≠ 9 := fun h9 => hbad (.inl ⟨h9, by omega⟩)
      obtain ⟨y, h1, h2, h3, h4, h5⟩ := ih (by omega) h
      have hb := b.toNat_lt
      have hy := h4 (by omega)
      have hp : 2 ^ (7 * (n + 1)) = 128 * 2 ^ (7 * n) := by rw [Nat.mul_add, Nat.pow_add]; omega
      have hge : ¬ (b.toNat % 128 + y * 128) < 128 := by omega
      have hu : uvar (b.toNat % 128 + y * 128) = b :: uvar y := by
        rw [uvar_ge hge, show (b.toNat % 128 + y * 128) % 128 + 128 = b.toNat by omega, show (b.toNat % 128 + y * 128) / 128 = y by omega, UInt8.ofNat_toNat]
      have hm : y * 2 ^ (7 * (n + 1)) = y * 128 * 2 ^ (7 * n) := by rw [hp, ← Nat.mul_assoc]
      refine ⟨b.toNat % 128 + y * 128, ?_, ?_, ?_, fun _ => by omega, ?_⟩
      · rw [h1, hm, Nat.add_assoc, ← Nat.add_mul]
      · rw [hu, h2, List.length_cons]; omega
      · rw [hu, List.length_cons, List.take_succ_cons, h3]
      · rw [hm] at h5
        have hP : 0 < 2 ^ (7 * n) := Nat.pow_pos (by decide)
        have hM : (18446744073709551616 : Nat) = 2 ^ (57 - 7 * n) * 128 * 2 ^ (7 * n) := by
          rw [show (128 : Nat) = 2 ^ 7 from rfl, ← Nat.pow_add, ← Nat.pow_add, show 57 - 7 * n + 7 + 7 * n = 64 by omega]
        rw [hM] at h5 ⊢
        have h6 := Nat.lt_of_mul_lt_mul_right h5
        exact Nat.mul_lt_mul_of_pos_right (by omega) hP

/-! ### The value of such bytes -/
def valB : List UInt8 → Nat
  | [] => 0
  | b :: l => b.toNat % 128 + 128 * valB l
theorem valB_uvar (x : Nat) : valB (uvar x) = x := by
  induction x using uvar.induct with
  | case1 x h =>
    rw [uvar_lt h]
    have e := ofNat_toNat (x := x) (by omega)
    simp only [valB, e]; omega
  | case2 x h ih =>
    rw [uvar_ge h]
    have e := ofNat_toNat (x := x % 128 + 128) (by omega)
    simp only [valB, e, ih]; omega
theorem uvar_hi (x : Nat) : ∀ (j : Nat) (b : UInt8), (uvar x)[j]? = some b → (b.toNat < 128 ↔ j + 1 = (uvar x).length) := by
  induction x using uvar.induct with
  | case1 x h =>
    intro j b hb
    rw [uvar_lt h] at hb ⊢
    have e := ofNat_toNat (x := x) (by omega)
    cases j with
    | zero =>
      simp only [List.getElem?_cons_zero, Option.some.injEq] at hb
      subst hb; rw [e]; simp [h]
    | succ j => simp at hb
  | case2 x h ih =>
    intro j b hb
    rw [uvar_ge h] at hb ⊢
    have e := ofNat_toNat (x := x % 128 + 128) (by omega)
    have := uvar_pos (x / 128)
    cases j with
    | zero =>
      simp only [List.getElem?_cons_zero, Option.some.injEq] at hb
      subst hb; rw [e, List.length_cons]; omega
    | succ j =>
      rw [List.getElem?_cons_succ] at hb
      rw [List.length_cons, ih j b hb]; omega

/-! ### The sum, bit by bit -/
def refStep (b k c : Nat) : Nat := if (c % 2) ^^^ (b / 2 ^ k % 2) = 1 then (c / 2) ^^^ 3988292384 else c / 2
def refN (b : Nat) : Nat → Nat → Nat
  | 0, c => c
  | k + 1, c => refStep b k (refN b k c)
theorem refStep_crc (b k c : Nat) : crc1 (c ^^^ (b / 2 ^ k)) = refStep b k c ^^^ (b / 2 ^ (k + 1)) := by
  have h2 : (c ^^^ (b / 2 ^ k)) / 2 = (c / 2) ^^^ (b / 2 ^ (k + 1)) := by
    rw [Nat.xor_div_two, Nat.pow_succ, Nat.div_div_eq_div_mul]
  have h1 : (c ^^^ (b / 2 ^ k)) % 2 = 1 ↔ (c % 2) ^^^ (b / 2 ^ k % 2) = 1 := by
    rw [Nat.xor_mod_two_eq_one]
    rcases Nat.mod_two_eq_zero_or_one c with h | h <;> rcases Nat.mod_two_eq_zero_or_one (b / 2 ^ k) with h' | h' <;> rw [h, h'] <;> decide
  unfold crc1 refStep
  by_cases h : (c % 2) ^^^ (b / 2 ^ k % 2) = 1
  · rw [if_pos h, if_pos (h1.2 h), h2, Nat.xor_assoc, Nat.xor_assoc, Nat.xor_comm (b / 2 ^ (k + 1))]
  · rw [if_neg h, if_neg fun h' => h (h1.1 h'), h2]
theorem refN_crc (b c : Nat) : ∀ k, crcN k (c ^^^ b) = refN b k c ^^^ (b / 2 ^ k)
  | 0 => by simp [crcN, refN]
  | k + 1 => by rw [crcN_snoc, refN_crc b c k, refStep_crc]; rfl
theorem refN_8 {b c : Nat} (hb : b < 256) : refN b 8 c = crcN 8 (c ^^^ b) := by
  rw [refN_crc, show b / 2 ^ 8 = 0 by omega, Nat.xor_zero]
end Go.VM

namespace Go.VM
open Go Go.RowKit Go.Proofs

theorem refUvarint_runs {w0 : World} {S : St} {Q : AEnd → St → Prop} {v : Nat} (hv : v < 18446744073709551616)
    (hQ : ∀ S' v', IsBytes v' (uvar v) → Keeps (fun _ => False) S S' → Q (.ret v') S') : RSim Try.prog w0 n_r01_Uvarint [.int .u64 v] S Q := by
  have hl := uvar_len10 hv
  refine RSim.run mixed k_r01_Uvarint ?_ (by simp)
  simp only [b_r01_Uvarint, go_sem, Nat.reduceEqDiff, Nat.reduceAdd, Nat.reduceMul, Nat.reduceSub, Nat.reduceLeDiff, Int.reduceBEq, Int.reduceBNe, Int.reduceLT, Int.reduceLE, Int.reduceGT, Int.reduceGE, Int.reduceEq, ↓reduceIte, reduceCtorEq]
  refine loop_rule RSim.le (k := v) (fun m fr S1 => ∃ (u : Nat) (bs : List UInt8) (t : Tok), m = u ∧ u < 18446744073709551616 ∧ fr 0 = .int .u64 u ∧ fr 3 = .sl (bs.map u8V) bs.length 1 t ∧ bs ++ uvar u = uvar v ∧ TokOk S1 t ∧ (t = .nil → bs = []) ∧ (∀ j, t = .at j → S.n ≤ j) ∧ Keeps (fun _ => False) S S1) ?_
    ⟨v, [], .nil, rfl, hv, by simp only [go_sem, Nat.reduceEqDiff, Nat.reduceAdd, Nat.reduceMul, Nat.reduceSub, Nat.reduceLeDiff, Int.reduceBEq, Int.reduceBNe, Int.reduceLT, Int.reduceLE, Int.reduceGT, Int.reduceGE, Int.reduceEq, ↓reduceIte, reduceCtorEq], by simp only [go_sem, Nat.reduceEqDiff, Nat.reduceAdd, Nat.reduceMul, Nat.reduceSub, Nat.reduceLeDiff, Int.reduceBEq, Int.reduceBNe, Int.reduceLT, Int.reduceLE, Int.reduceGT, Int.reduceGE, Int.reduceEq, ↓reduceIte, reduceCtorEq], rfl, trivial, fun _ => rfl, fun j h => (by cases h), Keeps.refl _ _⟩
  rintro m fr S1 ⟨u, bs, t, hm, hu, f0, f3, hbs, ht, hn, htn, k1⟩
  subst hm
  have hlen : bs.length + (uvar m).length = (uvar v).length := by rw [← hbs, List.length_append]
  have hpos := uvar_pos m
  simp only [l_r01_Uvarint_0, go_sem, Nat.reduceEqDiff, Nat.reduceAdd, Nat.reduceMul, Nat.reduceSub, Nat.reduceLeDiff, Int.reduceBEq, Int.reduceBNe, Int.reduceLT, Int.reduceLE, Int.reduceGT, Int.reduceGE, Int.reduceEq, ↓reduceIte, reduceCtorEq, f0, f3]
  refine wc_ite (b := decide ((m : Int) ≥ 128)) (by simp only [go_sem, Nat.reduceEqDiff, Nat.reduceAdd, Nat.reduceMul, Nat.reduceSub, Nat.reduceLeDiff, Int.reduceBEq, Int.reduceBNe, Int.reduceLT, Int.reduceLE, Int.reduceGT, Int.reduceGE, Int.reduceEq, ↓reduceIte, reduceCtorEq]) (fun hc => ?_) (fun hc => ?_)
  · have hm : ¬ m < 128 := by have := of_decide_eq_true hc; omega
    have t1 : (m : Int).tmod 128 = ((m % 128 : Nat) : Int) := by rw [Int.tmod_eq_emod_of_nonneg (by omega)]; omega
    have t2 : IntKind.u64.wrap ((m : Int).tdiv 128) = ((m / 128 : Nat) : Int) := by
      rw [Int.tdiv_eq_ediv_of_nonneg (by omega), wu64 (by omega) (by omega)]; omega
    have cv : ∀ S, V.conv S (.int .u8) (.int .u64 ((m % 128 : Nat) : Int)) = some (.int .u8 ((m % 128 : Nat) : Int)) := fun S => by
      simp only [V.conv, wu8 (show (0 : Int) ≤ ((m % 128 : Nat) : Int) by omega) (show ((m % 128 : Nat) : Int) < 256 by omega)]
    have t3 : IntKind.u8.wrap (((m % 128 : Nat) : Int) + 128) = ((m % 128 + 128 : Nat) : Int) := by rw [wu8 (by omega) (by omega)]; omega
    simp only [go_sem, Nat.reduceEqDiff, Nat.reduceAdd, Nat.reduceMul, Nat.reduceSub, Nat.reduceLeDiff, Int.reduceBEq, Int.reduceBNe, Int.reduceLT, Int.reduceLE, Int.reduceGT, Int.reduceGE, Int.reduceEq, ↓reduceIte, reduceCtorEq, f0, f3, t1, cv, t3]
    have hcell : V.int .u8 ((m % 128 + 128 : Nat) : Int) = u8V (UInt8.ofNat (m % 128 + 128)) := by rw [u8V_ofNat, Nat.mod_eq_of_lt (a := m % 128 + 128) (by omega)]
    rw [hcell]
    refine wi_appendB (S0 := S) (bs := bs) (cs := [UInt8.ofNat (m % 128 + 128)]) (t := t) (by simp only [go_sem, Nat.reduceEqDiff, Nat.reduceAdd, Nat.reduceMul, Nat.reduceSub, Nat.reduceLeDiff, Int.reduceBEq, Int.reduceBNe, Int.reduceLT, Int.reduceLE, Int.reduceGT, Int.reduceGE, Int.reduceEq, ↓reduceIte, reduceCtorEq, f3]) rfl (by simp only [go_sem, Nat.reduceEqDiff, Nat.reduceAdd, Nat.reduceMul, Nat.reduceSub, Nat.reduceLeDiff, Int.reduceBEq, Int.reduceBNe, Int.reduceLT, Int.reduceLE, Int.reduceGT, Int.reduceGE, Int.reduceEq, ↓reduceIte, reduceCtorEq]; exact elems1 _ _ _ (by simp)) (by simp; omega) k1 ht htn hn fun t' S2 k2 ht2 hn2 hz => ?_
    simp only [go_sem, Nat.reduceEqDiff, Nat.reduceAdd, Nat.reduceMul, Nat.reduceSub, Nat.reduceLeDiff, Int.reduceBEq, Int.reduceBNe, Int.reduceLT, Int.reduceLE, Int.reduceGT, Int.reduceGE, Int.reduceEq, ↓reduceIte, reduceCtorEq, f0, t2]
    have hn1 : bs.length + 1 = (bs ++ [UInt8.ofNat (m % 128 + 128)]).length := by simp
    refine ⟨m / 128, by omega, m / 128, bs ++ [UInt8.ofNat (m % 128 + 128)], t', rfl, by omega, by simp only [go_sem, Nat.reduceEqDiff, Nat.reduceAdd, Nat.reduceMul, Nat.reduceSub, Nat.reduceLeDiff, Int.reduceBEq, Int.reduceBNe, Int.reduceLT, Int.reduceLE, Int.reduceGT, Int.reduceGE, Int.reduceEq, ↓reduceIte, reduceCtorEq], by simp only [go_sem, Nat.reduceEqDiff, Nat.reduceAdd, Nat.reduceMul, Nat.reduceSub, Nat.reduceLeDiff, Int.reduceBEq, Int.reduceBNe, Int.reduceLT, Int.reduceLE, Int.reduceGT, Int.reduceGE, Int.reduceEq, ↓reduceIte, reduceCtorEq], ?_, ht2, hz, hn2, k2⟩
    rw [← hbs, uvar_ge hm, List.append_assoc]; rfl
  · have hm : m < 128 := by have := of_decide_eq_false hc; omega
    have cv : ∀ S, V.conv S (.int .u8) (.int .u64 (m : Int)) = some (.int .u8 (m : Int)) := fun S => by
      simp only [V.conv, wu8 (show (0 : Int) ≤ m by omega) (show (m : Int) < 256 by omega)]
    simp only [go_sem, Nat.reduceEqDiff, Nat.reduceAdd, Nat.reduceMul, Nat.reduceSub, Nat.reduceLeDiff, Int.reduceBEq, Int.reduceBNe, Int.reduceLT, Int.reduceLE, Int.reduceGT, Int.reduceGE, Int.reduceEq, ↓reduceIte, reduceCtorEq, f0, f3, cv]
    have hcell : V.int .u8 (m : Int) = u8V (UInt8.ofNat m) := by rw [u8V_ofNat, Nat.mod_eq_of_lt (a := m) (by omega)]
    rw [hcell]
    refine wi_appendB (S0 := S) (bs := bs) (cs := [UInt8.ofNat m]) (t := t) (by simp only [go_sem, Nat.reduceEqDiff, Nat.reduceAdd, Nat.reduceMul, Nat.reduceSub, Nat.reduceLeDiff, Int.reduceBEq, Int.reduceBNe, Int.reduceLT, Int.reduceLE, Int.reduceGT, Int.reduceGE, Int.reduceEq, ↓reduceIte, reduceCtorEq]) rfl (by simp only [go_sem, Nat.reduceEqDiff, Nat.reduceAdd, Nat.reduceMul, Nat.reduceSub, Nat.reduceLeDiff, Int.reduceBEq, Int.reduceBNe, Int.reduceLT, Int.reduceLE, Int.reduceGT, Int.reduceGE, Int.reduceEq, ↓reduceIte, reduceCtorEq]; exact elems1 _ _ _ (by simp)) (by simp; omega) k1 ht htn hn fun t' S2 k2 ht2 hn2 hz => ?_
    simp only [go_sem, Nat.reduceEqDiff, Nat.reduceAdd, Nat.reduceMul, Nat.reduceSub, Nat.reduceLeDiff, Int.reduceBEq, Int.reduceBNe, Int.reduceLT, Int.reduceLE, Int.reduceGT, Int.reduceGE, Int.reduceEq, ↓reduceIte, reduceCtorEq]
    have e : bs ++ [UInt8.ofNat m] = uvar v := by rw [← hbs, uvar_lt hm]
    rw [e] at hz
    have := hQ S2 (.sl ((bs ++ [UInt8.ofNat m]).map u8V) (bs ++ [UInt8.ofNat m]).length 1 t') ⟨t', by rw [e], hz⟩ k2
    exact this
theorem refFour_runs {w0 : World} {S : St} {Q : AEnd → St → Prop} {v : Nat} (hv : v < 4294967296)
    (hQ : Q (.ret (.sl ((fourB v).map u8V) 4 1 .cap)) S) : RSim Try.prog w0 n_r01_Four [.int .u32 v] S Q := by
  have fd : ∀ d : Nat, (v : Int).fdiv (d : Int) = ((v / d : Nat) : Int) := fun d => by
    rw [Int.fdiv_eq_ediv_of_nonneg _ (by omega)]; exact (Int.natCast_ediv v d).symm
  have h1 : (v : Int).fdiv (2 ^ (min (Int.toNat 24) 32)) = ((v / 16777216 : Nat) : Int) := fd 16777216
  have h2 : (v : Int).fdiv (2 ^ (min (Int.toNat 16) 32)) = ((v / 65536 : Nat) : Int) := fd 65536
  have h3 : (v : Int).fdiv (2 ^ (min (Int.toNat 8) 32)) = ((v / 256 : Nat) : Int) := fd 256
  have cv : ∀ x : Nat, V.conv S (.int .u8) (.int .u32 (x : Int)) = some (u8V (UInt8.ofNat x)) := fun x => by
    simp only [V.conv, IntKind.wrap_u8, u8V_ofNat]; congr 2
  refine RSim.run mixed k_r01_Four ?_ (by simp)
  simp only [b_r01_Four, go_sem, Nat.reduceEqDiff, Nat.reduceAdd, Nat.reduceMul, Nat.reduceSub, Nat.reduceLeDiff, Int.reduceBEq, Int.reduceBNe, Int.reduceLT, Int.reduceLE, Int.reduceGT, Int.reduceGE, Int.reduceEq, ↓reduceIte, reduceCtorEq, h1, h2, h3, cv]
  exact hQ
end Go.VM

namespace Go.VM
open Go Go.RowKit Go.Proofs

theorem refStep_lt {b k c : Nat} (h : c < 4294967296) : refStep b k c < 4294967296 := by
  unfold refStep; split
  · exact Nat.xor_lt_two_pow (n := 32) (by omega) (by decide)
  · omega
theorem refN_lt {b c : Nat} (h : c < 4294967296) : ∀ k, refN b k c < 4294967296
  | 0 => h
  | k + 1 => refStep_lt (refN_lt h k)
theorem refSum_step {w0 : World} {fr : Fr} {S : St} {Q : CPost} {c k j : Nat} {b : UInt8} {bs : List UInt8} {t : Tok} (hk : k ≤ 8) (hc32 : c < 4294967296) (hb : bs[j]? = some b) (ht : t = .nil → bs = []) (hl : bs.length ≤ 1000000000000000)
    (h0 : fr 0 = .sl (bs.map u8V) bs.length 1 t) (h3 : fr 3 = .int .u32 c) (h4 : fr 4 = .int .i64 j) (h5 : fr 5 = .int .i64 k)
    (hQ : k < 8 → ∀ fr' : Fr, fr' 0 = fr 0 → fr' 4 = fr 4 → fr' 3 = .int .u32 (refStep b.toNat k c) → fr' 5 = .int .i64 ((k + 1 : Nat) : Int) → Q .normal fr' S)
    (hQ' : k = 8 → ∀ fr' : Fr, fr' 0 = fr 0 → fr' 4 = fr 4 → fr' 3 = .int .u32 c → Q (.exit 2) fr' S) : wCode (RSim Try.prog w0) l_r01_Sum_0 fr S Q := by
  simp only [l_r01_Sum_0, go_sem, Nat.reduceEqDiff, Nat.reduceAdd, Nat.reduceMul, Nat.reduceSub, Nat.reduceLeDiff, Int.reduceBEq, Int.reduceBNe, Int.reduceLT, Int.reduceLE, Int.reduceGT, Int.reduceGE, Int.reduceEq, ↓reduceIte, reduceCtorEq, h0, h3, h4, h5]
  refine wc_ite (b := decide ((k : Int) < 8)) (by simp only [go_sem, Nat.reduceEqDiff, Nat.reduceAdd, Nat.reduceMul, Nat.reduceSub, Nat.reduceLeDiff, Int.reduceBEq, Int.reduceBNe, Int.reduceLT, Int.reduceLE, Int.reduceGT, Int.reduceGE, Int.reduceEq, ↓reduceIte, reduceCtorEq]) (fun hc => ?_) (fun hc => ?_)
  · have hlt : k < 8 := by have := of_decide_eq_true hc; omega
    have hj := (List.getElem?_eq_some_iff.1 hb).1
    have hd := drop_get hb
    have hjt : (j < bs.length) = True := eq_true hj
    have htn : (t = .nil) = False := eq_false fun h => by rw [ht h] at hj; simp at hj
    have hbl := b.toNat_lt
    have w1 : IntKind.i64.wrap ((k : Int) + 1) = ((k + 1 : Nat) : Int) := by rw [w64 (by omega) (by omega)]; omega
    have hge : ((k : Int) < 0) = False := eq_false (by omega)
    have hp : 0 < 2 ^ k := Nat.pow_pos (by decide)
    have hbk : b.toNat / 2 ^ k < 256 := Nat.lt_of_le_of_lt (Nat.div_le_self _ _) hbl
    have hsh : (b.toNat : Int).fdiv (2 ^ (min k 8)) = ((b.toNat / 2 ^ k : Nat) : Int) := by
      rw [Nat.min_eq_left hk, show ((2 : Int) ^ k) = ((2 ^ k : Nat) : Int) by push_cast; rfl, Int.fdiv_eq_ediv_of_nonneg _ (by omega)]
      exact (Int.natCast_ediv _ _).symm
    have hr : refStep b.toNat k c = if (c % 2) ^^^ (b.toNat / 2 ^ k % 2) = 1 then (c / 2) ^^^ 3988292384 else c / 2 := rfl
    generalize b.toNat / 2 ^ k = y at *
    have cv : ∀ S, V.conv S (.int .u32) (.int .u8 ((y : Nat) : Int)) = some (.int .u32 ((y : Nat) : Int)) := fun S => by
      simp only [V.conv, wu32 (show (0 : Int) ≤ ((y : Nat) : Int) by omega) (show ((y : Nat) : Int) < 4294967296 by omega)]
    have a1 : bitsV .and .u32 ((y : Nat) : Int) 1 = some ((y % 2 : Nat) : Int) := by
      rw [show (1 : Int) = ((1 : Nat) : Int) from rfl, and32 (by omega) (by decide), Nat.and_one_is_mod]
    have a2 : bitsV .and .u32 (c : Int) 1 = some ((c % 2 : Nat) : Int) := by
      rw [show (1 : Int) = ((1 : Nat) : Int) from rfl, and32 hc32 (by decide), Nat.and_one_is_mod]
    have a3 : bitsV .xor .u32 ((c % 2 : Nat) : Int) ((y % 2 : Nat) : Int) = some (((c % 2) ^^^ (y % 2) : Nat) : Int) := xor32 (by omega) (by omega)
    have hd2 : (c : Int).fdiv (2 ^ (min (Int.toNat 1) 32)) = ((c / 2 : Nat) : Int) := by
      show (c : Int).fdiv 2 = _
      rw [Int.fdiv_eq_ediv_of_nonneg _ (by omega)]; omega
    have hx : bitsV .xor .u32 ((c / 2 : Nat) : Int) 3988292384 = some (((c / 2) ^^^ 3988292384 : Nat) : Int) := by
      rw [show (3988292384 : Int) = ((3988292384 : Nat) : Int) from rfl, xor32 (by omega) (by decide)]
    generalize (c % 2) ^^^ (y % 2) = low at *
    have hq : ((low : Int) == 1) = decide (low = 1) := by rw [Bool.eq_iff_iff, beq_iff_eq, decide_eq_true_iff]; omega
    simp only [go_sem, Nat.reduceEqDiff, Nat.reduceAdd, Nat.reduceMul, Nat.reduceSub, Nat.reduceLeDiff, Int.reduceBEq, Int.reduceBNe, Int.reduceLT, Int.reduceLE, Int.reduceGT, Int.reduceGE, Int.reduceEq, ↓reduceIte, reduceCtorEq, h0, h3, h4, h5, hd, hjt, htn, List.head?_cons, hge, hsh, cv, a1, a2, a3, hd2, hq]
    refine wc_ite (b := decide (low = 1)) (by simp only [go_sem, Nat.reduceEqDiff, Nat.reduceAdd, Nat.reduceMul, Nat.reduceSub, Nat.reduceLeDiff, Int.reduceBEq, Int.reduceBNe, Int.reduceLT, Int.reduceLE, Int.reduceGT, Int.reduceGE, Int.reduceEq, ↓reduceIte, reduceCtorEq]) (fun hc => ?_) (fun hc => ?_)
    · rw [if_pos (of_decide_eq_true hc)] at hr
      simp only [go_sem, Nat.reduceEqDiff, Nat.reduceAdd, Nat.reduceMul, Nat.reduceSub, Nat.reduceLeDiff, Int.reduceBEq, Int.reduceBNe, Int.reduceLT, Int.reduceLE, Int.reduceGT, Int.reduceGE, Int.reduceEq, ↓reduceIte, reduceCtorEq, h5, hx, w1]
      exact hQ hlt _ (by simp only [go_sem, Nat.reduceEqDiff, Nat.reduceAdd, Nat.reduceMul, Nat.reduceSub, Nat.reduceLeDiff, Int.reduceBEq, Int.reduceBNe, Int.reduceLT, Int.reduceLE, Int.reduceGT, Int.reduceGE, Int.reduceEq, ↓reduceIte, reduceCtorEq, h0]) (by simp only [go_sem, Nat.reduceEqDiff, Nat.reduceAdd, Nat.reduceMul, Nat.reduceSub, Nat.reduceLeDiff, Int.reduceBEq, Int.reduceBNe, Int.reduceLT, Int.reduceLE, Int.reduceGT, Int.reduceGE, Int.reduceEq, ↓reduceIte, reduceCtorEq, h4]) (by simp only [go_sem, Nat.reduceEqDiff, Nat.reduceAdd, Nat.reduceMul, Nat.reduceSub, Nat.reduceLeDiff, Int.reduceBEq, Int.reduceBNe, Int.reduceLT, Int.reduceLE, Int.reduceGT, Int.reduceGE, Int.reduceEq, ↓reduceIte, reduceCtorEq, hr]) (by simp only [go_sem, Nat.reduceEqDiff, Nat.reduceAdd, Nat.reduceMul, Nat.reduceSub, Nat.reduceLeDiff, Int.reduceBEq, Int.reduceBNe, Int.reduceLT, Int.reduceLE, Int.reduceGT, Int.reduceGE, Int.reduceEq, ↓reduceIte, reduceCtorEq])
    · rw [if_neg (of_decide_eq_false hc)] at hr
      simp only [go_sem, Nat.reduceEqDiff, Nat.reduceAdd, Nat.reduceMul, Nat.reduceSub, Nat.reduceLeDiff, Int.reduceBEq, Int.reduceBNe, Int.reduceLT, Int.reduceLE, Int.reduceGT, Int.reduceGE, Int.reduceEq, ↓reduceIte, reduceCtorEq, h5, w1]
      exact hQ hlt _ (by simp only [go_sem, Nat.reduceEqDiff, Nat.reduceAdd, Nat.reduceMul, Nat.reduceSub, Nat.reduceLeDiff, Int.reduceBEq, Int.reduceBNe, Int.reduceLT, Int.reduceLE, Int.reduceGT, Int.reduceGE, Int.reduceEq, ↓reduceIte, reduceCtorEq, h0]) (by simp only [go_sem, Nat.reduceEqDiff, Nat.reduceAdd, Nat.reduceMul, Nat.reduceSub, Nat.reduceLeDiff, Int.reduceBEq, Int.reduceBNe, Int.reduceLT, Int.reduceLE, Int.reduceGT, Int.reduceGE, Int.reduceEq, ↓reduceIte, reduceCtorEq, h4]) (by simp only [go_sem, Nat.reduceEqDiff, Nat.reduceAdd, Nat.reduceMul, Nat.reduceSub, Nat.reduceLeDiff, Int.reduceBEq, Int.reduceBNe, Int.reduceLT, Int.reduceLE, Int.reduceGT, Int.reduceGE, Int.reduceEq, ↓reduceIte, reduceCtorEq, hr]) (by simp only [go_sem, Nat.reduceEqDiff, Nat.reduceAdd, Nat.reduceMul, Nat.reduceSub, Nat.reduceLeDiff, Int.reduceBEq, Int.reduceBNe, Int.reduceLT, Int.reduceLE, Int.reduceGT, Int.reduceGE, Int.reduceEq, ↓reduceIte, reduceCtorEq])
  · have hge : k = 8 := by have := of_decide_eq_false hc; omega
    simp only [go_sem, Nat.reduceEqDiff, Nat.reduceAdd, Nat.reduceMul, Nat.reduceSub, Nat.reduceLeDiff, Int.reduceBEq, Int.reduceBNe, Int.reduceLT, Int.reduceLE, Int.reduceGT, Int.reduceGE, Int.reduceEq, ↓reduceIte, reduceCtorEq]
    exact hQ' hge _ (by simp only [go_sem, Nat.reduceEqDiff, Nat.reduceAdd, Nat.reduceMul, Nat.reduceSub, Nat.reduceLeDiff, Int.reduceBEq, Int.reduceBNe, Int.reduceLT, Int.reduceLE, Int.reduceGT, Int.reduceGE, Int.reduceEq, ↓reduceIte, reduceCtorEq, h0]) (by simp only [go_sem, Nat.reduceEqDiff, Nat.reduceAdd, Nat.reduceMul, Nat.reduceSub, Nat.reduceLeDiff, Int.reduceBEq, Int.reduceBNe, Int.reduceLT, Int.reduceLE, Int.reduceGT, Int.reduceGE, Int.reduceEq, ↓reduceIte, reduceCtorEq, h4]) (by simp only [go_sem, Nat.reduceEqDiff, Nat.reduceAdd, Nat.reduceMul, Nat.reduceSub, Nat.reduceLeDiff, Int.reduceBEq, Int.reduceBNe, Int.reduceLT, Int.reduceLE, Int.reduceGT, Int.reduceGE, Int.reduceEq, ↓reduceIte, reduceCtorEq, h3])
theorem refSum_runs {w0 : World} {S : St} {Q : AEnd → St → Prop} {v : V} {bs : List UInt8} (hv : IsBytes v bs) (hl : bs.length ≤ 1000000000000000)
    (hQ : Q (.ret (.int .u32 (sumN bs))) S) : RSim Try.prog w0 n_r01_Sum [v] S Q := by
  obtain ⟨t, rfl, ht⟩ := hv
  refine RSim.run mixed k_r01_Sum ?_ (by simp)
  simp only [b_r01_Sum, go_sem, Nat.reduceEqDiff, Nat.reduceAdd, Nat.reduceMul, Nat.reduceSub, Nat.reduceLeDiff, Int.reduceBEq, Int.reduceBNe, Int.reduceLT, Int.reduceLE, Int.reduceGT, Int.reduceGE, Int.reduceEq, ↓reduceIte, reduceCtorEq]
  refine loop_rule RSim.le (k := bs.length) (fun m fr S1 => ∃ j : Nat, m = bs.length - j ∧ j ≤ bs.length ∧ S1 = S ∧ fr 0 = .sl (bs.map u8V) bs.length 1 t ∧ fr 4 = .int .i64 j ∧ fr 3 = .int .u32 (crcAll 4294967295 (bs.take j))) ?_
    ⟨0, rfl, by omega, rfl, by simp only [go_sem, Nat.reduceEqDiff, Nat.reduceAdd, Nat.reduceMul, Nat.reduceSub, Nat.reduceLeDiff, Int.reduceBEq, Int.reduceBNe, Int.reduceLT, Int.reduceLE, Int.reduceGT, Int.reduceGE, Int.reduceEq, ↓reduceIte, reduceCtorEq], by simp only [go_sem, Nat.reduceEqDiff, Nat.reduceAdd, Nat.reduceMul, Nat.reduceSub, Nat.reduceLeDiff, Int.reduceBEq, Int.reduceBNe, Int.reduceLT, Int.reduceLE, Int.reduceGT, Int.reduceGE, Int.reduceEq, ↓reduceIte, reduceCtorEq]; rfl, by simp only [go_sem, Nat.reduceEqDiff, Nat.reduceAdd, Nat.reduceMul, Nat.reduceSub, Nat.reduceLeDiff, Int.reduceBEq, Int.reduceBNe, Int.reduceLT, Int.reduceLE, Int.reduceGT, Int.reduceGE, Int.reduceEq, ↓reduceIte, reduceCtorEq]; rfl⟩
  rintro m fr S1 ⟨j, hm, hj, rfl, f0, f4, f3⟩
  simp only [l_r01_Sum_1, go_sem, Nat.reduceEqDiff, Nat.reduceAdd, Nat.reduceMul, Nat.reduceSub, Nat.reduceLeDiff, Int.reduceBEq, Int.reduceBNe, Int.reduceLT, Int.reduceLE, Int.reduceGT, Int.reduceGE, Int.reduceEq, ↓reduceIte, reduceCtorEq, f0, f4, f3]
  have hs : crcAll 4294967295 (bs.take j) < 4294967296 := crcAll_lt _ (by decide)
  refine wc_ite (b := decide ((j : Int) < (bs.length : Int))) (by simp only [go_sem, Nat.reduceEqDiff, Nat.reduceAdd, Nat.reduceMul, Nat.reduceSub, Nat.reduceLeDiff, Int.reduceBEq, Int.reduceBNe, Int.reduceLT, Int.reduceLE, Int.reduceGT, Int.reduceGE, Int.reduceEq, ↓reduceIte, reduceCtorEq]) (fun hc => ?_) (fun hc => ?_)
  · have hlt : j < bs.length := by have := of_decide_eq_true hc; omega
    obtain ⟨b, hb⟩ : ∃ b, bs[j]? = some b := ⟨bs[j], List.getElem?_eq_getElem hlt⟩
    have htake := crcAll_take hb 4294967295
    unfold crcB at htake
    rw [← refN_8 b.toNat_lt] at htake
    have w1 : IntKind.i64.wrap ((j : Int) + 1) = ((j + 1 : Nat) : Int) := by rw [w64 (by omega) (by omega)]; omega
    generalize crcAll 4294967295 (bs.take j) = s0 at *
    simp only [go_sem, Nat.reduceEqDiff, Nat.reduceAdd, Nat.reduceMul, Nat.reduceSub, Nat.reduceLeDiff, Int.reduceBEq, Int.reduceBNe, Int.reduceLT, Int.reduceLE, Int.reduceGT, Int.reduceGE, Int.reduceEq, ↓reduceIte, reduceCtorEq]
    refine loop_rule RSim.le (k := 8) (fun m' fr' S2 => ∃ i : Nat, m' = 8 - i ∧ i ≤ 8 ∧ S2 = S1 ∧ fr' 0 = .sl (bs.map u8V) bs.length 1 t ∧ fr' 4 = .int .i64 j ∧ fr' 3 = .int .u32 (refN b.toNat i s0) ∧ fr' 5 = .int .i64 i) ?_
      ⟨0, rfl, by omega, rfl, by simp only [go_sem, Nat.reduceEqDiff, Nat.reduceAdd, Nat.reduceMul, Nat.reduceSub, Nat.reduceLeDiff, Int.reduceBEq, Int.reduceBNe, Int.reduceLT, Int.reduceLE, Int.reduceGT, Int.reduceGE, Int.reduceEq, ↓reduceIte, reduceCtorEq, f0], by simp only [go_sem, Nat.reduceEqDiff, Nat.reduceAdd, Nat.reduceMul, Nat.reduceSub, Nat.reduceLeDiff, Int.reduceBEq, Int.reduceBNe, Int.reduceLT, Int.reduceLE, Int.reduceGT, Int.reduceGE, Int.reduceEq, ↓reduceIte, reduceCtorEq, f4], by simp only [go_sem, Nat.reduceEqDiff, Nat.reduceAdd, Nat.reduceMul, Nat.reduceSub, Nat.reduceLeDiff, Int.reduceBEq, Int.reduceBNe, Int.reduceLT, Int.reduceLE, Int.reduceGT, Int.reduceGE, Int.reduceEq, ↓reduceIte, reduceCtorEq, f3]; rfl, by simp only [go_sem, Nat.reduceEqDiff, Nat.reduceAdd, Nat.reduceMul, Nat.reduceSub, Nat.reduceLeDiff, Int.reduceBEq, Int.reduceBNe, Int.reduceLT, Int.reduceLE, Int.reduceGT, Int.reduceGE, Int.reduceEq, ↓reduceIte, reduceCtorEq]; rfl⟩
    rintro m' fr' S2 ⟨i, hm', hi, rfl, g0, g4, g3, g5⟩
    refine refSum_step hi (refN_lt hs i) hb ht hl g0 g3 g4 g5 (fun h fr2 e0 e4 e3 e5 => ?_) fun h fr2 e0 e4 e3 => ?_
    · exact ⟨8 - (i + 1), by omega, i + 1, rfl, by omega, rfl, e0.trans g0, e4.trans g4, e3, e5⟩
    · subst h
      have e0 := e0.trans g0
      have e4 := e4.trans g4
      simp only [go_sem, Nat.reduceEqDiff, Nat.reduceAdd, Nat.reduceMul, Nat.reduceSub, Nat.reduceLeDiff, Int.reduceBEq, Int.reduceBNe, Int.reduceLT, Int.reduceLE, Int.reduceGT, Int.reduceGE, Int.reduceEq, ↓reduceIte, reduceCtorEq, e0, e4, w1]
      exact ⟨bs.length - (j + 1), by omega, j + 1, rfl, by omega, rfl, by rw [e3, htake]⟩
  · have hge : j = bs.length := by have := of_decide_eq_false hc; omega
    subst hge
    rw [List.take_length] at hs f3
    have hw : IntKind.u32.wrap (4294967295 - ((crcAll 4294967295 bs : Nat) : Int)) = ((sumN bs : Nat) : Int) := by
      rw [wu32 (by omega) (by omega)]; unfold sumN; omega
    simp only [go_sem, Nat.reduceEqDiff, Nat.reduceAdd, Nat.reduceMul, Nat.reduceSub, Nat.reduceLeDiff, Int.reduceBEq, Int.reduceBNe, Int.reduceLT, Int.reduceLE, Int.reduceGT, Int.reduceGE, Int.reduceEq, ↓reduceIte, reduceCtorEq, f3, hw]
    exact hQ
end Go.VM

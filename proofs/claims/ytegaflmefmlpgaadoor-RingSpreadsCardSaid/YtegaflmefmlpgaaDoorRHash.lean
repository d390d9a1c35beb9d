/-
  Ring: the hash, of the program and of the document; numbers in digits. NEWPP
-/
import Derived.Test.YtegaflmefmlpgaaDoorRCodes
set_option maxRecDepth 20000
set_option linter.unusedVariables false
set_option linter.unusedSimpArgs false
namespace Go.VM
open Go Go.RowKit Go.Proofs

theorem u64_xor {a b : Nat} (ha : a < 18446744073709551616) (hb : b < 18446744073709551616) : bitsV .xor .u64 (a : Int) (b : Int) = some ((a ^^^ b : Nat) : Int) := by
  have e : ∀ x : Nat, x < 18446744073709551616 → (BitVec.ofInt 64 (x : Int)).toNat = x := fun x h => by
    rw [BitVec.toNat_ofInt]; omega
  have hx : a ^^^ b < 18446744073709551616 := Nat.xor_lt_two_pow (n := 64) ha hb
  show some (IntKind.u64.wrap ((BitVec.toNat (BitVec.ofInt 64 (a : Int) ^^^ BitVec.ofInt 64 (b : Int)) : Nat) : Int)) = _
  rw [BitVec.toNat_xor, e a ha, e b hb]
  generalize a ^^^ b = x at hx ⊢
  simp only [IntKind.wrap, IntKind.bits, IntKind.signed]
  congr 1
  simp
  omega
theorem u64_wrap (n : Nat) : IntKind.u64.wrap (n : Int) = ((n % 18446744073709551616 : Nat) : Int) := by
  simp only [IntKind.wrap, IntKind.bits, IntKind.signed]
  simp
theorem u64_wrap_of {n : Nat} (h : n < 18446744073709551616) : IntKind.u64.wrap (n : Int) = (n : Int) := by
  rw [u64_wrap, Nat.mod_eq_of_lt h]
theorem u64_mul (a b : Nat) : IntKind.u64.wrap ((a : Int) * (b : Int)) = ((a * b % 18446744073709551616 : Nat) : Int) := by
  rw [← Int.natCast_mul, u64_wrap]
theorem u64_shr (a k : Nat) (hk : k ≤ 64) : (a : Int).fdiv (2 ^ (min k 64)) = ((a / 2 ^ k : Nat) : Int) := by
  rw [Nat.min_eq_left hk, show ((2 : Int) ^ k) = ((2 ^ k : Nat) : Int) by push_cast; rfl, Int.fdiv_eq_ediv_of_nonneg _ (Int.natCast_nonneg _)]
  exact (Int.natCast_ediv _ _).symm

def fnvB (h : Nat) (b : UInt8) : Nat := (h ^^^ b.toNat) * 1099511628211 % 18446744073709551616
def fnv (l : List UInt8) : Nat := l.foldl fnvB 14695981039346656037
def mixH (h : Nat) : Nat := let b := (h ^^^ (h / 4294967296)) * 11400714819323198485 % 18446744073709551616; b ^^^ (b / 536870912)
def hashN (l : List UInt8) : Nat := mixH (fnv l)
theorem fnvB_lt (h : Nat) (b : UInt8) : fnvB h b < 18446744073709551616 := Nat.mod_lt _ (by decide)
theorem fnv_lt : ∀ (l : List UInt8) {h : Nat}, h < 18446744073709551616 → l.foldl fnvB h < 18446744073709551616
  | [], h, hh => hh
  | b :: l, h, hh => fnv_lt l (fnvB_lt h b)
theorem xor_byte_lt {h : Nat} (hh : h < 18446744073709551616) (b : UInt8) : h ^^^ b.toNat < 18446744073709551616 := Nat.xor_lt_two_pow (n := 64) hh (by have := b.toNat_lt; omega)
theorem mixH_lt (h : Nat) : mixH h < 18446744073709551616 := by
  unfold mixH
  have : (h ^^^ (h / 4294967296)) * 11400714819323198485 % 18446744073709551616 < 18446744073709551616 := Nat.mod_lt _ (by decide)
  exact Nat.xor_lt_two_pow (n := 64) this (Nat.lt_of_le_of_lt (Nat.div_le_self _ _) this)
theorem hashN_lt (l : List UInt8) : hashN l < 18446744073709551616 := mixH_lt _
theorem foldl_snoc {α β : Type} (f : β → α → β) (a : β) (l : List α) (x : α) : (l ++ [x]).foldl f a = f (l.foldl f a) x := by simp
theorem fnv_eq (l : List UInt8) : fnv l = l.foldl fnvB 14695981039346656037 := rfl
theorem fnv_take {l : List UInt8} {j : Nat} {b : UInt8} (h : l[j]? = some b) : fnv (l.take (j + 1)) = fnvB (fnv (l.take j)) b := by
  have e : l.take (j + 1) = l.take j ++ [b] := by rw [List.take_add_one, h]; rfl
  rw [fnv_eq, fnv_eq, e]
  exact foldl_snoc _ _ _ _

theorem hash_end {h : Nat} (hh : h < 18446744073709551616) {P : Prop} (k : (∀ e1 : bitsV .xor .u64 (h : Int) (((h / 4294967296 : Nat)) : Int) = some ((h ^^^ (h / 4294967296) : Nat) : Int), (h : Int).fdiv (2 ^ (min (Int.toNat 32) 64)) = ((h / 4294967296 : Nat) : Int) →
    IntKind.u64.wrap (((h ^^^ (h / 4294967296) : Nat) : Int) * 11400714819323198485) = (((h ^^^ (h / 4294967296)) * 11400714819323198485 % 18446744073709551616 : Nat) : Int) →
    ((((h ^^^ (h / 4294967296)) * 11400714819323198485 % 18446744073709551616 : Nat)) : Int).fdiv (2 ^ (min (Int.toNat 29) 64)) = (((h ^^^ (h / 4294967296)) * 11400714819323198485 % 18446744073709551616 / 536870912 : Nat) : Int) →
    bitsV .xor .u64 ((((h ^^^ (h / 4294967296)) * 11400714819323198485 % 18446744073709551616 : Nat)) : Int) (((h ^^^ (h / 4294967296)) * 11400714819323198485 % 18446744073709551616 / 536870912 : Nat) : Int) = some ((mixH h : Nat) : Int) → P)) : P := by
  have hb : (h ^^^ (h / 4294967296)) * 11400714819323198485 % 18446744073709551616 < 18446744073709551616 := Nat.mod_lt _ (by decide)
  have h2 : h / 4294967296 < 18446744073709551616 := Nat.lt_of_le_of_lt (Nat.div_le_self _ _) hh
  exact k (u64_xor hh h2) (u64_shr h 32 (by decide)) (u64_mul _ 11400714819323198485) (u64_shr _ 29 (by decide)) (u64_xor hb (Nat.lt_of_le_of_lt (Nat.div_le_self _ _) hb))

theorem ringHash_runs {w0 : World} {S : St} {Q : AEnd → St → Prop} {l : List UInt8} (hl : l.length ≤ 1000000000000000) (hQ : Q (.ret (.int .u64 (hashN l : Nat))) S) : RSim Tryd.prog w0 n_ring_Hash [.str (mkS l)] S Q := by
  refine RSim.run mixed k_ring_Hash ?_ (by simp)
  simp only [b_ring_Hash, go_sem, Nat.reduceEqDiff, Nat.reduceAdd, Nat.reduceMul, Nat.reduceSub, Nat.reduceLeDiff, Int.reduceBEq, Int.reduceBNe, Int.reduceLT, Int.reduceLE, Int.reduceGT, Int.reduceGE, Int.reduceEq, ↓reduceIte, reduceCtorEq]
  refine loop_rule RSim.le (k := l.length) (fun m fr S1 => ∃ j : Nat, m = l.length - j ∧ j ≤ l.length ∧ S1 = S ∧ fr 0 = .str (mkS l) ∧ fr 6 = .int .i64 l.length ∧ fr 7 = .int .i64 j ∧ fr 3 = .int .u64 (fnv (l.take j) : Nat)) ?_
    ⟨0, rfl, Nat.zero_le _, rfl, by simp only [go_sem, Nat.reduceEqDiff, Nat.reduceAdd, Nat.reduceMul, Nat.reduceSub, Nat.reduceLeDiff, Int.reduceBEq, Int.reduceBNe, Int.reduceLT, Int.reduceLE, Int.reduceGT, Int.reduceGE, Int.reduceEq, ↓reduceIte, reduceCtorEq], by simp only [go_sem, Nat.reduceEqDiff, Nat.reduceAdd, Nat.reduceMul, Nat.reduceSub, Nat.reduceLeDiff, Int.reduceBEq, Int.reduceBNe, Int.reduceLT, Int.reduceLE, Int.reduceGT, Int.reduceGE, Int.reduceEq, ↓reduceIte, reduceCtorEq], by simp only [go_sem, Nat.reduceEqDiff, Nat.reduceAdd, Nat.reduceMul, Nat.reduceSub, Nat.reduceLeDiff, Int.reduceBEq, Int.reduceBNe, Int.reduceLT, Int.reduceLE, Int.reduceGT, Int.reduceGE, Int.reduceEq, ↓reduceIte, reduceCtorEq]; rfl, by simp only [go_sem, Nat.reduceEqDiff, Nat.reduceAdd, Nat.reduceMul, Nat.reduceSub, Nat.reduceLeDiff, Int.reduceBEq, Int.reduceBNe, Int.reduceLT, Int.reduceLE, Int.reduceGT, Int.reduceGE, Int.reduceEq, ↓reduceIte, reduceCtorEq]; rfl⟩
  rintro m fr S1 ⟨j, hm, hj, rfl, f0, f6, f7, f3⟩
  have hlt := fnv_lt (l.take j) (h := 14695981039346656037) (by decide)
  simp only [l_ring_Hash_0, go_sem, Nat.reduceEqDiff, Nat.reduceAdd, Nat.reduceMul, Nat.reduceSub, Nat.reduceLeDiff, Int.reduceBEq, Int.reduceBNe, Int.reduceLT, Int.reduceLE, Int.reduceGT, Int.reduceGE, Int.reduceEq, ↓reduceIte, reduceCtorEq, f6, f7]
  refine wc_ite (b := decide ((j : Int) < (l.length : Int))) (by simp only [go_sem, Nat.reduceEqDiff, Nat.reduceAdd, Nat.reduceMul, Nat.reduceSub, Nat.reduceLeDiff, Int.reduceBEq, Int.reduceBNe, Int.reduceLT, Int.reduceLE, Int.reduceGT, Int.reduceGE, Int.reduceEq, ↓reduceIte, reduceCtorEq]) (fun hc => ?_) (fun hc => ?_)
  · have hjl : j < l.length := by have := of_decide_eq_true hc; omega
    have hb : l[j]? = some (l[j]'hjl) := List.getElem?_eq_getElem hjl
    generalize l[j]'hjl = b at hb
    have w1 : IntKind.i64.wrap ((j : Int) + 1) = ((j + 1 : Nat) : Int) := by rw [w64 (by omega) (by omega)]; omega
    have cv : ∀ S, V.conv S (.int .u64) (.int .u8 (b.toNat : Int)) = some (.int .u64 (b.toNat : Int)) := fun S => by
      simp only [V.conv, u64_wrap_of (show b.toNat < 18446744073709551616 by have := b.toNat_lt; omega)]
    have hx : bitsV .xor .u64 ((fnv (l.take j) : Nat) : Int) (b.toNat : Int) = some ((fnv (l.take j) ^^^ b.toNat : Nat) : Int) := u64_xor hlt (by have := b.toNat_lt; omega)
    have hmul : IntKind.u64.wrap (((fnv (l.take j) ^^^ b.toNat : Nat) : Int) * 1099511628211) = ((fnv (l.take (j + 1)) : Nat) : Int) := by rw [fnv_take hb]; exact u64_mul _ 1099511628211
    simp only [go_sem, Nat.reduceEqDiff, Nat.reduceAdd, Nat.reduceMul, Nat.reduceSub, Nat.reduceLeDiff, Int.reduceBEq, Int.reduceBNe, Int.reduceLT, Int.reduceLE, Int.reduceGT, Int.reduceGE, Int.reduceEq, ↓reduceIte, reduceCtorEq, f0, f3, f7, hb, cv, hx, hmul, w1]
    exact ⟨l.length - (j + 1), by omega, j + 1, rfl, by omega, f6, rfl, rfl⟩
  · have hje : j = l.length := by have := of_decide_eq_false hc; omega
    subst hje
    rw [List.take_length] at f3 hlt
    unfold hashN at hQ
    refine hash_end (h := fnv l) hlt fun e1 e2 e3 e4 e5 => ?_
    simp only [s_ring_Hash_0, go_sem, Nat.reduceEqDiff, Nat.reduceAdd, Nat.reduceMul, Nat.reduceSub, Nat.reduceLeDiff, Int.reduceBEq, Int.reduceBNe, Int.reduceLT, Int.reduceLE, Int.reduceGT, Int.reduceGE, Int.reduceEq, ↓reduceIte, reduceCtorEq, f3, e1, e2, e3, e4, e5]
    exact hQ
theorem refHash_runs {w0 : World} {S : St} {Q : AEnd → St → Prop} {l : List UInt8} (hl : l.length ≤ 1000000000000000) (hQ : Q (.ret (.int .u64 (hashN l : Nat))) S) : RSim Tryd.prog w0 n_r13_Hash [.str (mkS l)] S Q := by
  refine RSim.run mixed k_r13_Hash ?_ (by simp)
  simp only [b_r13_Hash, go_sem, Nat.reduceEqDiff, Nat.reduceAdd, Nat.reduceMul, Nat.reduceSub, Nat.reduceLeDiff, Int.reduceBEq, Int.reduceBNe, Int.reduceLT, Int.reduceLE, Int.reduceGT, Int.reduceGE, Int.reduceEq, ↓reduceIte, reduceCtorEq]
  refine loop_rule RSim.le (k := l.length) (fun m fr S1 => ∃ j : Nat, m = l.length - j ∧ j ≤ l.length ∧ S1 = S ∧ fr 0 = .str (mkS l) ∧ fr 4 = .int .i64 j ∧ fr 3 = .int .u64 (fnv (l.take j) : Nat)) ?_
    ⟨0, rfl, Nat.zero_le _, rfl, by simp only [go_sem, Nat.reduceEqDiff, Nat.reduceAdd, Nat.reduceMul, Nat.reduceSub, Nat.reduceLeDiff, Int.reduceBEq, Int.reduceBNe, Int.reduceLT, Int.reduceLE, Int.reduceGT, Int.reduceGE, Int.reduceEq, ↓reduceIte, reduceCtorEq], by simp only [go_sem, Nat.reduceEqDiff, Nat.reduceAdd, Nat.reduceMul, Nat.reduceSub, Nat.reduceLeDiff, Int.reduceBEq, Int.reduceBNe, Int.reduceLT, Int.reduceLE, Int.reduceGT, Int.reduceGE, Int.reduceEq, ↓reduceIte, reduceCtorEq]; rfl, by simp only [go_sem, Nat.reduceEqDiff, Nat.reduceAdd, Nat.reduceMul, Nat.reduceSub, Nat.reduceLeDiff, Int.reduceBEq, Int.reduceBNe, Int.reduceLT, Int.reduceLE, Int.reduceGT, Int.reduceGE, Int.reduceEq, ↓reduceIte, reduceCtorEq]; rfl⟩
  rintro m fr S1 ⟨j, hm, hj, rfl, f0, f4, f3⟩
  have hlt := fnv_lt (l.take j) (h := 14695981039346656037) (by decide)
  simp only [l_r13_Hash_0, go_sem, Nat.reduceEqDiff, Nat.reduceAdd, Nat.reduceMul, Nat.reduceSub, Nat.reduceLeDiff, Int.reduceBEq, Int.reduceBNe, Int.reduceLT, Int.reduceLE, Int.reduceGT, Int.reduceGE, Int.reduceEq, ↓reduceIte, reduceCtorEq, f0, f4]
  refine wc_ite (b := decide ((j : Int) < (l.length : Int))) (by simp only [go_sem, Nat.reduceEqDiff, Nat.reduceAdd, Nat.reduceMul, Nat.reduceSub, Nat.reduceLeDiff, Int.reduceBEq, Int.reduceBNe, Int.reduceLT, Int.reduceLE, Int.reduceGT, Int.reduceGE, Int.reduceEq, ↓reduceIte, reduceCtorEq]) (fun hc => ?_) (fun hc => ?_)
  · have hjl : j < l.length := by have := of_decide_eq_true hc; omega
    have hb : l[j]? = some (l[j]'hjl) := List.getElem?_eq_getElem hjl
    generalize l[j]'hjl = b at hb
    have w1 : IntKind.i64.wrap ((j : Int) + 1) = ((j + 1 : Nat) : Int) := by rw [w64 (by omega) (by omega)]; omega
    have cv : ∀ S, V.conv S (.int .u64) (.int .u8 (b.toNat : Int)) = some (.int .u64 (b.toNat : Int)) := fun S => by
      simp only [V.conv, u64_wrap_of (show b.toNat < 18446744073709551616 by have := b.toNat_lt; omega)]
    have hx : bitsV .xor .u64 ((fnv (l.take j) : Nat) : Int) (b.toNat : Int) = some ((fnv (l.take j) ^^^ b.toNat : Nat) : Int) := u64_xor hlt (by have := b.toNat_lt; omega)
    have hmul : IntKind.u64.wrap (((fnv (l.take j) ^^^ b.toNat : Nat) : Int) * 1099511628211) = ((fnv (l.take (j + 1)) : Nat) : Int) := by rw [fnv_take hb]; exact u64_mul _ 1099511628211
    simp only [go_sem, Nat.reduceEqDiff, Nat.reduceAdd, Nat.reduceMul, Nat.reduceSub, Nat.reduceLeDiff, Int.reduceBEq, Int.reduceBNe, Int.reduceLT, Int.reduceLE, Int.reduceGT, Int.reduceGE, Int.reduceEq, ↓reduceIte, reduceCtorEq, f0, f3, f4, hb, cv, hx, hmul, w1]
    exact ⟨l.length - (j + 1), by omega, j + 1, rfl, by omega, rfl, rfl⟩
  · have hje : j = l.length := by have := of_decide_eq_false hc; omega
    subst hje
    rw [List.take_length] at f3 hlt
    unfold hashN at hQ
    refine hash_end (h := fnv l) hlt fun e1 e2 e3 e4 e5 => ?_
    simp only [s_r13_Hash_0, go_sem, Nat.reduceEqDiff, Nat.reduceAdd, Nat.reduceMul, Nat.reduceSub, Nat.reduceLeDiff, Int.reduceBEq, Int.reduceBNe, Int.reduceLT, Int.reduceLE, Int.reduceGT, Int.reduceGE, Int.reduceEq, ↓reduceIte, reduceCtorEq, f3, e1, e2, e3, e4, e5]
    exact hQ

/-! ### Digits -/
def decS (n : Nat) : List UInt8 := if n < 10 then [UInt8.ofNat (48 + n)] else [UInt8.ofNat (48 + n / 10), UInt8.ofNat (48 + n % 10)]
def digitsL : List UInt8 := [48, 49, 50, 51, 52, 53, 54, 55, 56, 57, 97, 98, 99, 100, 101, 102, 103, 104, 105, 106, 107, 108, 109, 110, 111, 112, 113, 114, 115, 116, 117, 118, 119, 120, 121, 122]
def smallsL : List UInt8 := [48, 48, 48, 49, 48, 50, 48, 51, 48, 52, 48, 53, 48, 54, 48, 55, 48, 56, 48, 57, 49, 48, 49, 49, 49, 50, 49, 51, 49, 52, 49, 53, 49, 54, 49, 55, 49, 56, 49, 57, 50, 48, 50, 49, 50, 50, 50, 51, 50, 52, 50, 53, 50, 54, 50, 55, 50, 56, 50, 57, 51, 48, 51, 49, 51, 50, 51, 51, 51, 52, 51, 53, 51, 54, 51, 55, 51, 56, 51, 57, 52, 48, 52, 49, 52, 50, 52, 51, 52, 52, 52, 53, 52, 54, 52, 55, 52, 56, 52, 57, 53, 48, 53, 49, 53, 50, 53, 51, 53, 52, 53, 53, 53, 54, 53, 55, 53, 56, 53, 57, 54, 48, 54, 49, 54, 50, 54, 51, 54, 52, 54, 53, 54, 54, 54, 55, 54, 56, 54, 57, 55, 48, 55, 49, 55, 50, 55, 51, 55, 52, 55, 53, 55, 54, 55, 55, 55, 56, 55, 57, 56, 48, 56, 49, 56, 50, 56, 51, 56, 52, 56, 53, 56, 54, 56, 55, 56, 56, 56, 57, 57, 48, 57, 49, 57, 50, 57, 51, 57, 52, 57, 53, 57, 54, 57, 55, 57, 56, 57, 57]
theorem digits_at : ∀ n : Fin 10, (digitsL.drop n.val).take (n.val + 1 - n.val) = decS n.val := by decide
theorem smalls_at : ∀ n : Fin 100, n.val < 10 ∨ (smallsL.drop (n.val * 2)).take (n.val * 2 + 2 - n.val * 2) = decS n.val := by decide +kernel

theorem itoa_runs {w0 : World} {S : St} {Q : AEnd → St → Prop} {n : Nat} (hn : n < 100) (hQ : Q (.ret (.str (mkS (decS n)))) S) : RSim Tryd.prog w0 n_strconv_Itoa [.int .i64 (n : Int)] S Q := by
  have b1 : decide ((0 : Int) ≤ (n : Int)) = true := decide_eq_true (by omega)
  have b2 : decide ((n : Int) < 100) = true := decide_eq_true (by omega)
  refine RSim.run mixed k_strconv_Itoa ?_ (by simp)
  simp only [b_strconv_Itoa, go_sem, Nat.reduceEqDiff, Nat.reduceAdd, Nat.reduceMul, Nat.reduceSub, Nat.reduceLeDiff, Int.reduceBEq, Int.reduceBNe, Int.reduceLT, Int.reduceLE, Int.reduceGT, Int.reduceGE, Int.reduceEq, ↓reduceIte, reduceCtorEq]
  refine wi_call ?_
  simp only [go_sem, Nat.reduceEqDiff, Nat.reduceAdd, Nat.reduceMul, Nat.reduceSub, Nat.reduceLeDiff, Int.reduceBEq, Int.reduceBNe, Int.reduceLT, Int.reduceLE, Int.reduceGT, Int.reduceGE, Int.reduceEq, ↓reduceIte, reduceCtorEq]
  refine RSim.run mixed k_internal_strconv_Itoa ?_ (by simp)
  simp only [b_internal_strconv_Itoa, go_sem, Nat.reduceEqDiff, Nat.reduceAdd, Nat.reduceMul, Nat.reduceSub, Nat.reduceLeDiff, Int.reduceBEq, Int.reduceBNe, Int.reduceLT, Int.reduceLE, Int.reduceGT, Int.reduceGE, Int.reduceEq, ↓reduceIte, reduceCtorEq]
  refine wi_call ?_
  simp only [go_sem, Nat.reduceEqDiff, Nat.reduceAdd, Nat.reduceMul, Nat.reduceSub, Nat.reduceLeDiff, Int.reduceBEq, Int.reduceBNe, Int.reduceLT, Int.reduceLE, Int.reduceGT, Int.reduceGE, Int.reduceEq, ↓reduceIte, reduceCtorEq]
  refine RSim.run mixed k_internal_strconv_FormatInt ?_ (by simp)
  simp only [b_internal_strconv_FormatInt, go_sem, Nat.reduceEqDiff, Nat.reduceAdd, Nat.reduceMul, Nat.reduceSub, Nat.reduceLeDiff, Int.reduceBEq, Int.reduceBNe, Int.reduceLT, Int.reduceLE, Int.reduceGT, Int.reduceGE, Int.reduceEq, ↓reduceIte, reduceCtorEq]
  refine wc_ite (b := true) (by simp only [go_sem, Nat.reduceEqDiff, Nat.reduceAdd, Nat.reduceMul, Nat.reduceSub, Nat.reduceLeDiff, Int.reduceBEq, Int.reduceBNe, Int.reduceLT, Int.reduceLE, Int.reduceGT, Int.reduceGE, Int.reduceEq, ↓reduceIte, reduceCtorEq] <;> rfl) (fun _ => ?_) (fun h => by cases h)
  simp only [go_sem, Nat.reduceEqDiff, Nat.reduceAdd, Nat.reduceMul, Nat.reduceSub, Nat.reduceLeDiff, Int.reduceBEq, Int.reduceBNe, Int.reduceLT, Int.reduceLE, Int.reduceGT, Int.reduceGE, Int.reduceEq, ↓reduceIte, reduceCtorEq, b1, b2]
  refine wc_ite (b := true) (by simp only [go_sem, Nat.reduceEqDiff, Nat.reduceAdd, Nat.reduceMul, Nat.reduceSub, Nat.reduceLeDiff, Int.reduceBEq, Int.reduceBNe, Int.reduceLT, Int.reduceLE, Int.reduceGT, Int.reduceGE, Int.reduceEq, ↓reduceIte, reduceCtorEq] <;> rfl) (fun _ => ?_) (fun h => by cases h)
  simp only [go_sem, Nat.reduceEqDiff, Nat.reduceAdd, Nat.reduceMul, Nat.reduceSub, Nat.reduceLeDiff, Int.reduceBEq, Int.reduceBNe, Int.reduceLT, Int.reduceLE, Int.reduceGT, Int.reduceGE, Int.reduceEq, ↓reduceIte, reduceCtorEq]
  refine wi_call ?_
  simp only [go_sem, Nat.reduceEqDiff, Nat.reduceAdd, Nat.reduceMul, Nat.reduceSub, Nat.reduceLeDiff, Int.reduceBEq, Int.reduceBNe, Int.reduceLT, Int.reduceLE, Int.reduceGT, Int.reduceGE, Int.reduceEq, ↓reduceIte, reduceCtorEq]
  refine RSim.run mixed k_internal_strconv_small ?_ (by simp)
  simp only [b_internal_strconv_small, go_sem, Nat.reduceEqDiff, Nat.reduceAdd, Nat.reduceMul, Nat.reduceSub, Nat.reduceLeDiff, Int.reduceBEq, Int.reduceBNe, Int.reduceLT, Int.reduceLE, Int.reduceGT, Int.reduceGE, Int.reduceEq, ↓reduceIte, reduceCtorEq]
  refine wc_ite (b := decide ((n : Int) < 10)) (by simp only [go_sem, Nat.reduceEqDiff, Nat.reduceAdd, Nat.reduceMul, Nat.reduceSub, Nat.reduceLeDiff, Int.reduceBEq, Int.reduceBNe, Int.reduceLT, Int.reduceLE, Int.reduceGT, Int.reduceGE, Int.reduceEq, ↓reduceIte, reduceCtorEq]) (fun hc => ?_) (fun hc => ?_)
  · have h10 : n < 10 := by have := of_decide_eq_true hc; omega
    have w1 : IntKind.i64.wrap ((n : Int) + 1) = ((n + 1 : Nat) : Int) := by rw [w64 (by omega) (by omega)]; omega
    have hb : (n ≤ n + 1 ∧ n ≤ 35) = True := eq_true ⟨by omega, by omega⟩
    have he := digits_at ⟨n, h10⟩
    simp only [digitsL] at he
    simp only [go_sem, Nat.reduceEqDiff, Nat.reduceAdd, Nat.reduceMul, Nat.reduceSub, Nat.reduceLeDiff, Int.reduceBEq, Int.reduceBNe, Int.reduceLT, Int.reduceLE, Int.reduceGT, Int.reduceGE, Int.reduceEq, ↓reduceIte, reduceCtorEq, w1, hb, mkS_extract, he]
    exact hQ
  · have h10 : ¬ n < 10 := by have := of_decide_eq_false hc; omega
    have w1 : IntKind.i64.wrap ((n : Int) * 2) = ((n * 2 : Nat) : Int) := by rw [w64 (by omega) (by omega)]; omega
    have w2 : IntKind.i64.wrap (((n * 2 : Nat) : Int) + 2) = ((n * 2 + 2 : Nat) : Int) := by rw [w64 (by omega) (by omega)]; omega
    have hb : (n * 2 ≤ n * 2 + 2 ∧ n * 2 ≤ 198) = True := eq_true ⟨by omega, by omega⟩
    have he := (smalls_at ⟨n, hn⟩).resolve_left h10
    simp only [smallsL] at he
    simp only [go_sem, Nat.reduceEqDiff, Nat.reduceAdd, Nat.reduceMul, Nat.reduceSub, Nat.reduceLeDiff, Int.reduceBEq, Int.reduceBNe, Int.reduceLT, Int.reduceLE, Int.reduceGT, Int.reduceGE, Int.reduceEq, ↓reduceIte, reduceCtorEq, w1, w2, hb, mkS_extract, he]
    exact hQ
theorem refDec_runs {w0 : World} {S : St} {Q : AEnd → St → Prop} {n : Nat} (hn : n < 100) (hQ : Q (.ret (.str (mkS (decS n)))) S) : RSim Tryd.prog w0 n_r13_dec [.int .i64 (n : Int)] S Q := by
  have cv : ∀ (x : Nat) (S : St), V.conv S (.int .u8) (.int .i64 (x : Int)) = some (u8V (UInt8.ofNat x)) := fun x S => by
    simp only [V.conv, IntKind.wrap_u8, u8V]; congr 2
  have o1 : ∀ b, V.one (u8V b) = true := fun b => rfl
  have o2 : ∀ b, V.cells (u8V b) = [u8V b] := fun b => rfl
  have c1 : ∀ b S, V.conv S .bytesStr (.sl [u8V b] 1 1 .cap) = some (.str (mkS [b])) := fun b S => (isBytes_mk [b] (t := .cap) (by intro h; cases h)).convS S
  have c2 : ∀ a b S, V.conv S .bytesStr (.sl [u8V a, u8V b] 2 1 .cap) = some (.str (mkS [a, b])) := fun a b S => (isBytes_mk [a, b] (t := .cap) (by intro h; cases h)).convS S
  have w0' : IntKind.i64.wrap (48 + (n : Int)) = ((48 + n : Nat) : Int) := by rw [w64 (by omega) (by omega)]; rfl
  have w1 : IntKind.i64.wrap ((n : Int).tdiv 10) = ((n / 10 : Nat) : Int) := by rw [Int.tdiv_eq_ediv_of_nonneg (by omega), w64 (by omega) (by omega)]; omega
  have w2 : IntKind.i64.wrap (48 + ((n / 10 : Nat) : Int)) = ((48 + n / 10 : Nat) : Int) := by rw [w64 (by omega) (by omega)]; omega
  have w3 : (n : Int).tmod 10 = ((n % 10 : Nat) : Int) := by rw [Int.tmod_eq_emod_of_nonneg (by omega)]; omega
  have w4 : IntKind.i64.wrap (48 + ((n % 10 : Nat) : Int)) = ((48 + n % 10 : Nat) : Int) := by rw [w64 (by omega) (by omega)]; omega
  refine RSim.run mixed k_r13_dec ?_ (by simp)
  simp only [b_r13_dec, go_sem, Nat.reduceEqDiff, Nat.reduceAdd, Nat.reduceMul, Nat.reduceSub, Nat.reduceLeDiff, Int.reduceBEq, Int.reduceBNe, Int.reduceLT, Int.reduceLE, Int.reduceGT, Int.reduceGE, Int.reduceEq, ↓reduceIte, reduceCtorEq]
  refine wc_ite (b := decide ((n : Int) < 10)) (by simp only [go_sem, Nat.reduceEqDiff, Nat.reduceAdd, Nat.reduceMul, Nat.reduceSub, Nat.reduceLeDiff, Int.reduceBEq, Int.reduceBNe, Int.reduceLT, Int.reduceLE, Int.reduceGT, Int.reduceGE, Int.reduceEq, ↓reduceIte, reduceCtorEq]) (fun hc => ?_) (fun hc => ?_)
  · have h10 : n < 10 := by have := of_decide_eq_true hc; omega
    unfold decS at hQ
    rw [if_pos h10] at hQ
    simp only [go_sem, Nat.reduceEqDiff, Nat.reduceAdd, Nat.reduceMul, Nat.reduceSub, Nat.reduceLeDiff, Int.reduceBEq, Int.reduceBNe, Int.reduceLT, Int.reduceLE, Int.reduceGT, Int.reduceGE, Int.reduceEq, ↓reduceIte, reduceCtorEq, w0', cv, o1, o2, c1]
    exact hQ
  · have h10 : ¬ n < 10 := by have := of_decide_eq_false hc; omega
    unfold decS at hQ
    rw [if_neg h10] at hQ
    simp only [go_sem, Nat.reduceEqDiff, Nat.reduceAdd, Nat.reduceMul, Nat.reduceSub, Nat.reduceLeDiff, Int.reduceBEq, Int.reduceBNe, Int.reduceLT, Int.reduceLE, Int.reduceGT, Int.reduceGE, Int.reduceEq, ↓reduceIte, reduceCtorEq, w1, w2, w3, w4, cv, o1, o2, c2]
    exact hQ
end Go.VM

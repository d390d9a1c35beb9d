/-
  The reference's numbers and sums: plain.
  The reference's Uvarint, Four.
  The reference's Sum.
  The reference's ReadUvarint.
  The reference's ReadUvarint: the walk. NEWPP
-/
import Derived.Test.YtegaflmefmlpgaaGreatDoorWPlain
set_option maxRecDepth 20000
set_option linter.unusedVariables false
set_option linter.unusedSimpArgs false
namespace Go.VM
open Go Go.RowKit Go.Proofs

theorem ruv_uvar' (x : Nat) : ∀ (n v : Nat) (rest : List UInt8), x * 2 ^ (7 * n) < 18446744073709551616 → (n > 0 → x > 0) → ruv n v (uvar x ++ rest) = some (v + x * 2 ^ (7 * n), n + (uvar x).length) := by
  induction x using uvar.induct with
  | case1 x h =>
    intro n v rest hb hx
    rw [uvar_lt h]
    have e := ofNat_toNat (x := x) (by omega)
    have h9 : n = 9 → ¬ x > 1 := fun h9 hx1 => by
      subst h9
      have : 2 * 2 ^ (7 * 9) ≤ x * 2 ^ (7 * 9) := Nat.mul_le_mul_right _ hx1
      omega
    have hgood : ¬ ((n = 9 ∧ x > 1) ∨ (x = 0 ∧ n > 0)) := by
      rintro (⟨h1, h2⟩ | ⟨h1, h2⟩)
      · exact h9 h1 h2
      · have := hx h2; omega
    rw [List.cons_append, ruv_end (by rw [e]; exact hgood) (by rw [e]; exact h), e, Nat.mod_eq_of_lt h]
    rfl
  | case2 x h ih =>
    intro n v rest hb hx
    rw [uvar_ge h]
    have e := ofNat_toNat (x := x % 128 + 128) (by omega)
    have h9 : n ≠ 9 := fun h9 => by
      subst h9
      have : 128 * 2 ^ (7 * 9) ≤ x * 2 ^ (7 * 9) := Nat.mul_le_mul_right _ (by omega)
      omega
    have hp : 2 ^ (7 * (n + 1)) = 128 * 2 ^ (7 * n) := by rw [Nat.mul_add, Nat.pow_add]; omega
    have hb' : x / 128 * 2 ^ (7 * (n + 1)) < 18446744073709551616 := by
      rw [hp, ← Nat.mul_assoc]
      exact Nat.lt_of_le_of_lt (Nat.mul_le_mul_right _ (by omega)) hb
    rw [List.cons_append, ruv_more (by rw [e]; rintro (⟨h1, _⟩ | ⟨h1, _⟩) <;> omega) (by rw [e]; omega), e, ih (n + 1) _ rest hb' (fun _ => by omega), List.length_cons]
    congr 1
    refine Prod.ext ?_ (by simp only; omega)
    simp only
    rw [hp, show (x % 128 + 128) % 128 = x % 128 by omega, ← Nat.mul_assoc, Nat.add_assoc, ← Nat.add_mul]
    congr 2
    omega
/-- What is read is the number's own bytes. -/
theorem ruv_canon {l : List UInt8} : ∀ {n v x k : Nat}, n ≤ 9 → ruv n v l = some (x, k) → ∃ y, x = v + y * 2 ^ (7 * n) ∧ k = n + (uvar y).length ∧ l.take (uvar y).length = uvar y ∧ (n > 0 → y > 0) ∧ y * 2 ^ (7 * n) < 18446744073709551616 := by
  induction l with
  | nil => intro n v x k _ h; cases h
  | cons b l ih =>
    intro n v x k hn h
    by_cases hbad : (n = 9 ∧ b.toNat > 1) ∨ (b.toNat = 0 ∧ n > 0)
    · rw [ruv_bad hbad] at h; cases h
    by_cases hlt : b.toNat < 128
    · rw [ruv_end hbad hlt] at h
      injection h with h; injection h with h1 h2
      have hu := uvar_lt hlt
      refine ⟨b.toNat, ?_, ?_, ?_, ?_, ?_⟩
      · rw [← h1, Nat.mod_eq_of_lt hlt]
      · rw [hu, ← h2]; rfl
      · rw [hu]; simp
      · intro hn0
        rcases Nat.eq_zero_or_pos b.toNat with h0 | h0
        · exact absurd (.inr ⟨h0, hn0⟩) hbad
        · exact h0
      · by_cases h9 : n = 9
        · subst h9
          have : b.toNat ≤ 1 := by
            rcases Nat.lt_or_ge 1 b.toNat with h | h
            · exact absurd (.inl ⟨rfl, h⟩) hbad
            · exact h
          have := Nat.mul_le_mul_right (2 ^ (7 * 9)) this
          omega
        · have h1 : 2 ^ (7 * n) ≤ 2 ^ 56 := Nat.pow_le_pow_right (by decide) (by omega)
          have h2 : b.toNat * 2 ^ (7 * n) ≤ 127 * 2 ^ 56 := Nat.mul_le_mul (by omega) h1
          omega
    · rw [ruv_more hbad hlt] at h
      have h9 : n ≠ 9 := fun h9 => hbad (.inl ⟨h9, by omega⟩)
      obtain ⟨y, h1, h2, h3, h4, h5⟩ := ih (by omega) h
      have hb := b.toNat_lt
      have hy := h4 (by omega)
      have hp : 2 ^ (7 * (n + 1)) = 128 * 2 ^ (7 * n) := by rw [Nat.mul_add, Nat.pow_add]; omega
      have hge : ¬ (b.toNat % 128 + y * 128) < 128 := by omega
      have hu : uvar (b.toNat % 128 + y * 128) = b :: uvar y := by
        rw [uvar_ge hge, show (b.toNat % 128 + y * 128) % 128 + 128 = b.toNat by omega, show (b.toNat % 128 + y * 128) / 128 = y by omega, UInt8.ofNat_toNat]
      have hm : y * 2 ^ (7 * (n + 1)) = y * 128 * 2 ^ (7 * n) := by rw [hp, ← Nat.mul_assoc]
      refine ⟨b.toNat % 128 + y * 128, ?_, ?_, ?_, fun _ => by omega, ?_⟩
      · rw [h1, hm, Nat.add_assoc, ← Nat.add_mul]
      · rw [hu, h2, List.length_cons]; omega
      · rw [hu, List.length_cons, List.take_succ_cons, h3]
      · rw [hm] at h5
        have hP : 0 < 2 ^ (7 * n) := Nat.pow_pos (by decide)
        have hM : (18446744073709551616 : Nat) = 2 ^ (57 - 7 * n) * 128 * 2 ^ (7 * n) := by
          rw [show (128 : Nat) = 2 ^ 7 from rfl, ← Nat.pow_add, ← Nat.pow_add, show 57 - 7 * n + 7 + 7 * n = 64 by omega]
        rw [hM] at h5 ⊢
        have h6 := Nat.lt_of_mul_lt_mul_right h5
        exact Nat.mul_lt_mul_of_pos_right (by omega) hP

/-! ### The value of such bytes -/
def valB : List UInt8 → Nat
  | [] => 0
  | b :: l => b.toNat % 128 + 128 * valB l
theorem valB_uvar (x : Nat) : valB (uvar x) = x := by
  induction x using uvar.induct with
  | case1 x h =>
    rw [uvar_lt h]
    have e := ofNat_toNat (x := x) (by omega)
    simp only [valB, e]; omega
  | case2 x h ih =>
    rw [uvar_ge h]
    have e := ofNat_toNat (x := x % 128 + 128) (by omega)
    simp only [valB, e, ih]; omega
theorem uvar_hi (x : Nat) : ∀ (j : Nat) (b : UInt8), (uvar x)[j]? = some b → (b.toNat < 128 ↔ j + 1 = (uvar x).length) := by
  induction x using uvar.induct with
  | case1 x h =>
    intro j b hb
    rw [uvar_lt h] at hb ⊢
    have e := ofNat_toNat (x := x) (by omega)
    cases j with
    | zero =>
      simp only [List.getElem?_cons_zero, Option.some.injEq] at hb
      subst hb; rw [e]; simp [h]
    | succ j => simp at hb
  | case2 x h ih =>
    intro j b hb
    rw [uvar_ge h] at hb ⊢
    have e := ofNat_toNat (x := x % 128 + 128) (by omega)
    have := uvar_pos (x / 128)
    cases j with
    | zero =>
      simp only [List.getElem?_cons_zero, Option.some.injEq] at hb
      subst hb; rw [e, List.length_cons]; omega
    | succ j =>
      rw [List.getElem?_cons_succ] at hb
      rw [List.length_cons, ih j b hb]; omega

/-! ### The sum, bit by bit -/
def refStep (b k c : Nat) : Nat := if (c % 2) ^^^ (b / 2 ^ k % 2) = 1 then (c / 2) ^^^ 3988292384 else c / 2
def refN (b : Nat) : Nat → Nat → Nat
  | 0, c => c
  | k + 1, c => refStep b k (refN b k c)
theorem refStep_crc (b k c : Nat) : crc1 (c ^^^ (b / 2 ^ k)) = refStep b k c ^^^ (b / 2 ^ (k + 1)) := by
  have h2 : (c ^^^ (b / 2 ^ k)) / 2 = (c / 2) ^^^ (b / 2 ^ (k + 1)) := by
    rw [Nat.xor_div_two, Nat.pow_succ, Nat.div_div_eq_div_mul]
  have h1 : (c ^^^ (b / 2 ^ k)) % 2 = 1 ↔ (c % 2) ^^^ (b / 2 ^ k % 2) = 1 := by
    rw [Nat.xor_mod_two_eq_one]
    rcases Nat.mod_two_eq_zero_or_one c with h | h <;> rcases Nat.mod_two_eq_zero_or_one (b / 2 ^ k) with h' | h' <;> rw [h, h'] <;> decide
  unfold crc1 refStep
  by_cases h : (c % 2) ^^^ (b / 2 ^ k % 2) = 1
  · rw [if_pos h, if_pos (h1.2 h), h2, Nat.xor_assoc, Nat.xor_assoc, Nat.xor_comm (b / 2 ^ (k + 1))]
  · rw [if_neg h, if_neg fun h' => h (h1.1 h'), h2]
theorem refN_crc (b c : Nat) : ∀ k, crcN k (c ^^^ b) = refN b k c ^^^ (b / 2 ^ k)
  | 0 => by simp [crcN, refN]
  | k + 1 => by rw [crcN_snoc, refN_crc b c k, refStep_crc]; rfl
theorem refN_8 {b c : Nat} (hb : b < 256) : refN b 8 c = crcN 8 (c ^^^ b) := by
  rw [refN_crc, show b / 2 ^ 8 = 0 by omega, Nat.xor_zero]
end Go.VM

namespace Go.VM
open Go Go.RowKit Go.Proofs

end Go.VM

namespace Go.VM
open Go Go.RowKit Go.Proofs

theorem refStep_lt {b k c : Nat} (h : c < 4294967296) : refStep b k c < 4294967296 := by
  unfold refStep; split
  · exact Nat.xor_lt_two_pow (n := 32) (by omega) (by decide)
  · omega
theorem refN_lt {b c : Nat} (h : c < 4294967296) : ∀ k, refN b k c < 4294967296
  | 0 => h
  | k + 1 => refStep_lt (refN_lt h k)
end Go.VM

namespace Go.VM
open Go Go.RowKit Go.Proofs

/-- Of bytes, the first so many are big; and the one behind is not. -/
def BigN (l : List UInt8) (n : Nat) : Prop := ∀ j b, j < n → l[j]? = some b → 128 ≤ b.toNat
theorem ruv_big {l : List UInt8} : ∀ {n v : Nat} (m : Nat), BigN l m → (l.length ≤ m ∨ n + m ≥ 10) → n ≤ 9 → ruv n v l = none := by
  induction l with
  | nil => intro n v m _ _ _; rfl
  | cons b l ih =>
    intro n v m hb hm hn
    by_cases hbad : (n = 9 ∧ b.toNat > 1) ∨ (b.toNat = 0 ∧ n > 0)
    · exact ruv_bad hbad
    cases m with
    | zero => simp at hm; omega
    | succ m =>
      have hb0 := hb 0 b (by omega) rfl
      rw [ruv_more hbad (by omega)]
      refine ih m (fun j c hj hc => hb (j + 1) c (by omega) (by simpa using hc)) ?_ ?_
      · rcases hm with hm | hm
        · left; simpa using hm
        · right; omega
      · rcases Nat.lt_or_ge n 9 with h | h
        · omega
        · exact absurd (.inl ⟨by omega, by omega⟩) hbad
/-- The bytes up to the first small one are read just if they are the bytes of their value. -/
theorem ruv_ref {l : List UInt8} {n : Nat} {b : UInt8} (hn : n < 10) (hb : BigN l n) (hl : l[n]? = some b) (hs : b.toNat < 128) :
    (uvar (valB (l.take (n + 1)) % 18446744073709551616) = l.take (n + 1) → ruv 0 0 l = some (valB (l.take (n + 1)) % 18446744073709551616, n + 1)) ∧
    (uvar (valB (l.take (n + 1)) % 18446744073709551616) ≠ l.take (n + 1) → ruv 0 0 l = none) := by
  have hlen := (List.getElem?_eq_some_iff.1 hl).1
  have htl : (l.take (n + 1)).length = n + 1 := by rw [List.length_take]; omega
  constructor
  · intro h
    have := ruv_uvar' (valB (l.take (n + 1)) % 18446744073709551616) 0 0 (l.drop (n + 1)) (by simp; omega) (fun h => by omega)
    rw [h, List.take_append_drop, htl] at this
    simpa using this
  · intro h
    cases hr : ruv 0 0 l with
    | none => rfl
    | some p =>
      exfalso
      obtain ⟨x, k⟩ := p
      obtain ⟨y, h1, h2, h3, _, h5⟩ := ruv_canon (by omega) hr
      simp only [Nat.mul_zero, Nat.pow_zero, Nat.mul_one, Nat.zero_add] at h1 h2 h5
      have hy := uvar_pos y
      have hget : ∀ j, j < (uvar y).length → (uvar y)[j]? = l[j]? := fun j hj => by
        have := congrArg (fun l : List UInt8 => l[j]?) h3
        simp only [List.getElem?_take, if_pos hj] at this
        exact this.symm
      have hk : (uvar y).length = n + 1 := by
        rcases Nat.lt_trichotomy (uvar y).length (n + 1) with h | h | h
        · obtain ⟨c, hg⟩ : ∃ c, (uvar y)[(uvar y).length - 1]? = some c := ⟨_, List.getElem?_eq_getElem (by omega)⟩
          have h6 := (uvar_hi y _ _ hg).2 (by omega)
          rw [hget _ (by omega)] at hg
          have := hb _ _ (by omega) hg
          omega
        · exact h
        · have hg : (uvar y)[n]? = some b := by rw [hget n (by omega)]; exact hl
          have := (uvar_hi y _ _ hg).1 hs
          omega
      rw [hk] at h3
      apply h
      rw [h3, valB_uvar, Nat.mod_eq_of_lt (by simpa using h5)]
end Go.VM

namespace Go.VM
open Go Go.RowKit Go.Proofs

theorem valB_step {l : List UInt8} {k : Nat} {b : UInt8} (h : l[k]? = some b) : valB (l.drop k) = b.toNat % 128 + 128 * valB (l.drop (k + 1)) := by
  have hlt := (List.getElem?_eq_some_iff.1 h).1
  rw [List.drop_eq_getElem_cons hlt]
  have : l[k] = b := (List.getElem?_eq_some_iff.1 h).2
  rw [this]; rfl
end Go.VM

/-
  The reference's numbers and sums: plain.
  The reference's Uvarint, Four.
  The reference's Sum.
  The reference's ReadUvarint.
  The reference's ReadUvarint: the walk. NEWPP
-/
import Derived.Test.YtegaflmefmlpgaaDoorWPlain
set_option maxRecDepth 20000
set_option linter.unusedVariables false
set_option linter.unusedSimpArgs false
namespace Go.VM
open Go Go.RowKit Go.Proofs

theorem ruv_uvar' (x : Nat) : ∀ (n v : Nat) (rest : List UInt8), x * 2 ^ (7 * n) < 18446744073709551616 → (n > 0 → x > 0) → ruv n v (uvar x ++ rest) = some (v + x * 2 ^ (7 * n), n + (uvar x).length) := by
  induction x using uvar.induct with
  | case1 x h =>
    intro n v rest hb hx
    rw [uvar_lt h]
    have e := ofNat_toNat (x := x) (by omega)
    have h9 : n = 9 → ¬ x > 1 := fun h9 hx1 => by
      subst h9
      have : 2 * 2 ^ (7 * 9) ≤ x * 2 ^ (7 * 9) := Nat.mul_le_mul_right _ hx1
      omega
    have hgood : ¬ ((n = 9 ∧ x > 1) ∨ (x = 0 ∧ n > 0)) := by
      rintro (⟨h1, h2⟩ | ⟨h1, h2⟩)
      · exact h9 h1 h2
      · have := hx h2; omega
    rw [List.cons_append, ruv_end (by rw [e]; exact hgood) (by rw [e]; exact h), e, Nat.mod_eq_of_lt h]
    rfl
  | case2 x h ih =>
    intro n v rest hb hx
    rw [uvar_ge h]
    have e := ofNat_toNat (x := x % 128 + 128) (by omega)
    have h9 : n ≠ 9 := fun h9 => by
      subst h9
      have : 128 * 2 ^ (7 * 9) ≤ x * 2 ^ (7 * 9) := Nat.mul_le_mul_right _ (by omega)
      omega
    have hp : 2 ^ (7 * (n + 1)) = 128 * 2 ^ (7 * n) := by rw [Nat.mul_add, Nat.pow_add]; omega
    have hb' : x / 128 * 2 ^ (7 * (n + 1)) < 18446744073709551616 := by
      rw [hp, ← Nat.mul_assoc]
      exact Nat.lt_of_le_of_lt (Nat.mul_le_mul_right _ (by omega)) hb
    rw [List.cons_append, ruv_more (by rw [e]; rintro (⟨h1, _⟩ | ⟨h1, _⟩) <;> omega) (by rw [e]; omega), e, ih (n + 1) _ rest hb' (fun _ => by omega), List.length_cons]
    congr 1
    refine Prod.ext ?_ (by simp only; omega)
    simp only
    rw [hp, show (x % 128 + 128) % 128 = x % 128 by omega, ← Nat.mul_assoc, Nat.add_assoc, ← Nat.add_mul]
    congr 2
    omega
/-- What is read is the number's own bytes. -/
theorem ruv_canon {l : List UInt8} : ∀ {n v x k : Nat}, n ≤ 9 → ruv n v l = some (x, k) → ∃ y, x = v + y * 2 ^ (7 * n) ∧ k = n + (uvar y).length ∧ l.take (uvar y).length = uvar y ∧ (n > 0 → y > 0) ∧ y * 2 ^ (7 * n) < 18446744073709551616 := by
  induction l with
  | nil => intro n v x k _ h; cases h
  | cons b l ih =>
    intro n v x k hn h
    by_cases hbad : (n = 9 ∧ b.toNat > 1) ∨ (b.toNat = 0 ∧ n > 0)
    · rw [ruv_bad hbad] at h; cases h
    by_cases hlt : b.toNat < 128
    · rw [ruv_end hbad hlt] at h
      injection h with h; injection h with h1 h2
      have hu := uvar_lt hlt
      refine ⟨b.toNat, ?_, ?_, ?_, ?_, ?_⟩
      · rw [← h1, Nat.mod_eq_of_lt hlt]
      · rw [hu, ← h2]; rfl
      · rw [hu]; simp
      · intro hn0
        rcases Nat.eq_zero_or_pos b.toNat with h0 | h0
        · exact absurd (.inr ⟨h0, hn0⟩) hbad
        · exact h0
      · by_cases h9 : n = 9
        · subst h9
          have : b.toNat ≤ 1 := by
            rcases Nat.lt_or_ge 1 b.toNat with h | h
            · exact absurd (.inl ⟨rfl, h⟩) hbad
            · exact h
          have := Nat.mul_le_mul_right (2 ^ (7 * 9)) this
          omega
        · have h1 : 2 ^ (7 * n) ≤ 2 ^ 56 := Nat.pow_le_pow_right (by decide) (by omega)
          have h2 : b.toNat * 2 ^ (7 * n) ≤ 127 * 2 ^ 56 := Nat.mul_le_mul (by omega) h1
          omega
    · rw [ruv_more hbad hlt] at h
      have h9 : n ≠ 9 := fun h9 => hbad (.inl ⟨h9, by omega⟩)
      obtain ⟨y, h1, h2, h3, h4, h5⟩ := ih (by omega) h
      have hb := b.toNat_lt
      have hy := h4 (by omega)
      have hp : 2 ^ (7 * (n + 1)) = 128 * 2 ^ (7 * n) := by rw [Nat.mul_add, Nat.pow_add]; omega
      have hge : ¬ (b.toNat % 128 + y * 128) < 128 := by omega
      have hu : uvar (b.toNat % 128 + y * 128) = b :: uvar y := by
        rw [uvar_ge hge, show (b.toNat % 128 + y * 128) % 128 + 128 = b.toNat by omega, show (b.toNat % 128 + y * 128) / 128 = y by omega, UInt8.ofNat_toNat]
      have hm : y * 2 ^ (7 * (n + 1)) = y * 128 * 2 ^ (7 * n) := by rw [hp, ← Nat.mul_assoc]
      refine ⟨b.toNat % 128 + y * 128, ?_, ?_, ?_, fun _ => by omega, ?_⟩
      · rw [h1, hm, Nat.add_assoc, ← Nat.add_mul]
      · rw [hu, h2, List.length_cons]; omega
      · rw [hu, List.length_cons, List.take_succ_cons, h3]
      · rw [hm] at h5
        have hP : 0 < 2 ^ (7 * n) := Nat.pow_pos (by decide)
        have hM : (18446744073709551616 : Nat) = 2 ^ (57 - 7 * n) * 128 * 2 ^ (7 * n) := by
          rw [show (128 : Nat) = 2 ^ 7 from rfl, ← Nat.pow_add, ← Nat.pow_add, show 57 - 7 * n + 7 + 7 * n = 64 by omega]
        rw [hM] at h5 ⊢
        have h6 := Nat.lt_of_mul_lt_mul_right h5
        exact Nat.mul_lt_mul_of_pos_right (by omega) hP

/-! ### The value of such bytes -/
def valB : List UInt8 → Nat
  | [] => 0
  | b :: l => b.toNat % 128 + 128 * valB l
theorem valB_uvar (x : Nat) : valB (uvar x) = x := by
  induction x using uvar.induct with
  | case1 x h =>
    rw [uvar_lt h]
    have e := ofNat_toNat (x := x) (by omega)
    simp only [valB, e]; omega
  | case2 x h ih =>
    rw [uvar_ge h]
    have e := ofNat_toNat (x := x % 128 + 128) (by omega)
    simp only [valB, e, ih]; omega
theorem uvar_hi (x : Nat) : ∀ (j : Nat) (b : UInt8), (uvar x)[j]? = some b → (b.toNat < 128 ↔ j + 1 = (uvar x).length) := by
  induction x using uvar.induct with
  | case1 x h =>
    intro j b hb
    rw [uvar_lt h] at hb ⊢
    have e := ofNat_toNat (x := x) (by omega)
    cases j with
    | zero =>
      simp only [List.getElem?_cons_zero, Option.some.injEq] at hb
      subst hb; rw [e]; simp [h]
    | succ j => simp at hb
  | case2 x h ih =>
    intro j b hb
    rw [uvar_ge h] at hb ⊢
    have e := ofNat_toNat (x := x % 128 + 128) (by omega)
    have := uvar_pos (x / 128)
    cases j with
    | zero =>
      simp only [List.getElem?_cons_zero, Option.some.injEq] at hb
      subst hb; rw [e, List.length_cons]; omega
    | succ j =>
      rw [List.getElem?_cons_succ] at hb
      rw [List.length_cons, ih j b hb]; omega

/-! ### The sum, bit by bit -/
def refStep (b k c : Nat) : Nat := if (c % 2) ^^^ (b / 2 ^ k % 2) = 1 then (c / 2) ^^^ 3988292384 else c / 2
def refN (b : Nat) : Nat → Nat → Nat
  | 0, c => c
  | k + 1, c => refStep b k (refN b k c)
theorem refStep_crc (b k c : Nat) : crc1 (c ^^^ (b / 2 ^ k)) = refStep b k c ^^^ (b / 2 ^ (k + 1)) := by
  have h2 : (c ^^^ (b / 2 ^ k)) / 2 = (c / 2) ^^^ (b / 2 ^ (k + 1)) := by
    rw [Nat.xor_div_two, Nat.pow_succ, Nat.div_div_eq_div_mul]
  have h1 : (c ^^^ (b / 2 ^ k)) % 2 = 1 ↔ (c % 2) ^^^ (b / 2 ^ k % 2) = 1 := by
    rw [Nat.xor_mod_two_eq_one]
    rcases Nat.mod_two_eq_zero_or_one c with h | h <;> rcases Nat.mod_two_eq_zero_or_one (b / 2 ^ k) with h' | h' <;> rw [h, h'] <;> decide
  unfold crc1 refStep
  by_cases h : (c % 2) ^^^ (b / 2 ^ k % 2) = 1
  · rw [if_pos h, if_pos (h1.2 h), h2, Nat.xor_assoc, Nat.xor_assoc, Nat.xor_comm (b / 2 ^ (k + 1))]
  · rw [if_neg h, if_neg fun h' => h (h1.1 h'), h2]
theorem refN_crc (b c : Nat) : ∀ k, crcN k (c ^^^ b) = refN b k c ^^^ (b / 2 ^ k)
  | 0 => by simp [crcN, refN]
  | k + 1 => by rw [crcN_snoc, refN_crc b c k, refStep_crc]; rfl
theorem refN_8 {b c : Nat} (hb : b < 256) : refN b 8 c = crcN 8 (c ^^^ b) := by
  rw [refN_crc, show b / 2 ^ 8 = 0 by omega, Nat.xor_zero]
end Go.VM

namespace Go.VM
open Go Go.RowKit Go.Proofs

theorem refUvarint_full {w0 : World} {S : St} {Q : AEnd → St → Prop} {v : Nat} (hv : v < 18446744073709551616)
    (hQ : ∀ S' t, TokOk S' t → (t = .nil → uvar v = []) → (∀ j, t = .at j → S.n ≤ j) → Keeps (fun _ => False) S S' → Q (.ret (.sl ((uvar v).map u8V) (uvar v).length 1 t)) S') : RSim Tryd.prog w0 n_r01_Uvarint [.int .u64 v] S Q := by
  have hl := uvar_len10 hv
  refine RSim.run mixed k_r01_Uvarint ?_ (by simp)
  simp only [b_r01_Uvarint, go_sem]
  refine loop_rule RSim.le (k := v) (fun m fr S1 => ∃ (u : Nat) (bs : List UInt8) (t : Tok), m = u ∧ u < 18446744073709551616 ∧ fr 0 = .int .u64 u ∧ fr 3 = .sl (bs.map u8V) bs.length 1 t ∧ bs ++ uvar u = uvar v ∧ TokOk S1 t ∧ (t = .nil → bs = []) ∧ (∀ j, t = .at j → S.n ≤ j) ∧ Keeps (fun _ => False) S S1) ?_
    ⟨v, [], .nil, rfl, hv, by simp only [go_sem], by simp only [go_sem], rfl, trivial, fun _ => rfl, fun j h => (by cases h), Keeps.refl _ _⟩
  rintro m fr S1 ⟨u, bs, t, hm, hu, f0, f3, hbs, ht, hn, htn, k1⟩
  subst hm
  have hlen : bs.length + (uvar m).length = (uvar v).length := by rw [← hbs, List.length_append]
  have hpos := uvar_pos m
  simp only [l_r01_Uvarint_0, go_sem, f0, f3]
  refine wc_ite (b := decide ((m : Int) ≥ 128)) (by simp only [go_sem]) (fun hc => ?_) (fun hc => ?_)
  · have hm : ¬ m < 128 := by have := of_decide_eq_true hc; omega
    have t1 : (m : Int).tmod 128 = ((m % 128 : Nat) : Int) := by rw [Int.tmod_eq_emod_of_nonneg (by omega)]; omega
    have t2 : IntKind.u64.wrap ((m : Int).tdiv 128) = ((m / 128 : Nat) : Int) := by
      rw [Int.tdiv_eq_ediv_of_nonneg (by omega), wu64 (by omega) (by omega)]; omega
    have cv : ∀ S, V.conv S (.int .u8) (.int .u64 ((m % 128 : Nat) : Int)) = some (.int .u8 ((m % 128 : Nat) : Int)) := fun S => by
      simp only [V.conv, wu8 (show (0 : Int) ≤ ((m % 128 : Nat) : Int) by omega) (show ((m % 128 : Nat) : Int) < 256 by omega)]
    have t3 : IntKind.u8.wrap (((m % 128 : Nat) : Int) + 128) = ((m % 128 + 128 : Nat) : Int) := by rw [wu8 (by omega) (by omega)]; omega
    simp only [go_sem, f0, f3, t1, cv, t3]
    have hcell : V.int .u8 ((m % 128 + 128 : Nat) : Int) = u8V (UInt8.ofNat (m % 128 + 128)) := by rw [u8V_ofNat, Nat.mod_eq_of_lt (a := m % 128 + 128) (by omega)]
    rw [hcell]
    refine wi_appendB (S0 := S) (bs := bs) (cs := [UInt8.ofNat (m % 128 + 128)]) (t := t) (by simp only [go_sem, f3]) rfl (by simp only [go_sem]; exact elems1 _ _ _ (by simp)) (by simp; omega) k1 ht htn hn fun t' S2 k2 ht2 hn2 hz => ?_
    simp only [go_sem, f0, t2]
    have hn1 : bs.length + 1 = (bs ++ [UInt8.ofNat (m % 128 + 128)]).length := by simp
    refine ⟨m / 128, by omega, m / 128, bs ++ [UInt8.ofNat (m % 128 + 128)], t', rfl, by omega, by simp only [go_sem], by simp only [go_sem], ?_, ht2, hz, hn2, k2⟩
    rw [← hbs, uvar_ge hm, List.append_assoc]; rfl
  · have hm : m < 128 := by have := of_decide_eq_false hc; omega
    have cv : ∀ S, V.conv S (.int .u8) (.int .u64 (m : Int)) = some (.int .u8 (m : Int)) := fun S => by
      simp only [V.conv, wu8 (show (0 : Int) ≤ m by omega) (show (m : Int) < 256 by omega)]
    simp only [go_sem, f0, f3, cv]
    have hcell : V.int .u8 (m : Int) = u8V (UInt8.ofNat m) := by rw [u8V_ofNat, Nat.mod_eq_of_lt (a := m) (by omega)]
    rw [hcell]
    refine wi_appendB (S0 := S) (bs := bs) (cs := [UInt8.ofNat m]) (t := t) (by simp only [go_sem]) rfl (by simp only [go_sem]; exact elems1 _ _ _ (by simp)) (by simp; omega) k1 ht htn hn fun t' S2 k2 ht2 hn2 hz => ?_
    simp only [go_sem]
    have e : bs ++ [UInt8.ofNat m] = uvar v := by rw [← hbs, uvar_lt hm]
    rw [e] at hz
    have := hQ S2 t' ht2 hz hn2 k2
    rw [← e] at this
    exact this
theorem refUvarint_runs {w0 : World} {S : St} {Q : AEnd → St → Prop} {v : Nat} (hv : v < 18446744073709551616)
    (hQ : ∀ S' v', IsBytes v' (uvar v) → Keeps (fun _ => False) S S' → Q (.ret v') S') : RSim Tryd.prog w0 n_r01_Uvarint [.int .u64 v] S Q :=
  refUvarint_full hv fun S' t _ hz _ k => hQ S' _ ⟨t, rfl, hz⟩ k

end Go.VM

namespace Go.VM
open Go Go.RowKit Go.Proofs

theorem refStep_lt {b k c : Nat} (h : c < 4294967296) : refStep b k c < 4294967296 := by
  unfold refStep; split
  · exact Nat.xor_lt_two_pow (n := 32) (by omega) (by decide)
  · omega
theorem refN_lt {b c : Nat} (h : c < 4294967296) : ∀ k, refN b k c < 4294967296
  | 0 => h
  | k + 1 => refStep_lt (refN_lt h k)
end Go.VM

namespace Go.VM
open Go Go.RowKit Go.Proofs

/-- Of bytes, the first so many are big; and the one behind is not. -/
def BigN (l : List UInt8) (n : Nat) : Prop := ∀ j b, j < n → l[j]? = some b → 128 ≤ b.toNat
theorem ruv_big {l : List UInt8} : ∀ {n v : Nat} (m : Nat), BigN l m → (l.length ≤ m ∨ n + m ≥ 10) → n ≤ 9 → ruv n v l = none := by
  induction l with
  | nil => intro n v m _ _ _; rfl
  | cons b l ih =>
    intro n v m hb hm hn
    by_cases hbad : (n = 9 ∧ b.toNat > 1) ∨ (b.toNat = 0 ∧ n > 0)
    · exact ruv_bad hbad
    cases m with
    | zero => simp at hm; omega
    | succ m =>
      have hb0 := hb 0 b (by omega) rfl
      rw [ruv_more hbad (by omega)]
      refine ih m (fun j c hj hc => hb (j + 1) c (by omega) (by simpa using hc)) ?_ ?_
      · rcases hm with hm | hm
        · left; simpa using hm
        · right; omega
      · rcases Nat.lt_or_ge n 9 with h | h
        · omega
        · exact absurd (.inl ⟨by omega, by omega⟩) hbad
/-- The bytes up to the first small one are read just if they are the bytes of their value. -/
theorem ruv_ref {l : List UInt8} {n : Nat} {b : UInt8} (hn : n < 10) (hb : BigN l n) (hl : l[n]? = some b) (hs : b.toNat < 128) :
    (uvar (valB (l.take (n + 1)) % 18446744073709551616) = l.take (n + 1) → ruv 0 0 l = some (valB (l.take (n + 1)) % 18446744073709551616, n + 1)) ∧
    (uvar (valB (l.take (n + 1)) % 18446744073709551616) ≠ l.take (n + 1) → ruv 0 0 l = none) := by
  have hlen := (List.getElem?_eq_some_iff.1 hl).1
  have htl : (l.take (n + 1)).length = n + 1 := by rw [List.length_take]; omega
  constructor
  · intro h
    have := ruv_uvar' (valB (l.take (n + 1)) % 18446744073709551616) 0 0 (l.drop (n + 1)) (by simp; omega) (fun h => by omega)
    rw [h, List.take_append_drop, htl] at this
    simpa using this
  · intro h
    cases hr : ruv 0 0 l with
    | none => rfl
    | some p =>
      exfalso
      obtain ⟨x, k⟩ := p
      obtain ⟨y, h1, h2, h3, _, h5⟩ := ruv_canon (by omega) hr
      simp only [Nat.mul_zero, Nat.pow_zero, Nat.mul_one, Nat.zero_add] at h1 h2 h5
      have hy := uvar_pos y
      have hget : ∀ j, j < (uvar y).length → (uvar y)[j]? = l[j]? := fun j hj => by
        have := congrArg (fun l : List UInt8 => l[j]?) h3
        simp only [List.getElem?_take, if_pos hj] at this
        exact this.symm
      have hk : (uvar y).length = n + 1 := by
        rcases Nat.lt_trichotomy (uvar y).length (n + 1) with h | h | h
        · obtain ⟨c, hg⟩ : ∃ c, (uvar y)[(uvar y).length - 1]? = some c := ⟨_, List.getElem?_eq_getElem (by omega)⟩
          have h6 := (uvar_hi y _ _ hg).2 (by omega)
          rw [hget _ (by omega)] at hg
          have := hb _ _ (by omega) hg
          omega
        · exact h
        · have hg : (uvar y)[n]? = some b := by rw [hget n (by omega)]; exact hl
          have := (uvar_hi y _ _ hg).1 hs
          omega
      rw [hk] at h3
      apply h
      rw [h3, valB_uvar, Nat.mod_eq_of_lt (by simpa using h5)]
end Go.VM

namespace Go.VM
open Go Go.RowKit Go.Proofs

theorem refRead_count {w0 : World} {fr : Fr} {S : St} {K : CPost} {bs : List UInt8} {t : Tok} {p : Nat} (hp : p ≤ bs.length) (hl : bs.length ≤ 100000000000000) (ht : t = .nil → bs = [])
    (f0 : fr 0 = .sl (bs.map u8V) bs.length 1 t) (f1 : fr 1 = .int .i64 p) (f7 : fr 7 = .int .i64 0)
    (hK : ∀ fr' n, n ≤ 10 → fr' 0 = fr 0 → fr' 1 = fr 1 → fr' 7 = .int .i64 (n : Nat) → BigN (bs.drop p) n → p + n ≤ bs.length → (n = 10 ∨ p + n = bs.length ∨ ∃ b, (bs.drop p)[n]? = some b ∧ b.toNat < 128) → K .normal fr' S) :
    wCode (RSim Tryd.prog w0) (.loop l_r01_ReadUvarint_0) fr S (blkQ 0 K) := by
  refine loop_rule RSim.le (k := 10) (fun m fr1 S1 => ∃ n : Nat, m = 10 - n ∧ n ≤ 10 ∧ p + n ≤ bs.length ∧ S1 = S ∧ fr1 0 = fr 0 ∧ fr1 1 = fr 1 ∧ fr1 7 = .int .i64 (n : Nat) ∧ BigN (bs.drop p) n) ?_
    ⟨0, rfl, by omega, by omega, rfl, rfl, rfl, f7, fun j b hj _ => by omega⟩
  rintro m fr1 S1 ⟨n, hm, hn, hpn, rfl, e0, e1, e7, hb⟩
  have g0 := e0.trans f0
  have g1 := e1.trans f1
  have w1 : IntKind.i64.wrap ((bs.length : Int) - (p : Int)) = ((bs.length - p : Nat) : Int) := by rw [w64 (by omega) (by omega)]; omega
  have w2 : IntKind.i64.wrap ((p : Int) + (n : Int)) = ((p + n : Nat) : Int) := by rw [w64 (by omega) (by omega)]; omega
  have w3 : IntKind.i64.wrap ((n : Int) + 1) = ((n + 1 : Nat) : Int) := by rw [w64 (by omega) (by omega)]; omega
  simp only [l_r01_ReadUvarint_0, go_sem, g0, g1, e7]
  by_cases h10 : n < 10
  · have q1 : decide ((n : Int) < 10) = true := decide_eq_true (by omega)
    by_cases hlt : p + n < bs.length
    · have q2 : decide ((n : Int) < ((bs.length - p : Nat) : Int)) = true := decide_eq_true (by omega)
      obtain ⟨b, hbb⟩ : ∃ b, bs[p + n]? = some b := ⟨bs[p + n], List.getElem?_eq_getElem hlt⟩
      have hd := drop_get hbb
      have hjt : (p + n < bs.length) = True := eq_true hlt
      have htn : (t = .nil) = False := eq_false fun h => by rw [ht h] at hlt; simp at hlt
      have hg : (bs.drop p)[n]? = some b := by rw [List.getElem?_drop]; exact hbb
      by_cases h128 : 128 ≤ b.toNat
      · have q3 : decide ((b.toNat : Int) ≥ 128) = true := decide_eq_true (by omega)
        simp only [go_sem, q1, q2, q3, g0, g1, e7, w1, w2, hd, hjt, htn, List.head?_cons]
        refine wc_ite (b := true) (by simp only [go_sem] <;> rfl) (fun _ => ?_) (fun h => by cases h)
        simp only [go_sem, e7, w3]
        refine ⟨10 - (n + 1), by omega, n + 1, rfl, by omega, by omega, by simp only [go_sem, e0], by simp only [go_sem, e1], by simp only [go_sem], fun j c hj hc => ?_⟩
        rcases Nat.lt_or_ge j n with h | h
        · exact hb j c h hc
        · have : j = n := by omega
          subst this
          rw [hg] at hc; injection hc with hc; subst hc; exact h128
      · have q3 : decide ((b.toNat : Int) ≥ 128) = false := decide_eq_false (by omega)
        simp only [go_sem, q1, q2, q3, g0, g1, e7, w1, w2, hd, hjt, htn, List.head?_cons]
        refine wc_ite (b := false) (by simp only [go_sem] <;> rfl) (fun h => by cases h) (fun _ => ?_)
        simp only [go_sem]
        exact hK _ n hn (by simp only [go_sem, e0]) (by simp only [go_sem, e1]) (by simp only [go_sem, e7]) hb hpn (.inr (.inr ⟨b, hg, by omega⟩))
    · have q2 : decide ((n : Int) < ((bs.length - p : Nat) : Int)) = false := decide_eq_false (by omega)
      simp only [go_sem, q1, q2, g0, g1, e7, w1]
      refine wc_ite (b := false) (by simp only [go_sem] <;> rfl) (fun h => by cases h) (fun _ => ?_)
      simp only [go_sem]
      exact hK _ n hn (by simp only [go_sem, e0]) (by simp only [go_sem, e1]) (by simp only [go_sem, e7]) hb hpn (.inr (.inl (by omega)))
  · have q1 : decide ((n : Int) < 10) = false := decide_eq_false (by omega)
    simp only [go_sem, q1]
    refine wc_ite (b := false) (by simp only [go_sem] <;> rfl) (fun h => by cases h) (fun _ => ?_)
    simp only [go_sem]
    exact hK _ n hn (by simp only [go_sem, e0]) (by simp only [go_sem, e1]) (by simp only [go_sem, e7]) hb hpn (.inl (by omega))

theorem valB_step {l : List UInt8} {k : Nat} {b : UInt8} (h : l[k]? = some b) : valB (l.drop k) = b.toNat % 128 + 128 * valB (l.drop (k + 1)) := by
  have hlt := (List.getElem?_eq_some_iff.1 h).1
  rw [List.drop_eq_getElem_cons hlt]
  have : l[k] = b := (List.getElem?_eq_some_iff.1 h).2
  rw [this]; rfl
theorem refRead_value {w0 : World} {fr : Fr} {S : St} {K : CPost} {bs : List UInt8} {t : Tok} {p n : Nat} (hp : p + n < bs.length) (hn : n < 10) (hl : bs.length ≤ 100000000000000) (ht : t = .nil → bs = [])
    (f0 : fr 0 = .sl (bs.map u8V) bs.length 1 t) (f1 : fr 1 = .int .i64 p) (f8 : fr 8 = .int .u64 0) (f9 : fr 9 = .int .i64 n)
    (hK : ∀ fr', fr' 0 = fr 0 → fr' 1 = fr 1 → fr' 7 = fr 7 → fr' 8 = .int .u64 ((valB ((bs.drop p).take (n + 1)) % 18446744073709551616 : Nat) : Int) → K .normal fr' S) :
    wCode (RSim Tryd.prog w0) (.loop l_r01_ReadUvarint_1) fr S (blkQ 2 K) := by
  have htl : ((bs.drop p).take (n + 1)).length = n + 1 := by rw [List.length_take, List.length_drop]; omega
  refine loop_rule RSim.le (k := n + 1) (fun m fr1 S1 => ∃ k : Nat, m = k ∧ k ≤ n + 1 ∧ S1 = S ∧ fr1 0 = fr 0 ∧ fr1 1 = fr 1 ∧ fr1 7 = fr 7 ∧ fr1 8 = .int .u64 ((valB (((bs.drop p).take (n + 1)).drop k) % 18446744073709551616 : Nat) : Int) ∧ fr1 9 = .int .i64 ((k : Int) - 1)) ?_
    ⟨n + 1, rfl, Nat.le_refl _, rfl, rfl, rfl, rfl, by rw [f8, List.drop_eq_nil_of_le (by omega)]; rfl, by rw [f9]; congr 1; omega⟩
  rintro m fr1 S1 ⟨k, hm, hk, rfl, e0, e1, e7, e8, e9⟩
  have g0 := e0.trans f0
  have g1 := e1.trans f1
  simp only [l_r01_ReadUvarint_1, go_sem, g0, g1, e8, e9]
  cases k with
  | zero =>
    have q : decide (((0 : Nat) : Int) - 1 ≥ 0) = false := by decide
    simp only [go_sem, q]
    refine wc_ite (b := false) (by simp only [go_sem] <;> rfl) (fun h => by cases h) (fun _ => ?_)
    simp only [go_sem]
    rw [List.drop_zero] at e8
    exact hK _ (by simp only [go_sem, e0]) (by simp only [go_sem, e1]) (by simp only [go_sem, e7]) (by simp only [go_sem, e8])
  | succ k =>
    have ek : (((k + 1 : Nat) : Int) - 1) = (k : Int) := by omega
    rw [ek] at e9 ⊢
    have q : decide ((k : Int) ≥ 0) = true := decide_eq_true (by omega)
    have hlt : p + k < bs.length := by omega
    obtain ⟨b, hbb⟩ : ∃ b, bs[p + k]? = some b := ⟨bs[p + k], List.getElem?_eq_getElem hlt⟩
    have hd := drop_get hbb
    have hjt : (p + k < bs.length) = True := eq_true hlt
    have htn : (t = .nil) = False := eq_false fun h => by rw [ht h] at hlt; simp at hlt
    have hg : ((bs.drop p).take (n + 1))[k]? = some b := by rw [List.getElem?_take, if_pos (by omega), List.getElem?_drop]; exact hbb
    have hv := valB_step hg
    have hbl := b.toNat_lt
    generalize valB (((bs.drop p).take (n + 1)).drop (k + 1)) = y at *
    generalize hz : valB (((bs.drop p).take (n + 1)).drop k) = z at *
    have w2 : IntKind.i64.wrap ((p : Int) + (k : Int)) = ((p + k : Nat) : Int) := by rw [w64 (by omega) (by omega)]; omega
    have w3 : IntKind.i64.wrap ((k : Int) - 1) = (k : Int) - 1 := w64 (by omega) (by omega)
    have t1 : (b.toNat : Int).tmod 128 = ((b.toNat % 128 : Nat) : Int) := by rw [Int.tmod_eq_emod_of_nonneg (by omega)]; omega
    have cv : ∀ S, V.conv S (.int .u64) (.int .u8 ((b.toNat % 128 : Nat) : Int)) = some (.int .u64 ((b.toNat % 128 : Nat) : Int)) := fun S => by
      simp only [V.conv, wu64 (show (0 : Int) ≤ ((b.toNat % 128 : Nat) : Int) by omega) (show ((b.toNat % 128 : Nat) : Int) < 18446744073709551616 by omega)]
    have m1 : IntKind.u64.wrap (((y % 18446744073709551616 : Nat) : Int) * 128) = ((y * 128 % 18446744073709551616 : Nat) : Int) := by
      rw [IntKind.wrap_u64]; omega
    have m2 : IntKind.u64.wrap (((y * 128 % 18446744073709551616 : Nat) : Int) + ((b.toNat % 128 : Nat) : Int)) = ((z % 18446744073709551616 : Nat) : Int) := by
      rw [IntKind.wrap_u64, hv]; omega
    simp only [go_sem, q, g0, g1, e8, e9, w2, hd, hjt, htn, List.head?_cons, t1, cv, m1, m2]
    refine wc_ite (b := true) (by simp only [go_sem] <;> rfl) (fun _ => ?_) (fun h => by cases h)
    simp only [go_sem, q, g0, g1, e8, e9, w2, hd, hjt, htn, List.head?_cons, t1, cv, m1, m2, w3]
    exact ⟨k, by omega, k, rfl, by omega, f0.symm, f1.symm, e7, by rw [hz], rfl⟩

theorem refReadUvarint_runs {w0 : World} {S : St} {Q : AEnd → St → Prop} {v : V} {bs : List UInt8} {p : Nat} (hv : IsBytes v bs) (hp : p ≤ bs.length) (hl : bs.length ≤ 100000000000000)
    (hQ : ∀ v k S', ruv 0 0 (bs.drop p) = some (v, k) → v < 18446744073709551616 → p + k ≤ bs.length → Keeps (fun _ => False) S S' → Q (.ret (.tup [.int .u64 (v : Nat), .int .i64 ((p + k : Nat) : Int), .int .i64 0])) S')
    (hQ' : ∀ S', ruv 0 0 (bs.drop p) = none → Keeps (fun _ => False) S S' → Q (.ret (.tup [.int .u64 0, .int .i64 0, .int .i64 3])) S') :
    RSim Tryd.prog w0 n_r01_ReadUvarint [v, .int .i64 p] S Q := by
  obtain ⟨t, rfl, ht⟩ := id hv
  have e1 : decide ((p : Int) > (bs.length : Int)) = false := decide_eq_false (by omega)
  have e0 : decide ((p : Int) < 0) = false := decide_eq_false (by omega)
  have dl : (bs.drop p).length = bs.length - p := List.length_drop
  have w1 : IntKind.i64.wrap ((bs.length : Int) - (p : Int)) = ((bs.length - p : Nat) : Int) := by rw [w64 (by omega) (by omega)]; omega
  refine RSim.run mixed k_r01_ReadUvarint ?_ (by simp)
  simp only [b_r01_ReadUvarint, go_sem, e1, e0]
  refine wc_ite (b := false) (by simp only [go_sem] <;> rfl) (fun h => by cases h) (fun _ => ?_)
  simp only [go_sem]
  refine refRead_count hp hl ht (by simp only [go_sem]) (by simp only [go_sem]) (by simp only [go_sem]) fun fr n hn f0 f1 f7 hb hpn hend => ?_
  simp only [go_sem] at f0 f1
  simp only [s_r01_ReadUvarint_1, go_sem, f0, f1, f7, w1]
  by_cases hbad : n = 10 ∨ p + n = bs.length
  · clear hend
    have hr : ruv 0 0 (bs.drop p) = none := ruv_big n hb (by rw [dl]; omega) (by omega)
    by_cases h10 : n = 10
    · have q1 : decide ((n : Int) ≥ 10) = true := decide_eq_true (by omega)
      simp only [go_sem, q1]
      refine wc_ite (b := true) (by simp only [go_sem] <;> rfl) (fun _ => ?_) (fun h => by cases h)
      simp only [go_sem]
      exact hQ' S hr (Keeps.refl _ _)
    · have q1 : decide ((n : Int) ≥ 10) = false := decide_eq_false (by omega)
      have q2 : decide ((n : Int) ≥ ((bs.length - p : Nat) : Int)) = true := decide_eq_true (by omega)
      simp only [go_sem, q1, q2, f7, f0, f1, w1]
      refine wc_ite (b := true) (by simp only [go_sem] <;> rfl) (fun _ => ?_) (fun h => by cases h)
      simp only [go_sem]
      exact hQ' S hr (Keeps.refl _ _)
  · have hn10 : n < 10 := Nat.lt_of_le_of_ne hn (fun h => hbad (.inl h))
    have hlt : p + n < bs.length := Nat.lt_of_le_of_ne hpn (fun h => hbad (.inr h))
    obtain ⟨b, hg, hs⟩ : ∃ b, (bs.drop p)[n]? = some b ∧ b.toNat < 128 := by
      rcases hend with h | h | h
      · omega
      · omega
      · exact h
    clear hend
    obtain ⟨R1, R2⟩ := ruv_ref hn10 hb hg hs
    have q1 : decide ((n : Int) ≥ 10) = false := decide_eq_false (by omega)
    have q2 : decide ((n : Int) ≥ ((bs.length - p : Nat) : Int)) = false := decide_eq_false (by omega)
    simp only [go_sem, q1, q2, f7, f0, f1, w1]
    refine wc_ite (b := false) (by simp only [go_sem] <;> rfl) (fun h => by cases h) (fun _ => ?_)
    simp only [go_sem, f7]
    refine refRead_value hlt hn10 hl ht (by simp only [go_sem, f0]) (by simp only [go_sem, f1]) (by simp only [go_sem]) (by simp only [go_sem]) fun fr2 g0 g1 g7 g8 => ?_
    simp only [go_sem, f0, f1, f7] at g0 g1 g7
    have hx : valB ((bs.drop p).take (n + 1)) % 18446744073709551616 < 18446744073709551616 := Nat.mod_lt _ (by decide)
    have l2 : ((bs.drop p).take (n + 1)).length = n + 1 := by rw [List.length_take, dl]; omega
    have eq2 : ((bs.map u8V).drop p).take (n + 1) = ((bs.drop p).take (n + 1)).map u8V := by rw [← List.map_drop, ← List.map_take]
    generalize valB ((bs.drop p).take (n + 1)) % 18446744073709551616 = x at *
    generalize (bs.drop p).take (n + 1) = q at *
    simp only [s_r01_ReadUvarint_0, go_sem, g0, g1, g7, g8]
    refine wi_call ?_
    simp only [go_sem]
    refine refUvarint_runs hx fun S1 vw hw k1 => ?_
    have w2 : IntKind.i64.wrap ((p : Int) + (n : Int)) = ((p + n : Nat) : Int) := by rw [w64 (by omega) (by omega)]; omega
    have w3 : IntKind.i64.wrap (((p + n : Nat) : Int) + 1) = ((p + (n + 1) : Nat) : Int) := by rw [w64 (by omega) (by omega)]; omega
    have hA : (p ≤ p + (n + 1)) = True := eq_true (by omega)
    have hB : (p + (n + 1) ≤ bs.length) = True := eq_true (by omega)
    have htn : (t = .nil) = False := eq_false fun h => by rw [ht h] at hlt; simp at hlt
    have cw := fun S => hw.convS S
    have cq : ∀ S t', t' ≠ .nil → V.conv S .bytesStr (.sl (q.map u8V) (n + 1) 1 t') = some (.str (mkS q)) := fun S t' h => by
      have := (isBytes_mk q h).convS S
      rwa [l2] at this
    have htt : (if p + (n + 1) = bs.length then t else Tok.no) ≠ .nil := by
      split
      · exact fun h => by rw [h] at htn; simp at htn
      · simp
    have cq1 := fun S => cq S _ htt
    simp only [go_sem, g0, g1, g7, cw, w2, w3, hA, hB, htn, Nat.add_sub_cancel_left, Nat.mul_one, eq2, cq1]
    refine wc_ite (b := !decide (uvar x = q)) (by simp only [go_sem]) (fun hc => ?_) (fun hc => ?_)
    · have hne : uvar x ≠ q := by simpa using hc
      simp only [go_sem]
      exact hQ' S1 (R2 hne) k1
    · have he : uvar x = q := by simpa using hc
      simp only [go_sem, g8, g1, g7, w2, w3]
      exact hQ x (n + 1) S1 (R1 he) hx (by omega) k1
end Go.VM

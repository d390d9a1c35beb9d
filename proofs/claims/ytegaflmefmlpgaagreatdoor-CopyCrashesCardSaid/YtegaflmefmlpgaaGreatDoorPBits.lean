/-
  Bits of whole numbers; numbers as bytes.
  pack.ReadUvarint.
  pack.Sum, pack.four. NEWPP
-/
import Derived.Test.YtegaflmefmlpgaaGreatDoorPCodes
import Derived.Test.YtegaflmefmlpgaaGreatDoorDAbs
import Derived.Test.YtegaflmefmlpgaaGreatDoorVmSet
set_option linter.unusedVariables false
set_option linter.unusedSimpArgs false
set_option maxRecDepth 20000
namespace Go.VM
open Go Go.RowKit Go.Proofs

theorem wu32 {x : Int} (h1 : 0 ≤ x) (h2 : x < 4294967296) : IntKind.u32.wrap x = x := by
  rw [IntKind.wrap_u32]; omega
theorem bv_nat (n a : Nat) (h : a < 2 ^ n) : (BitVec.ofInt n (a : Int)).toNat = a := by
  rw [BitVec.ofInt_natCast, BitVec.toNat_ofNat]
  exact Nat.mod_eq_of_lt h
theorem or64 {a b : Nat} (ha : a < 18446744073709551616) (hb : b < 18446744073709551616) : bitsV .or .u64 (a : Int) (b : Int) = some ((a ||| b : Nat) : Int) := by
  have h := Nat.or_lt_two_pow (n := 64) ha hb
  show some (IntKind.u64.wrap (((BitVec.ofInt 64 (a : Int)) ||| (BitVec.ofInt 64 (b : Int))).toNat : Int)) = _
  rw [BitVec.toNat_or, bv_nat 64 a ha, bv_nat 64 b hb, wu64 (by omega) (by omega)]
theorem or8 {a b : Nat} (ha : a < 256) (hb : b < 256) : bitsV .or .u8 (a : Int) (b : Int) = some ((a ||| b : Nat) : Int) := by
  have h := Nat.or_lt_two_pow (n := 8) ha hb
  show some (IntKind.u8.wrap (((BitVec.ofInt 8 (a : Int)) ||| (BitVec.ofInt 8 (b : Int))).toNat : Int)) = _
  rw [BitVec.toNat_or, bv_nat 8 a ha, bv_nat 8 b hb, wu8 (by omega) (by omega)]
theorem and8 {a b : Nat} (ha : a < 256) (hb : b < 256) : bitsV .and .u8 (a : Int) (b : Int) = some ((a &&& b : Nat) : Int) := by
  have h := Nat.and_lt_two_pow (n := 8) a hb
  show some (IntKind.u8.wrap (((BitVec.ofInt 8 (a : Int)) &&& (BitVec.ofInt 8 (b : Int))).toNat : Int)) = _
  rw [BitVec.toNat_and, bv_nat 8 a ha, bv_nat 8 b hb, wu8 (by omega) (by omega)]
theorem and32 {a b : Nat} (ha : a < 4294967296) (hb : b < 4294967296) : bitsV .and .u32 (a : Int) (b : Int) = some ((a &&& b : Nat) : Int) := by
  have h := Nat.and_lt_two_pow (n := 32) a hb
  show some (IntKind.u32.wrap (((BitVec.ofInt 32 (a : Int)) &&& (BitVec.ofInt 32 (b : Int))).toNat : Int)) = _
  rw [BitVec.toNat_and, bv_nat 32 a ha, bv_nat 32 b hb, wu32 (by omega) (by omega)]
theorem xor32 {a b : Nat} (ha : a < 4294967296) (hb : b < 4294967296) : bitsV .xor .u32 (a : Int) (b : Int) = some ((a ^^^ b : Nat) : Int) := by
  have h := Nat.xor_lt_two_pow (n := 32) ha hb
  show some (IntKind.u32.wrap (((BitVec.ofInt 32 (a : Int)) ^^^ (BitVec.ofInt 32 (b : Int))).toNat : Int)) = _
  rw [BitVec.toNat_xor, bv_nat 32 a ha, bv_nat 32 b hb, wu32 (by omega) (by omega)]

/-! ### Uvarint -/
def uvar (v : Nat) : List UInt8 := if v < 128 then [UInt8.ofNat v] else UInt8.ofNat (v % 128 + 128) :: uvar (v / 128)
termination_by v
decreasing_by omega
theorem uvar_lt {v : Nat} (h : v < 128) : uvar v = [UInt8.ofNat v] := by rw [uvar, if_pos h]
theorem uvar_ge {v : Nat} (h : ¬ v < 128) : uvar v = UInt8.ofNat (v % 128 + 128) :: uvar (v / 128) := by rw [uvar, if_neg h]
theorem uvar_len (v : Nat) : ∀ n, v < 128 ^ n → 1 ≤ n → (uvar v).length ≤ n := by
  induction v using uvar.induct with
  | case1 v h => intro n _ h1; rw [uvar_lt h]; exact h1
  | case2 v h ih =>
    intro n hv h1
    rw [uvar_ge h, List.length_cons]
    match n, h1 with
    | 1, _ => simp at hv; omega
    | n + 2, _ =>
      have := ih (n + 1) (by rw [Nat.pow_succ] at hv; exact Nat.div_lt_of_lt_mul (by rw [Nat.mul_comm]; exact hv)) (by omega)
      omega
theorem uvar_len10 {v : Nat} (h : v < 18446744073709551616) : (uvar v).length ≤ 10 := uvar_len v 10 (Nat.lt_trans h (by decide)) (by decide)
set_option maxRecDepth 20000 in
theorem or128 (x : Nat) (h : x < 256) : x ||| 128 = x % 128 + 128 := by
  have : ∀ y : Fin 256, y.val ||| 128 = y.val % 128 + 128 := by decide
  exact this ⟨x, h⟩
set_option maxRecDepth 20000 in
theorem and127 (x : Nat) (h : x < 256) : x &&& 127 = x % 128 := by
  have : ∀ y : Fin 256, y.val &&& 127 = y.val % 128 := by decide
  exact this ⟨x, h⟩
theorem u8V_ofNat (n : Nat) : u8V (UInt8.ofNat n) = .int .u8 ((n % 256 : Nat) : Int) := by simp [u8V]

theorem uvarint_runs {w0 : World} {S : St} {Q : AEnd → St → Prop} {v : Nat} (hv : v < 18446744073709551616)
    (hQ : ∀ S' t, TokOk S' t → t ≠ .nil → (∀ j, t = .at j → S.n ≤ j) → Keeps (fun _ => False) S S' → Q (.ret (.sl ((uvar v).map u8V) (uvar v).length 1 t)) S') : RSim Tryz.prog w0 n_pack_Uvarint [.int .u64 v] S Q := by
  have hl := uvar_len10 hv
  refine RSim.run mixed k_pack_Uvarint ?_ (by simp)
  simp only [b_pack_Uvarint, go_sem]
  refine loop_rule RSim.le (k := v) (fun m fr S1 => ∃ (u : Nat) (bs : List UInt8) (t : Tok), m = u ∧ u < 18446744073709551616 ∧ fr 0 = .int .u64 u ∧ fr 3 = .sl (bs.map u8V) bs.length 1 t ∧ bs ++ uvar u = uvar v ∧ TokOk S1 t ∧ (t = .nil → bs = []) ∧ (∀ j, t = .at j → S.n ≤ j) ∧ Keeps (fun _ => False) S S1) ?_
    ⟨v, [], .nil, rfl, hv, by simp only [go_sem], by simp only [go_sem], rfl, trivial, fun _ => rfl, fun j h => (by cases h), Keeps.refl _ _⟩
  rintro m fr S1 ⟨u, bs, t, hm, hu, f0, f3, hbs, ht, hn, htn, k1⟩
  subst hm
  have hlen : bs.length + (uvar m).length = (uvar v).length := by rw [← hbs, List.length_append]
  simp only [l_pack_Uvarint_0, go_sem, f0, f3]
  refine wc_ite (b := decide ((m : Int) ≥ 128)) (by simp only [go_sem]) (fun hc => ?_) (fun hc => ?_)
  · have hm : ¬ m < 128 := by have := of_decide_eq_true hc; omega
    have cv : ∀ S, V.conv S (.int .u8) (.int .u64 (m : Int)) = some (.int .u8 ((m % 256 : Nat) : Int)) := fun S => by
      simp only [V.conv, IntKind.wrap_u8]; congr 2
    have ho : bitsV .or .u8 ((m % 256 : Nat) : Int) 128 = some ((m % 128 + 128 : Nat) : Int) := by
      have := or8 (a := m % 256) (b := 128) (by omega) (by omega)
      rw [or128 _ (by omega)] at this
      rw [show ((128 : Int)) = ((128 : Nat) : Int) from rfl, this]; congr 2; omega
    simp only [go_sem, f0, f3, cv, ho]
    refine wi_append (n := bs.length) (cs := bs.map u8V) (t := t) (m := 1) (xs := [.int .u8 ((m % 128 + 128 : Nat) : Int)]) (by simp only [go_sem]) (by simp only [go_sem, V.elems]) rfl (by simp [roomOk]; omega) ht (fun e => by rw [hn e]; exact ⟨rfl, rfl⟩) fun t' S2 k2 ht2 hn2 hz => ?_
    have hsh : (m : Int).fdiv (2 ^ (min (Int.toNat 7) 64)) = ((m / 128 : Nat) : Int) := by
      show (m : Int).fdiv 128 = _
      rw [Int.fdiv_eq_ediv_of_nonneg _ (by omega)]; omega
    simp only [go_sem, f0, hsh]
    have hcat : bs.map u8V ++ [V.int .u8 ((m % 128 + 128 : Nat) : Int)] = (bs ++ [UInt8.ofNat (m % 128 + 128)]).map u8V := by
      rw [List.map_append, List.map_cons, List.map_nil, u8V_ofNat, Nat.mod_eq_of_lt (a := m % 128 + 128) (by omega)]
    have hn1 : bs.length + 1 = (bs ++ [UInt8.ofNat (m % 128 + 128)]).length := by simp
    refine ⟨m / 128, by omega, m / 128, bs ++ [UInt8.ofNat (m % 128 + 128)], t', rfl, by omega, by simp only [go_sem, f0, hsh], by simp only [go_sem, hcat, hn1], ?_, ht2, fun e => absurd (hz e).1 (by decide), fun j hj => Nat.le_trans k1.n (hn2 j hj), keeps_new k1 k2 fun j h => htn j h⟩
    rw [← hbs, uvar_ge hm, List.append_assoc]; rfl
  · have hm : m < 128 := by have := of_decide_eq_false hc; omega
    have cv : ∀ S, V.conv S (.int .u8) (.int .u64 (m : Int)) = some (.int .u8 (m : Int)) := fun S => by
      simp only [V.conv, wu8 (show (0 : Int) ≤ m by omega) (show (m : Int) < 256 by omega)]
    simp only [go_sem, f0, f3, cv]
    refine wi_append (n := bs.length) (cs := bs.map u8V) (t := t) (m := 1) (xs := [.int .u8 (m : Int)]) (by simp only [go_sem]) (by simp only [go_sem, V.elems]) rfl (by simp [roomOk]; omega) ht (fun e => by rw [hn e]; exact ⟨rfl, rfl⟩) fun t' S2 k2 ht2 hn2 hz => ?_
    simp only [go_sem]
    have hcat : bs.map u8V ++ [V.int .u8 (m : Int)] = (uvar v).map u8V := by
      rw [← hbs, uvar_lt hm, List.map_append, List.map_cons, List.map_nil, u8V_ofNat, Nat.mod_eq_of_lt (a := m) (by omega)]
    have hn1 : bs.length + 1 = (uvar v).length := by rw [← hbs, uvar_lt hm]; simp
    rw [hcat, hn1]
    exact hQ S2 t' ht2 (fun e => absurd (hz e).1 (by decide)) (fun j hj => Nat.le_trans k1.n (hn2 j hj)) (keeps_new k1 k2 fun j h => htn j h)
end Go.VM

namespace Go.VM
open Go Go.RowKit Go.Proofs

/-- The number at the front of bytes, of which n have been read and made v; and how many there are of it. -/
def ruv (n v : Nat) : List UInt8 → Option (Nat × Nat)
  | [] => none
  | b :: l => if (n = 9 ∧ b.toNat > 1) ∨ (b.toNat = 0 ∧ n > 0) then none
    else if b.toNat < 128 then some (v + b.toNat % 128 * 2 ^ (7 * n), n + 1) else ruv (n + 1) (v + b.toNat % 128 * 2 ^ (7 * n)) l
theorem ruv_nil (n v : Nat) : ruv n v [] = none := rfl
theorem ruv_bad {n v : Nat} {b : UInt8} {l : List UInt8} (h : (n = 9 ∧ b.toNat > 1) ∨ (b.toNat = 0 ∧ n > 0)) : ruv n v (b :: l) = none := by rw [ruv, if_pos h]
theorem ruv_end {n v : Nat} {b : UInt8} {l : List UInt8} (h : ¬ ((n = 9 ∧ b.toNat > 1) ∨ (b.toNat = 0 ∧ n > 0))) (h1 : b.toNat < 128) : ruv n v (b :: l) = some (v + b.toNat % 128 * 2 ^ (7 * n), n + 1) := by rw [ruv, if_neg h, if_pos h1]
theorem ruv_more {n v : Nat} {b : UInt8} {l : List UInt8} (h : ¬ ((n = 9 ∧ b.toNat > 1) ∨ (b.toNat = 0 ∧ n > 0))) (h1 : ¬ b.toNat < 128) : ruv n v (b :: l) = ruv (n + 1) (v + b.toNat % 128 * 2 ^ (7 * n)) l := by rw [ruv, if_neg h, if_neg h1]

theorem ruv_bits {n v c : Nat} (hn : n ≤ 9) (hv : v < 2 ^ (7 * n)) (hc : c < 128) (h9 : n = 9 → c ≤ 1) :
    v + c * 2 ^ (7 * n) < 18446744073709551616 ∧ v ||| (c * 2 ^ (7 * n)) = v + c * 2 ^ (7 * n) ∧ v + c * 2 ^ (7 * n) < 2 ^ (7 * (n + 1)) := by
  have hp : 2 ^ (7 * (n + 1)) = 128 * 2 ^ (7 * n) := by rw [Nat.mul_add, Nat.pow_add]; omega
  have h3 : v + c * 2 ^ (7 * n) < 2 ^ (7 * (n + 1)) := by
    rw [hp]
    have : (c + 1) * 2 ^ (7 * n) ≤ 128 * 2 ^ (7 * n) := Nat.mul_le_mul_right _ hc
    rw [Nat.add_mul] at this; omega
  have h2 : v ||| (c * 2 ^ (7 * n)) = v + c * 2 ^ (7 * n) := by
    rw [Nat.or_comm, Nat.mul_comm, ← Nat.two_pow_add_eq_or_of_lt hv, Nat.add_comm]
  refine ⟨?_, h2, h3⟩
  by_cases h : n = 9
  · subst h
    have := h9 rfl
    have : c * 2 ^ (7 * 9) ≤ 1 * 2 ^ (7 * 9) := Nat.mul_le_mul_right _ this
    omega
  · have : 2 ^ (7 * (n + 1)) ≤ 2 ^ 63 := Nat.pow_le_pow_right (by decide) (by omega)
    omega

theorem readUvarint_runs {w0 : World} {S : St} {Q : AEnd → St → Prop} {bs : List UInt8} {t : Tok} {p : Nat} (hp : p ≤ bs.length) (hl : bs.length ≤ 1000000000000000) (ht : t = .nil → bs = [])
    (hQ : ∀ v k, ruv 0 0 (bs.drop p) = some (v, k) → v < 18446744073709551616 → p + k ≤ bs.length → Q (.ret (.tup [.int .u64 (v : Nat), .int .i64 ((p + k : Nat) : Int), .int .i64 0])) S)
    (hQ' : ruv 0 0 (bs.drop p) = none → Q (.ret (.tup [.int .u64 0, .int .i64 0, .int .i64 3])) S) :
    RSim Tryz.prog w0 n_pack_ReadUvarint [.sl (bs.map u8V) bs.length 1 t, .int .i64 p] S Q := by
  have e1 : decide ((p : Int) > (bs.length : Int)) = false := decide_eq_false (by omega)
  have e0 : decide ((p : Int) < 0) = false := decide_eq_false (by omega)
  refine RSim.run mixed k_pack_ReadUvarint ?_ (by simp)
  simp only [b_pack_ReadUvarint, go_sem, e1, e0]
  refine wc_ite (b := false) (by simp only [go_sem] <;> rfl) (fun h => by cases h) (fun _ => ?_)
  simp only [go_sem]
  refine loop_rule RSim.le (k := bs.length) (fun m fr S1 => ∃ n v : Nat, m = bs.length - n ∧ n ≤ 9 ∧ p + n ≤ bs.length ∧ S1 = S ∧ fr 0 = .sl (bs.map u8V) bs.length 1 t ∧ fr 1 = .int .i64 p ∧ fr 7 = .int .u64 v ∧ fr 8 = .int .i64 ((p + n : Nat) : Int) ∧ v < 2 ^ (7 * n) ∧ ruv 0 0 (bs.drop p) = ruv n v (bs.drop (p + n))) ?_
    ⟨0, 0, rfl, by omega, by omega, rfl, by simp only [go_sem], by simp only [go_sem], by simp only [go_sem]; rfl, by simp only [go_sem], by decide, rfl⟩
  rintro m fr S1 ⟨n, v, hm, hn, hpn, rfl, f0, f1, f7, f8, hv, hr⟩
  simp only [l_pack_ReadUvarint_0, go_sem, f0, f1, f7, f8]
  refine wc_ite (b := decide (((p + n : Nat) : Int) < (bs.length : Int))) (by simp only [go_sem]) (fun hc => ?_) (fun hc => ?_)
  · have hlt : p + n < bs.length := by have := of_decide_eq_true hc; omega
    obtain ⟨b, hb⟩ : ∃ b, bs[p + n]? = some b := ⟨bs[p + n], List.getElem?_eq_getElem hlt⟩
    have hd : bs.drop (p + n) = b :: bs.drop (p + n + 1) := by
      rw [List.drop_eq_getElem_cons hlt]; congr 1
      rw [List.getElem?_eq_getElem hlt] at hb; injection hb
    rw [hd] at hr
    have hb' : (bs.map u8V).drop ((p + n) * 1) = .int .u8 b.toNat :: (bs.drop (p + n + 1)).map u8V := by
      rw [Nat.mul_one, ← List.map_drop, hd]; rfl
    have hlt' : (p + n < bs.length) = True := eq_true hlt
    have htn : (t = .nil) = False := eq_false fun h => by rw [ht h] at hlt; simp at hlt
    have hbl := b.toNat_lt
    have w1 : IntKind.i64.wrap (((p + n : Nat) : Int) - (p : Int)) = (n : Int) := by rw [w64 (by omega) (by omega)]; omega
    have w2 : IntKind.i64.wrap (((p + n : Nat) : Int) + 1) = ((p + n + 1 : Nat) : Int) := by rw [w64 (by omega) (by omega)]; omega
    have w7 : IntKind.i64.wrap (7 * (n : Int)) = ((7 * n : Nat) : Int) := by rw [w64 (by omega) (by omega)]; omega
    have ha : bitsV .and .u8 (b.toNat : Int) 127 = some ((b.toNat % 128 : Nat) : Int) := by
      rw [show (127 : Int) = ((127 : Nat) : Int) from rfl, and8 hbl (by decide), and127 _ hbl]
    have cv : ∀ S, V.conv S (.int .u64) (.int .u8 ((b.toNat % 128 : Nat) : Int)) = some (.int .u64 ((b.toNat % 128 : Nat) : Int)) := fun S => by
      simp only [V.conv, wu64 (show (0 : Int) ≤ ((b.toNat % 128 : Nat) : Int) by omega) (show ((b.toNat % 128 : Nat) : Int) < 18446744073709551616 by omega)]
    have hge : (((7 * n : Nat) : Int) < 0) = False := eq_false (by omega)
    have hmin : min (7 * n) 64 = 7 * n := by omega
    have q1 : (((n : Int) == 9)) = decide (n = 9) := by
      rw [Bool.eq_iff_iff, beq_iff_eq, decide_eq_true_iff]; omega
    have q2 : decide ((b.toNat : Int) > 1) = decide (b.toNat > 1) := decide_eq_decide.mpr (by omega)
    have q3 : (((b.toNat : Int) == 0)) = decide (b.toNat = 0) := by
      rw [Bool.eq_iff_iff, beq_iff_eq, decide_eq_true_iff]; omega
    have q4 : decide ((n : Int) > 0) = decide (n > 0) := decide_eq_decide.mpr (by omega)
    by_cases hbad : (n = 9 ∧ b.toNat > 1) ∨ (b.toNat = 0 ∧ n > 0)
    · rw [ruv_bad hbad] at hr
      have hq := hQ' hr
      generalize h1 : decide (n = 9) = c1 at q1
      generalize h2 : decide (b.toNat > 1) = c2 at q2
      generalize h3 : decide (b.toNat = 0) = c3 at q3
      generalize h4 : decide (n > 0) = c4 at q4
      have hno : (c1 && c2 || c3 && c4) = true := by
        rw [← h1, ← h2, ← h3, ← h4]; simpa using hbad
      clear h1 h2 h3 h4
      simp only [go_sem, k_pack_ReadUvarint_0, f0, f1, f7, f8, w1, hb', hlt', htn, List.head?_cons, q1, q2, q3, q4]
      cases c4
      all_goals (try simp only [go_sem, f0, f1, f7, f8, w1, hb', hlt', htn, List.head?_cons, q1, q2, q3, q4])
      all_goals (try ((simp at hno; done); done))
      all_goals (try ((refine wc_ite (b := true) (by simp only [go_sem] <;> rfl) (fun _ => ?_) (fun h => by cases h); simp only [go_sem]; exact hq); done))
      all_goals cases c1
      all_goals (try simp only [go_sem, f0, f1, f7, f8, w1, hb', hlt', htn, List.head?_cons, q1, q2, q3, q4])
      all_goals (try ((simp at hno; done); done))
      all_goals (try ((refine wc_ite (b := true) (by simp only [go_sem] <;> rfl) (fun _ => ?_) (fun h => by cases h); simp only [go_sem]; exact hq); done))
      all_goals cases c2
      all_goals (try simp only [go_sem, f0, f1, f7, f8, w1, hb', hlt', htn, List.head?_cons, q1, q2, q3, q4])
      all_goals (try ((simp at hno; done); done))
      all_goals (try ((refine wc_ite (b := true) (by simp only [go_sem] <;> rfl) (fun _ => ?_) (fun h => by cases h); simp only [go_sem]; exact hq); done))
      all_goals cases c3
      all_goals (try simp only [go_sem, f0, f1, f7, f8, w1, hb', hlt', htn, List.head?_cons, q1, q2, q3, q4])
      all_goals (try ((simp at hno; done); done))
      all_goals (try ((refine wc_ite (b := true) (by simp only [go_sem] <;> rfl) (fun _ => ?_) (fun h => by cases h); simp only [go_sem]; exact hq); done))
    · have hn9 : n = 9 → b.toNat % 128 ≤ 1 := fun h => by
        have : ¬ b.toNat > 1 := fun h' => hbad (.inl ⟨h, h'⟩)
        omega
      obtain ⟨b1, b2, b3⟩ := ruv_bits hn hv (c := b.toNat % 128) (Nat.mod_lt _ (by decide)) hn9
      have hsh : IntKind.u64.wrap (((b.toNat % 128 : Nat) : Int) * 2 ^ (min (7 * n) 64)) = ((b.toNat % 128 * 2 ^ (7 * n) : Nat) : Int) := by
        rw [hmin, show (((b.toNat % 128 : Nat) : Int) * 2 ^ (7 * n)) = ((b.toNat % 128 * 2 ^ (7 * n) : Nat) : Int) by push_cast; rfl]
        exact wu64 (by omega) (by omega)
      have ho : bitsV .or .u64 (v : Int) ((b.toNat % 128 * 2 ^ (7 * n) : Nat) : Int) = some ((v + b.toNat % 128 * 2 ^ (7 * n) : Nat) : Int) := by
        rw [or64 (by omega) (by omega), b2]
      generalize hv1 : v + b.toNat % 128 * 2 ^ (7 * n) = v1 at *
      generalize hs1 : b.toNat % 128 * 2 ^ (7 * n) = s1 at *
      generalize h1 : decide (n = 9) = c1 at q1
      generalize h2 : decide (b.toNat > 1) = c2 at q2
      generalize h3 : decide (b.toNat = 0) = c3 at q3
      generalize h4 : decide (n > 0) = c4 at q4
      have hno : (c1 && c2 || c3 && c4) = false := by
        rw [← h1, ← h2, ← h3, ← h4]; simpa using hbad
      clear h1 h2 h3 h4
      simp only [go_sem, k_pack_ReadUvarint_0, f0, f1, f7, f8, w1, hb', hlt', htn, List.head?_cons, q1, q2, q3, q4]
      cases c4
      all_goals (try simp only [go_sem, f0, f1, f7, f8, w1, hb', hlt', htn, List.head?_cons, q1, q2, q3, q4])
      all_goals (try ((simp at hno; done); done))
      all_goals cases c1
      all_goals (try simp only [go_sem, f0, f1, f7, f8, w1, hb', hlt', htn, List.head?_cons, q1, q2, q3, q4])
      all_goals (try ((simp at hno; done); done))
      all_goals cases c2
      all_goals (try simp only [go_sem, f0, f1, f7, f8, w1, hb', hlt', htn, List.head?_cons, q1, q2, q3, q4])
      all_goals (try ((simp at hno; done); done))
      all_goals cases c3
      all_goals (try simp only [go_sem, f0, f1, f7, f8, w1, hb', hlt', htn, List.head?_cons, q1, q2, q3, q4])
      all_goals (try ((simp at hno; done); done))
      all_goals refine wc_ite (b := false) (by simp only [go_sem] <;> rfl) (fun h => by cases h) (fun _ => ?_)
      all_goals simp only [go_sem, f0, f1, f7, f8, ha, cv, w7, hge, hsh, ho]
      all_goals refine wc_ite (b := decide ((b.toNat : Int) < 128)) (by simp only [go_sem]) (fun hc => ?_) (fun hc => ?_)
      all_goals first
        | (have hlt8 : b.toNat < 128 := by have := of_decide_eq_true hc; omega
           rw [ruv_end hbad hlt8, hs1, hv1] at hr
           have hq := hQ v1 (n + 1) hr b1 (by omega)
           have w3 : IntKind.i64.wrap (((p + n : Nat) : Int) + 1) = ((p + (n + 1) : Nat) : Int) := w2
           simp only [go_sem, f0, f1, f7, f8, w3]
           exact hq)
        | (have hge8 : ¬ b.toNat < 128 := by have := of_decide_eq_false hc; omega
           rw [ruv_more hbad hge8, hs1, hv1] at hr
           have hn1 : n ≠ 9 := fun h => by
             have : ¬ b.toNat > 1 := fun h' => hbad (.inl ⟨h, h'⟩)
             omega
           simp only [go_sem, f0, f1, f7, f8, w2]
           exact ⟨bs.length - (n + 1), by omega, n + 1, v1, rfl, by omega, by omega, rfl, rfl, b3, hr⟩)
  · have hq := hQ' (by rw [hr, List.drop_eq_nil_of_le (by have := of_decide_eq_false hc; omega)]; rfl)
    simp only [go_sem]
    exact hq
end Go.VM

namespace Go.VM
open Go Go.RowKit Go.Proofs

def crc1 (s : Nat) : Nat := if s % 2 = 1 then (s / 2) ^^^ 3988292384 else s / 2
def crcN : Nat → Nat → Nat
  | 0, s => s
  | n + 1, s => crcN n (crc1 s)
def crcB (s : Nat) (b : UInt8) : Nat := crcN 8 (s ^^^ b.toNat)
def crcAll (s : Nat) (l : List UInt8) : Nat := l.foldl crcB s
theorem crcAll_nil (s : Nat) : crcAll s [] = s := (rfl)
theorem crcAll_cons (s : Nat) (b : UInt8) (l : List UInt8) : crcAll s (b :: l) = crcAll (crcB s b) l := (rfl)
def sumN (l : List UInt8) : Nat := 4294967295 - crcAll 4294967295 l
theorem crc1_lt {s : Nat} (h : s < 4294967296) : crc1 s < 4294967296 := by
  unfold crc1; split
  · exact Nat.xor_lt_two_pow (n := 32) (by omega) (by decide)
  · omega
theorem crcN_lt (n : Nat) : ∀ {s : Nat}, s < 4294967296 → crcN n s < 4294967296 := by
  induction n with
  | zero => intro s h; exact h
  | succ n ih => intro s h; exact ih (crc1_lt h)
theorem crcB_lt {s : Nat} (b : UInt8) (h : s < 4294967296) : s ^^^ b.toNat < 4294967296 := Nat.xor_lt_two_pow (n := 32) h (by have := b.toNat_lt; omega)
theorem crcAll_lt (l : List UInt8) : ∀ {s : Nat}, s < 4294967296 → crcAll s l < 4294967296 := by
  induction l with
  | nil => intro s h; exact h
  | cons b l ih => intro s h; rw [crcAll_cons]; exact ih (crcN_lt 8 (crcB_lt b h))
theorem not32 {x : Nat} (h : x < 4294967296) : 4294967295 ^^^ x = 4294967295 - x := by
  refine Nat.eq_of_testBit_eq fun i => ?_
  rw [Nat.testBit_xor, show (4294967295 : Nat) = 2 ^ 32 - 1 from rfl, Nat.testBit_two_pow_sub_one, show 2 ^ 32 - 1 - x = 2 ^ 32 - (x + 1) by omega, Nat.testBit_two_pow_sub_succ h]
  by_cases hi : i < 32
  · simp [hi]
  · have : x.testBit i = false := Nat.testBit_lt_two_pow (Nat.lt_of_lt_of_le h (Nat.pow_le_pow_right (n := 2) (i := 32) (by decide) (by omega)))
    simp [hi, this]
theorem sumN_lt (l : List UInt8) : sumN l < 4294967296 := by unfold sumN; omega
theorem crcN_snoc (n : Nat) : ∀ s, crcN (n + 1) s = crc1 (crcN n s) := by
  induction n with
  | zero => intro s; rfl
  | succ n ih => intro s; exact ih (crc1 s)
theorem crcAll_take {bs : List UInt8} {j : Nat} {b : UInt8} (h : bs[j]? = some b) : ∀ s, crcAll s (bs.take (j + 1)) = crcB (crcAll s (bs.take j)) b := by
  induction bs generalizing j with
  | nil => simp at h
  | cons a l ih =>
    intro s
    cases j with
    | zero => simp only [List.getElem?_cons_zero, Option.some.injEq] at h; subst h; rw [List.take_succ_cons, List.take_zero, List.take_zero, crcAll_cons, crcAll_nil, crcAll_nil]
    | succ j => simp only [List.getElem?_cons_succ] at h; rw [List.take_succ_cons, List.take_succ_cons, crcAll_cons, crcAll_cons]; exact ih h _

theorem sum_step {w0 : World} {fr : Fr} {S : St} {Q : CPost} {s j : Nat} (hj : j ≤ 8) (hs : s < 4294967296) (h3 : fr 3 = .int .u32 s) (h16 : fr 16 = .int .i64 j)
    (hQ : j < 8 → ∀ fr' : Fr, (∀ k, k < 3 ∨ (5 < k ∧ k < 16) → fr' k = fr k) → fr' 3 = .int .u32 (crc1 s) → fr' 16 = .int .i64 ((j + 1 : Nat) : Int) → Q .normal fr' S)
    (hQ' : j = 8 → ∀ fr' : Fr, (∀ k, k < 3 ∨ (5 < k ∧ k < 16) → fr' k = fr k) → fr' 3 = .int .u32 s → Q (.exit 2) fr' S) : wCode (RSim Tryz.prog w0) l_pack_Sum_0 fr S Q := by
  simp only [l_pack_Sum_0, go_sem, h16]
  refine wc_ite (b := decide ((j : Int) < 8)) (by simp only [go_sem]) (fun hc => ?_) (fun hc => ?_)
  · have hlt : j < 8 := by have := of_decide_eq_true hc; omega
    have w1 : IntKind.i64.wrap ((j : Int) + 1) = ((j + 1 : Nat) : Int) := by rw [w64 (by omega) (by omega)]; omega
    have ha : bitsV .and .u32 (s : Int) 1 = some ((s % 2 : Nat) : Int) := by
      rw [show (1 : Int) = ((1 : Nat) : Int) from rfl, and32 hs (by decide), Nat.and_one_is_mod]
    have hd : (s : Int).fdiv (2 ^ (min (Int.toNat 1) 32)) = ((s / 2 : Nat) : Int) := by
      show (s : Int).fdiv 2 = _
      rw [Int.fdiv_eq_ediv_of_nonneg _ (by omega)]; omega
    have hx : bitsV .xor .u32 ((s / 2 : Nat) : Int) 3988292384 = some (((s / 2) ^^^ 3988292384 : Nat) : Int) := by
      rw [show (3988292384 : Int) = ((3988292384 : Nat) : Int) from rfl, xor32 (by omega) (by decide)]
    simp only [go_sem, h3, h16, ha]
    have hq : (((s % 2 : Nat) : Int) == 1) = decide (s % 2 = 1) := by rw [Bool.eq_iff_iff, beq_iff_eq, decide_eq_true_iff]; omega
    simp only [go_sem, hq]
    refine wc_ite (b := decide (s % 2 = 1)) (by simp only [go_sem]) (fun hc => ?_) (fun hc => ?_)
    · have hm : s % 2 = 1 := of_decide_eq_true hc
      have e : crc1 s = (s / 2) ^^^ 3988292384 := if_pos hm
      simp only [go_sem, h3, h16, hd, hx, w1]
      refine hQ hlt _ (fun k hk => ?_) (by simp only [go_sem, e]) (by simp only [go_sem])
      have : k ≠ 3 ∧ k ≠ 16 ∧ k ≠ 17 ∧ k ≠ 18 ∧ k ≠ 19 ∧ k ≠ 20 ∧ k ≠ 21 ∧ k ≠ 22 ∧ k ≠ 23 ∧ k ≠ 26 := by omega
      simp only [go_sem, this]
    · have hm : ¬ s % 2 = 1 := of_decide_eq_false hc
      have e : crc1 s = s / 2 := if_neg hm
      simp only [go_sem, h3, h16, hd, hx, w1]
      refine hQ hlt _ (fun k hk => ?_) (by simp only [go_sem, e]) (by simp only [go_sem])
      have : k ≠ 3 ∧ k ≠ 16 ∧ k ≠ 17 ∧ k ≠ 18 ∧ k ≠ 19 ∧ k ≠ 20 ∧ k ≠ 24 ∧ k ≠ 25 ∧ k ≠ 26 := by omega
      simp only [go_sem, this]
  · have hge : j = 8 := by have := of_decide_eq_false hc; omega
    simp only [go_sem]
    refine hQ' hge _ (fun k hk => ?_) (by simp only [go_sem, h3])
    have : k ≠ 17 := by omega
    simp only [go_sem, this]

theorem sum_runs {w0 : World} {S : St} {Q : AEnd → St → Prop} {bs : List UInt8} {t : Tok} (hl : bs.length ≤ 1000000000000000) (ht : t = .nil → bs = [])
    (hQ : Q (.ret (.int .u32 (sumN bs))) S) : RSim Tryz.prog w0 n_pack_Sum [.sl (bs.map u8V) bs.length 1 t] S Q := by
  refine RSim.run mixed k_pack_Sum ?_ (by simp)
  simp only [b_pack_Sum, go_sem]
  refine loop_rule RSim.le (k := bs.length) (fun m fr S1 => ∃ j : Nat, m = bs.length - j ∧ j ≤ bs.length ∧ S1 = S ∧ fr 6 = .sl (bs.map u8V) bs.length 1 t ∧ fr 7 = .int .i64 bs.length ∧ fr 8 = .int .i64 j ∧ fr 3 = .int .u32 (crcAll 4294967295 (bs.take j))) ?_
    ⟨0, rfl, by omega, rfl, by simp only [go_sem], by simp only [go_sem], by simp only [go_sem]; rfl, by simp only [go_sem]; rfl⟩
  rintro m fr S1 ⟨j, hm, hj, rfl, f6, f7, f8, f3⟩
  simp only [l_pack_Sum_1, go_sem, f6, f7, f8, f3]
  have hs : crcAll 4294967295 (bs.take j) < 4294967296 := crcAll_lt _ (by decide)
  refine wc_ite (b := decide ((j : Int) < (bs.length : Int))) (by simp only [go_sem]) (fun hc => ?_) (fun hc => ?_)
  · have hlt : j < bs.length := by have := of_decide_eq_true hc; omega
    obtain ⟨b, hb⟩ : ∃ b, bs[j]? = some b := ⟨bs[j], List.getElem?_eq_getElem hlt⟩
    have hd : bs.drop j = b :: bs.drop (j + 1) := by
      rw [List.drop_eq_getElem_cons hlt]; congr 1
      rw [List.getElem?_eq_getElem hlt] at hb; injection hb
    have hb' : (bs.map u8V).drop (j * 1) = .int .u8 b.toNat :: (bs.drop (j + 1)).map u8V := by
      rw [Nat.mul_one, ← List.map_drop, hd]; rfl
    have hlt' : (j < bs.length) = True := eq_true hlt
    have htn : (t = .nil) = False := eq_false fun h => by rw [ht h] at hlt; simp at hlt
    have hbl := b.toNat_lt
    have cv : ∀ S, V.conv S (.int .u32) (.int .u8 (b.toNat : Int)) = some (.int .u32 (b.toNat : Int)) := fun S => by
      simp only [V.conv, wu32 (show (0 : Int) ≤ (b.toNat : Int) by omega) (show (b.toNat : Int) < 4294967296 by omega)]
    have hx : bitsV .xor .u32 ((crcAll 4294967295 (bs.take j) : Nat) : Int) (b.toNat : Int) = some ((crcAll 4294967295 (bs.take j) ^^^ b.toNat : Nat) : Int) := xor32 hs (by omega)
    have w1 : IntKind.i64.wrap ((j : Int) + 1) = ((j + 1 : Nat) : Int) := by rw [w64 (by omega) (by omega)]; omega
    have htake := crcAll_take hb 4294967295
    unfold crcB at htake
    have hs2 := crcB_lt b hs
    generalize hg : crcAll 4294967295 (bs.take j) ^^^ b.toNat = s0 at *
    simp only [go_sem, f6, f7, f8, f3, hlt', htn, hb', List.head?_cons, cv, hx]
    refine loop_rule RSim.le (k := 8) (fun m' fr' S2 => ∃ i : Nat, m' = 8 - i ∧ i ≤ 8 ∧ S2 = S1 ∧ fr' 6 = .sl (bs.map u8V) bs.length 1 t ∧ fr' 7 = .int .i64 bs.length ∧ fr' 8 = .int .i64 j ∧ fr' 3 = .int .u32 (crcN i s0) ∧ fr' 16 = .int .i64 i) ?_
      ⟨0, rfl, by omega, rfl, by simp only [go_sem, f6], by simp only [go_sem, f7], by simp only [go_sem, f8], by simp only [go_sem]; rfl, by simp only [go_sem]; rfl⟩
    rintro m' fr' S2 ⟨i, hm', hi, rfl, g6, g7, g8, g3, g16⟩
    refine sum_step hi (crcN_lt i hs2) g3 g16 (fun h fr2 hk h3 h16 => ?_) fun h fr2 hk h3 => ?_
    · exact ⟨8 - (i + 1), by omega, i + 1, rfl, by omega, rfl, (hk 6 (by omega)).trans g6, (hk 7 (by omega)).trans g7, (hk 8 (by omega)).trans g8, by rw [h3, crcN_snoc], h16⟩
    · subst h
      have e6 := (hk 6 (by omega)).trans g6
      have e7 := (hk 7 (by omega)).trans g7
      have e8 := (hk 8 (by omega)).trans g8
      simp only [go_sem, e6, e7, e8, w1]
      exact ⟨bs.length - (j + 1), by omega, j + 1, rfl, by omega, rfl, by rw [h3, htake]⟩
  · have hge : j = bs.length := by have := of_decide_eq_false hc; omega
    subst hge
    rw [List.take_length] at hs f3
    have hx : bitsV .xor .u32 (IntKind.max .u32) ((crcAll 4294967295 bs : Nat) : Int) = some ((sumN bs : Nat) : Int) := by
      rw [show IntKind.max .u32 = ((4294967295 : Nat) : Int) from rfl, xor32 (by decide) hs]
      rw [not32 hs]; rfl
    have hsg : IntKind.u32.signed = false := rfl
    simp only [go_sem, f3, hx, hsg]
    exact hQ
end Go.VM

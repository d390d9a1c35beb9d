/-
  Numbers with a sign as numbers without; texts as bytes: the program's and the document's. NEWPP
-/
import Derived.Test.YtegaflmefmlpgaaGreatDoorPFrame
set_option maxRecDepth 20000
set_option linter.unusedVariables false
set_option linter.unusedSimpArgs false
namespace Go.VM
open Go Go.RowKit Go.Proofs

theorem not64 {x : Nat} (h : x < 18446744073709551616) : x ^^^ 18446744073709551615 = 18446744073709551615 - x := by
  rw [Nat.xor_comm]
  refine Nat.eq_of_testBit_eq fun i => ?_
  rw [Nat.testBit_xor, show (18446744073709551615 : Nat) = 2 ^ 64 - 1 from rfl, Nat.testBit_two_pow_sub_one, show 2 ^ 64 - 1 - x = 2 ^ 64 - (x + 1) by omega, Nat.testBit_two_pow_sub_succ h]
  by_cases hi : i < 64
  · simp [hi]
  · have : x.testBit i = false := Nat.testBit_lt_two_pow (Nat.lt_of_lt_of_le h (Nat.pow_le_pow_right (n := 2) (i := 64) (by decide) (by omega)))
    simp [hi, this]
theorem xor64 {a b : Nat} (ha : a < 18446744073709551616) (hb : b < 18446744073709551616) : bitsV .xor .u64 (a : Int) (b : Int) = some ((a ^^^ b : Nat) : Int) := by
  have h := Nat.xor_lt_two_pow (n := 64) ha hb
  show some (IntKind.u64.wrap (((BitVec.ofInt 64 (a : Int)) ^^^ (BitVec.ofInt 64 (b : Int))).toNat : Int)) = _
  rw [BitVec.toNat_xor, bv_nat 64 a ha, bv_nat 64 b hb, wu64 (by omega) (by omega)]
theorem and64 {a b : Nat} (ha : a < 18446744073709551616) (hb : b < 18446744073709551616) : bitsV .and .u64 (a : Int) (b : Int) = some ((a &&& b : Nat) : Int) := by
  have h := Nat.and_lt_two_pow (n := 64) a hb
  show some (IntKind.u64.wrap (((BitVec.ofInt 64 (a : Int)) &&& (BitVec.ofInt 64 (b : Int))).toNat : Int)) = _
  rw [BitVec.toNat_and, bv_nat 64 a ha, bv_nat 64 b hb, wu64 (by omega) (by omega)]

theorem xor_i64 (a b : Int) : bitsV .xor .i64 a b = some (IntKind.i64.wrap ((BitVec.ofInt 64 a).toNat ^^^ (BitVec.ofInt 64 b).toNat : Nat)) := by
  have : bitsV .xor .i64 a b = some (IntKind.i64.wrap (((BitVec.ofInt 64 a) ^^^ (BitVec.ofInt 64 b)).toNat : Int)) := rfl
  rw [this, BitVec.toNat_xor]
theorem elemsS (s : List UInt8) (S : St) : (V.str (mkS s)).elems S 1 = some (s.length, s.map u8V) := by
  simp only [V.elems, if_true, mkS_size]; rfl

/-- Zig, Zag. -/
def zigN (v : Int) : Nat := if 0 ≤ v then (2 * v).toNat else (-2 * v - 1).toNat
def zagN (u : Nat) : Int := if u % 2 = 0 then ((u / 2 : Nat) : Int) else -((u / 2 : Nat) : Int) - 1
theorem zag_zig (v : Int) : zagN (zigN v) = v := by
  unfold zagN zigN
  split <;> split <;> omega
theorem zig_zag (u : Nat) : zigN (zagN u) = u := by
  unfold zagN zigN
  split <;> split <;> omega
theorem zig_lt {v : Int} (h1 : -9223372036854775808 ≤ v) (h2 : v < 9223372036854775808) : zigN v < 18446744073709551616 := by
  unfold zigN; split <;> omega
theorem zag_rng {u : Nat} (h : u < 18446744073709551616) : -9223372036854775808 ≤ zagN u ∧ zagN u < 9223372036854775808 := by
  unfold zagN; split <;> omega

theorem zig_runs {w0 : World} {S : St} {Q : AEnd → St → Prop} {v : Int} (h1 : -9223372036854775808 ≤ v) (h2 : v < 9223372036854775808) (hQ : Q (.ret (.int .u64 (zigN v : Nat))) S) : RSim Tryz.prog w0 n_pack_Zig [.int .i64 v] S Q := by
  have cv : V.conv S (.int .u64) (.int .i64 v) = some (.int .u64 (v % 18446744073709551616)) := by simp only [V.conv, IntKind.wrap_u64]
  have e1 : IntKind.u64.wrap (v % 18446744073709551616 * 2 ^ (min (Int.toNat 1) 64)) = ((2 * v) % 18446744073709551616) := by
    show IntKind.u64.wrap (v % 18446744073709551616 * 2) = _
    rw [IntKind.wrap_u64]; omega
  by_cases h : 0 ≤ v
  · have e2 : v.fdiv (2 ^ (min (Int.toNat 63) 64)) = 0 := by
      show v.fdiv 9223372036854775808 = _
      rw [Int.fdiv_eq_ediv_of_nonneg _ (by omega)]; omega
    have cv2 : V.conv S (.int .u64) (.int .i64 0) = some (.int .u64 0) := rfl
    have e3 : bitsV .xor .u64 ((2 * v) % 18446744073709551616) 0 = some ((zigN v : Nat) : Int) := by
      have := xor64 (a := zigN v) (b := 0) (zig_lt h1 h2) (by decide)
      rw [Nat.xor_zero] at this
      rw [← this]
      congr 1
      unfold zigN; rw [if_pos h]; omega
    refine RSim.run mixed k_pack_Zig ?_ (by simp)
    simp only [b_pack_Zig, go_sem, cv, e1, e2, cv2, e3]
    exact hQ
  · have e2 : v.fdiv (2 ^ (min (Int.toNat 63) 64)) = -1 := by
      show v.fdiv 9223372036854775808 = _
      rw [Int.fdiv_eq_ediv_of_nonneg _ (by omega)]; omega
    have cv2 : V.conv S (.int .u64) (.int .i64 (-1)) = some (.int .u64 18446744073709551615) := rfl
    have e3 : bitsV .xor .u64 ((2 * v) % 18446744073709551616) 18446744073709551615 = some ((zigN v : Nat) : Int) := by
      have := xor64 (a := (2 * v + 18446744073709551616).toNat) (b := 18446744073709551615) (by omega) (by decide)
      rw [not64 (by omega)] at this
      rw [show (2 * v) % 18446744073709551616 = (((2 * v + 18446744073709551616).toNat : Nat) : Int) by omega, show (18446744073709551615 : Int) = ((18446744073709551615 : Nat) : Int) from rfl, this]
      congr 1
      unfold zigN; rw [if_neg h]; omega
    refine RSim.run mixed k_pack_Zig ?_ (by simp)
    simp only [b_pack_Zig, go_sem, cv, e1, e2, cv2, e3]
    exact hQ

theorem zag_runs {w0 : World} {S : St} {Q : AEnd → St → Prop} {u : Nat} (h : u < 18446744073709551616) (hQ : Q (.ret (.int .i64 (zagN u))) S) : RSim Tryz.prog w0 n_pack_Zag [.int .u64 u] S Q := by
  have e1 : ((u : Nat) : Int).fdiv (2 ^ (min (Int.toNat 1) 64)) = ((u / 2 : Nat) : Int) := by
    show (u : Int).fdiv 2 = _
    rw [Int.fdiv_eq_ediv_of_nonneg _ (by omega)]; omega
  have cv : V.conv S (.int .i64) (.int .u64 ((u / 2 : Nat) : Int)) = some (.int .i64 ((u / 2 : Nat) : Int)) := by simp only [V.conv]; rw [w64 (by omega) (by omega)]
  have e2 : bitsV .and .u64 ((u : Nat) : Int) 1 = some ((u % 2 : Nat) : Int) := by
    have := and64 (a := u) (b := 1) h (by decide)
    rw [Nat.and_one_is_mod] at this
    exact this
  have cv2 : V.conv S (.int .i64) (.int .u64 ((u % 2 : Nat) : Int)) = some (.int .i64 ((u % 2 : Nat) : Int)) := by simp only [V.conv]; rw [w64 (by omega) (by omega)]
  have e3 : IntKind.i64.wrap (0 - ((u % 2 : Nat) : Int)) = -((u % 2 : Nat) : Int) := by rw [w64 (by omega) (by omega)]; omega
  have e4 : bitsV .xor .i64 ((u / 2 : Nat) : Int) (-((u % 2 : Nat) : Int)) = some (zagN u) := by
    rw [xor_i64, bv_nat 64 _ (show u / 2 < 18446744073709551616 by omega)]
    by_cases h2 : u % 2 = 0
    · rw [h2, show zagN u = ((u / 2 : Nat) : Int) from if_pos h2]
      rw [show (BitVec.ofInt 64 (-((0 : Nat) : Int))).toNat = 0 from rfl, Nat.xor_zero, w64 (by omega) (by omega)]
    · have h2' : u % 2 = 1 := by omega
      rw [h2', show zagN u = -((u / 2 : Nat) : Int) - 1 from if_neg h2]
      have key : ∀ x : Nat, x < 9223372036854775808 → IntKind.i64.wrap ((18446744073709551615 - x : Nat) : Int) = -(x : Int) - 1 := fun x hx => by
        rw [IntKind.wrap_i64]; omega
      have e5 : (BitVec.ofInt 64 (-((1 : Nat) : Int))).toNat = 18446744073709551615 := rfl
      simp only [e5, not64 (show u / 2 < 18446744073709551616 by omega), key (u / 2) (by omega)]
  refine RSim.run mixed k_pack_Zag ?_ (by simp)
  simp only [b_pack_Zag, go_sem, e1, cv, e2, cv2, e3]
  rw [e4]
  exact hQ

/-- A text as bytes; the text at the front of bytes, of at most so many, and how many bytes there are of it. -/
def textB (s : List UInt8) : List UInt8 := uvar s.length ++ s
def readT (most : Nat) (l : List UInt8) : Int ⊕ (List UInt8 × Nat) :=
  match ruv 0 0 l with
  | none => .inl 3
  | some (n, k) => if l.length < k + n then .inl 3 else if most < n then .inl 2 else .inr ((l.drop k).take n, k + n)

/-- Bytes that one alone has, who may append to them. -/
def BT (S0 S : St) (v : V) (bs : List UInt8) : Prop := ∃ t, v = .sl (bs.map u8V) bs.length 1 t ∧ TokOk S t ∧ (t = .nil → bs = []) ∧ ∀ j, t = .at j → S0.n ≤ j
theorem BT.is {S0 S : St} {v : V} {bs : List UInt8} (h : BT S0 S v bs) : IsBytes v bs := by obtain ⟨t, h1, _, h3, _⟩ := h; exact ⟨t, h1, h3⟩
theorem BT.keep {S0 S S' : St} {v : V} {bs : List UInt8} (h : BT S0 S v bs) (k : Keeps (fun _ => False) S S') : BT S0 S' v bs := by
  obtain ⟨t, h1, h2, h3, h4⟩ := h
  exact ⟨t, h1, h2.keep k fun _ _ => id, h3, h4⟩
theorem BT.base {S0 S1 S : St} {v : V} {bs : List UInt8} (h : BT S1 S v bs) (k : S0.n ≤ S1.n) : BT S0 S v bs := by
  obtain ⟨t, h1, h2, h3, h4⟩ := h
  exact ⟨t, h1, h2, h3, fun j hj => Nat.le_trans k (h4 j hj)⟩
theorem wi_appendBT {cl : Cl} {fr : Fr} {S S0 : St} {K : Fr → St → Prop} {Kp : V → St → Prop} {dst : Option Nat} {s x : Arg} {r : List Item} {v : V} {bs cs : List UInt8}
    (hs : s.ev fr = v) (hv : BT S0 S v bs) (hx : (x.ev fr).elems S 1 = some (cs.length, cs.map u8V)) (hr : bs.length + cs.length ≤ 140000000000000)
    (k : Keeps (fun _ => False) S0 S) (hK : ∀ v' S', Keeps (fun _ => False) S0 S' → BT S0 S' v' (bs ++ cs) → (∀ i cs, S.cells i = some cs → i < S.n → S'.cells i = some cs ∧ i < S'.n) → wItems cl r (fr.put dst v') S' K Kp) :
    wItems cl (.run ⟨dst, none, .e (.append 1 1 false s x)⟩ :: r) fr S K Kp := by
  obtain ⟨t, rfl, ht, hnil, htn⟩ := hv
  refine wi_append (n := bs.length) (cs := bs.map u8V) (t := t) (m := cs.length) (xs := cs.map u8V) hs hx (by simp) (by simp [roomOk]; omega) ht (fun e => by rw [hnil e]; exact ⟨rfl, rfl⟩) fun t' S' k' ht' hn' hz => ?_
  rw [← List.map_append, ← List.length_append]
  refine hK _ S' (keeps_new k k' htn) ⟨t', rfl, ht', fun e => ?_, fun j hj => Nat.le_trans k.n (hn' j hj)⟩ fun i cs hc hi => ⟨k'.cells hc hi (ht.not_own hc), k'.lt hi⟩
  obtain ⟨h1, h2⟩ := hz e
  rw [hnil h2, List.eq_nil_of_length_eq_zero h1]; rfl
theorem uvarint_own {w0 : World} {S : St} {Q : AEnd → St → Prop} {v : Nat} (hv : v < 18446744073709551616)
    (hQ : ∀ S' v', BT S S' v' (uvar v) → Keeps (fun _ => False) S S' → Q (.ret v') S') : RSim Tryz.prog w0 n_pack_Uvarint [.int .u64 v] S Q :=
  uvarint_runs hv fun S1 t ht hn ho k => hQ S1 _ ⟨t, rfl, ht, fun h => absurd h hn, ho⟩ k

theorem text_runs {w0 : World} {S : St} {Q : AEnd → St → Prop} {s : List UInt8} (hs : s.length ≤ 10000000000000) (hQ : ∀ S' v', BT S S' v' (textB s) → Keeps (fun _ => False) S S' → Q (.ret v') S') : RSim Tryz.prog w0 n_pack_Text [.str (mkS s)] S Q := by
  have cv : ∀ S, V.conv S (.int .u64) (.int .i64 (s.length : Int)) = some (.int .u64 (s.length : Int)) := fun S => by
    simp only [V.conv, wu64 (show (0 : Int) ≤ (s.length : Int) by omega) (show (s.length : Int) < 18446744073709551616 by omega)]
  refine RSim.run mixed k_pack_Text ?_ (by simp)
  simp only [b_pack_Text, go_sem, cv]
  refine wi_call ?_
  simp only [go_sem]
  refine uvarint_runs (v := s.length) (by omega) fun S1 t1 ht1 hn1 ho1 k1 => ?_
  have hu := uvar_len10 (v := s.length) (by omega)
  simp only [go_sem]
  refine wi_appendB (bs := uvar s.length) (cs := s) (t := t1) (by simp only [go_sem]) rfl (by simp only [go_sem]; exact elemsS s S1) (by omega) k1 ht1 ho1 (fun h => absurd h hn1) fun t2 S2 k2 ht2 ho2 hz2 => ?_
  simp only [go_sem]
  exact hQ S2 _ ⟨t2, rfl, ht2, hz2, ho2⟩ k2

theorem readText_runs {w0 : World} {S : St} {Q : AEnd → St → Prop} {bs : List UInt8} {t : Tok} {p most : Nat} (hp : p ≤ bs.length) (hl : bs.length ≤ 1000000000000000) (hm : most ≤ 1000000) (ht : t = .nil → bs = [])
    (hQ : ∀ s k, readT most (bs.drop p) = .inr (s, k) → p + k ≤ bs.length → s.length ≤ most → Q (.ret (.tup [.str (mkS s), .int .i64 ((p + k : Nat) : Int), .int .i64 0])) S)
    (hQ' : ∀ e, readT most (bs.drop p) = .inl e → Q (.ret (.tup [.str (mkS []), .int .i64 0, .int .i64 e])) S) :
    RSim Tryz.prog w0 n_pack_ReadText [.sl (bs.map u8V) bs.length 1 t, .int .i64 p, .int .i64 most] S Q := by
  have hd : (bs.drop p).length = bs.length - p := List.length_drop
  have hQ0 : ∀ e, readT most (bs.drop p) = .inl e → Q (.ret (.tup [.str (mkS []), .int .i64 0, .int .i64 e])) S := hQ'
  refine RSim.run mixed k_pack_ReadText ?_ (by simp)
  simp only [b_pack_ReadText, go_sem]
  refine wi_call ?_
  simp only [go_sem]
  refine readUvarint_runs hp hl ht (fun n k hr hn hk => ?_) (fun hr => ?_)
  · unfold readT at hQ hQ'
    rw [hr] at hQ hQ'
    simp only [hd] at hQ hQ'
    simp only [go_sem, k_pack_ReadText_0]
    refine wc_ite (b := false) (by simp only [go_sem] <;> rfl) (fun h => by cases h) (fun _ => ?_)
    have w1 : IntKind.i64.wrap ((bs.length : Int) - ((p + k : Nat) : Int)) = ((bs.length - (p + k) : Nat) : Int) := by rw [w64 (by omega) (by omega)]; omega
    have cv : V.conv S (.int .u64) (.int .i64 ((bs.length - (p + k) : Nat) : Int)) = some (.int .u64 ((bs.length - (p + k) : Nat) : Int)) := by
      simp only [V.conv]; rw [wu64 (by omega) (by omega)]
    simp only [go_sem, w1, cv]
    refine wc_ite (b := decide ((n : Int) > ((bs.length - (p + k) : Nat) : Int))) (by simp only [go_sem]) (fun hc => ?_) (fun hc => ?_)
    · have h := of_decide_eq_true hc
      simp only [go_sem]
      rw [if_pos (by omega)] at hQ'
      exact hQ' 3 rfl
    · have h := of_decide_eq_false hc
      rw [if_neg (by omega)] at hQ hQ'
      have cv2 : V.conv S (.int .u64) (.int .i64 (most : Int)) = some (.int .u64 (most : Int)) := by
        simp only [V.conv]; rw [wu64 (by omega) (by omega)]
      have e0 : decide ((most : Int) < 0) = false := decide_eq_false (by omega)
      simp only [go_sem, e0, cv2]
      refine wc_ite (b := decide ((n : Int) > (most : Int))) (by simp only [go_sem]) (fun hc => ?_) (fun hc => ?_)
      · have h := of_decide_eq_true hc
        simp only [go_sem]
        rw [if_pos (by omega)] at hQ'
        exact hQ' 2 rfl
      · have h2 := of_decide_eq_false hc
        rw [if_neg (by omega)] at hQ
        have cv3 : V.conv S (.int .i64) (.int .u64 (n : Int)) = some (.int .i64 (n : Int)) := by
          simp only [V.conv]; rw [w64 (by omega) (by omega)]
        have w2 : IntKind.i64.wrap (((p + k : Nat) : Int) + (n : Int)) = ((p + (k + n) : Nat) : Int) := by rw [w64 (by omega) (by omega)]; omega
        have hk0 := ruv_pos hr
        have htn : (t = .nil) = False := eq_false fun h => by have := ht h; subst this; simp at hk; omega
        have hA : (p + k ≤ p + (k + n)) = True := eq_true (by omega)
        have hB : (p + (k + n) ≤ bs.length) = True := eq_true (by omega)
        have cb : ∀ T, T ≠ .nil → V.conv S .bytesStr (.sl (List.take ((p + (k + n) - (p + k)) * 1) (List.drop ((p + k) * 1) (bs.map u8V))) (p + (k + n) - (p + k)) 1 T) = some (.str (mkS ((bs.drop (p + k)).take n))) := fun T hT => by
          refine IsBytes.conv ⟨T, ?_, fun h => absurd h hT⟩ S
          rw [Nat.mul_one, Nat.mul_one, show p + (k + n) - (p + k) = n by omega, List.map_take, List.map_drop, List.length_take, List.length_drop, Nat.min_eq_left (by omega)]
        have cb1 := cb t (by simpa using htn)
        have cb2 := cb .no (by simp)
        have hq := hQ _ _ rfl (by omega) (by rw [List.length_take]; omega)
        rw [List.drop_drop] at hq
        by_cases hC : p + (k + n) = bs.length
        · have hC' : (p + (k + n) = bs.length) = True := eq_true hC
          simp only [go_sem, s_pack_ReadText_0, cv3, w2, htn, hA, hB, hC', cb1]
          exact hq
        · have hC' : (p + (k + n) = bs.length) = False := eq_false hC
          simp only [go_sem, s_pack_ReadText_0, cv3, w2, htn, hA, hB, hC', cb2]
          exact hq
  · have := hQ0 3 (by unfold readT; rw [hr])
    simp only [go_sem, k_pack_ReadText_0]
    refine wc_ite (b := true) (by simp only [go_sem] <;> rfl) (fun _ => ?_) (fun h => by cases h)
    simp only [go_sem]
    exact this
end Go.VM

/-
  Parts: NIx, NEnc, NFrm, NU64, NHash, NTick, NCut, NMsg, NPat.
-/
import Derived.Test.YthpiomallkidlaaGreatDoorJ04
import Derived.Test.YthpiomallkidlaaGreatDoorJ05
import Derived.Test.YthpiomallkidlaaGreatDoorJ09
import Derived.Laws.StandIn
import Derived.Laws.Externs
import Derived.Test.YthpiomallkidlaaGreatDoorJ06
import Derived.Test.YthpiomallkidlaaGreatDoorJ07
import Derived.Test.YthpiomallkidlaaGreatDoorJ08
import Derived.Test.YthpiomallkidlaaGreatDoorJ11
set_option maxRecDepth 20000
set_option linter.unusedVariables false
set_option linter.unusedSimpArgs false
set_option maxRecDepth 1000000
namespace Go.VM
open Go Go.RowKit Go.Proofs
abbrev n_ixb : Nat := 286
theorem ixb_calls (s : ByteArray) (c : Int) (w : World) : Calls Tryz.prog 286 #[.string s, .int .u8 c] w fun e w' => e = .returned (.int .i64 (firstIdx s c.toNat.toUInt8)) ∧ w' = w := by
 have hx : (callFunc 305 #[.string s, .int .u8 c]).run Tryz.prog w = .ok (.value (.int .i64 (firstIdx s c.toNat.toUInt8))) w := by
  rw [run_callFunc_indexByte Tryz.func305 (by kernel_rfl) (by kernel_rfl) (by kernel_rfl) (by rfl), run_indexByte_string]
  rfl
 go_enter Tryz.func286, Tryz.ntmps286
 go_wp2
 go_ret
 exact ⟨rfl, rfl⟩
theorem ixb_runs {w0 : World} {S : St} {Q : AEnd → St → Prop} {s : ByteArray} {c : Int} (hQ : Q (.ret (.int .i64 (firstIdx s c.toNat.toUInt8))) S) : RSim Tryz.prog w0 n_ixb [.str s, .int .u8 c] S Q := by
 refine ⟨⟨_, Tryz.func286, by kernel_rfl, by kernel_rfl⟩, fun g w us hW hrel => ?_⟩
 obtain ⟨u0, r0, rfl, h0, u1, r1, rfl, h1, hr⟩ := hrel
 obtain rfl : u0 = .string s := h0
 obtain rfl : u1 = .int .u8 c := h1
 obtain rfl : r1 = [] := hr
 refine (ixb_calls s c w).mono ?_
 rintro e w' ⟨rfl, rfl⟩
 exact ⟨g, S, .ret (.int .i64 _), G.le.refl g, hW, rfl, hQ⟩
noncomputable def ixbN : List V → CSt → KX → Bool := fun args S k => match args with
 | [.str s, .int .u8 c] => sealZ (.int .i64 (firstIdx s c.toNat.toUInt8)) fun v => k v S
 | _ => false
theorem ixbN_ok {w0 : World} {args : List V} {S : CSt} {k : KX} {Q : AEnd → St → Prop} (h : ixbN args S k = true) (hk : ∀ v S', k v S' = true → Q (.ret v) S'.st) : RSim Tryz.prog w0 n_ixb args S.st Q := by
 unfold ixbN at h
 split at h
 ·rw [sealZ_eq] at h
  exact ixb_runs (hk _ _ h)
 ·cases h
end Go.VM
namespace Go.VM
open Go Go.RowKit Go.Proofs
theorem keeps_new {S S1 S2 : St} {o : Nat → Prop} (h : Keeps (fun _ => False) S S1) (k : Keeps o S1 S2) (ho : ∀ j, o j → S.n ≤ j) : Keeps (fun _ => False) S S2 :=
 h.trans k fun j hj h' => by have := ho j h'; omega
theorem bv_nat (n a : Nat) (h : a < 2 ^ n) : (BitVec.ofInt n (a : Int)).toNat = a := by
 rw [BitVec.ofInt_natCast, BitVec.toNat_ofNat]
 exact Nat.mod_eq_of_lt h
theorem or8 {a b : Nat} (ha : a < 256) (hb : b < 256) : bitsV .or .u8 (a : Int) (b : Int) = some ((a ||| b : Nat) : Int) := by
 have h := Nat.or_lt_two_pow (n := 8) ha hb
 show some (IntKind.u8.wrap (((BitVec.ofInt 8 (a : Int)) ||| (BitVec.ofInt 8 (b : Int))).toNat : Int)) = _
 rw [BitVec.toNat_or, bv_nat 8 a ha, bv_nat 8 b hb, wu8 (by omega) (by omega)]
def uvar (v : Nat) : List UInt8 := if v < 128 then [UInt8.ofNat v] else UInt8.ofNat (v % 128 + 128) :: uvar (v / 128)
termination_by v
decreasing_by omega
theorem uvar_lt {v : Nat} (h : v < 128) : uvar v = [UInt8.ofNat v] := by rw [uvar, if_pos h]
theorem uvar_ge {v : Nat} (h : ¬ v < 128) : uvar v = UInt8.ofNat (v % 128 + 128) :: uvar (v / 128) := by rw [uvar, if_neg h]
theorem uvar_len (v : Nat) : ∀ n, v < 128 ^ n → 1 ≤ n → (uvar v).length ≤ n := by
 induction v using uvar.induct with
 | case1 v h => intro n _ h1; rw [uvar_lt h]; exact h1
 | case2 v h ih =>
  intro n hv h1
  rw [uvar_ge h, List.length_cons]
  match n, h1 with
  | 1, _ => simp at hv; omega
  | n + 2, _ =>
   have := ih (n + 1) (by rw [Nat.pow_succ] at hv; exact Nat.div_lt_of_lt_mul (by rw [Nat.mul_comm]; exact hv)) (by omega)
   omega
theorem uvar_len10 {v : Nat} (h : v < 18446744073709551616) : (uvar v).length ≤ 10 := uvar_len v 10 (Nat.lt_trans h (by decide)) (by decide)
set_option maxRecDepth 20000 in
theorem or128 (x : Nat) (h : x < 256) : x ||| 128 = x % 128 + 128 := by
 have : ∀ y : Fin 256, y.val ||| 128 = y.val % 128 + 128 := by decide
 exact this ⟨x, h⟩
theorem u8V_ofNat (n : Nat) : u8V (UInt8.ofNat n) = .int .u8 ((n % 256 : Nat) : Int) := by simp [u8V]
theorem uvarint_runs {w0 : World} {S : St} {Q : AEnd → St → Prop} {v : Nat} (hv : v < 18446744073709551616)
  (hQ : ∀ S' t, TokOk S' t → t ≠ .nil → (∀ j, t = .at j → S.n ≤ j) → Keeps (fun _ => False) S S' → Q (.ret (.sl ((uvar v).map u8V) (uvar v).length 1 t)) S') : RSim Tryz.prog w0 n_pack_Uvarint [.int .u64 v] S Q := by
 have hl := uvar_len10 hv
 refine RSim.run mixed k_pack_Uvarint ?_ (by simp)
 simp only [b_pack_Uvarint, go_sem]
 refine loop_rule RSim.le (k := v) (fun m fr S1 => ∃ (u : Nat) (bs : List UInt8) (t : Tok), m = u ∧ u < 18446744073709551616 ∧ fr 0 = .int .u64 u ∧ fr 3 = .sl (bs.map u8V) bs.length 1 t ∧ bs ++ uvar u = uvar v ∧ TokOk S1 t ∧ (t = .nil → bs = []) ∧ (∀ j, t = .at j → S.n ≤ j) ∧ Keeps (fun _ => False) S S1) ?_
  ⟨v, [], .nil, rfl, hv, by simp only [go_sem], by simp only [go_sem], rfl, trivial, fun _ => rfl, fun j h => (by cases h), Keeps.refl _ _⟩
 rintro m fr S1 ⟨u, bs, t, hm, hu, f0, f3, hbs, ht, hn, htn, k1⟩
 subst hm
 have hlen : bs.length + (uvar m).length = (uvar v).length := by rw [← hbs, List.length_append]
 simp only [l_pack_Uvarint_0, go_sem, f0, f3]
 refine wc_ite (b := decide ((m : Int) ≥ 128)) (by simp only [go_sem]) (fun hc => ?_) (fun hc => ?_)
 ·have hm : ¬ m < 128 := by have := of_decide_eq_true hc; omega
  have cv : ∀ S, V.conv S (.int .u8) (.int .u64 (m : Int)) = some (.int .u8 ((m % 256 : Nat) : Int)) := fun S => by
   simp only [V.conv, IntKind.wrap_u8]; congr 2
  have ho : bitsV .or .u8 ((m % 256 : Nat) : Int) 128 = some ((m % 128 + 128 : Nat) : Int) := by
   have := or8 (a := m % 256) (b := 128) (by omega) (by omega)
   rw [or128 _ (by omega)] at this
   rw [show ((128 : Int)) = ((128 : Nat) : Int) from rfl, this]; congr 2; omega
  simp only [go_sem, f0, f3, cv, ho]
  refine wi_append (n := bs.length) (cs := bs.map u8V) (t := t) (m := 1) (xs := [.int .u8 ((m % 128 + 128 : Nat) : Int)]) (by simp only [go_sem]) (by simp only [go_sem, V.elems]) rfl (by simp [roomOk]; omega) ht (fun e => by rw [hn e]; exact ⟨rfl, rfl⟩) fun t' S2 k2 ht2 hn2 hz => ?_
  have hsh : (m : Int).fdiv (2 ^ (min (Int.toNat 7) 64)) = ((m / 128 : Nat) : Int) := by
   show (m : Int).fdiv 128 = _
   rw [Int.fdiv_eq_ediv_of_nonneg _ (by omega)]; omega
  simp only [go_sem, f0, hsh]
  have hcat : bs.map u8V ++ [V.int .u8 ((m % 128 + 128 : Nat) : Int)] = (bs ++ [UInt8.ofNat (m % 128 + 128)]).map u8V := by
   rw [List.map_append, List.map_cons, List.map_nil, u8V_ofNat, Nat.mod_eq_of_lt (a := m % 128 + 128) (by omega)]
  have hn1 : bs.length + 1 = (bs ++ [UInt8.ofNat (m % 128 + 128)]).length := by simp
  refine ⟨m / 128, by omega, m / 128, bs ++ [UInt8.ofNat (m % 128 + 128)], t', rfl, by omega, by simp only [go_sem, f0, hsh], by simp only [go_sem, hcat, hn1], ?_, ht2, fun e => absurd (hz e).1 (by decide), fun j hj => Nat.le_trans k1.n (hn2 j hj), keeps_new k1 k2 fun j h => htn j h⟩
  rw [← hbs, uvar_ge hm, List.append_assoc]; rfl
 ·have hm : m < 128 := by have := of_decide_eq_false hc; omega
  have cv : ∀ S, V.conv S (.int .u8) (.int .u64 (m : Int)) = some (.int .u8 (m : Int)) := fun S => by
   simp only [V.conv, wu8 (show (0 : Int) ≤ m by omega) (show (m : Int) < 256 by omega)]
  simp only [go_sem, f0, f3, cv]
  refine wi_append (n := bs.length) (cs := bs.map u8V) (t := t) (m := 1) (xs := [.int .u8 (m : Int)]) (by simp only [go_sem]) (by simp only [go_sem, V.elems]) rfl (by simp [roomOk]; omega) ht (fun e => by rw [hn e]; exact ⟨rfl, rfl⟩) fun t' S2 k2 ht2 hn2 hz => ?_
  simp only [go_sem]
  have hcat : bs.map u8V ++ [V.int .u8 (m : Int)] = (uvar v).map u8V := by
   rw [← hbs, uvar_lt hm, List.map_append, List.map_cons, List.map_nil, u8V_ofNat, Nat.mod_eq_of_lt (a := m) (by omega)]
  have hn1 : bs.length + 1 = (uvar v).length := by rw [← hbs, uvar_lt hm]; simp
  rw [hcat, hn1]
  exact hQ S2 t' ht2 (fun e => absurd (hz e).1 (by decide)) (fun j hj => Nat.le_trans k1.n (hn2 j hj)) (keeps_new k1 k2 fun j h => htn j h)
theorem wi_appendB {cl : Cl} {fr : Fr} {S S0 : St} {K : Fr → St → Prop} {Kp : V → St → Prop} {dst : Option Nat} {s x : Arg} {r : List Item} {bs cs : List UInt8} {n : Nat} {t : Tok}
  (hs : s.ev fr = .sl (bs.map u8V) n 1 t) (hn : n = bs.length) (hx : (x.ev fr).elems S 1 = some (cs.length, cs.map u8V)) (hr : bs.length + cs.length ≤ 140000000000000)
  (k : Keeps (fun _ => False) S0 S) (ht : TokOk S t) (htn : ∀ j, t = .at j → S0.n ≤ j) (hnil : t = .nil → bs = [])
  (hK : ∀ t' S', Keeps (fun _ => False) S0 S' → TokOk S' t' → (∀ j, t' = .at j → S0.n ≤ j) → (t' = .nil → bs ++ cs = []) → wItems cl r (fr.put dst (.sl ((bs ++ cs).map u8V) (bs ++ cs).length 1 t')) S' K Kp) :
  wItems cl (.run ⟨dst, none, .e (.append 1 1 false s x)⟩ :: r) fr S K Kp := by
 subst hn
 refine wi_append (n := bs.length) (cs := bs.map u8V) (t := t) (m := cs.length) (xs := cs.map u8V) hs hx (by simp) (by simp [roomOk]; omega) ht (fun e => by rw [hnil e]; exact ⟨rfl, rfl⟩) fun t' S' k' ht' hn' hz => ?_
 rw [← List.map_append, ← List.length_append]
 refine hK t' S' (keeps_new k k' htn) ht' (fun j hj => Nat.le_trans k.n (hn' j hj)) fun e => ?_
 obtain ⟨h1, h2⟩ := hz e
 rw [hnil h2, List.eq_nil_of_length_eq_zero h1]; rfl
theorem not64 {x : Nat} (h : x < 18446744073709551616) : x ^^^ 18446744073709551615 = 18446744073709551615 - x := by
 rw [Nat.xor_comm]
 refine Nat.eq_of_testBit_eq fun i => ?_
 rw [Nat.testBit_xor, show (18446744073709551615 : Nat) = 2 ^ 64 - 1 from rfl, Nat.testBit_two_pow_sub_one, show 2 ^ 64 - 1 - x = 2 ^ 64 - (x + 1) by omega, Nat.testBit_two_pow_sub_succ h]
 by_cases hi : i < 64
 ·simp [hi]
 ·have : x.testBit i = false := Nat.testBit_lt_two_pow (Nat.lt_of_lt_of_le h (Nat.pow_le_pow_right (n := 2) (i := 64) (by decide) (by omega)))
  simp [hi, this]
theorem xor64 {a b : Nat} (ha : a < 18446744073709551616) (hb : b < 18446744073709551616) : bitsV .xor .u64 (a : Int) (b : Int) = some ((a ^^^ b : Nat) : Int) := by
 have h := Nat.xor_lt_two_pow (n := 64) ha hb
 show some (IntKind.u64.wrap (((BitVec.ofInt 64 (a : Int)) ^^^ (BitVec.ofInt 64 (b : Int))).toNat : Int)) = _
 rw [BitVec.toNat_xor, bv_nat 64 a ha, bv_nat 64 b hb, wu64 (by omega) (by omega)]
theorem elemsS (s : List UInt8) (S : St) : (V.str (mkS s)).elems S 1 = some (s.length, s.map u8V) := by
 simp only [V.elems, if_true, mkS_size]; rfl
def zigN (v : Int) : Nat := if 0 ≤ v then (2 * v).toNat else (-2 * v - 1).toNat
theorem zig_lt {v : Int} (h1 : -9223372036854775808 ≤ v) (h2 : v < 9223372036854775808) : zigN v < 18446744073709551616 := by
 unfold zigN; split <;> omega
theorem zig_runs {w0 : World} {S : St} {Q : AEnd → St → Prop} {v : Int} (h1 : -9223372036854775808 ≤ v) (h2 : v < 9223372036854775808) (hQ : Q (.ret (.int .u64 (zigN v : Nat))) S) : RSim Tryz.prog w0 n_pack_Zig [.int .i64 v] S Q := by
 have cv : V.conv S (.int .u64) (.int .i64 v) = some (.int .u64 (v % 18446744073709551616)) := by simp only [V.conv, IntKind.wrap_u64]
 have e1 : IntKind.u64.wrap (v % 18446744073709551616 * 2 ^ (min (Int.toNat 1) 64)) = ((2 * v) % 18446744073709551616) := by
  show IntKind.u64.wrap (v % 18446744073709551616 * 2) = _
  rw [IntKind.wrap_u64]; omega
 by_cases h : 0 ≤ v
 ·have e2 : v.fdiv (2 ^ (min (Int.toNat 63) 64)) = 0 := by
   show v.fdiv 9223372036854775808 = _
   rw [Int.fdiv_eq_ediv_of_nonneg _ (by omega)]; omega
  have cv2 : V.conv S (.int .u64) (.int .i64 0) = some (.int .u64 0) := rfl
  have e3 : bitsV .xor .u64 ((2 * v) % 18446744073709551616) 0 = some ((zigN v : Nat) : Int) := by
   have := xor64 (a := zigN v) (b := 0) (zig_lt h1 h2) (by decide)
   rw [Nat.xor_zero] at this
   rw [← this]
   congr 1
   unfold zigN; rw [if_pos h]; omega
  refine RSim.run mixed k_pack_Zig ?_ (by simp)
  simp only [b_pack_Zig, go_sem, cv, e1, e2, cv2, e3]
  exact hQ
 ·have e2 : v.fdiv (2 ^ (min (Int.toNat 63) 64)) = -1 := by
   show v.fdiv 9223372036854775808 = _
   rw [Int.fdiv_eq_ediv_of_nonneg _ (by omega)]; omega
  have cv2 : V.conv S (.int .u64) (.int .i64 (-1)) = some (.int .u64 18446744073709551615) := rfl
  have e3 : bitsV .xor .u64 ((2 * v) % 18446744073709551616) 18446744073709551615 = some ((zigN v : Nat) : Int) := by
   have := xor64 (a := (2 * v + 18446744073709551616).toNat) (b := 18446744073709551615) (by omega) (by decide)
   rw [not64 (by omega)] at this
   rw [show (2 * v) % 18446744073709551616 = (((2 * v + 18446744073709551616).toNat : Nat) : Int) by omega, show (18446744073709551615 : Int) = ((18446744073709551615 : Nat) : Int) from rfl, this]
   congr 1
   unfold zigN; rw [if_neg h]; omega
  refine RSim.run mixed k_pack_Zig ?_ (by simp)
  simp only [b_pack_Zig, go_sem, cv, e1, e2, cv2, e3]
  exact hQ
def textB (s : List UInt8) : List UInt8 := uvar s.length ++ s
def BT (S0 S : St) (v : V) (bs : List UInt8) : Prop := ∃ t, v = .sl (bs.map u8V) bs.length 1 t ∧ TokOk S t ∧ (t = .nil → bs = []) ∧ ∀ j, t = .at j → S0.n ≤ j
theorem BT.is {S0 S : St} {v : V} {bs : List UInt8} (h : BT S0 S v bs) : IsBytes v bs := by obtain ⟨t, h1, _, h3, _⟩ := h; exact ⟨t, h1, h3⟩
theorem BT.keep {S0 S S' : St} {v : V} {bs : List UInt8} (h : BT S0 S v bs) (k : Keeps (fun _ => False) S S') : BT S0 S' v bs := by
 obtain ⟨t, h1, h2, h3, h4⟩ := h
 exact ⟨t, h1, h2.keep k fun _ _ => id, h3, h4⟩
theorem BT.base {S0 S1 S : St} {v : V} {bs : List UInt8} (h : BT S1 S v bs) (k : S0.n ≤ S1.n) : BT S0 S v bs := by
 obtain ⟨t, h1, h2, h3, h4⟩ := h
 exact ⟨t, h1, h2, h3, fun j hj => Nat.le_trans k (h4 j hj)⟩
theorem wi_appendBT {cl : Cl} {fr : Fr} {S S0 : St} {K : Fr → St → Prop} {Kp : V → St → Prop} {dst : Option Nat} {s x : Arg} {r : List Item} {v : V} {bs cs : List UInt8}
  (hs : s.ev fr = v) (hv : BT S0 S v bs) (hx : (x.ev fr).elems S 1 = some (cs.length, cs.map u8V)) (hr : bs.length + cs.length ≤ 140000000000000)
  (k : Keeps (fun _ => False) S0 S) (hK : ∀ v' S', Keeps (fun _ => False) S0 S' → BT S0 S' v' (bs ++ cs) → (∀ i cs, S.cells i = some cs → i < S.n → S'.cells i = some cs ∧ i < S'.n) → wItems cl r (fr.put dst v') S' K Kp) :
  wItems cl (.run ⟨dst, none, .e (.append 1 1 false s x)⟩ :: r) fr S K Kp := by
 obtain ⟨t, rfl, ht, hnil, htn⟩ := hv
 refine wi_append (n := bs.length) (cs := bs.map u8V) (t := t) (m := cs.length) (xs := cs.map u8V) hs hx (by simp) (by simp [roomOk]; omega) ht (fun e => by rw [hnil e]; exact ⟨rfl, rfl⟩) fun t' S' k' ht' hn' hz => ?_
 rw [← List.map_append, ← List.length_append]
 refine hK _ S' (keeps_new k k' htn) ⟨t', rfl, ht', fun e => ?_, fun j hj => Nat.le_trans k.n (hn' j hj)⟩ fun i cs hc hi => ⟨k'.cells hc hi (ht.not_own hc), k'.lt hi⟩
 obtain ⟨h1, h2⟩ := hz e
 rw [hnil h2, List.eq_nil_of_length_eq_zero h1]; rfl
theorem uvarint_own {w0 : World} {S : St} {Q : AEnd → St → Prop} {v : Nat} (hv : v < 18446744073709551616)
  (hQ : ∀ S' v', BT S S' v' (uvar v) → Keeps (fun _ => False) S S' → Q (.ret v') S') : RSim Tryz.prog w0 n_pack_Uvarint [.int .u64 v] S Q :=
 uvarint_runs hv fun S1 t ht hn ho k => hQ S1 _ ⟨t, rfl, ht, fun h => absurd h hn, ho⟩ k
theorem text_runs {w0 : World} {S : St} {Q : AEnd → St → Prop} {s : List UInt8} (hs : s.length ≤ 10000000000000) (hQ : ∀ S' v', BT S S' v' (textB s) → Keeps (fun _ => False) S S' → Q (.ret v') S') : RSim Tryz.prog w0 n_pack_Text [.str (mkS s)] S Q := by
 have cv : ∀ S, V.conv S (.int .u64) (.int .i64 (s.length : Int)) = some (.int .u64 (s.length : Int)) := fun S => by
  simp only [V.conv, wu64 (show (0 : Int) ≤ (s.length : Int) by omega) (show (s.length : Int) < 18446744073709551616 by omega)]
 refine RSim.run mixed k_pack_Text ?_ (by simp)
 simp only [b_pack_Text, go_sem, cv]
 refine wi_call ?_
 simp only [go_sem]
 refine uvarint_runs (v := s.length) (by omega) fun S1 t1 ht1 hn1 ho1 k1 => ?_
 have hu := uvar_len10 (v := s.length) (by omega)
 simp only [go_sem]
 refine wi_appendB (bs := uvar s.length) (cs := s) (t := t1) (by simp only [go_sem]) rfl (by simp only [go_sem]; exact elemsS s S1) (by omega) k1 ht1 ho1 (fun h => absurd h hn1) fun t2 S2 k2 ht2 ho2 hz2 => ?_
 simp only [go_sem]
 exact hQ S2 _ ⟨t2, rfl, ht2, hz2, ho2⟩ k2
structure Dc where
 id : List UInt8
 tm : Int
 tx : List UInt8
 deriving DecidableEq
structure Op where
 t : Nat
 d : Dc
 deriving DecidableEq
def Dc.v (d : Dc) : List V := [.str (mkS d.id), .int .i64 d.tm, .str (mkS d.tx)]
def Op.v (o : Op) : List V := .int .u64 (o.t : Nat) :: o.d.v
structure Dc.Ok (d : Dc) : Prop where
 lo : -9223372036854775808 ≤ d.tm
 hi : d.tm < 9223372036854775808
 id : d.id.length ≤ 1000000000000000
 tx : d.tx.length ≤ 1000000000000000
structure Op.Ok (o : Op) : Prop where
 t : o.t < 18446744073709551616
 d : o.d.Ok
def idB (b : UInt8) : Bool := decide (33 ≤ b.toNat) && decide (b.toNat ≤ 126)
def Dc.form (d : Dc) : Bool := d.id.all idB && (decide (1 ≤ d.id.length) && decide (d.id.length ≤ 32) && decide (d.tx.length ≤ 512))
theorem all_take {s : List UInt8} {p : UInt8 → Bool} {j : Nat} {b : UInt8} (hb : s[j]? = some b) : (s.take (j + 1)).all p = ((s.take j).all p && p b) := by
 rw [List.take_add_one, hb, List.all_append]; simp
theorem all_false {s : List UInt8} {p : UInt8 → Bool} {j : Nat} {b : UInt8} (hb : s[j]? = some b) (h : p b = false) : s.all p = false := by
 cases hs : s.all p with
 | false => rfl
 | true =>
  have := List.all_eq_true.1 hs b (List.mem_of_getElem? hb)
  rw [h] at this; cases this
theorem form_runs {w0 : World} {S : St} {Q : AEnd → St → Prop} {d : Dc} (hi : d.id.length ≤ 1000000000000000) (hx : d.tx.length ≤ 1000000000000000) (hQ : ∀ S', Keeps (fun _ => False) S S' → Q (.ret (.bool d.form)) S') : RSim Tryz.prog w0 n_match_Form [.agg d.v] S Q := by
 obtain ⟨id, tm, tx⟩ := d
 simp only at hi hx
 simp only [Dc.v]
 refine RSim.run mixed k_match_Form ?_ (by simp)
 simp only [b_match_Form, go_sem]
 refine loop_rule RSim.le (k := id.length) (fun m fr S1 => ∃ j : Nat, m = id.length - j ∧ j ≤ id.length ∧ S1 = S.add (.cells [.str (mkS id), .int .i64 tm, .str (mkS tx)]) ∧ fr 1 = .ptr (some (S.n, 0)) ∧ fr 6 = .int .i64 id.length ∧ fr 7 = .int .i64 j ∧ (id.take j).all idB = true) ?_
  ⟨0, rfl, Nat.zero_le _, rfl, by simp only [go_sem], by simp only [go_sem], by simp only [go_sem, Int.natCast_zero], by simp⟩
 rintro m fr S1 ⟨j, hm, hj, hS, f1, f6, f7, ha⟩
 subst hm; subst hS
 simp only [l_match_Form_0, go_sem, f6, f7]
 refine wc_ite (b := decide ((j : Int) < id.length)) (by simp only [go_sem]) (fun hc => ?_) (fun hc => ?_)
 ·have hj2 : j < id.length := by have := of_decide_eq_true hc; omega
  have hb : id[j]? = some (id[j]'hj2) := List.getElem?_eq_getElem hj2
  generalize id[j] = b at hb
  have hw : IntKind.i64.wrap ((j : Int) + 1) = ((j + 1 : Nat) : Int) := by rw [w64 (by omega) (by omega)]; omega
  have q1 : decide ((b.toNat : Int) ≤ 32) = !decide (33 ≤ b.toNat) := by
   rw [← decide_not]; exact decide_eq_decide.mpr (by omega)
  have q2 : decide ((b.toNat : Int) > 126) = !decide (b.toNat ≤ 126) := by
   rw [← decide_not]; exact decide_eq_decide.mpr (by omega)
  have ht := all_take (p := idB) hb
  have hf0 := all_false (p := idB) hb
  rw [ha, Bool.true_and] at ht
  have hib : idB b = (decide (33 ≤ b.toNat) && decide (b.toNat ≤ 126)) := rfl
  rw [hib] at ht hf0
  generalize decide (33 ≤ b.toNat) = c1 at *
  generalize decide (b.toNat ≤ 126) = c2 at *
  simp only [go_sem, f1, f6, f7, hb, q1, q2]
  have kk := (Keeps.refl (fun _ => False) S).add (.cells [.str (mkS id), .int .i64 tm, .str (mkS tx)])
  cases c1 <;> cases c2
  rotate_left 3
  all_goals simp only [go_sem, f1, f6, f7, hb, q1, q2]
  ·refine wc_ite (b := false) (by simp only [go_sem] <;> rfl) (fun h => by cases h) (fun _ => ?_)
   simp only [go_sem, hw, f7]
   exact ⟨id.length - (j + 1), by omega, j + 1, rfl, by omega, f1, f6, rfl, ht⟩
  all_goals
   refine wc_ite (b := true) (by simp only [go_sem] <;> rfl) (fun _ => ?_) (fun h => by cases h)
   simp only [go_sem]
   have hf := hQ _ kk
   rw [show Dc.form ⟨id, tm, tx⟩ = false by unfold Dc.form; rw [hf0 rfl]; rfl] at hf
   exact hf
 ·have hj2 : j = id.length := by have := of_decide_eq_false hc; omega
  subst hj2
  rw [List.take_length] at ha
  have kk := hQ _ ((Keeps.refl (fun _ => False) S).add (.cells [.str (mkS id), .int .i64 tm, .str (mkS tx)]))
  unfold Dc.form at kk
  rw [ha, Bool.true_and] at kk
  have q1 : decide ((id.length : Int) ≥ 1) = decide (1 ≤ id.length) := decide_eq_decide.mpr (by omega)
  have q2 : decide ((id.length : Int) ≤ 32) = decide (id.length ≤ 32) := decide_eq_decide.mpr (by omega)
  have q3 : decide ((tx.length : Int) ≤ 512) = decide (tx.length ≤ 512) := decide_eq_decide.mpr (by omega)
  generalize decide (1 ≤ id.length) = c1 at *
  generalize decide (id.length ≤ 32) = c2 at *
  generalize decide (tx.length ≤ 512) = c3 at *
  simp only [go_sem, s_match_Form_0, f1, q1, q2, q3]
  cases c1
  all_goals (try simp only [go_sem, f1, q1, q2, q3])
  all_goals (try ((exact kk); done))
  all_goals cases c2
  all_goals (try simp only [go_sem, f1, q1, q2, q3])
  all_goals (try ((exact kk); done))
  all_goals cases c3
  all_goals (try simp only [go_sem, f1, q1, q2, q3])
  all_goals (try ((exact kk); done))
def encB (o : Op) : List UInt8 := uvar o.t ++ textB o.d.id ++ uvar (zigN o.d.tm) ++ textB o.d.tx
theorem textB_len (s : List UInt8) : (textB s).length = (uvar s.length).length + s.length := by simp [textB]
theorem encode_runs {w0 : World} {S : St} {Q : AEnd → St → Prop} {o : Op} (ho : o.Ok) (hQ : o.d.form = true → ∀ S' v', BT S S' v' (encB o) → Keeps (fun _ => False) S S' → Q (.ret (.tup [v', .int .i64 0])) S')
  (hQ' : o.d.form = false → ∀ S', Keeps (fun _ => False) S S' → Q (.ret (.tup [.sl [] 0 1 .nil, .int .i64 3])) S') : RSim Tryz.prog w0 n_copy_Encode [.agg o.v] S Q := by
 obtain ⟨ht, hd⟩ := ho
 obtain ⟨t, ⟨id, tm, tx⟩⟩ := o
 have hdd := hd
 obtain ⟨d1, d2, _, _⟩ := hd
 simp only at ht d1 d2 hQ hQ' hdd
 simp only [Op.v, Dc.v]
 have hfb : ∀ b, Dc.form ⟨id, tm, tx⟩ = b → id.length ≤ 32 ∧ tx.length ≤ 512 ∨ b = false := fun b hb => by
  cases b with
  | false => exact .inr rfl
  | true =>
   unfold Dc.form at hb
   simp only [Bool.and_eq_true, decide_eq_true_eq] at hb
   exact .inl ⟨hb.2.1.2, hb.2.2⟩
 have k0 := (Keeps.refl (fun _ => False) S).add (.cells [.int .u64 (t : Nat), .str (mkS id), .int .i64 tm, .str (mkS tx)])
 have c0 : (S.add (.cells [.int .u64 (t : Nat), .str (mkS id), .int .i64 tm, .str (mkS tx)])).cells S.n = some [.int .u64 (t : Nat), .str (mkS id), .int .i64 tm, .str (mkS tx)] := by rw [cells_addc, if_pos rfl]
 have l0 : S.n < (S.add (.cells [.int .u64 (t : Nat), .str (mkS id), .int .i64 tm, .str (mkS tx)])).n := by rw [St.add_n]; omega
 refine RSim.run mixed k_copy_Encode ?_ (by simp)
 simp only [b_copy_Encode, go_sem]
 generalize S.add (.cells [.int .u64 (t : Nat), .str (mkS id), .int .i64 tm, .str (mkS tx)]) = S0 at *
 refine wi_call ?_
 simp only [go_sem]
 refine form_runs (d := ⟨id, tm, tx⟩) hdd.id hdd.tx fun S1 k1 => ?_
 have c1 := k1.cells c0 l0 (fun h => h)
 have l1 := k1.lt l0
 have k1 := k0.trans k1 (fun _ _ => _root_.id)
 generalize hb : Dc.form ⟨id, tm, tx⟩ = b at *
 cases b
 ·simp only [go_sem]
  refine wc_ite (b := true) (by simp only [go_sem] <;> rfl) (fun _ => ?_) (fun h => by cases h)
  simp only [go_sem]
  exact hQ' rfl S1 k1
 ·obtain ⟨hi, hx⟩ : id.length ≤ 32 ∧ tx.length ≤ 512 := (hfb true rfl).resolve_right (by decide)
  simp only [go_sem]
  refine wc_ite (b := false) (by simp only [go_sem] <;> rfl) (fun h => by cases h) (fun _ => ?_)
  simp only [go_sem, c1]
  refine wi_call ?_
  simp only [go_sem]
  refine uvarint_own ht fun S2 v2 b2 k2 => ?_
  have c2 := k2.cells c1 l1 (fun h => h)
  have l2 := k2.lt l1
  have b2 := b2.base (S0 := S) k1.n
  have k2 := k1.trans k2 (fun _ _ => _root_.id)
  simp only [go_sem, c2]
  refine wi_call ?_
  simp only [go_sem]
  refine text_runs (s := id) (by omega) fun S3 v3 b3 k3 => ?_
  have c3 := k3.cells c2 l2 (fun h => h)
  have l3 := k3.lt l2
  have b2 := b2.keep k3
  have k3 := k2.trans k3 (fun _ _ => _root_.id)
  have u1 := uvar_len10 ht
  have u2 := uvar_len10 (v := id.length) (by omega)
  have u3 := uvar_len10 (zig_lt d1 d2)
  have u4 := uvar_len10 (v := tx.length) (by omega)
  simp only [go_sem]
  refine wi_appendBT (cs := textB id) (by simp only [go_sem]) b2 (by simp only [go_sem]; exact b3.is.elems _) (by rw [textB_len]; omega) k3 fun v4 S4 k4 b4 p4 => ?_
  obtain ⟨c4, l4⟩ := p4 _ _ c3 l3
  simp only [go_sem, c4]
  refine wi_call ?_
  simp only [go_sem]
  refine zig_runs d1 d2 ?_
  simp only [go_sem]
  refine wi_call ?_
  simp only [go_sem]
  refine uvarint_own (zig_lt d1 d2) fun S5 v5 b5 k5 => ?_
  have c5 := k5.cells c4 l4 (fun h => h)
  have l5 := k5.lt l4
  have b4 := b4.keep k5
  have k5 := k4.trans k5 (fun _ _ => _root_.id)
  simp only [go_sem]
  refine wi_appendBT (cs := uvar (zigN tm)) (by simp only [go_sem]) b4 (by simp only [go_sem]; exact b5.is.elems _) (by rw [List.length_append, textB_len]; omega) k5 fun v6 S6 k6 b6 p6 => ?_
  obtain ⟨c6, l6⟩ := p6 _ _ c5 l5
  simp only [go_sem, c6]
  refine wi_call ?_
  simp only [go_sem]
  refine text_runs (s := tx) (by omega) fun S7 v7 b7 k7 => ?_
  have b6 := b6.keep k7
  have k7 := k6.trans k7 (fun _ _ => _root_.id)
  simp only [go_sem]
  refine wi_appendBT (cs := textB tx) (by simp only [go_sem]) b6 (by simp only [go_sem]; exact b7.is.elems _) (by rw [List.length_append, List.length_append, textB_len, textB_len]; omega) k7 fun v8 S8 k8 b8 p8 => ?_
  simp only [go_sem]
  exact hQ rfl S8 v8 b8 k8
end Go.VM
namespace Go.VM
open Go Go.RowKit Go.Proofs
mutual
def flatV : V → Bool
 | .bool _ => true
 | .int _ _ => true
 | .str _ => true
 | .ptr none => true
 | .ptr (some _) => false
 | .eptr cs => flatL cs
 | .sl cs n sz t => flatL cs && (match t with
  | .at _ => false
  | _ => true)
 | .msl _ _ _ _ => false
 | .map none => true
 | .map (some _) => false
 | .iter _ => false
 | .func _ pre cap => flatL pre && flatL cap
 | .nilFunc => true
 | .iface _ v => flatV v
 | .nilIface => true
 | .agg cs => flatL cs
 | .tup cs => flatL cs
 | .abs _ => true
 | .poison => true
def flatL : List V → Bool
 | [] => true
 | c :: cs => flatV c && flatL cs
end
mutual
theorem RelV_flat {g g' : G} (h : ∀ k i v, g.ice k i = some v → g'.ice k i = some v) : ∀ (v : V) (u : Value), flatV v = true → RelV g v u → RelV g' v u
 | .bool b, u, _, k => k
 | .int _ _, u, _, k => k
 | .str _, u, _, k => k
 | .ptr none, u, _, k => k
 | .ptr (some _), u, f, k => by cases f
 | .eptr cs, u, f, k => by
  unfold RelV at k ⊢
  obtain ⟨b, p, us, e, r, o, c⟩ := k
  exact ⟨b, p, us, e, RelL_flat h cs us f r, o, fun j v hv => h _ _ _ (c j v hv)⟩
 | .sl cs n sz t, u, f, k => by
  unfold RelV at k ⊢
  unfold flatV at f
  rw [Bool.and_eq_true] at f
  obtain ⟨hl, k⟩ := k
  refine ⟨hl, k.imp id (Or.imp ?_ id)⟩
  rintro ⟨ht, b, p, cap, us, e, hc, r, o, c, h1, h2⟩
  refine ⟨ht, b, p, cap, us, e, hc, RelL_flat h cs us f.1 r, o, fun j v hv => h _ _ _ (c j v hv), h1, fun x hx => ?_⟩
  subst hx
  cases f.2
 | .msl o off n sz, u, f, k => by cases f
 | .map none, u, _, k => k
 | .map (some r), u, f, k => by cases f
 | .iter r, u, f, k => by cases f
 | .func fn pre cap, u, f, k => by
  unfold RelV at k ⊢
  unfold flatV at f
  rw [Bool.and_eq_true] at f
  obtain ⟨us, ws, e, a, b⟩ := k
  exact ⟨us, ws, e, RelL_flat h pre us f.1 a, RelL_flat h cap ws f.2 b⟩
 | .nilFunc, u, _, k => k
 | .iface t v, u, f, k => by
  unfold RelV at k ⊢
  obtain ⟨x, e, a⟩ := k
  exact ⟨x, e, RelV_flat h v x f a⟩
 | .nilIface, u, _, k => k
 | .agg cs, u, f, k => by
  unfold RelV at k ⊢
  obtain ⟨us, e, a, o⟩ := k
  exact ⟨us, e, RelL_flat h cs us f a, o⟩
 | .tup cs, u, f, k => by
  unfold RelV at k ⊢
  obtain ⟨us, e, a⟩ := k
  exact ⟨us, e, RelL_flat h cs us f a⟩
 | .abs _, u, _, k => k
 | .poison, u, _, _ => by unfold RelV; trivial
theorem RelL_flat {g g' : G} (h : ∀ k i v, g.ice k i = some v → g'.ice k i = some v) : ∀ (cs : List V) (us : List Value), flatL cs = true → RelL g cs us → RelL g' cs us
 | [], us, _, k => k
 | c :: cs, us, f, k => by
  unfold RelL at k ⊢
  unfold flatL at f
  rw [Bool.and_eq_true] at f
  obtain ⟨u, r, e, a, b⟩ := k
  exact ⟨u, r, e, RelV_flat h c u f.1 a, RelL_flat h cs r f.2 b⟩
end
theorem RSim.besideV {P : Program} {w0 : World} {f : FuncId} {args : List V} {S : St} {Q : AEnd → St → Prop} {Q0 : AEnd → St → Prop} (h : ∀ w0, RSim P w0 f args St.empty Q0) (hargs : flatL args = true)
  (hq : ∀ e S', Q0 e S' → ∃ v v', e = .ret v ∧ (∀ g g' u, RelV g v u → RelV g' v' u) ∧ Q (.ret v') S) : RSim P w0 f args S Q := by
 refine ⟨(h w0).1, fun g w us hW hr => ((h w).2 (g0 w) w us (relW_start w) (RelL_flat hW.ice _ _ hargs hr)).mono fun e w' ⟨g', S', e', _, hW', he, hqe⟩ => ?_⟩
 obtain ⟨v, v', rfl, hv, hb⟩ := hq _ _ hqe
 refine ⟨g.grownK w', S, .ret v', le_grownK hW hW'.below, hW.grownK hW'.below, ?_, hb⟩
 cases e
 case returned u => exact hv _ _ _ he
 all_goals exact he
theorem RSim.ofAll {P : Program} {w0 : World} {f : FuncId} {args : List V} {S : St} {Q : AEnd → St → Prop} (hf : Enters P f) (h : ∀ g us, RelL g args us → ∃ args', RelL g args' us ∧ RSim P w0 f args' S Q) : RSim P w0 f args S Q :=
 ⟨hf, fun g w us hW hr => by
  obtain ⟨args', h1, h2⟩ := h g us hr
  exact h2.2 g w us hW h1⟩
theorem holds_str {B : Nat} {u : Value} (h : (Ab.str B).holds u) : ∃ l : List UInt8, u = .string (mkS l) ∧ l.length ≤ B := by
 obtain ⟨s, rfl, hs⟩ := h
 exact ⟨s.data.toList, rfl, by simpa using hs⟩
theorem RelL_cons {g : G} {c : V} {cs : List V} {us : List Value} (h : RelL g (c :: cs) us) : ∃ u r, us = u :: r ∧ RelV g c u ∧ RelL g cs r := h
theorem RelL_nil {g : G} {us : List Value} (h : RelL g [] us) : us = [] := h
def trueN : List V → CSt → KX → Bool := fun args S k => match args with
 | [] => k (.bool true) S
 | _ => false
noncomputable def formN : List V → CSt → KX → Bool := fun args S k => match args with
 | [.agg [.abs (.str b), .abs (.int .i64), .abs (.str c)]] => cnd (Nat.ble b 1000000000000000) (cnd (Nat.ble c 1000000000000000) (cnd (k (.bool true) S) (k (.bool false) S) false) false) false
 | _ => false
theorem form_enters : Enters Tryz.prog n_match_Form := ⟨_, Tryz.func34, by kernel_rfl, by kernel_rfl⟩
theorem form_any {w0 : World} {S : St} {Q : AEnd → St → Prop} {d : Dc} (hi : d.id.length ≤ 1000000000000000) (hx : d.tx.length ≤ 1000000000000000) (hQ : ∀ b, Q (.ret (.bool b)) S) : RSim Tryz.prog w0 n_match_Form [.agg d.v] S Q :=
 RSim.besideV (Q0 := fun e _ => ∃ b, e = .ret (.bool b)) (fun w0 => form_runs hi hx fun S' _ => ⟨_, rfl⟩) rfl fun e S' ⟨b, he⟩ => ⟨.bool b, .bool b, he, fun _ _ _ h => h, hQ b⟩
theorem formN_ok {w0 : World} {args : List V} {S : CSt} {k : KX} {Q : AEnd → St → Prop} (h : formN args S k = true) (hk : ∀ v S', k v S' = true → Q (.ret v) S'.st) : RSim Tryz.prog w0 n_match_Form args S.st Q := by
 unfold formN at h
 split at h
 ·rename_i b c
  obtain ⟨hb, h⟩ := cond_f h
  obtain ⟨hc, h⟩ := cond_f h
  obtain ⟨h1, h⟩ := cond_f h
  refine RSim.ofAll form_enters fun g us hr => ?_
  obtain ⟨u, r, rfl, hu, hr⟩ := RelL_cons hr
  obtain rfl := RelL_nil hr
  obtain ⟨xs, rfl, hx, ho⟩ := hu
  obtain ⟨x0, r0, rfl, h0, hx⟩ := RelL_cons hx
  obtain ⟨x1, r1, rfl, h1', hx⟩ := RelL_cons hx
  obtain ⟨x2, r2, rfl, h2, hx⟩ := RelL_cons hx
  obtain rfl := RelL_nil hx
  obtain ⟨l0, rfl, hl0⟩ := holds_str h0
  obtain ⟨n, rfl, _⟩ := h1'
  obtain ⟨l2, rfl, hl2⟩ := holds_str h2
  refine ⟨[.agg (Dc.v ⟨l0, n, l2⟩)], ⟨_, _, rfl, ⟨_, rfl, ⟨_, _, rfl, rfl, _, _, rfl, rfl, _, _, rfl, rfl, rfl⟩, ho⟩, rfl⟩, form_any (Nat.le_trans hl0 (ble_n hb)) (Nat.le_trans hl2 (ble_n hc)) fun b => ?_⟩
  cases b
  ·exact hk _ _ h
  ·exact hk _ _ h1
 ·cases h
end Go.VM
namespace Go.VM
open Go Go.RowKit Go.Proofs
noncomputable def kInt (kd : IntKind) (m : Int) : KX := fun v _ => match v with
 | .int kd' n => decide (kd' = kd ∧ n = m)
 | _ => false
theorem closed_int {w0 : World} {S : St} {Q : AEnd → St → Prop} {f : Nat} {args : List V} {kd : IntKind} {m : Int} (ha : flatL args = true) (h : zCall tabT.get primA 40 f args ⟨Hp.nil, 0⟩ (kInt kd m) = true) (hQ : Q (.ret (.int kd m)) S) : RSim Tryz.prog w0 f args S Q := by
 refine RSim.besideV (Q0 := fun e _ => e = .ret (.int kd m)) (fun w0 => ?_) ha fun e S' he => ⟨.int kd m, .int kd m, he, fun _ _ _ h => h, hQ⟩
 rw [← hpNil_st]
 refine z_runs tabT_ok (primA_ok w0) h fun v S' h => ?_
 unfold kInt at h
 split at h
 ·obtain ⟨rfl, rfl⟩ := of_decide_eq_true h
  rfl
 ·cases h
theorem len2 : zCall tabT.get primA 40 85 [.int .u64 2] ⟨Hp.nil, 0⟩ (kInt .i64 2) = true := by kernel_rfl
theorem isNaN64_runs {w0 : World} {S : St} {Q : AEnd → St → Prop} {a : Int} (hQ : Q (.ret (.bool false)) S) : RSim Tryz.prog w0 n_cmp_isNaN_uint64 [.int .u64 a] S Q := by
 refine RSim.run mixed k_cmp_isNaN_uint64 ?_ (by simp)
 simp only [b_cmp_isNaN_uint64, go_sem]
 rw [show (a != a) = false by simp]
 exact hQ
theorem less64_runs {w0 : World} {S : St} {Q : AEnd → St → Prop} {a b : Int} (hQ : Q (.ret (.bool (decide (a < b)))) S) : RSim Tryz.prog w0 n_cmp_Less_uint64 [.int .u64 a, .int .u64 b] S Q := by
 refine RSim.run mixed k_cmp_Less_uint64 ?_ (by simp)
 simp only [b_cmp_Less_uint64, go_sem]
 refine wi_call ?_
 simp only [go_sem]
 refine isNaN64_runs ?_
 simp only [go_sem]
 exact hQ
theorem ins2_runs {w0 : World} {S : St} {Q : AEnd → St → Prop} {o : Nat} {a b : Int} (ho : S.cells o = some [.int .u64 a, .int .u64 b]) (h0 : ¬ b < a → Q (.ret (.tup [])) S) (h1 : b < a → Q (.ret (.tup [])) (S.set o (.cells [.int .u64 b, .int .u64 a]))) :
  RSim Tryz.prog w0 n_slices_insertionSortOrdered_uint64 [.msl o 0 2 1, .int .i64 0, .int .i64 2] S Q := by
 have w1 : IntKind.i64.wrap (0 + 1) = 1 := by decide
 have w2 : IntKind.i64.wrap (1 + 1) = 2 := by decide
 have w3 : IntKind.i64.wrap (1 - 1) = 0 := by decide
 have e1 : decide ((1 : Int) < 2) = true := by decide
 have e2 : decide ((1 : Int) > 0) = true := by decide
 have e3 : decide ((2 : Int) < 2) = false := by decide
 have e4 : decide ((0 : Int) > 0) = false := by decide
 have t1 : (1 < 2) = True := by decide
 have t2 : (0 < 2) = True := by decide
 refine RSim.run mixed k_slices_insertionSortOrdered_uint64 ?_ (by simp)
 simp only [b_slices_insertionSortOrdered_uint64, go_sem]
 refine Loop.fold RSim.le ?_
 unfold l_slices_insertionSortOrdered_uint64_1
 simp only [go_sem, w1, e1]
 refine Loop.fold RSim.le ?_
 unfold l_slices_insertionSortOrdered_uint64_0
 simp only [go_sem, ho, w1, e1, e2, w3, Int.toNat_one, Int.toNat_zero, Nat.zero_mul, Nat.one_mul, List.drop_zero, List.drop_succ_cons, List.head?_cons, t1, t2]
 refine wi_call ?_
 simp only [go_sem]
 refine less64_runs ?_
 by_cases hb : b < a
 ·simp only [go_sem, hb, decide_true]
  refine wc_ite (b := true) (by simp only [go_sem] <;> rfl) (fun _ => ?_) (fun h => by cases h)
  simp only [go_sem, ho, w3, Int.toNat_one, Int.toNat_zero, Nat.zero_mul, Nat.one_mul, List.drop_zero, List.drop_succ_cons, List.head?_cons, t1, t2]
  refine Loop.fold RSim.le ?_
  simp only [go_sem, e4]
  refine wc_ite (b := false) (by simp only [go_sem] <;> rfl) (fun h => by cases h) (fun _ => ?_)
  simp only [go_sem, w2]
  refine Loop.fold RSim.le ?_
  simp only [go_sem, e3]
  refine wc_ite (b := false) (by simp only [go_sem] <;> rfl) (fun h => by cases h) (fun _ => ?_)
  simp only [go_sem]
  exact h1 hb
 ·simp only [go_sem, hb, decide_false]
  refine wc_ite (b := false) (by simp only [go_sem] <;> rfl) (fun h => by cases h) (fun _ => ?_)
  simp only [go_sem, w2]
  refine Loop.fold RSim.le ?_
  simp only [go_sem, e3]
  exact h0 hb
theorem sort2_runs {w0 : World} {S : St} {Q : AEnd → St → Prop} {o : Nat} {a b : Int} (ho : S.cells o = some [.int .u64 a, .int .u64 b]) (h0 : ¬ b < a → Q (.ret (.tup [])) S) (h1 : b < a → Q (.ret (.tup [])) (S.set o (.cells [.int .u64 b, .int .u64 a]))) :
  RSim Tryz.prog w0 n_slices_Sort_uint64_uint64 [.msl o 0 2 1] S Q := by
 have e1 : decide ((2 : Int) ≤ 12) = true := by decide
 have w1 : IntKind.i64.wrap (2 - 0) = 2 := by decide
 refine RSim.run mixed k_slices_Sort_uint64_uint64 ?_ (by simp)
 simp only [b_slices_Sort_uint64_uint64, go_sem]
 refine wi_call ?_
 simp only [go_sem]
 refine closed_int rfl len2 ?_
 simp only [go_sem]
 refine wi_call ?_
 simp only [go_sem]
 refine RSim.run mixed k_slices_pdqsortOrdered_uint64 ?_ (by simp)
 simp only [b_slices_pdqsortOrdered_uint64, go_sem]
 refine Loop.fold RSim.le ?_
 unfold l_slices_pdqsortOrdered_uint64_0 k_slices_pdqsortOrdered_uint64_0
 simp only [go_sem, w1, e1]
 refine wc_ite (b := true) (by simp only [go_sem] <;> rfl) (fun _ => ?_) (fun h => by cases h)
 simp only [go_sem]
 refine wi_call ?_
 simp only [go_sem]
 refine ins2_runs ho (fun h => ?_) fun h => ?_
 ·simp only [go_sem]
  exact h0 h
 ·simp only [go_sem]
  exact h1 h
end Go.VM
namespace Go.VM
open Go Go.RowKit Go.Proofs
theorem u64_xor {a b : Nat} (ha : a < 18446744073709551616) (hb : b < 18446744073709551616) : bitsV .xor .u64 (a : Int) (b : Int) = some ((a ^^^ b : Nat) : Int) := by
 have e : ∀ x : Nat, x < 18446744073709551616 → (BitVec.ofInt 64 (x : Int)).toNat = x := fun x h => by
  rw [BitVec.toNat_ofInt]; omega
 have hx : a ^^^ b < 18446744073709551616 := Nat.xor_lt_two_pow (n := 64) ha hb
 show some (IntKind.u64.wrap ((BitVec.toNat (BitVec.ofInt 64 (a : Int) ^^^ BitVec.ofInt 64 (b : Int)) : Nat) : Int)) = _
 rw [BitVec.toNat_xor, e a ha, e b hb]
 generalize a ^^^ b = x at hx ⊢
 simp only [IntKind.wrap, IntKind.bits, IntKind.signed]
 congr 1
 simp
 omega
theorem u64_wrap (n : Nat) : IntKind.u64.wrap (n : Int) = ((n % 18446744073709551616 : Nat) : Int) := by
 simp only [IntKind.wrap, IntKind.bits, IntKind.signed]
 simp
theorem u64_wrap_of {n : Nat} (h : n < 18446744073709551616) : IntKind.u64.wrap (n : Int) = (n : Int) := by
 rw [u64_wrap, Nat.mod_eq_of_lt h]
theorem u64_mul (a b : Nat) : IntKind.u64.wrap ((a : Int) * (b : Int)) = ((a * b % 18446744073709551616 : Nat) : Int) := by
 rw [← Int.natCast_mul, u64_wrap]
theorem u64_shr (a k : Nat) (hk : k ≤ 64) : (a : Int).fdiv (2 ^ (min k 64)) = ((a / 2 ^ k : Nat) : Int) := by
 rw [Nat.min_eq_left hk, show ((2 : Int) ^ k) = ((2 ^ k : Nat) : Int) by push_cast; rfl, Int.fdiv_eq_ediv_of_nonneg _ (Int.natCast_nonneg _)]
 exact (Int.natCast_ediv _ _).symm
def fnvB (h : Nat) (b : UInt8) : Nat := (h ^^^ b.toNat) * 1099511628211 % 18446744073709551616
def fnv (l : List UInt8) : Nat := l.foldl fnvB 14695981039346656037
def mixH (h : Nat) : Nat := let b := (h ^^^ (h / 4294967296)) * 11400714819323198485 % 18446744073709551616; b ^^^ (b / 536870912)
def hashN (l : List UInt8) : Nat := mixH (fnv l)
theorem fnvB_lt (h : Nat) (b : UInt8) : fnvB h b < 18446744073709551616 := Nat.mod_lt _ (by decide)
theorem fnv_lt : ∀ (l : List UInt8) {h : Nat}, h < 18446744073709551616 → l.foldl fnvB h < 18446744073709551616
 | [], h, hh => hh
 | b :: l, h, hh => fnv_lt l (fnvB_lt h b)
theorem mixH_lt (h : Nat) : mixH h < 18446744073709551616 := by
 unfold mixH
 have : (h ^^^ (h / 4294967296)) * 11400714819323198485 % 18446744073709551616 < 18446744073709551616 := Nat.mod_lt _ (by decide)
 exact Nat.xor_lt_two_pow (n := 64) this (Nat.lt_of_le_of_lt (Nat.div_le_self _ _) this)
theorem hashN_lt (l : List UInt8) : hashN l < 18446744073709551616 := mixH_lt _
theorem foldl_snoc {α β : Type} (f : β → α → β) (a : β) (l : List α) (x : α) : (l ++ [x]).foldl f a = f (l.foldl f a) x := by simp
theorem fnv_eq (l : List UInt8) : fnv l = l.foldl fnvB 14695981039346656037 := rfl
theorem fnv_take {l : List UInt8} {j : Nat} {b : UInt8} (h : l[j]? = some b) : fnv (l.take (j + 1)) = fnvB (fnv (l.take j)) b := by
 have e : l.take (j + 1) = l.take j ++ [b] := by rw [List.take_add_one, h]; rfl
 rw [fnv_eq, fnv_eq, e]
 exact foldl_snoc _ _ _ _
theorem hash_end {h : Nat} (hh : h < 18446744073709551616) {P : Prop} (k : (∀ e1 : bitsV .xor .u64 (h : Int) (((h / 4294967296 : Nat)) : Int) = some ((h ^^^ (h / 4294967296) : Nat) : Int), (h : Int).fdiv (2 ^ (min (Int.toNat 32) 64)) = ((h / 4294967296 : Nat) : Int) →
  IntKind.u64.wrap (((h ^^^ (h / 4294967296) : Nat) : Int) * 11400714819323198485) = (((h ^^^ (h / 4294967296)) * 11400714819323198485 % 18446744073709551616 : Nat) : Int) →
  ((((h ^^^ (h / 4294967296)) * 11400714819323198485 % 18446744073709551616 : Nat)) : Int).fdiv (2 ^ (min (Int.toNat 29) 64)) = (((h ^^^ (h / 4294967296)) * 11400714819323198485 % 18446744073709551616 / 536870912 : Nat) : Int) →
  bitsV .xor .u64 ((((h ^^^ (h / 4294967296)) * 11400714819323198485 % 18446744073709551616 : Nat)) : Int) (((h ^^^ (h / 4294967296)) * 11400714819323198485 % 18446744073709551616 / 536870912 : Nat) : Int) = some ((mixH h : Nat) : Int) → P)) : P := by
 have hb : (h ^^^ (h / 4294967296)) * 11400714819323198485 % 18446744073709551616 < 18446744073709551616 := Nat.mod_lt _ (by decide)
 have h2 : h / 4294967296 < 18446744073709551616 := Nat.lt_of_le_of_lt (Nat.div_le_self _ _) hh
 exact k (u64_xor hh h2) (u64_shr h 32 (by decide)) (u64_mul _ 11400714819323198485) (u64_shr _ 29 (by decide)) (u64_xor hb (Nat.lt_of_le_of_lt (Nat.div_le_self _ _) hb))
theorem ringHash_runs {w0 : World} {S : St} {Q : AEnd → St → Prop} {l : List UInt8} (hl : l.length ≤ 1000000000000000) (hQ : Q (.ret (.int .u64 (hashN l : Nat))) S) : RSim Tryz.prog w0 n_ring_Hash [.str (mkS l)] S Q := by
 refine RSim.run mixed k_ring_Hash ?_ (by simp)
 simp only [b_ring_Hash, go_sem]
 refine loop_rule RSim.le (k := l.length) (fun m fr S1 => ∃ j : Nat, m = l.length - j ∧ j ≤ l.length ∧ S1 = S ∧ fr 0 = .str (mkS l) ∧ fr 6 = .int .i64 l.length ∧ fr 7 = .int .i64 j ∧ fr 3 = .int .u64 (fnv (l.take j) : Nat)) ?_
  ⟨0, rfl, Nat.zero_le _, rfl, by simp only [go_sem], by simp only [go_sem], by simp only [go_sem]; rfl, by simp only [go_sem]; rfl⟩
 rintro m fr S1 ⟨j, hm, hj, rfl, f0, f6, f7, f3⟩
 have hlt := fnv_lt (l.take j) (h := 14695981039346656037) (by decide)
 simp only [l_ring_Hash_0, go_sem, f6, f7]
 refine wc_ite (b := decide ((j : Int) < (l.length : Int))) (by simp only [go_sem]) (fun hc => ?_) (fun hc => ?_)
 ·have hjl : j < l.length := by have := of_decide_eq_true hc; omega
  have hb : l[j]? = some (l[j]'hjl) := List.getElem?_eq_getElem hjl
  generalize l[j]'hjl = b at hb
  have w1 : IntKind.i64.wrap ((j : Int) + 1) = ((j + 1 : Nat) : Int) := by rw [w64 (by omega) (by omega)]; omega
  have cv : ∀ S, V.conv S (.int .u64) (.int .u8 (b.toNat : Int)) = some (.int .u64 (b.toNat : Int)) := fun S => by
   simp only [V.conv, u64_wrap_of (show b.toNat < 18446744073709551616 by have := b.toNat_lt; omega)]
  have hx : bitsV .xor .u64 ((fnv (l.take j) : Nat) : Int) (b.toNat : Int) = some ((fnv (l.take j) ^^^ b.toNat : Nat) : Int) := u64_xor hlt (by have := b.toNat_lt; omega)
  have hmul : IntKind.u64.wrap (((fnv (l.take j) ^^^ b.toNat : Nat) : Int) * 1099511628211) = ((fnv (l.take (j + 1)) : Nat) : Int) := by rw [fnv_take hb]; exact u64_mul _ 1099511628211
  simp only [go_sem, f0, f3, f7, hb, cv, hx, hmul, w1]
  exact ⟨l.length - (j + 1), by omega, j + 1, rfl, by omega, f6, rfl, rfl⟩
 ·have hje : j = l.length := by have := of_decide_eq_false hc; omega
  subst hje
  rw [List.take_length] at f3 hlt
  unfold hashN at hQ
  refine hash_end (h := fnv l) hlt fun e1 e2 e3 e4 e5 => ?_
  simp only [s_ring_Hash_0, go_sem, f3, e1, e2, e3, e4, e5]
  exact hQ
noncomputable def hashA : List V → CSt → KX → Bool := fun args S k => match args with
 | [.str s] => cnd (Nat.ble s.data.toList.length 1000000000000000) (frc (hashN s.data.toList) fun n => k (.int .u64 (.ofNat n)) S) false
 | [.abs (.str b)] => cnd (Nat.ble b 1000000000000000) (k (.abs (.int .u64)) S) false
 | _ => false
theorem hash_enters : Enters Tryz.prog n_ring_Hash := ⟨_, Tryz.func64, by kernel_rfl, by kernel_rfl⟩
theorem RSim.less {P : Program} {w0 : World} {f : FuncId} {args : List V} {S : St} {Q : AEnd → St → Prop} {Q0 : AEnd → St → Prop} (h : RSim P w0 f args S Q0) (hq : ∀ e S', Q0 e S' → ∃ v v', e = .ret v ∧ (∀ g u, RelV g v u → RelV g v' u) ∧ Q (.ret v') S') : RSim P w0 f args S Q :=
 ⟨h.1, fun g w us hW hr => (h.2 g w us hW hr).mono fun e w' ⟨g', S', e', a, b, c, d⟩ => by
  obtain ⟨v, v', rfl, hv, hb⟩ := hq _ _ d
  refine ⟨g', S', .ret v', a, b, ?_, hb⟩
  cases e
  case returned u => exact hv _ _ c
  all_goals exact c⟩
theorem hashA_ok {w0 : World} {args : List V} {S : CSt} {k : KX} {Q : AEnd → St → Prop} (h : hashA args S k = true) (hk : ∀ v S', k v S' = true → Q (.ret v) S'.st) : RSim Tryz.prog w0 n_ring_Hash args S.st Q := by
 unfold hashA at h
 split at h
 ·rename_i s
  obtain ⟨h1, h2⟩ := cond_f h
  rw [frc_eq] at h2
  have := hk _ _ h2
  exact ringHash_runs (l := s.data.toList) (ble_n h1) this
 ·rename_i b
  obtain ⟨h1, h2⟩ := cond_f h
  refine RSim.ofAll hash_enters fun g us hr => ?_
  obtain ⟨u, r, rfl, hu, hr⟩ := RelL_cons hr
  obtain rfl := RelL_nil hr
  obtain ⟨l, rfl, hl⟩ := holds_str hu
  refine ⟨[.str (mkS l)], ⟨_, _, rfl, rfl, rfl⟩, RSim.less (Q0 := fun e S' => e = .ret (.int .u64 (hashN l : Nat)) ∧ S' = S.st) (ringHash_runs (Nat.le_trans hl (ble_n h1)) ⟨rfl, rfl⟩) fun e S' he => ⟨_, .abs (.int .u64), he.1, fun g u hu => ?_, ?_⟩⟩
  ·obtain rfl : u = .int .u64 (hashN l : Nat) := hu
   exact ⟨_, rfl, u64_wrap_of (hashN_lt l)⟩
  ·rw [he.2]; exact hk _ _ h2
 ·cases h
noncomputable def primH : PrimX := primOf [(n_ring_Hash, hashA)]
theorem primH_ok (w0 : World) : PrimOk Tryz.prog w0 primH := primOf_ok fun q hq => by
 simp only [List.mem_cons, List.not_mem_nil, or_false] at hq
 subst hq
 exact fun args S k Q h hk => hashA_ok h hk
noncomputable def kSh : KX := fun v _ => match v with
 | .tup [.int .i64 0, .int .i64 0] => true
 | _ => false
theorem shardZ : zCall tabT.get primH 40 n_ring_Shard [.abs (.str 1000000000000000), .int .i64 1] ⟨Hp.nil, 0⟩ kSh = true := by kernel_rfl
def shardN : List V → CSt → KX → Bool := fun args S k => match args with
 | [.abs (.str 1000000000000000), .int .i64 1] => k (.tup [.int .i64 0, .int .i64 0]) S
 | _ => false
theorem shardN_ok {w0 : World} {args : List V} {S : CSt} {k : KX} {Q : AEnd → St → Prop} (h : shardN args S k = true) (hk : ∀ v S', k v S' = true → Q (.ret v) S'.st) : RSim Tryz.prog w0 n_ring_Shard args S.st Q := by
 unfold shardN at h
 split at h
 ·refine RSim.besideV (Q0 := fun e _ => e = .ret (.tup [.int .i64 0, .int .i64 0])) (fun w0 => ?_) rfl fun e S' he => ⟨.tup [.int .i64 0, .int .i64 0], .tup [.int .i64 0, .int .i64 0], he, fun _ _ _ h => h, hk _ _ h⟩
  rw [← hpNil_st]
  refine z_runs tabT_ok (primH_ok w0) shardZ fun v S' h => ?_
  unfold kSh at h
  split at h
  ·rfl
  ·cases h
 ·cases h
end Go.VM
namespace Go.VM
open Go Go.RowKit Go.Proofs
theorem RSim.killed {P : Program} {w0 : World} {f : FuncId} {args : List V} {S : St} {i : Nat} {Q : AEnd → St → Prop} (h : RSim P w0 f args (S.kill i) Q) : RSim P w0 f args S Q :=
 ⟨h.1, fun g w us hW hr => h.2 g w us (hW.kill i) hr⟩
structure WishAt (S : St) (o : Nat) (q : Int) (v : V) : Prop where
 at_ : ∃ cs r es c, S.cells o = some cs ∧ (cs.drop 14).head? = some (.map (some r)) ∧ S.hp r = some (.map es c) ∧ ∃ p, findE .int (.int .u64 q) es 0 = some (some (p, v))
def TickTail (w0 : World) (o : Nat) (lo hi : Int) (S2 : St) (Q : V → St → Prop) : Prop :=
 ∃ v1, WishAt S2 o lo v1 ∧ RSim Tryz.prog w0 43 [.ptr (some (o, 0)), .int .u64 lo, v1] S2 fun e S3 => e = .ret (.tup []) ∧ (∃ x, S3.cells (S2.n - 1) = some [x, .int .u64 hi]) ∧
  ∃ v2, WishAt S3 o hi v2 ∧ RSim Tryz.prog w0 43 [.ptr (some (o, 0)), .int .u64 hi, v2] S3 fun e S4 => e = .ret (.tup []) ∧
   RSim Tryz.prog w0 29 [.ptr (some (o, 0))] S4 fun e S5 => e = .ret (.tup []) ∧ ∃ cs v, S5.cells o = some cs ∧ (cs.drop 19).head? = some v ∧ Q v S5
theorem tick_rest {w0 : World} {fr : Fr} {S : St} {Q : V → St → Prop} {QQ : CPost} {o m i : Nat} {lo hi : Int} (f0 : fr 0 = .ptr (some (o, 0))) (f102 : fr 102 = .msl m 0 2 1) (f103 : fr 103 = .int .i64 2) (f104 : fr 104 = .int .i64 0) (hm : S.cells m = some [.int .u64 lo, .int .u64 hi])
  (hn : m = (S.kill i).n - 1) (hw : ∀ v, WishAt (S.kill i) o lo v → WishAt S o lo v) (hQ : ∀ fr' v S', fr' 4 = v → Q v S' → QQ .ret fr' S') (h : TickTail w0 o lo hi (S.kill i) Q) :
  wCode (RSim Tryz.prog w0) (.loop l_node_Node_Tick_3) fr S (blkQ 6 (seqQ (RSim Tryz.prog w0) s_node_Node_Tick_0 QQ)) := by
 obtain ⟨v1, w1, h⟩ := h
 obtain ⟨cs1, r1, es1, c1, a1, b1, d1, p1, e1⟩ := (hw _ w1).at_
 have q1 : decide ((0 : Int) < 2) = true := by decide
 have q2 : decide ((1 : Int) < 2) = true := by decide
 have q3 : decide ((2 : Int) < 2) = false := by decide
 have u1 : IntKind.i64.wrap (0 + 1) = 1 := by decide
 have u2 : IntKind.i64.wrap (1 + 1) = 2 := by decide
 have t1 : (1 < 2) = True := by decide
 have t2 : (0 < 2) = True := by decide
 refine Loop.fold RSim.le ?_
 unfold l_node_Node_Tick_3
 simp only [go_sem, f103, f104, q1]
 refine wc_ite (b := true) (by simp only [go_sem] <;> rfl) (fun _ => ?_) (fun h => by cases h)
 simp only [go_sem, f0, f102, f104, hm, a1, b1, d1, e1, Option.map_some, t1, t2, Int.toNat_one, Int.toNat_zero, Nat.zero_mul, Nat.one_mul, List.drop_zero, List.drop_succ_cons, List.head?_cons]
 refine wi_call ?_
 simp only [go_sem]
 refine (RSim.killed h).mono ?_
 rintro e S3 ⟨rfl, ⟨x3, hm3⟩, v2, w2, h⟩
 obtain ⟨cs2, r2, es2, c2', a2, b2, d2, p2, e2⟩ := w2.at_
 rw [← hn] at hm3
 simp only [go_sem, f103, f104, u1, q2]
 refine Loop.fold RSim.le ?_
 simp only [go_sem, f103, q2]
 refine wc_ite (b := true) (by simp only [go_sem] <;> rfl) (fun _ => ?_) (fun h => by cases h)
 simp only [go_sem, f0, f102, hm3, a2, b2, d2, e2, Option.map_some, t1, t2, Int.toNat_one, Int.toNat_zero, Nat.zero_mul, Nat.one_mul, List.drop_zero, List.drop_succ_cons, List.head?_cons]
 refine wi_call ?_
 simp only [go_sem]
 refine h.mono ?_
 rintro e S4 ⟨rfl, h⟩
 simp only [go_sem, u2]
 refine Loop.fold RSim.le ?_
 simp only [go_sem, f103, q3]
 refine wc_ite (b := false) (by simp only [go_sem] <;> rfl) (fun h => by cases h) (fun _ => ?_)
 simp only [go_sem, s_node_Node_Tick_0, f0]
 refine wi_call ?_
 simp only [go_sem]
 refine h.mono ?_
 rintro e S5 ⟨rfl, cs5, v5, a5, b5, h⟩
 simp only [go_sem, f0, a5, b5]
 exact hQ _ _ _ (by simp only [go_sem]) h
def sortedS (S : St) (lo hi : Int) : St := (S.skips 2).add (.cells [.int .u64 lo, .int .u64 hi])
theorem toU_ints (l : List Int) : (l.map (V.int .u64)).map toI = l := by
 rw [List.map_map]
 exact List.map_id' _ |>.symm ▸ rfl
theorem intsU_of {es : List (V × V × Nat)} (h : ∀ e ∈ es, ∃ p, e.1 = V.int .u64 p) : es.map (·.1) = ((es.map (·.1)).map toI).map (V.int .u64) := by
 rw [List.map_map, List.map_map]
 refine List.map_congr_left fun e he => ?_
 obtain ⟨p, hp⟩ := h e he
 show e.1 = V.int .u64 (toI e.1)
 rw [hp]; rfl
structure TickM (S : St) (r c o : Nat) (es : List (V × V × Nat)) (ks : List Int) (seen : List Nat) (l : List Int) (fr : Fr) (S1 : St) : Prop where
 len : l.length = seen.length
 n : S1.n = S.n + 1 + l.length
 hp : ∀ i, S1.hp i = if i = S.n then some (.iter (some r) c seen c) else if S.n < i ∧ i < S.n + l.length then none else if i = S.n + l.length then some (.cells (l.map (V.int .u64))) else S.hp i
 perm : ∃ rest, (es.filter fun e => !seen.contains e.2.2).map (·.1) = rest.map (V.int .u64) ∧ (l ++ rest).Perm ks
 f7 : fr 7 = if l = [] then .sl [] 0 1 .nil else .msl (S.n + l.length) 0 l.length 1
 f91 : fr 91 = .iter S.n
 f0 : fr 0 = .ptr (some (o, 0))
theorem perm_two {l : List Int} {a b : Int} (h : l.Perm [a, b]) : l = [a, b] ∨ l = [b, a] := by
 have hl := h.length_eq
 match l, hl with
 | [p, q], _ =>
  have hp : p ∈ [a, b] := h.mem_iff.1 (List.mem_cons_self ..)
  simp only [List.mem_cons, List.not_mem_nil, or_false] at hp
  rcases hp with rfl | rfl
  ·have := (List.perm_cons p).1 h
   rw [List.perm_singleton] at this
   injection this with this
   subst this
   exact .inl rfl
  ·have := (List.perm_cons p).1 (h.trans (List.Perm.swap p a []))
   rw [List.perm_singleton] at this
   injection this with this
   subst this
   exact .inr rfl
theorem wish_kill {S : St} {o k : Nat} {q : Int} {v : V} (h : WishAt (S.kill k) o q v) : WishAt S o q v := by
 obtain ⟨cs, r, es, c, h1, h2, h3, h4⟩ := h.at_
 have hk : ∀ j x, (S.kill k).hp j = some x → S.hp j = some x := fun j x hx => by
  have hx : (if j = k then none else S.hp j) = some x := hx
  split at hx
  ·cases hx
  ·exact hx
 refine ⟨cs, r, es, c, ?_, h2, hk _ _ h3, h4⟩
 unfold St.cells at h1 ⊢
 split at h1
 ·rename_i cs' he
  rw [hk _ _ he]
  exact h1
 ·cases h1
theorem sorted_kill {S S' : St} {lo hi : Int} {it : AObj} (hn : S'.n = S.n + 3) (hp : ∀ k, S'.hp k = if k = S.n then some it else if k = S.n + 1 then none else if k = S.n + 2 then some (.cells [.int .u64 lo, .int .u64 hi]) else S.hp k) : S'.kill S.n = sortedS S lo hi := by
 unfold St.kill sortedS St.add
 congr 1
 funext k
 show (if k = S.n then none else S'.hp k) = if k = (S.skips 2).n then _ else (S.skips 2).hp k
 rw [hp, St.skips_n, St.skips_hp]
 by_cases h : k = S.n
 ·rw [if_pos h, if_neg (by omega), if_pos (by omega)]
 ·rw [if_neg h, if_neg h]
  by_cases h1 : k = S.n + 1
  ·rw [if_pos h1, if_neg (by omega), if_pos (by omega)]
  ·rw [if_neg h1]
   by_cases h2 : k = S.n + 2
   ·rw [if_pos h2, if_pos h2]
   ·rw [if_neg h2, if_neg h2, if_neg (by omega)]
theorem tick_x {w0 : World} {fr : Fr} {S : St} {Q : V → St → Prop} {QQ : CPost} {o r c : Nat} {a b lo hi : Int} {es : List (V × V × Nat)} {cs : List V} (f0 : fr 0 = .ptr (some (o, 0))) (on : o < S.n) (ho : S.cells o = some cs) (h14 : (cs.drop 14).head? = some (.map (some r))) (hrn : r < S.n)
  (hr : S.hp r = some (.map es c)) (hks : es.map (·.1) = [a, b].map (V.int .u64)) (hb : (es.map (·.2.2)).Nodup) (hc : ∀ e ∈ es, e.2.2 < c) (hlh : (lo = a ∧ hi = b ∧ a < b) ∨ (lo = b ∧ hi = a ∧ b < a))
  (hQ : ∀ fr' v S', fr' 4 = v → Q v S' → QQ .ret fr' S') (h : TickTail w0 o lo hi (sortedS S lo hi) Q) : wCode (RSim Tryz.prog w0) s_node_Node_Tick_1 fr S QQ := by
 obtain ⟨ks, hkk⟩ : ∃ ks, ks = [a, b] := ⟨_, rfl⟩
 rw [← hkk] at hks
 have hn : ks.length ≤ 1000 := by rw [hkk]; simp
 unfold s_node_Node_Tick_1
 simp only [go_sem, f0, ho, h14]
 refine wi_range (by simp only [go_sem] <;> rfl) hr ?_
 simp only [go_sem]
 refine loop_rule RSim.le (k := ks.length) (fun m fr1 S1 => ∃ (seen : List Nat) (l : List Int), m = ks.length - l.length ∧ l.length ≤ ks.length ∧ TickM S r c o es ks seen l fr1 S1) ?_ ?_
 ·rintro m fr1 S1 ⟨seen, l, rfl, hl, hP⟩
  have f7 := hP.f7
  have f91 := hP.f91
  have g0 := hP.f0
  have hit : S1.hp S.n = some (.iter (some r) c seen c) := by rw [hP.hp, if_pos rfl]
  have hr1 : S1.hp r = some (.map es c) := by rw [hP.hp, if_neg (by omega), if_neg (by omega), if_neg (by omega)]; exact hr
  unfold l_node_Node_Tick_2
  simp only [wc_seq, wc_reg]
  refine wi_next (by show fr1 91 = _; exact f91) hit hr1 hc (fun hall => ?_) (fun e he hne => ?_)
  ·simp only [go_sem]
   refine wc_ite (b := false) (by simp only [go_sem] <;> rfl) (fun h => by cases h) (fun _ => ?_)
   simp only [go_sem, f7]
   have hfil : (es.filter fun e => !seen.contains e.2.2) = [] := by
    rw [List.filter_eq_nil_iff]
    intro e he
    have := List.all_eq_true.1 hall e he
    simp at this
    simp [this]
   have hperm : l.Perm ks := by
    obtain ⟨rest, h2, h3⟩ := hP.perm
    rw [hfil] at h2
    have : rest = [] := by simpa using h2.symm
    subst this
    simpa using h3
   have fin : ∀ (S' : St) (fr' : Fr), S'.n = S.n + 3 → (∀ k, S'.hp k = if k = S.n then some (.iter (some r) c seen c) else if k = S.n + 1 then none else if k = S.n + 2 then some (.cells [.int .u64 lo, .int .u64 hi]) else S.hp k) → fr' 0 = .ptr (some (o, 0)) → fr' 102 = .msl (S.n + 2) 0 2 1 → fr' 103 = .int .i64 2 → fr' 104 = .int .i64 0 →
     wCode (RSim Tryz.prog w0) (.loop l_node_Node_Tick_3) fr' S' (blkQ 6 (seqQ (RSim Tryz.prog w0) s_node_Node_Tick_0 QQ)) := fun S' fr' hn' hp' e0 e102 e103 e104 => by
    have ek := sorted_kill hn' hp'
    refine tick_rest (i := S.n) (Q := Q) e0 e102 e103 e104 (lo := lo) (hi := hi) ?_ ?_ (fun v => wish_kill) hQ ?_
    ·unfold St.cells
     rw [hp', if_neg (by omega), if_neg (by omega), if_pos rfl]
    ·rw [ek]
     show S.n + 2 = (S.skips 2).n + 1 - 1
     rw [St.skips_n]; rfl
    ·rw [ek]; exact h
   have c2 : (((2 : Nat)) : Int) = 2 := rfl
   have hpp := hP.hp
   have hnn := hP.n
   rw [hkk] at hperm
   have key : ∀ p q : Int, l = [p, q] → (¬ q < p → lo = p ∧ hi = q) → (q < p → lo = q ∧ hi = p) → wItems (RSim Tryz.prog w0) [.run ⟨some 101, none, .e (.call 42 [.t 100])⟩] (((fr1.put (some 92) (.tup [.bool false])).put (some 93) (.bool false)).put (some 100) (if l = [] then .sl [] 0 1 .nil else .msl (S.n + l.length) 0 l.length 1)) S1
     (seqQ (RSim Tryz.prog w0) (((Cd.reg [] [.run ⟨some 102, none, .f (.mv (.t 7))⟩, .run ⟨some 103, none, .f (.len .sl (.t 102))⟩, .run ⟨some 104, none, .f (.mv (.c (.int .i64 0)))⟩]).seq (Cd.blk 6 l_node_Node_Tick_3.loop)).seq s_node_Node_Tick_0) QQ .normal) fun v S' => QQ (.panic v) ((fr1.put (some 92) (.tup [.bool false])).put (some 93) (.bool false)) S' := by
    intro p q hl2 hA hB
    subst hl2
    simp only [List.cons_ne_nil, reduceCtorEq, if_false, ↓reduceIte, List.length_cons, List.length_nil, Nat.zero_add, Nat.reduceAdd, List.map_cons, List.map_nil] at f7 hpp hnn ⊢
    refine wi_call ?_
    simp only [go_sem]
    refine sort2_runs (a := p) (b := q) (o := S.n + 2) ?_ (fun hh => ?_) fun hh => ?_
    ·unfold St.cells
     rw [hpp, if_neg (by omega), if_neg (by omega), if_pos rfl]
    ·obtain ⟨rfl, rfl⟩ := hA hh
     simp only [go_sem, f7, c2]
     refine fin _ _ (by omega) (fun k => ?_) (by simp only [go_sem]; exact g0) (by simp only [go_sem]) (by simp only [go_sem]) (by simp only [go_sem])
     rw [hpp]
     by_cases h1 : k = S.n
     ·rw [if_pos h1, if_pos h1]
     ·rw [if_neg h1, if_neg h1]
      by_cases h2 : k = S.n + 1
      ·rw [if_pos (by omega), if_pos h2]
      ·rw [if_neg (by omega), if_neg h2]
    ·obtain ⟨rfl, rfl⟩ := hB hh
     simp only [go_sem, f7, c2]
     refine fin _ _ (by show S1.n = _; omega) (fun k => ?_) (by simp only [go_sem]; exact g0) (by simp only [go_sem]) (by simp only [go_sem]) (by simp only [go_sem])
     show (if k = S.n + 2 then _ else S1.hp k) = _
     rw [hpp]
     by_cases h1 : k = S.n
     ·rw [if_neg (by omega), if_pos h1, if_pos h1]
     ·rw [if_neg h1, if_neg h1]
      by_cases h2 : k = S.n + 1
      ·rw [if_neg (by omega), if_pos (by omega), if_pos h2]
      ·rw [if_neg h2]
       by_cases h3 : k = S.n + 2
       ·rw [if_pos h3, if_pos h3]
       ·rw [if_neg h3, if_neg (by omega), if_neg h3, if_neg h3]
   rcases perm_two hperm with e | e
   ·exact key a b e (fun hh => by omega) fun hh => by omega
   ·exact key b a e (fun hh => by omega) fun hh => by omega
  ·have hf := entry_find he hb
   obtain ⟨p, hp⟩ : ∃ p, e.1 = V.int .u64 p := by
    have h2 : e.1 ∈ es.map (·.1) := List.mem_map.2 ⟨e, he, rfl⟩
    rw [hks] at h2
    obtain ⟨p, _, h3⟩ := List.mem_map.1 h2
    exact ⟨p, h3.symm⟩
   have hrs : (r = S.n) = False := eq_false (by omega)
   simp only [go_sem]
   refine wc_ite (b := true) (by simp only [go_sem] <;> rfl) (fun _ => ?_) (fun h => by cases h)
   simp only [go_sem, f91, hrs, hr1, hf, hp, List.getLast?_append, List.getLast?_singleton, Option.some_or, Option.bind_some, Option.map_some]
   obtain ⟨rest, h2, h3⟩ := hP.perm
   have hints : ∀ x ∈ es, ∃ p, x.1 = V.int .u64 p := fun x hx => by
    have h2 : x.1 ∈ es.map (·.1) := List.mem_map.2 ⟨x, hx, rfl⟩
    rw [hks] at h2
    obtain ⟨p, _, h3⟩ := List.mem_map.1 h2
    exact ⟨p, h3.symm⟩
   have h4 := ((seen_more he hb hne).map (·.1)).map toI
   rw [h2, toU_ints, List.map_cons, List.map_cons, hp] at h4
   have h5 : (l ++ [p] ++ ((es.filter fun y => !(seen ++ [e.2.2]).contains y.2.2).map (·.1)).map toI).Perm ks := by
    rw [List.append_assoc]
    exact ((List.Perm.append_left l h4).symm).trans h3
   have hl2 : l.length + 1 ≤ ks.length := by
    have := h5.length_eq
    simp only [List.length_append, List.length_cons, List.length_nil] at this
    omega
   refine wi_append1 (l := l.map (V.int .u64)) (y := V.int .u64 p) (o := S.n + l.length) ?_ (fun hl0 => ?_) ?_ ?_ ?_
   ·simp only [go_sem]
    rw [f7]
    simp
   ·unfold St.cells
    have hpos : 0 < l.length := by
     rcases l with _ | _
     ·exact absurd rfl hl0
     ·exact Nat.succ_pos _
    show (match (if S.n + l.length = S.n then _ else S1.hp (S.n + l.length)) with | some (.cells cs) => some cs | _ => none) = _
    rw [if_neg (by omega), hP.hp, if_neg (by omega), if_neg (by omega), if_pos rfl]
   ·simp only [go_sem] <;> rfl
   ·unfold roomOk
    simp
    omega
   ·simp only [go_sem]
    refine ⟨ks.length - (l ++ [p]).length, ?_, seen ++ [e.2.2], l ++ [p], rfl, ?_, ?_⟩
    ·rw [List.length_append]; simp only [List.length_cons, List.length_nil]; omega
    ·rw [List.length_append]; exact hl2
    ·have hSn : (if l.map (V.int .u64) = [] then S1.set S.n (.iter (some r) c (seen ++ [e.2.2]) c) else (S1.set S.n (.iter (some r) c (seen ++ [e.2.2]) c)).kill (S.n + l.length)).n = S1.n := by split <;> rfl
     have hn1 := hP.n
     refine ⟨?_, ?_, fun i => ?_, ⟨_, intsU_of (es := es.filter fun y => !(seen ++ [e.2.2]).contains y.2.2) fun x hx => hints x (List.mem_filter.1 hx).1, h5⟩, ?_, ?_, ?_⟩
     ·rw [List.length_append, List.length_append, hP.len]; rfl
     ·show (if l.map (V.int .u64) = [] then _ else _ : St).n + 1 = _
      rw [hSn, hn1, List.length_append]; rfl
     ·show (if i = (if l.map (V.int .u64) = [] then _ else _ : St).n then some (AObj.cells (l.map (V.int .u64) ++ [V.int .u64 p])) else (if l.map (V.int .u64) = [] then _ else _ : St).hp i) = _
      rw [hSn, hn1, List.length_append, List.length_singleton, List.map_append, List.map_cons, List.map_nil]
      by_cases a1 : i = S.n + 1 + l.length
      ·rw [if_pos a1, if_neg (by omega), if_neg (by omega), if_pos (by omega)]
      ·rw [if_neg a1]
       by_cases a2 : l = []
       ·subst a2
        simp only [List.length_nil, List.map_nil, ↓reduceIte, Nat.add_zero] at a1 ⊢
        show (if i = S.n then _ else S1.hp i) = _
        by_cases a3 : i = S.n
        ·rw [if_pos a3, if_pos a3]
        ·rw [if_neg a3, if_neg a3, hP.hp, if_neg a3, if_neg (by simp only [List.length_nil]; omega), if_neg (by simpa using a3), if_neg (by omega), if_neg (by omega)]
       ·have a4 : 0 < l.length := List.length_pos_iff.2 a2
        have a5 : ¬ l.map (V.int .u64) = [] := by simpa using a2
        rw [if_neg a5]
        show (if i = S.n + l.length then none else if i = S.n then _ else S1.hp i) = _
        by_cases a3 : i = S.n
        ·rw [if_neg (by omega), if_pos a3, if_pos a3]
        ·rw [if_neg a3, if_neg a3, hP.hp, if_neg a3]
         by_cases a6 : i = S.n + l.length
         ·rw [if_pos a6, if_pos (by omega)]
         ·simp only [if_neg a6]
          by_cases a7 : S.n < i ∧ i < S.n + l.length
          ·rw [if_pos a7, if_pos (by omega)]
          ·rw [if_neg a7, if_neg (by omega), if_neg (by omega)]
     ·simp only [go_sem, List.append_eq_nil_iff, List.cons_ne_self, and_false, if_false, List.length_append, List.length_singleton, List.length_map, hn1, St.set]
      rw [show S.n + 1 + l.length = S.n + (l.length + 1) by omega]
     ·simp only [go_sem]
      exact f91
     ·simp only [go_sem]
      exact g0
 ·refine ⟨[], [], rfl, Nat.zero_le _, rfl, rfl, fun i => ?_, ⟨ks, ?_, List.Perm.refl _⟩, by simp only [go_sem] <;> rfl, by simp only [go_sem] <;> rfl, by simp only [go_sem]; exact f0⟩
  ·show (if i = S.n then _ else _) = _
   by_cases h : i = S.n
   ·rw [if_pos h, if_pos h]
   ·rw [if_neg h, if_neg h, if_neg (by simp only [List.length_nil]; omega), if_neg (by simpa using h)]
  ·rw [List.filter_eq_self.2 (by simp), hks]
end Go.VM
namespace Go.VM
open Go Go.RowKit Go.Proofs
def tailC : Nat → Cd → Cd
 | 0, c => c
 | d + 1, .seq _ b => tailC d b
 | _ + 1, _ => .stuck
noncomputable def zCut : Nat → Cd → CF → CF
 | 0, _, X => X
 | d + 1, .seq a b, X => seqZ a (zC a) (zCut d b X)
 | _ + 1, _, _ => ⟨fun _ _ _ _ => false⟩
theorem zCut_ok {P : Program} {w0 : World} {call : CallX} (hc : CallOk (RSim P w0) call) {kd : KD} {Q : CPost} {X : CF} (hk : ∀ e fr' S', kd e fr' S' = true → Q e.out fr'.den S'.st) : ∀ (d : Nat) (c : Cd), (∀ fr S, X.f call fr S kd = true → wCode (RSim P w0) (tailC d c) fr.den S.st Q) →
  ∀ fr S, (zCut d c X).f call fr S kd = true → wCode (RSim P w0) c fr.den S.st Q
 | 0, c, hX, fr, S, h => hX fr S h
 | d + 1, .seq a b, hX, fr, S, h => by
  have ihb := zCut_ok hc hk d b hX
  simp only [wCode]
  refine seqZ_ok (P := P) (w0 := w0) hc h (fun h' => ?_) fun items fr' S' h2 => ihb fr' S' h2
  refine zC_sound (P := P) (w0 := w0) a call hc fr S _ _ h' fun e fr' S' h2 => ?_
  rcases thenR_cases h2 with ⟨rfl, h2⟩ | ⟨hn, h2⟩
  ·exact ihb _ _ h2
  ·cases e with
   | normal => exact absurd rfl hn
   | exit i => exact hk _ _ _ h2
   | ret => exact hk _ _ _ h2
 | _ + 1, .skip, hX, fr, S, h => by cases h
 | _ + 1, .reg _ _, hX, fr, S, h => by cases h
 | _ + 1, .ite _ _ _, hX, fr, S, h => by cases h
 | _ + 1, .blk _ _, hX, fr, S, h => by cases h
 | _ + 1, .loop _, hX, fr, S, h => by cases h
 | _ + 1, .exit _, hX, fr, S, h => by cases h
 | _ + 1, .ret, hX, fr, S, h => by cases h
 | _ + 1, .alt _ _ _ _, hX, fr, S, h => by cases h
 | _ + 1, .stuck, hX, fr, S, h => by cases h
noncomputable def wishZ (S : CSt) (o : Nat) (q : Int) (k : V → Bool) : Bool := cellsK S o fun cs => nthL 14 cs fun m => match m with
 | .map (some r) => match S.hp.get r with
  | some (.map es _) => match findE .int (.int .u64 q) es 0 with
   | some (some (_, v)) => k v
   | _ => false
  | _ => false
 | _ => false
theorem wishZ_ok {S : CSt} {o : Nat} {q : Int} {k : V → Bool} (h : wishZ S o q k = true) : ∃ v, WishAt S.st o q v ∧ k v = true := by
 obtain ⟨cs, h1, h2, h⟩ := cellsK_ok h
 obtain ⟨m, h3, h4, h⟩ := nthL_ok h
 split at h
 ·rename_i r
  split at h
  ·rename_i es c hr
   split at h
   ·rename_i i v hf
    exact ⟨v, ⟨cs, r, es, c, h2, h4, hr, i, hf⟩, h⟩
   ·cases h
  ·cases h
 ·cases h
def unitZ (v : V) (b : Bool) : Bool := match v with
 | .tup [] => b
 | _ => false
theorem unitZ_ok {v : V} {b : Bool} (h : unitZ v b = true) : v = .tup [] ∧ b = true := by
 unfold unitZ at h
 split at h
 ·exact ⟨rfl, h⟩
 ·cases h
noncomputable def secondZ (hi : Int) (cs : List V) (b : Bool) : Bool := match cs with
 | [_, .int .u64 p] => cnd (decide (p = hi)) b false
 | _ => false
theorem secondZ_ok {hi : Int} {cs : List V} {b : Bool} (h : secondZ hi cs b = true) : (∃ x, cs = [x, .int .u64 hi]) ∧ b = true := by
 unfold secondZ at h
 split at h
 ·obtain ⟨h1, h2⟩ := cond_f h
  obtain rfl := of_decide_eq_true h1
  exact ⟨⟨_, rfl⟩, h2⟩
 ·cases h
noncomputable def tailZ (call : CallX) (o : Nat) (lo hi : Int) (S2 : CSt) (k : KX) : Bool :=
 wishZ S2 o lo fun v1 => call 43 [.ptr (some (o, 0)), .int .u64 lo, v1] S2 fun e S3 => unitZ e (cellsK S3 (Nat.pred S2.n) fun cs => secondZ hi cs (
  wishZ S3 o hi fun v2 => call 43 [.ptr (some (o, 0)), .int .u64 hi, v2] S3 fun e S4 => unitZ e (call 29 [.ptr (some (o, 0))] S4 fun e S5 => unitZ e (cellsK S5 o fun cs => nthL 19 cs fun v => k v S5))))
theorem tailZ_ok {w0 : World} {call : CallX} (hc : CallOk (RSim Tryz.prog w0) call) {o : Nat} {lo hi : Int} {S2 : CSt} {k : KX} {Q : V → St → Prop} (h : tailZ call o lo hi S2 k = true) (hk : ∀ v S', k v S' = true → Q v S'.st) : TickTail w0 o lo hi S2.st Q := by
 obtain ⟨v1, hw1, a1⟩ := wishZ_ok h
 refine ⟨v1, hw1, hc _ _ _ _ _ a1 fun e S3 a2 => ?_⟩
 obtain ⟨e1, a3⟩ := unitZ_ok a2
 obtain ⟨cs, _, h2, a4⟩ := cellsK_ok a3
 obtain ⟨⟨x, e2⟩, a5⟩ := secondZ_ok a4
 obtain ⟨v2, hw2, a6⟩ := wishZ_ok a5
 rw [e2] at h2
 refine ⟨by rw [e1], ⟨x, h2⟩, v2, hw2, hc _ _ _ _ _ a6 fun e S4 a7 => ?_⟩
 obtain ⟨e3, a8⟩ := unitZ_ok a7
 refine ⟨by rw [e3], hc _ _ _ _ _ a8 fun e S5 a9 => ?_⟩
 obtain ⟨e4, b1⟩ := unitZ_ok a9
 obtain ⟨cs, _, h2, b2⟩ := cellsK_ok b1
 obtain ⟨v, _, h4, b3⟩ := nthL_ok b2
 exact ⟨by rw [e4], cs, v, h2, h4, hk _ _ b3⟩
def sortC (S : CSt) (lo hi : Int) : CSt := (S.skips 2).add (.cells [.int .u64 lo, .int .u64 hi])
theorem sortC_st {S : CSt} {lo hi : Int} (h : small (S.n + 2) = true) : (sortC S lo hi).st = sortedS S.st lo hi := by
 unfold sortC sortedS
 rw [CSt.add_st (by rw [CSt.skips_n]; exact h), CSt.skips_st h]
def okT (S : CSt) (o r c i j : Nat) : Bool := Nat.blt o S.n && (Nat.blt r S.n && (!(Nat.beq i j) && (Nat.blt i c && (Nat.blt j c && small (S.n + 2)))))
noncomputable def twoZ (call : CallX) (S : CSt) (o r : Nat) (m : Option AObj) (k : KX) (alt : Bool) : Bool := match m with
 | some (.map [(.int .u64 a, _, i), (.int .u64 b, _, j)] c) => cnd (okT S o r c i j) (cnd (decide (a < b)) (tailZ call o a b (sortC S a b) k) (cnd (decide (b < a)) (tailZ call o b a (sortC S b a) k) false)) false
 | _ => alt
noncomputable def tickX : CF := ⟨fun call fr S kd => match (zA (.t 0)).f fr with
 | .ptr (some (o, 0)) => cellsK S o fun cs => nthL 14 cs fun m => match m with
  | .map (some r) => twoZ call S o r (S.hp.get r) (fun v S' => kd .ret ((zSet 4).f v fr) S') ((zC s_node_Node_Tick_1).f call fr S kd)
  | _ => false
 | _ => false⟩
noncomputable def tickN (call : CallX) : List V → CSt → KX → Bool := fun args S k => cnd (Nat.ble (lenL args) 124) ((zCut 7 b_node_Node_Tick tickX).f call (frameZ args 0 F8.nil) S (endZ [.tmp 4] k)) false
abbrev tickFn : FnC := ⟨b_node_Node_Tick, [.tmp 4], 124⟩
theorem endZ_ok {k : KX} {Q : AEnd → St → Prop} (hk : ∀ v S', k v S' = true → Q (.ret v) S'.st) : ∀ e fr' S', endZ [.tmp 4] k e fr' S' = true → bodyN tickFn Q e.out fr'.den S'.st := by
 intro e fr' S' he
 have key : (zRes [.tmp 4]).f fr' S' k = true → (match readRes fr'.den S'.st [.tmp 4] with | some v => Q (.ret v) S'.st | none => False) := fun h => by
  obtain ⟨v, hv, h4⟩ := zRes_sound h
  rw [hv]; exact hk _ _ h4
 cases e with
 | exit i => cases he
 | normal => exact key he
 | ret => exact key he
theorem tickX_ok {w0 : World} {call : CallX} (hc : CallOk (RSim Tryz.prog w0) call) {k : KX} {Q : AEnd → St → Prop} (hk : ∀ v S', k v S' = true → Q (.ret v) S'.st) (fr : F8) (S : CSt) (h : tickX.f call fr S (endZ [.tmp 4] k) = true) : wCode (RSim Tryz.prog w0) s_node_Node_Tick_1 fr.den S.st (bodyN tickFn Q) := by
 have h' : (match (zA (.t 0)).f fr with
  | .ptr (some (o, 0)) => cellsK S o fun cs => nthL 14 cs fun m => match m with
   | .map (some r) => twoZ call S o r (S.hp.get r) (fun v S' => endZ [.tmp 4] k .ret ((zSet 4).f v fr) S') ((zC s_node_Node_Tick_1).f call fr S (endZ [.tmp 4] k))
   | _ => false
  | _ => false) = true := h
 rw [zA_eq] at h'
 split at h'
 ·rename_i o f0
  obtain ⟨cs, h1, h2, h'⟩ := cellsK_ok h'
  obtain ⟨m, h3, h4, h'⟩ := nthL_ok h'
  split at h'
  ·rename_i r
   unfold twoZ at h'
   split at h'
   ·rename_i a x i b y j c hr
    obtain ⟨h5, h'⟩ := cond_f h'
    unfold okT at h5
    simp only [Bool.and_eq_true, Bool.not_eq_true'] at h5
    obtain ⟨b1, b2, b3, b4, b5, b6⟩ := h5
    have hij : i ≠ j := fun e => by subst e; rw [Nat.beq_refl] at b3; cases b3
    have kk : ∀ v S', (fun v S' => endZ [.tmp 4] k .ret ((zSet 4).f v fr) S') v S' = true → Q (.ret v) S'.st := fun v S' h => by
     have h : (zA (.t 4)).f ((zSet 4).f v fr) = (zA (.t 4)).f ((zSet 4).f v fr) ∧ k ((zA (.t 4)).f ((zSet 4).f v fr)) S' = true := ⟨rfl, h⟩
     have e : (zA (.t 4)).f ((zSet 4).f v fr) = v := by
      rw [zA_eq, F8.set_den (by decide)]
      rfl
     rw [e] at h
     exact hk _ _ h.2
    have gen : ∀ lo hi : Int, ((lo = a ∧ hi = b ∧ a < b) ∨ (lo = b ∧ hi = a ∧ b < a)) → tailZ call o lo hi (sortC S lo hi) (fun v S' => endZ [.tmp 4] k .ret ((zSet 4).f v fr) S') = true → wCode (RSim Tryz.prog w0) s_node_Node_Tick_1 fr.den S.st (bodyN tickFn Q) := fun lo hi hlh ht => by
     have hT := tailZ_ok hc ht kk
     rw [sortC_st b6] at hT
     refine tick_x (Q := fun v S' => Q (.ret v) S') f0 (blt_n b1) h2 h4 (blt_n b2) hr (by simp) (by simp [hij]) (fun e he => ?_) hlh (fun fr' v S' e hq => ?_) hT
     ·simp only [List.mem_cons, List.not_mem_nil, or_false] at he
      rcases he with rfl | rfl
      ·exact blt_n b4
      ·exact blt_n b5
     ·show (match readRes fr' S' [.tmp 4] with | some v => Q (.ret v) S' | none => False)
      have : readRes fr' S' [.tmp 4] = some (fr' 4) := rfl
      rw [this, e]
      exact hq
    cases hd : decide (a < b) with
    | true =>
     rw [hd] at h'
     exact gen a b (.inl ⟨rfl, rfl, of_decide_eq_true hd⟩) h'
    | false =>
     rw [hd] at h'
     obtain ⟨h6, h'⟩ := cond_f (show cnd _ _ false = true from h')
     exact gen b a (.inr ⟨rfl, rfl, of_decide_eq_true h6⟩) h'
   ·exact zC_sound (P := Tryz.prog) (w0 := w0) s_node_Node_Tick_1 call hc fr S _ _ h' (endZ_ok hk)
  ·cases h'
 ·cases h'
theorem tickN_ok {w0 : World} {call : CallX} (hc : CallOk (RSim Tryz.prog w0) call) {args : List V} {S : CSt} {k : KX} {Q : AEnd → St → Prop} (h : tickN call args S k = true) (hk : ∀ v S', k v S' = true → Q (.ret v) S'.st) : RSim Tryz.prog w0 n_node_Node_Tick args S.st Q := by
 obtain ⟨h1, h⟩ := cond_f h
 rw [lenL_eq] at h1
 have hl := ble_n h1
 refine FnOk.chk mixed k_node_Node_Tick _ _ _ _ hl ?_
 rw [← frameZ_frame0 (by omega)]
 exact zCut_ok hc (endZ_ok hk) 7 b_node_Node_Tick (fun fr S h => tickX_ok hc hk fr S h) _ _ h
end Go.VM
namespace Go.VM
open Go Go.RowKit Go.Proofs
def bit0 (b : Bool) : Int := if b then 1 else 0
def bit1 (b : Bool) : Int := if b then 2 else 0
def bits2 (a b : Bool) : UInt8 := (if a then 1 else 0) + (if b then 2 else 0)
theorem bits2_or : ∀ a b : Bool, bitsV .or .u8 (bit0 a) (bit1 b) = some (((bits2 a b).toNat : Nat) : Int) := by decide
theorem bit0_runs {w0 : World} {S : St} {Q : AEnd → St → Prop} {b : Bool} (hQ : Q (.ret (.int .u8 (bit0 b))) S) : RSim Tryz.prog w0 n_node_bit [.bool b, .int .i64 0] S Q := by
 cases b
 ·refine RSim.run mixed k_node_bit ?_ (by simp)
  simp only [b_node_bit, go_sem]
  exact hQ
 ·have e : IntKind.u8.wrap (1 * 2 ^ (min (Int.toNat 0) 8)) = 1 := by decide
  refine RSim.run mixed k_node_bit ?_ (by simp)
  simp only [b_node_bit, go_sem, e]
  exact hQ
theorem bit1_runs {w0 : World} {S : St} {Q : AEnd → St → Prop} {b : Bool} (hQ : Q (.ret (.int .u8 (bit1 b))) S) : RSim Tryz.prog w0 n_node_bit [.bool b, .int .i64 1] S Q := by
 cases b
 ·refine RSim.run mixed k_node_bit ?_ (by simp)
  simp only [b_node_bit, go_sem]
  exact hQ
 ·have e : IntKind.u8.wrap (1 * 2 ^ (min (Int.toNat 1) 8)) = 2 := by decide
  refine RSim.run mixed k_node_bit ?_ (by simp)
  simp only [b_node_bit, go_sem, e]
  exact hQ
structure MsgF where
 kind : UInt8
 any : Bool
 spot : Bool
 shard : UInt8
 req : Nat
 term : Nat
 n : Nat
 e : Nat
 limit : Nat
 time : Int
 id : List UInt8
 query : List UInt8
structure MsgF.Ok (m : MsgF) : Prop where
 req : m.req < 18446744073709551616
 term : m.term < 18446744073709551616
 n : m.n < 9223372036854775808
 e : m.e < 9223372036854775808
 limit : m.limit < 9223372036854775808
 lo : -9223372036854775808 ≤ m.time
 hi : m.time < 9223372036854775808
 id : m.id.length ≤ 1000000000000
 query : m.query.length ≤ 1000000000000
def MsgF.v (m : MsgF) (ops : V) : List V := [.int .u8 m.kind.toNat, .bool m.any, .bool m.spot, .int .i64 m.shard.toNat, .int .u64 m.req, .int .u64 m.term, .int .i64 m.n, .int .i64 m.e, .int .i64 m.limit, .int .i64 m.time, .str (mkS m.id), .str (mkS m.query), ops]
theorem msg_loop0 {w0 : World} {fr : Fr} {S S1 : St} {K : CPost} {L : List V} {t39 : Tok} {v : V} {bs : List UInt8} {vs : List Nat} (f1 : fr 1 = .ptr (some (S.n, 0))) (f3 : fr 3 = v) (f39 : fr 39 = .sl (vs.map fun x => .int .u64 (x : Nat)) 6 1 t39) (f40 : fr 40 = .int .i64 6) (f41 : fr 41 = .int .i64 0) (htt : (t39 = .nil) = False) (hl : vs.length = 6) (hvs : ∀ x ∈ vs, x < 18446744073709551616)
  (hb : BT S S1 v bs) (hbs : bs.length ≤ 3) (k1 : Keeps (fun _ => False) S S1) (c1 : S1.cells S.n = some L) (l1 : S.n < S1.n)
  (hK : ∀ fr' S' v' bs', fr' 1 = fr 1 → fr' 3 = v' → BT S S' v' bs' → bs'.length ≤ 100 → Keeps (fun _ => False) S S' → S'.cells S.n = some L → S.n < S'.n → K .normal fr' S') : wCode (RSim Tryz.prog w0) (.loop l_node_message_encode_0) fr S1 (blkQ 0 K) := by
 refine loop_rule RSim.le (k := 6) (fun m fr1 S2 => ∃ (j : Nat) (v' : V) (bs' : List UInt8), m = 6 - j ∧ j ≤ 6 ∧ fr1 1 = fr 1 ∧ fr1 3 = v' ∧ fr1 39 = fr 39 ∧ fr1 40 = fr 40 ∧ fr1 41 = .int .i64 j ∧ BT S S2 v' bs' ∧ bs'.length ≤ 3 + 10 * j ∧ Keeps (fun _ => False) S S2 ∧ S2.cells S.n = some L ∧ S.n < S2.n) ?_
  ⟨0, v, bs, rfl, by omega, rfl, f3, rfl, rfl, f41, hb, by omega, k1, c1, l1⟩
 rintro m fr1 S2 ⟨j, v', bs', hm, hj, g1, g3, g39, g40, g41, hb', hbs', k2, c2, l2⟩
 rw [f39] at g39
 rw [f40] at g40
 simp only [l_node_message_encode_0, go_sem, g40, g41]
 refine wc_ite (b := decide ((j : Int) < 6)) (by simp only [go_sem]) (fun hc => ?_) (fun hc => ?_)
 ·have hjl : j < 6 := by have := of_decide_eq_true hc; omega
  have hjt : (j < 6) = True := eq_true hjl
  have w1 : IntKind.i64.wrap ((j : Int) + 1) = ((j + 1 : Nat) : Int) := by rw [w64 (by omega) (by omega)]; omega
  have hx : vs[j]? = some (vs[j]'(by omega)) := List.getElem?_eq_getElem (by omega)
  generalize vs[j]'(by omega) = x at hx
  have hxl := hvs x (List.mem_of_getElem? hx)
  have hd : ((vs.map fun x => V.int .u64 (x : Nat)).drop j).head? = some (.int .u64 (x : Nat)) := by
   rw [List.head?_drop, List.getElem?_map, hx]; rfl
  simp only [go_sem, g39, g41, hjt, hd, htt, Nat.mul_one, Int.toNat_natCast]
  refine wi_call ?_
  simp only [go_sem]
  refine uvarint_own hxl fun S3 v3 b3 k3 => ?_
  have hu := uvar_len10 hxl
  have c3 := k3.cells c2 l2 (fun h => h)
  have l3 := k3.lt l2
  have hb' := hb'.keep k3
  have k3 := k2.trans k3 (fun _ _ => _root_.id)
  simp only [go_sem, g3]
  refine wi_appendBT (cs := uvar x) (by simp only [go_sem]) hb' (by simp only [go_sem]; exact b3.is.elems _) (by omega) k3 fun v4 S4 k4 b4 p4 => ?_
  obtain ⟨c4, l4⟩ := p4 _ _ c3 l3
  simp only [go_sem, g41, w1]
  exact ⟨6 - (j + 1), by omega, j + 1, v4, bs' ++ uvar x, rfl, by omega, g1, rfl, g39.trans f39.symm, g40.trans f40.symm, rfl, b4, by rw [List.length_append]; omega, k4, c4, l4⟩
 ·have hje : j = 6 := by have := of_decide_eq_false hc; omega
  subst hje
  simp only [go_sem]
  exact hK _ _ _ bs' g1 g3 hb' (by omega) k2 c2 l2
theorem msg_runs {w0 : World} {S : St} {Q : AEnd → St → Prop} {m : MsgF} {ops : V} (hop : ops.one = true) (hops : (∃ sz t, ops = .sl [] 0 sz t) ∨ ∃ o : Op, o.Ok ∧ ops = .sl o.v 1 4 .cap) (hm : m.Ok) (hQ : ∀ v S', v.one = true → Q (.ret v) S') : RSim Tryz.prog w0 n_node_message_encode [.agg (m.v ops)] S Q := by
 obtain ⟨kind, any, spot, shard, req, term, n, e, limit, time, id, query⟩ := m
 obtain ⟨hr, ht, hn, he, hl, lo, hi, hid, hq⟩ := hm
 simp only [MsgF.v] at *
 have cs := Keeps.add (Keeps.refl (fun _ => False) S) (.cells [.int .u8 kind.toNat, .bool any, .bool spot, .int .i64 shard.toNat, .int .u64 req, .int .u64 term, .int .i64 n, .int .i64 e, .int .i64 limit, .int .i64 time, .str (mkS id), .str (mkS query), ops])
 have cvs : ∀ S, V.conv S (.int .u8) (.int .i64 (shard.toNat : Int)) = some (.int .u8 (shard.toNat : Int)) := fun S => by
  have := shard.toNat_lt
  simp only [V.conv, wu8 (show (0 : Int) ≤ (shard.toNat : Int) by omega) (by omega)]
 have cvn : ∀ (x : Nat), x < 9223372036854775808 → ∀ S, V.conv S (.int .u64) (.int .i64 (x : Int)) = some (.int .u64 (x : Int)) := fun x hx S => by
  simp only [V.conv, wu64 (show (0 : Int) ≤ (x : Int) by omega) (show (x : Int) < 18446744073709551616 by omega)]
 have cn := cvn n hn
 have ce := cvn e he
 have cl := cvn limit hl
 have c0 : (S.add (.cells [.int .u8 kind.toNat, .bool any, .bool spot, .int .i64 shard.toNat, .int .u64 req, .int .u64 term, .int .i64 n, .int .i64 e, .int .i64 limit, .int .i64 time, .str (mkS id), .str (mkS query), ops])).cells S.n = some [.int .u8 kind.toNat, .bool any, .bool spot, .int .i64 shard.toNat, .int .u64 req, .int .u64 term, .int .i64 n, .int .i64 e, .int .i64 limit, .int .i64 time, .str (mkS id), .str (mkS query), ops] := by rw [cells_addc, if_pos rfl]
 have l0 : S.n < (S.add (.cells [.int .u8 kind.toNat, .bool any, .bool spot, .int .i64 shard.toNat, .int .u64 req, .int .u64 term, .int .i64 n, .int .i64 e, .int .i64 limit, .int .i64 time, .str (mkS id), .str (mkS query), ops])).n := by rw [St.add_n]; omega
 refine RSim.run mixed k_node_message_encode ?_ (by simp)
 simp only [b_node_message_encode, go_sem]
 refine ⟨hop, ?_⟩
 generalize S.add (.cells [.int .u8 kind.toNat, .bool any, .bool spot, .int .i64 shard.toNat, .int .u64 req, .int .u64 term, .int .i64 n, .int .i64 e, .int .i64 limit, .int .i64 time, .str (mkS id), .str (mkS query), ops]) = S0 at *
 simp only [go_sem, cvs]
 refine wi_call ?_
 simp only [go_sem]
 refine bit0_runs ?_
 simp only [go_sem, c0]
 refine wi_call ?_
 simp only [go_sem]
 refine bit1_runs ?_
 simp only [go_sem, bits2_or, c0, cn, ce, cl]
 refine wi_call ?_
 simp only [go_sem]
 refine zig_runs lo hi ?_
 simp only [go_sem, c0]
 refine msg_loop0 (S := S) (bs := [kind, bits2 any spot, shard]) (vs := [req, term, n, e, limit, zigN time]) (by simp only [go_sem]) rfl (by simp only [go_sem]; rfl) (by simp only [go_sem]; rfl) (by simp only [go_sem]) (by simp) rfl (fun x hx => ?_) ?_ (by simp) cs c0 l0 fun fr' S1 v1 bs1 g1 g3 b1 hl1 k1 c1 l1 => ?_
 ·simp only [List.mem_cons, List.not_mem_nil, or_false] at hx
  have := zig_lt lo hi
  rcases hx with rfl | rfl | rfl | rfl | rfl | rfl <;> omega
 ·simp only [go_sem]
  exact ⟨.cap, rfl, trivial, fun h => (by cases h), fun j h => (by cases h)⟩
 ·simp only [go_sem] at g1
  simp only [go_sem, s_node_message_encode_0, g1, g3, c1]
  refine wi_call ?_
  simp only [go_sem]
  refine text_runs (s := id) (by omega) fun S2 v2 b2 k2 => ?_
  have c2 := k2.cells c1 l1 (fun h => h)
  have l2 := k2.lt l1
  have b1 := b1.keep k2
  have k2 := k1.trans k2 (fun _ _ => _root_.id)
  have u1 := uvar_len10 (v := id.length) (by omega)
  have u2 := uvar_len10 (v := query.length) (by omega)
  simp only [go_sem, c2]
  refine wi_appendBT (cs := textB id) (by simp only [go_sem]) b1 (by simp only [go_sem]; exact b2.is.elems _) (by rw [textB_len]; omega) k2 fun v3 S3 k3 b3 p3 => ?_
  obtain ⟨c3, l3⟩ := p3 _ _ c2 l2
  simp only [go_sem, c3]
  refine wi_call ?_
  simp only [go_sem]
  refine text_runs (s := query) (by omega) fun S4 v4 b4 k4 => ?_
  have c4 := k4.cells c3 l3 (fun h => h)
  have l4 := k4.lt l3
  have b3 := b3.keep k4
  have k4 := k3.trans k4 (fun _ _ => _root_.id)
  simp only [go_sem]
  refine wi_appendBT (cs := textB query) (by simp only [go_sem]) b3 (by simp only [go_sem]; exact b4.is.elems _) (by rw [List.length_append, textB_len, textB_len]; omega) k4 fun v5 S5 k5 b5 p5 => ?_
  obtain ⟨c5, l5⟩ := p5 _ _ c4 l4
  rcases hops with ⟨sz, tt, rfl⟩ | ⟨o, ho, rfl⟩
  ·have q1 : decide ((0 : Int) < 0) = false := by decide
   have q0 : ((0 : Nat) : Int) = 0 := rfl
   simp only [go_sem, g1, c5, q0]
   refine Loop.fold RSim.le ?_
   unfold l_node_message_encode_1
   simp only [go_sem, q1]
   refine wc_ite (b := false) (by simp only [go_sem] <;> rfl) (fun h => by cases h) (fun _ => ?_)
   simp only [go_sem]
   obtain ⟨_, rfl, _⟩ := b5
   exact hQ _ _ rfl
  ·have q1 : decide ((0 : Int) < 1) = true := by decide
   have q2 : decide ((1 : Int) < 1) = false := by decide
   have q0 : ((1 : Nat) : Int) = 1 := rfl
   have w1 : IntKind.i64.wrap (0 + 1) = 1 := by decide
   simp only [go_sem, g1, c5, q0]
   refine Loop.fold RSim.le ?_
   unfold l_node_message_encode_1
   simp only [go_sem, q1]
   refine wc_ite (b := true) (by simp only [go_sem] <;> rfl) (fun _ => ?_) (fun h => by cases h)
   have t1 : (0 < 1) = True := by decide
   have hv4 : o.v.length = 4 := rfl
   have t4 : (4 ≤ 4) = True := by decide
   have hz : o.v.all V.one = true := rfl
   have hdr : o.v.take 4 = o.v := rfl
   simp only [go_sem, t1, Int.toNat_zero, Nat.zero_mul, List.drop_zero, hv4, t4, hdr, hz, V.cells_agg]
   have kx : Keeps (fun _ => False) S5 ((S5.add (.cells [.int .u64 0, .str (mkS []), .int .i64 0, .str (mkS [])])).set S5.n (.cells o.v)) := ((Keeps.refl _ S5).add _).set (.inr (Nat.le_refl _)) _
   generalize (S5.add (.cells [.int .u64 0, .str (mkS []), .int .i64 0, .str (mkS [])])).set S5.n (.cells o.v) = Sx at *
   have b5 := b5.keep kx
   have kx := k5.trans kx (fun _ _ => _root_.id)
   refine wi_call ?_
   simp only [go_sem]
   refine encode_runs ho (fun hf S6 v6 b6 k6 => ?_) fun hf S6 k6 => ?_
   ·have hel : (encB o).length ≤ 2000 := by
     unfold Dc.form at hf
     simp only [Bool.and_eq_true, decide_eq_true_eq] at hf
     obtain ⟨_, ⟨_, h1⟩, h2⟩ := hf
     unfold encB
     rw [List.length_append, List.length_append, List.length_append, textB_len, textB_len]
     have := uvar_len10 ho.t
     have := uvar_len10 (zig_lt ho.d.lo ho.d.hi)
     have := uvar_len10 (v := o.d.id.length) (by omega)
     have := uvar_len10 (v := o.d.tx.length) (by omega)
     omega
    have cv6 : ∀ S, V.conv S .bytesStr v6 = some (.str (mkS (encB o))) := fun S => b6.is.convS S
    have b5 := b5.keep k6
    have k6 := kx.trans k6 (fun _ _ => _root_.id)
    simp only [go_sem, cv6]
    refine wi_call ?_
    simp only [go_sem]
    refine text_runs (s := encB o) (by omega) fun S7 v7 b7 k7 => ?_
    have b5 := b5.keep k7
    have k7 := k6.trans k7 (fun _ _ => _root_.id)
    simp only [go_sem]
    refine wi_appendBT (cs := textB (encB o)) (by simp only [go_sem]) b5 (by simp only [go_sem]; exact b7.is.elems _) (by rw [textB_len, List.length_append, List.length_append, textB_len, textB_len]; have := uvar_len10 (v := (encB o).length) (by omega); omega) k7 fun v8 S8 k8 b8 p8 => ?_
    simp only [go_sem, w1, q2]
    refine Loop.fold RSim.le ?_
    simp only [go_sem, q2]
    refine wc_ite (b := false) (by simp only [go_sem] <;> rfl) (fun h => by cases h) (fun _ => ?_)
    simp only [go_sem]
    obtain ⟨_, rfl, _⟩ := b8
    exact hQ _ _ rfl
   ·have cv6 : ∀ S, V.conv S .bytesStr (.sl [] 0 1 .nil) = some (.str (mkS [])) := fun S => isBytes_nil.convS S
    have b5 := b5.keep k6
    have k6 := kx.trans k6 (fun _ _ => _root_.id)
    simp only [go_sem, cv6]
    refine wi_call ?_
    simp only [go_sem]
    refine text_runs (s := []) (by simp) fun S7 v7 b7 k7 => ?_
    have b5 := b5.keep k7
    have k7 := k6.trans k7 (fun _ _ => _root_.id)
    simp only [go_sem]
    refine wi_appendBT (cs := textB ([])) (by simp only [go_sem]) b5 (by simp only [go_sem]; exact b7.is.elems _) (by rw [textB_len, List.length_append, List.length_append, textB_len, textB_len]; have := uvar_len10 (v := (([] : List UInt8)).length) (by simp); simp only [List.length_nil] at *; omega) k7 fun v8 S8 k8 b8 p8 => ?_
    simp only [go_sem, w1, q2]
    refine Loop.fold RSim.le ?_
    simp only [go_sem, q2]
    refine wc_ite (b := false) (by simp only [go_sem] <;> rfl) (fun h => by cases h) (fun _ => ?_)
    simp only [go_sem]
    obtain ⟨_, rfl, _⟩ := b8
    exact hQ _ _ rfl
end Go.VM
namespace Go.VM
open Go Go.RowKit Go.Proofs
theorem RelL_snoc {g : G} {c : V} : ∀ {l : List V} {us : List Value}, RelL g (l ++ [c]) us → ∃ us1 u, us = us1 ++ [u] ∧ RelL g l us1 ∧ RelV g c u
 | [], us, h => by
  obtain ⟨u, r, rfl, hu, hr⟩ := RelL_cons h
  obtain rfl := RelL_nil hr
  exact ⟨[], u, rfl, rfl, hu⟩
 | x :: l, us, h => by
  obtain ⟨u, r, rfl, hu, hr⟩ := RelL_cons (show RelL g (x :: (l ++ [c])) us from h)
  obtain ⟨us1, w, rfl, h1, h2⟩ := RelL_snoc hr
  exact ⟨u :: us1, w, rfl, ⟨u, us1, rfl, hu, h1⟩, h2⟩
theorem RelL_snoc' {g : G} {c : V} {u : Value} (hc : RelV g c u) : ∀ {l : List V} {us : List Value}, RelL g l us → RelL g (l ++ [c]) (us ++ [u])
 | [], us, h => by
  obtain rfl := RelL_nil h
  exact ⟨u, [], rfl, hc, rfl⟩
 | x :: l, us, h => by
  obtain ⟨w, r, rfl, hw, hr⟩ := RelL_cons h
  exact ⟨w, r ++ [u], rfl, hw, RelL_snoc' hc hr⟩
noncomputable def okE (kd sh req tm n e lim : Nat) (time : Int) (id q : ByteArray) : Bool := Nat.blt kd 256 && (Nat.blt sh 256 && (Nat.blt req 18446744073709551616 && (Nat.blt tm 18446744073709551616 && (Nat.blt n 9223372036854775808 && (Nat.blt e 9223372036854775808 && (Nat.blt lim 9223372036854775808 && (decide (-9223372036854775808 ≤ time) && (decide (time < 9223372036854775808) && (Nat.ble id.data.toList.length 1000000000000 && Nat.ble q.data.toList.length 1000000000000)))))))))
noncomputable def opsE (ops : V) : Bool := match ops with
 | .sl [] 0 _ _ => true
 | .sl [.int .u64 (.ofNat t), .abs (.str b), .abs (.int .i64), .abs (.str c)] 1 4 .cap => Nat.blt t 18446744073709551616 && (Nat.ble b 1000000000000000 && Nat.ble c 1000000000000000)
 | _ => false
noncomputable def encodeN : List V → CSt → KX → Bool := fun args S k => match args with
 | [.agg [.int .u8 (.ofNat kd), .bool any, .bool spot, .int .i64 (.ofNat sh), .int .u64 (.ofNat req), .int .u64 (.ofNat tm), .int .i64 (.ofNat n), .int .i64 (.ofNat e), .int .i64 (.ofNat lim), .int .i64 time, .str id, .str q, ops]] =>
  cnd (okE kd sh req tm n e lim time id q) (cnd (opsE ops) (k (.abs .top) S) false) false
 | _ => false
theorem opsE_ok {ops : V} (h : opsE ops = true) {g : G} {u : Value} (hu : RelV g ops u) : ∃ ops', RelV g ops' u ∧ flatV ops' = true ∧ ops'.one = true ∧ ((∃ sz t, ops' = .sl [] 0 sz t) ∨ ∃ o : Op, o.Ok ∧ ops' = .sl o.v 1 4 .cap) := by
 unfold opsE at h
 split at h
 ·rename_i sz t
  cases t with
  | «at» j =>
   refine ⟨.sl [] 0 sz .no, ?_, rfl, rfl, .inl ⟨_, _, rfl⟩⟩
   obtain ⟨hl, h1 | ⟨ht, b, p, cap, us, e, hc, hr, ho, hi, hcap, hat⟩ | ⟨h1, _⟩⟩ := hu
   ·cases h1.1
   ·refine ⟨hl, .inr (.inl ⟨by simp, b, p, cap, us, e, hc, hr, ho, hi, fun h => (by cases h), fun k h => (by cases h)⟩)⟩
   ·rcases h1 with h1 | h1 <;> cases h1
  | _ => exact ⟨_, hu, rfl, rfl, .inl ⟨_, _, rfl⟩⟩
 ·rename_i t b c
  simp only [Bool.and_eq_true] at h
  obtain ⟨ht', hb, hc'⟩ := h
  obtain ⟨hl, h1 | ⟨ht, bb, p, cap, us, e, hc, hr, ho, hi, hcap, hat⟩ | ⟨_, h1, _⟩⟩ := hu
  ·cases h1.1
  ·obtain ⟨x0, r0, rfl, h0, hx⟩ := RelL_cons hr
   obtain ⟨x1, r1, rfl, h1, hx⟩ := RelL_cons hx
   obtain ⟨x2, r2, rfl, h2, hx⟩ := RelL_cons hx
   obtain ⟨x3, r3, rfl, h3, hx⟩ := RelL_cons hx
   obtain rfl := RelL_nil hx
   obtain ⟨l0, rfl, hl0⟩ := holds_str h1
   obtain ⟨tm, rfl, hw⟩ := h2
   obtain ⟨l2, rfl, hl2⟩ := holds_str h3
   have hw' : -9223372036854775808 ≤ tm ∧ tm < 9223372036854775808 := by
    have e : IntKind.i64.wrap tm = tm := hw
    simp only [IntKind.wrap, IntKind.bits, IntKind.signed] at e
    simp at e
    omega
   exact ⟨.sl (Op.v ⟨t, ⟨l0, tm, l2⟩⟩) 1 4 .cap, ⟨rfl, .inr (.inl ⟨ht, bb, p, cap, _, e, hc, ⟨_, _, rfl, h0, _, _, rfl, rfl, _, _, rfl, rfl, _, _, rfl, rfl, rfl⟩, ho, hi, hcap, hat⟩)⟩, rfl, rfl, .inr ⟨_, ⟨blt_n ht', ⟨hw'.1, hw'.2, Nat.le_trans hl0 (ble_n hb), Nat.le_trans hl2 (ble_n hc')⟩⟩, rfl⟩⟩
  ·cases h1
 ·cases h
theorem encode_enters : Enters Tryz.prog n_node_message_encode := ⟨_, Tryz.func117, by kernel_rfl, by kernel_rfl⟩
theorem encodeN_ok {w0 : World} {args : List V} {S : CSt} {k : KX} {Q : AEnd → St → Prop} (h : encodeN args S k = true) (hk : ∀ v S', k v S' = true → Q (.ret v) S'.st) : RSim Tryz.prog w0 n_node_message_encode args S.st Q := by
 unfold encodeN at h
 split at h
 ·rename_i kd any spot sh req tm n e lim time id q ops
  obtain ⟨h1, h⟩ := cond_f h
  obtain ⟨h2, h⟩ := cond_f h
  unfold okE at h1
  simp only [Bool.and_eq_true, decide_eq_true_eq] at h1
  obtain ⟨a1, a2, a3, a4, a5, a6, a7, a8, a9, b1, b2⟩ := h1
  refine RSim.ofAll encode_enters fun g us hr => ?_
  obtain ⟨u, r, rfl, hu, hr⟩ := RelL_cons hr
  obtain rfl := RelL_nil hr
  obtain ⟨xs, rfl, hx, ho⟩ := hu
  obtain ⟨us1, w, rfl, hl, hw⟩ := RelL_snoc (l := [.int .u8 (.ofNat kd), .bool any, .bool spot, .int .i64 (.ofNat sh), .int .u64 (.ofNat req), .int .u64 (.ofNat tm), .int .i64 (.ofNat n), .int .i64 (.ofNat e), .int .i64 (.ofNat lim), .int .i64 time, .str id, .str q]) hx
  obtain ⟨ops', hw', hfl, hon, hops⟩ := opsE_ok h2 hw
  have ek : (UInt8.ofNat kd).toNat = kd := UInt8.toNat_ofNat_of_lt' (blt_n a1)
  have es : (UInt8.ofNat sh).toNat = sh := UInt8.toNat_ofNat_of_lt' (blt_n a2)
  obtain ⟨m, hm⟩ : ∃ m : MsgF, m = ⟨UInt8.ofNat kd, any, spot, UInt8.ofNat sh, req, tm, n, e, lim, time, id.data.toList, q.data.toList⟩ := ⟨_, rfl⟩
  have hmv : m.v ops' = [.int .u8 (.ofNat kd), .bool any, .bool spot, .int .i64 (.ofNat sh), .int .u64 (.ofNat req), .int .u64 (.ofNat tm), .int .i64 (.ofNat n), .int .i64 (.ofNat e), .int .i64 (.ofNat lim), .int .i64 time, .str id, .str q] ++ [ops'] := by
   subst hm
   unfold MsgF.v
   rw [ek, es]
   rfl
  have hok : m.Ok := by
   subst hm
   exact ⟨blt_n a3, blt_n a4, blt_n a5, blt_n a6, blt_n a7, a8, a9, ble_n b1, ble_n b2⟩
  refine ⟨[.agg (m.v ops')], ⟨_, _, rfl, ⟨_, rfl, ?_, ho⟩, rfl⟩, ?_⟩
  ·rw [hmv]
   exact RelL_snoc' hw' hl
  ·refine RSim.besideV (Q0 := fun e _ => ∃ v, e = .ret v ∧ v.one = true) (fun w0 => msg_runs hon hops hok fun v S' h => ⟨v, rfl, h⟩) ?_ fun e S' ⟨v, he, hv⟩ => ⟨v, .abs .top, he, fun g g' u hu => one_rel hu hv, hk _ _ h⟩
   unfold MsgF.v
   simp only [flatL, flatV, hfl, Bool.and_self]
 ·cases h
theorem trueN_ok {w0 : World} {args : List V} {S : CSt} {k : KX} {Q : AEnd → St → Prop} (h : trueN args S k = true) (hk : ∀ v S', k v S' = true → Q (.ret v) S'.st) : RSim Tryz.prog w0 n_l20_awake args S.st Q := by
 unfold trueN at h
 split at h
 ·exact RSim.besideV (Q0 := fun e _ => e = .ret (.bool true)) (fun w0 => awake_runs rfl) rfl fun e S' he => ⟨.bool true, .bool true, he, fun _ _ _ h => h, hk _ _ h⟩
 ·cases h
noncomputable def primQL : List (Nat × (List V → CSt → KX → Bool)) := (n_node_message_encode, encodeN) :: (n_match_Form, formN) :: (n_ring_Shard, shardN) :: (n_ixb, ixbN) :: (n_l20_awake, trueN) :: primL
theorem primQL_ok {w0 : World} : ∀ q ∈ primQL, ∀ args S k (Q : AEnd → St → Prop), q.2 args S k = true → (∀ v S', k v S' = true → Q (.ret v) S'.st) → RSim Tryz.prog w0 q.1 args S.st Q := by
 intro q hq
 rcases List.mem_cons.1 hq with rfl | hq
 ·exact fun args S k Q h hk => encodeN_ok h hk
 rcases List.mem_cons.1 hq with rfl | hq
 ·exact fun args S k Q h hk => formN_ok h hk
 rcases List.mem_cons.1 hq with rfl | hq
 ·exact fun args S k Q h hk => shardN_ok h hk
 rcases List.mem_cons.1 hq with rfl | hq
 ·exact fun args S k Q h hk => ixbN_ok h hk
 rcases List.mem_cons.1 hq with rfl | hq
 ·exact fun args S k Q h hk => trueN_ok h hk
 exact primL_ok q hq
noncomputable def primQ : PrimX := primOf primQL
theorem primQ_ok (w0 : World) : PrimOk Tryz.prog w0 primQ := primOf_ok primQL_ok
noncomputable def primP : PrimX := primOf ((n_node_Node_Tick, tickN (zCall tabT.get primQ 40)) :: primQL)
theorem primP_ok (w0 : World) : PrimOk Tryz.prog w0 primP := primOf_ok fun q hq => by
 rcases List.mem_cons.1 hq with rfl | hq
 ·exact fun args S k Q h hk => tickN_ok (zCall_sound tabT_ok (primQ_ok w0) 40) h hk
 ·exact primQL_ok q hq
noncomputable def kPat : KX := fun v _ => asBool v fun b => b
noncomputable def runPat (r : Nat) : Bool := zCall tabT.get primP 40 n_l20_NodePatience [.agg [.abs (.str 1000000000000000), .abs (.int .i64), .abs (.str 1000000000000000)], .abs (.res .u8 10 r 255)] ⟨Hp.nil, 0⟩ kPat
end Go.VM

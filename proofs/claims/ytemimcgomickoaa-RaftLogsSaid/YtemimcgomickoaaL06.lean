/-
  Parts: PFrame, CPack, WalCodes, WScan, WLog, WPlain, WOk.
-/
import Derived.Test.YtemimcgomickoaaL05
import Derived.Test.YtemimcgomickoaaL04
import Derived.Test.YtemimcgomickoaaProg
import Derived.KernelRfl
set_option maxRecDepth 20000
set_option linter.unusedVariables false
set_option linter.unusedSimpArgs false
set_option maxRecDepth 100000
namespace Go.VM
open Go Go.RowKit Go.Proofs
theorem wi_appendB {cl : Cl} {fr : Fr} {S S0 : St} {K : Fr → St → Prop} {Kp : V → St → Prop} {dst : Option Nat} {s x : Arg} {r : List Item} {bs cs : List UInt8} {n : Nat} {t : Tok}
  (hs : s.ev fr = .sl (bs.map u8V) n 1 t) (hn : n = bs.length) (hx : (x.ev fr).elems S 1 = some (cs.length, cs.map u8V)) (hr : bs.length + cs.length ≤ 140000000000000)
  (k : Keeps (fun _ => False) S0 S) (ht : TokOk S t) (htn : ∀ j, t = .at j → S0.n ≤ j) (hnil : t = .nil → bs = [])
  (hK : ∀ t' S', Keeps (fun _ => False) S0 S' → TokOk S' t' → (∀ j, t' = .at j → S0.n ≤ j) → (t' = .nil → bs ++ cs = []) → wItems cl r (fr.put dst (.sl ((bs ++ cs).map u8V) (bs ++ cs).length 1 t')) S' K Kp) :
  wItems cl (.run ⟨dst, none, .e (.append 1 1 false s x)⟩ :: r) fr S K Kp := by
 subst hn
 refine wi_append (n := bs.length) (cs := bs.map u8V) (t := t) (m := cs.length) (xs := cs.map u8V) hs hx (by simp) (by simp [roomOk]; omega) ht (fun e => by rw [hnil e]; exact ⟨rfl, rfl⟩) fun t' S' k' ht' hn' hz => ?_
 rw [← List.map_append, ← List.length_append]
 refine hK t' S' (keeps_new k k' htn) ht' (fun j hj => Nat.le_trans k.n (hn' j hj)) fun e => ?_
 obtain ⟨h1, h2⟩ := hz e
 rw [hnil h2, List.eq_nil_of_length_eq_zero h1]; rfl
def fourB (v : Nat) : List UInt8 := [UInt8.ofNat (v / 16777216), UInt8.ofNat (v / 65536), UInt8.ofNat (v / 256), UInt8.ofNat v]
theorem fourB_len (v : Nat) : (fourB v).length = 4 := rfl
theorem four_runs {w0 : World} {S : St} {Q : AEnd → St → Prop} {v : Nat} (hv : v < 4294967296)
  (hQ : Q (.ret (.sl ((fourB v).map u8V) 4 1 .cap)) S) : RSim Try.prog w0 n_pack_four [.int .u32 v] S Q := by
 have fd : ∀ d : Nat, (v : Int).fdiv (d : Int) = ((v / d : Nat) : Int) := fun d => by
  rw [Int.fdiv_eq_ediv_of_nonneg _ (by omega)]; exact (Int.natCast_ediv v d).symm
 have h1 : (v : Int).fdiv (2 ^ (min (Int.toNat 24) 32)) = ((v / 16777216 : Nat) : Int) := fd 16777216
 have h2 : (v : Int).fdiv (2 ^ (min (Int.toNat 16) 32)) = ((v / 65536 : Nat) : Int) := fd 65536
 have h3 : (v : Int).fdiv (2 ^ (min (Int.toNat 8) 32)) = ((v / 256 : Nat) : Int) := fd 256
 have cv : ∀ x : Nat, V.conv S (.int .u8) (.int .u32 (x : Int)) = some (u8V (UInt8.ofNat x)) := fun x => by
  simp only [V.conv, IntKind.wrap_u8, u8V_ofNat]; congr 2
 refine RSim.run mixed k_pack_four ?_ (by simp)
 simp only [b_pack_four, go_sem, h1, h2, h3, cv]
 exact hQ
def frameB (p : List UInt8) : List UInt8 := 0xf1 :: (uvar p.length ++ fourB (sumN p) ++ p ++ [0x1f])
theorem frame_runs {w0 : World} {S : St} {Q : AEnd → St → Prop} {v : V} {p : List UInt8} (hp : IsBytes v p)
  (hQ : p.length ≤ 65535 → ∀ S' v', IsBytes v' (frameB p) → Keeps (fun _ => False) S S' → Q (.ret (.tup [v', .int .i64 0])) S') (hQ' : 65535 < p.length → Q (.ret (.tup [.sl [] 0 1 .nil, .int .i64 2])) S) :
  RSim Try.prog w0 n_pack_Frame [v] S Q := by
 obtain ⟨t, rfl, ht⟩ := id hp
 refine RSim.run mixed k_pack_Frame ?_ (by simp)
 simp only [b_pack_Frame, go_sem]
 refine wc_ite (b := decide ((p.length : Int) > 65535)) (by simp only [go_sem]) (fun hc => ?_) (fun hc => ?_)
 ·simp only [go_sem]
  exact hQ' (by have := of_decide_eq_true hc; omega)
 ·have hle : p.length ≤ 65535 := by have := of_decide_eq_false hc; omega
  have hq := hQ hle
  have cv : ∀ S, V.conv S (.int .u64) (.int .i64 (p.length : Int)) = some (.int .u64 (p.length : Int)) := fun S => by
   simp only [V.conv, wu64 (show (0 : Int) ≤ (p.length : Int) by omega) (show (p.length : Int) < 18446744073709551616 by omega)]
  simp only [go_sem, cv]
  refine wi_call ?_
  simp only [go_sem]
  refine uvarint_runs (v := p.length) (by omega) fun S1 t1 ht1 hn1 ho1 k1 => ?_
  have hu := uvar_len10 (v := p.length) (by omega)
  simp only [go_sem]
  refine wi_appendB (bs := [0xf1]) (cs := uvar p.length) (t := .cap) (by simp only [go_sem]; rfl) rfl (by simp only [go_sem]; exact (isBytes_mk _ hn1).elems _) (by simp; omega) k1 trivial (fun j h => by cases h) (fun h => by cases h) fun t2 S2 k2 ht2 ho2 hz2 => ?_
  simp only [go_sem]
  refine wi_call ?_
  simp only [go_sem]
  refine sum_runs (by omega) ht ?_
  simp only [go_sem]
  refine wi_call ?_
  simp only [go_sem]
  refine four_runs (sumN_lt p) ?_
  simp only [go_sem]
  refine wi_appendB (cs := fourB (sumN p)) (t := t2) (by simp only [go_sem]) rfl (by simp only [go_sem]; exact (isBytes_mk (fourB (sumN p)) (t := .cap) (by simp)).elems _) (by simp [fourB_len]; omega) k2 ht2 ho2 hz2 fun t3 S3 k3 ht3 ho3 hz3 => ?_
  simp only [go_sem]
  refine wi_appendB (cs := p) (t := t3) (by simp only [go_sem]) rfl (by simp only [go_sem]; exact hp.elems _) (by simp [fourB_len]; omega) k3 ht3 ho3 hz3 fun t4 S4 k4 ht4 ho4 hz4 => ?_
  simp only [go_sem]
  refine wi_appendB (bs := [0xf1] ++ uvar p.length ++ fourB (sumN p) ++ p) (cs := [0x1f]) (t := t4) (by simp only [go_sem]) rfl (by simp only [go_sem]; exact (isBytes_mk [0x1f] (t := .cap) (by simp)).elems _) (by simp [fourB_len]; omega) k4 ht4 ho4 hz4 fun t5 S5 k5 ht5 ho5 hz5 => ?_
  simp only [go_sem]
  have e : [0xf1] ++ uvar p.length ++ fourB (sumN p) ++ p ++ [0x1f] = frameB p := by simp [frameB]
  rw [e] at hz5
  exact hq S5 _ ⟨t5, rfl, hz5⟩ k5
end Go.VM
namespace Go.VM
open Go Go.RowKit Go.Proofs
def readF : List UInt8 → Int ⊕ (List UInt8 × Nat)
 | [] => .inl 8
 | b :: l => match ruv 0 0 l with
  | none => .inl 3
  | some (n, k) => if b ≠ 0xf1 ∨ n > 65535 ∨ l.length < k + 5 + n ∨ l[k + 4 + n]? ≠ some 0x1f then .inl 3
   else if (l.drop k).take 4 ≠ fourB (sumN ((l.drop (k + 4)).take n)) then .inl 5 else .inr ((l.drop (k + 4)).take n, k + 6 + n)
theorem ruv_pos {l : List UInt8} : ∀ {n v : Nat} {x k : Nat}, ruv n v l = some (x, k) → n < k := by
 induction l with
 | nil => intro n v x k h; cases h
 | cons b l ih =>
  intro n v x k h
  rw [ruv] at h
  split at h
  ·cases h
  ·split at h
   ·injection h with h; injection h with h1 h2; omega
   ·have := ih h; omega
theorem drop_get {bs : List UInt8} {j : Nat} {b : UInt8} (hb : bs[j]? = some b) : (bs.map u8V).drop (j * 1) = .int .u8 b.toNat :: (bs.drop (j + 1)).map u8V := by
  have hlt : j < bs.length := by rcases Nat.lt_or_ge j bs.length with h | h
                                 · exact h
                                 · rw [List.getElem?_eq_none h] at hb; cases hb
  have hd : bs.drop j = b :: bs.drop (j + 1) := by
    rw [List.drop_eq_getElem_cons hlt]; congr 1
    rw [List.getElem?_eq_getElem hlt] at hb; injection hb
  rw [Nat.mul_one, ← List.map_drop, hd]; rfl
theorem readFrame_runs {w0 : World} {S : St} {Q : AEnd → St → Prop} {v : V} {bs : List UInt8} {p : Nat} (hv : IsBytes v bs) (hp : p ≤ bs.length) (hl : bs.length ≤ 100000000000000)
  (hQ : ∀ e S', readF (bs.drop p) = .inl e → Keeps (fun _ => False) S S' → Q (.ret (.tup [.sl [] 0 1 .nil, .int .i64 0, .int .i64 e])) S')
  (hQ' : ∀ q k S' v', readF (bs.drop p) = .inr (q, k) → IsBytes v' q → 7 ≤ k → p + k ≤ bs.length → Keeps (fun _ => False) S S' → Q (.ret (.tup [v', .int .i64 ((p + k : Nat) : Int), .int .i64 0])) S') :
  RSim Try.prog w0 n_pack_ReadFrame [v, .int .i64 p] S Q := by
 obtain ⟨t, rfl, ht⟩ := id hv
 have e1 : decide ((p : Int) > (bs.length : Int)) = false := decide_eq_false (by omega)
 have e0 : decide ((p : Int) < 0) = false := decide_eq_false (by omega)
 refine RSim.run mixed k_pack_ReadFrame ?_ (by simp)
 simp only [b_pack_ReadFrame, go_sem, e1, e0]
 refine wc_ite (b := false) (by simp only [go_sem] <;> rfl) (fun h => by cases h) (fun _ => ?_)
 have e2 : ((p : Int) == (bs.length : Int)) = decide (p = bs.length) := by rw [Bool.eq_iff_iff, beq_iff_eq, decide_eq_true_iff]; omega
 simp only [go_sem, e2]
 refine wc_ite (b := decide (p = bs.length)) (by simp only [go_sem]) (fun hc => ?_) (fun hc => ?_)
 ·have := of_decide_eq_true hc
  have hq := hQ 8 S (by rw [List.drop_eq_nil_of_le (by omega)]; rfl) (Keeps.refl _ S)
  simp only [go_sem]
  exact hq
 have hlt : p < bs.length := by have := of_decide_eq_false hc; omega
 obtain ⟨b, hb⟩ : ∃ b, bs[p]? = some b := ⟨bs[p], List.getElem?_eq_getElem hlt⟩
 have hd : bs.drop p = b :: bs.drop (p + 1) := by
  rw [List.drop_eq_getElem_cons hlt]; congr 1
  rw [List.getElem?_eq_getElem hlt] at hb; injection hb
 rw [hd] at hQ hQ'
 have w1 : IntKind.i64.wrap ((p : Int) + 1) = ((p + 1 : Nat) : Int) := by rw [w64 (by omega) (by omega)]; omega
 have hb' := drop_get hb
 have hlt' : (p < bs.length) = True := eq_true hlt
 have htn : (t = .nil) = False := eq_false fun h => by rw [ht h] at hlt; simp at hlt
 have hbl := b.toNat_lt
 simp only [go_sem, w1]
 refine wi_call ?_
 simp only [go_sem]
 have neq : ∀ (x c : UInt8), ((x.toNat : Int) != (c.toNat : Int)) = decide (x ≠ c) := fun x c => by
  rw [Bool.eq_iff_iff, bne_iff_ne, decide_eq_true_iff]; constructor
  ·intro h h'; exact h (by rw [h'])
  ·intro h h'; exact h (UInt8.toNat_inj.mp (by omega))
 have q1 : ((b.toNat : Int) != 241) = decide (b ≠ 0xf1) := neq b 0xf1
 refine readUvarint_runs (by omega) (by omega) ht (fun n k hr hn hk => ?_) fun hr => ?_
 ·have q2 : decide ((n : Int) > 65535) = decide (n > 65535) := decide_eq_decide.mpr (by omega)
  have hll : (bs.drop (p + 1)).length = bs.length - (p + 1) := List.length_drop
  have cv : n ≤ 65535 → ∀ S, V.conv S (.int .i64) (.int .u64 (n : Int)) = some (.int .i64 (n : Int)) := fun h S => by
   simp only [V.conv, w64 (show (-9223372036854775808 : Int) ≤ (n : Int) by omega) (show (n : Int) < 9223372036854775808 by omega)]
  have w2 : IntKind.i64.wrap ((bs.length : Int) - ((p + 1 + k : Nat) : Int)) = ((bs.length - (p + 1 + k) : Nat) : Int) := by rw [w64 (by omega) (by omega)]; omega
  have w3 : IntKind.i64.wrap (((bs.length - (p + 1 + k) : Nat) : Int) - 5) = ((bs.length - (p + 1 + k) : Nat) : Int) - 5 := w64 (by omega) (by omega)
  have q3 : decide ((n : Int) > ((bs.length - (p + 1 + k) : Nat) : Int) - 5) = decide (bs.length < p + 1 + k + 5 + n) := decide_eq_decide.mpr (by omega)
  by_cases hb1 : b ≠ 0xf1
  ·have hq := hQ 3 S (by simp only [readF, hr]; rw [if_pos (.inl hb1)]) (Keeps.refl _ S)
   have q1' := q1.trans (decide_eq_true hb1)
   simp only [go_sem, hlt', htn, hb', List.head?_cons, q1']
   refine wc_ite (b := true) (by simp only [go_sem] <;> rfl) (fun _ => ?_) (fun h => by cases h)
   simp only [go_sem]
   exact hq
  have q1' := q1.trans (decide_eq_false hb1)
  by_cases hb2 : n > 65535
  ·have hq := hQ 3 S (by simp only [readF, hr]; rw [if_pos (.inr (.inl hb2))]) (Keeps.refl _ S)
   have q2' := q2.trans (decide_eq_true hb2)
   simp only [go_sem, hlt', htn, hb', List.head?_cons, q1', q2']
   refine wc_ite (b := true) (by simp only [go_sem] <;> rfl) (fun _ => ?_) (fun h => by cases h)
   simp only [go_sem]
   exact hq
  have q2' := q2.trans (decide_eq_false hb2)
  have cv := cv (by omega)
  by_cases hb3 : bs.length < p + 1 + k + 5 + n
  ·have hq := hQ 3 S (by simp only [readF, hr]; rw [if_pos (.inr (.inr (.inl (by rw [hll]; omega))))]) (Keeps.refl _ S)
   have q3' := q3.trans (decide_eq_true hb3)
   simp only [go_sem, hlt', htn, hb', List.head?_cons, q1', q2', cv, w2, w3, q3']
   refine wc_ite (b := true) (by simp only [go_sem] <;> rfl) (fun _ => ?_) (fun h => by cases h)
   simp only [go_sem]
   exact hq
  have q3' := q3.trans (decide_eq_false hb3)
  have hlt2 : p + 1 + k + 4 + n < bs.length := by omega
  obtain ⟨c, hcb⟩ : ∃ c, bs[p + 1 + k + 4 + n]? = some c := ⟨_, List.getElem?_eq_getElem hlt2⟩
  have hcb' := drop_get hcb
  have hlt2' : (p + 1 + k + 4 + n < bs.length) = True := eq_true hlt2
  have w4 : IntKind.i64.wrap (((p + 1 + k : Nat) : Int) + 4) = ((p + 1 + k + 4 : Nat) : Int) := by rw [w64 (by omega) (by omega)]; omega
  have w5 : IntKind.i64.wrap (((p + 1 + k + 4 : Nat) : Int) + (n : Int)) = ((p + 1 + k + 4 + n : Nat) : Int) := by rw [w64 (by omega) (by omega)]; omega
  have q4 : ((c.toNat : Int) != 31) = decide (c ≠ 0x1f) := neq c 0x1f
  have hget : (bs.drop (p + 1))[k + 4 + n]? = some c := by rw [List.getElem?_drop, ← hcb]; congr 1; omega
  by_cases hb4 : c ≠ 0x1f
  ·have hq := hQ 3 S (by simp only [readF, hr]; rw [if_pos (.inr (.inr (.inr (by rw [hget]; intro h; injection h with h; exact hb4 h))))]) (Keeps.refl _ S)
   have q4' := q4.trans (decide_eq_true hb4)
   simp only [go_sem, hlt', htn, hb', List.head?_cons, q1', q2', cv, w2, w3, q3', w4, w5, hlt2', hcb', q4']
   refine wc_ite (b := true) (by simp only [go_sem] <;> rfl) (fun _ => ?_) (fun h => by cases h)
   simp only [go_sem]
   exact hq
  have q4' := q4.trans (decide_eq_false hb4)
  simp only [go_sem, hlt', htn, hb', List.head?_cons, q1', q2', cv, w2, w3, q3', w4, w5, hlt2', hcb', q4']
  refine wc_ite (b := false) (by simp only [go_sem] <;> rfl) (fun h => by cases h) (fun _ => ?_)
  have hA : (p + 1 + k + 4 ≤ p + 1 + k + 4 + n) = True := eq_true (by omega)
  have hB : (p + 1 + k + 4 + n ≤ bs.length) = True := eq_true (by omega)
  have hC : (p + 1 + k + 4 + n = bs.length) = False := eq_false (by omega)
  have hA2 : (p + 1 + k ≤ p + 1 + k + 4) = True := eq_true (by omega)
  have hB2 : (p + 1 + k + 4 ≤ bs.length) = True := eq_true (by omega)
  have hC2 : (p + 1 + k + 4 = bs.length) = False := eq_false (by omega)
  have eq1 : ((bs.map u8V).drop (p + 1 + k + 4)).take n = ((bs.drop (p + 1 + k + 4)).take n).map u8V := by rw [← List.map_drop, ← List.map_take]
  have eq2 : ((bs.map u8V).drop (p + 1 + k)).take 4 = ((bs.drop (p + 1 + k)).take 4).map u8V := by rw [← List.map_drop, ← List.map_take]
  have l1 : ((bs.drop (p + 1 + k + 4)).take n).length = n := by rw [List.length_take, List.length_drop]; omega
  have l2 : ((bs.drop (p + 1 + k)).take 4).length = 4 := by rw [List.length_take, List.length_drop]; omega
  have r1 : ((bs.drop (p + 1)).drop (k + 4)).take n = (bs.drop (p + 1 + k + 4)).take n := by rw [List.drop_drop]; congr 2
  have r2 : ((bs.drop (p + 1)).drop k).take 4 = (bs.drop (p + 1 + k)).take 4 := by rw [List.drop_drop]
  have hF : readF (b :: bs.drop (p + 1)) = if (bs.drop (p + 1 + k)).take 4 ≠ fourB (sumN ((bs.drop (p + 1 + k + 4)).take n)) then .inl 5 else .inr ((bs.drop (p + 1 + k + 4)).take n, k + 6 + n) := by
   simp only [readF, hr]
   rw [if_neg (by
    rintro (h | h | h | h)
    ·exact hb1 h
    ·exact hb2 h
    ·rw [hll] at h; omega
    ·rw [hget] at h; exact h (by rw [Decidable.not_not.mp hb4])), r1, r2]
  rw [hF] at hQ hQ'
  generalize hq : (bs.drop (p + 1 + k + 4)).take n = q at *
  generalize hq2 : (bs.drop (p + 1 + k)).take 4 = q2 at *
  simp only [go_sem, cv, w4, w5, hA, hB, hC, htn, Nat.add_sub_cancel_left, Nat.mul_one, eq1]
  refine wi_appendB (bs := []) (cs := q) (t := .nil) (by simp only [go_sem]) rfl (by simp only [go_sem, V.elems, List.length_map, l1]) (by simp; omega) (Keeps.refl _ S) trivial (fun j h => by cases h) (fun _ => rfl) fun t1 S1 k1 ht1 ho1 hz1 => ?_
  have cvb : ∀ S, V.conv S .bytesStr (.sl (q2.map u8V) 4 1 .no) = some (.str (mkS q2)) := fun S => by
   have := (isBytes_mk q2 (t := .no) (by simp)).convS S
   rwa [l2] at this
  simp only [go_sem, hA2, hB2, hC2, htn, Nat.add_sub_cancel_left, Nat.mul_one, eq2, cvb, w4]
  refine wi_call ?_
  simp only [go_sem]
  refine sum_runs (by omega) hz1 ?_
  simp only [go_sem, hA2, hB2, hC2, htn, Nat.add_sub_cancel_left, Nat.mul_one, eq2, cvb, w4]
  refine wi_call ?_
  simp only [go_sem]
  refine four_runs (sumN_lt _) ?_
  have cvf : ∀ S, V.conv S .bytesStr (.sl ((fourB (sumN q)).map u8V) 4 1 .cap) = some (.str (mkS (fourB (sumN q)))) := fun S => (isBytes_mk (fourB (sumN q)) (t := .cap) (by simp)).convS S
  simp only [go_sem, hA2, hB2, hC2, htn, Nat.add_sub_cancel_left, Nat.mul_one, eq2, cvb, cvf, w4]
  refine wc_ite (b := !decide (q2 = fourB (sumN q))) (by simp only [go_sem]) (fun hc => ?_) (fun hc => ?_)
  ·have : q2 ≠ fourB (sumN q) := by simpa using hc
   have hq := hQ 5 S1 (if_pos this) k1
   simp only [go_sem]
   exact hq
  ·have : ¬ q2 ≠ fourB (sumN q) := by simpa using hc
   have w6 : IntKind.i64.wrap (((p + 1 + k : Nat) : Int) + 5) = ((p + 1 + k + 5 : Nat) : Int) := by rw [w64 (by omega) (by omega)]; omega
   have w7 : IntKind.i64.wrap (((p + 1 + k + 5 : Nat) : Int) + (n : Int)) = ((p + (k + 6 + n) : Nat) : Int) := by rw [w64 (by omega) (by omega)]; omega
   have hq := hQ' q (k + 6 + n) S1 (.sl (q.map u8V) q.length 1 t1) (if_neg this) ⟨t1, rfl, hz1⟩ (by have := ruv_pos hr; omega) (by omega) k1
   simp only [go_sem, cv, w6, w7]
   exact hq
 ·have hq := hQ 3 S (by simp only [readF, hr]) (Keeps.refl _ S)
  by_cases hb1 : b ≠ 0xf1
  ·have q1' := q1.trans (decide_eq_true hb1)
   simp only [go_sem, hlt', htn, hb', List.head?_cons, q1']
   refine wc_ite (b := true) (by simp only [go_sem] <;> rfl) (fun _ => ?_) (fun h => by cases h)
   simp only [go_sem]
   exact hq
  ·have q1' := q1.trans (decide_eq_false hb1)
   simp only [go_sem, hlt', htn, hb', List.head?_cons, q1']
   refine wc_ite (b := true) (by simp only [go_sem] <;> rfl) (fun _ => ?_) (fun h => by cases h)
   simp only [go_sem]
   exact hq
end Go.VM
namespace Go.VM
open Go Go.RowKit Go.Proofs
theorem elemsS (s : List UInt8) (S : St) : (V.str (mkS s)).elems S 1 = some (s.length, s.map u8V) := by
 simp only [V.elems, if_true, mkS_size]; rfl
def textB (s : List UInt8) : List UInt8 := uvar s.length ++ s
def readT (most : Nat) (l : List UInt8) : Int ⊕ (List UInt8 × Nat) :=
 match ruv 0 0 l with
 | none => .inl 3
 | some (n, k) => if l.length < k + n then .inl 3 else if most < n then .inl 2 else .inr ((l.drop k).take n, k + n)
def BT (S0 S : St) (v : V) (bs : List UInt8) : Prop := ∃ t, v = .sl (bs.map u8V) bs.length 1 t ∧ TokOk S t ∧ (t = .nil → bs = []) ∧ ∀ j, t = .at j → S0.n ≤ j
theorem BT.is {S0 S : St} {v : V} {bs : List UInt8} (h : BT S0 S v bs) : IsBytes v bs := by obtain ⟨t, h1, _, h3, _⟩ := h; exact ⟨t, h1, h3⟩
theorem BT.keep {S0 S S' : St} {v : V} {bs : List UInt8} (h : BT S0 S v bs) (k : Keeps (fun _ => False) S S') : BT S0 S' v bs := by
 obtain ⟨t, h1, h2, h3, h4⟩ := h
 exact ⟨t, h1, h2.keep k fun _ _ => id, h3, h4⟩
theorem BT.base {S0 S1 S : St} {v : V} {bs : List UInt8} (h : BT S1 S v bs) (k : S0.n ≤ S1.n) : BT S0 S v bs := by
 obtain ⟨t, h1, h2, h3, h4⟩ := h
 exact ⟨t, h1, h2, h3, fun j hj => Nat.le_trans k (h4 j hj)⟩
theorem wi_appendBT {cl : Cl} {fr : Fr} {S S0 : St} {K : Fr → St → Prop} {Kp : V → St → Prop} {dst : Option Nat} {s x : Arg} {r : List Item} {v : V} {bs cs : List UInt8}
  (hs : s.ev fr = v) (hv : BT S0 S v bs) (hx : (x.ev fr).elems S 1 = some (cs.length, cs.map u8V)) (hr : bs.length + cs.length ≤ 140000000000000)
  (k : Keeps (fun _ => False) S0 S) (hK : ∀ v' S', Keeps (fun _ => False) S0 S' → BT S0 S' v' (bs ++ cs) → (∀ i cs, S.cells i = some cs → i < S.n → S'.cells i = some cs ∧ i < S'.n) → wItems cl r (fr.put dst v') S' K Kp) :
  wItems cl (.run ⟨dst, none, .e (.append 1 1 false s x)⟩ :: r) fr S K Kp := by
 obtain ⟨t, rfl, ht, hnil, htn⟩ := hv
 refine wi_append (n := bs.length) (cs := bs.map u8V) (t := t) (m := cs.length) (xs := cs.map u8V) hs hx (by simp) (by simp [roomOk]; omega) ht (fun e => by rw [hnil e]; exact ⟨rfl, rfl⟩) fun t' S' k' ht' hn' hz => ?_
 rw [← List.map_append, ← List.length_append]
 refine hK _ S' (keeps_new k k' htn) ⟨t', rfl, ht', fun e => ?_, fun j hj => Nat.le_trans k.n (hn' j hj)⟩ fun i cs hc hi => ⟨k'.cells hc hi (ht.not_own hc), k'.lt hi⟩
 obtain ⟨h1, h2⟩ := hz e
 rw [hnil h2, List.eq_nil_of_length_eq_zero h1]; rfl
theorem uvarint_own {w0 : World} {S : St} {Q : AEnd → St → Prop} {v : Nat} (hv : v < 18446744073709551616)
  (hQ : ∀ S' v', BT S S' v' (uvar v) → Keeps (fun _ => False) S S' → Q (.ret v') S') : RSim Try.prog w0 n_pack_Uvarint [.int .u64 v] S Q :=
 uvarint_runs hv fun S1 t ht hn ho k => hQ S1 _ ⟨t, rfl, ht, fun h => absurd h hn, ho⟩ k
theorem text_runs {w0 : World} {S : St} {Q : AEnd → St → Prop} {s : List UInt8} (hs : s.length ≤ 10000000000000) (hQ : ∀ S' v', BT S S' v' (textB s) → Keeps (fun _ => False) S S' → Q (.ret v') S') : RSim Try.prog w0 n_pack_Text [.str (mkS s)] S Q := by
 have cv : ∀ S, V.conv S (.int .u64) (.int .i64 (s.length : Int)) = some (.int .u64 (s.length : Int)) := fun S => by
  simp only [V.conv, wu64 (show (0 : Int) ≤ (s.length : Int) by omega) (show (s.length : Int) < 18446744073709551616 by omega)]
 refine RSim.run mixed k_pack_Text ?_ (by simp)
 simp only [b_pack_Text, go_sem, cv]
 refine wi_call ?_
 simp only [go_sem]
 refine uvarint_runs (v := s.length) (by omega) fun S1 t1 ht1 hn1 ho1 k1 => ?_
 have hu := uvar_len10 (v := s.length) (by omega)
 simp only [go_sem]
 refine wi_appendB (bs := uvar s.length) (cs := s) (t := t1) (by simp only [go_sem]) rfl (by simp only [go_sem]; exact elemsS s S1) (by omega) k1 ht1 ho1 (fun h => absurd h hn1) fun t2 S2 k2 ht2 ho2 hz2 => ?_
 simp only [go_sem]
 exact hQ S2 _ ⟨t2, rfl, ht2, hz2, ho2⟩ k2
theorem readText_runs {w0 : World} {S : St} {Q : AEnd → St → Prop} {bs : List UInt8} {t : Tok} {p most : Nat} (hp : p ≤ bs.length) (hl : bs.length ≤ 1000000000000000) (hm : most ≤ 1000000) (ht : t = .nil → bs = [])
  (hQ : ∀ s k, readT most (bs.drop p) = .inr (s, k) → p + k ≤ bs.length → s.length ≤ most → Q (.ret (.tup [.str (mkS s), .int .i64 ((p + k : Nat) : Int), .int .i64 0])) S)
  (hQ' : ∀ e, readT most (bs.drop p) = .inl e → Q (.ret (.tup [.str (mkS []), .int .i64 0, .int .i64 e])) S) :
  RSim Try.prog w0 n_pack_ReadText [.sl (bs.map u8V) bs.length 1 t, .int .i64 p, .int .i64 most] S Q := by
 have hd : (bs.drop p).length = bs.length - p := List.length_drop
 have hQ0 : ∀ e, readT most (bs.drop p) = .inl e → Q (.ret (.tup [.str (mkS []), .int .i64 0, .int .i64 e])) S := hQ'
 refine RSim.run mixed k_pack_ReadText ?_ (by simp)
 simp only [b_pack_ReadText, go_sem]
 refine wi_call ?_
 simp only [go_sem]
 refine readUvarint_runs hp hl ht (fun n k hr hn hk => ?_) (fun hr => ?_)
 ·unfold readT at hQ hQ'
  rw [hr] at hQ hQ'
  simp only [hd] at hQ hQ'
  simp only [go_sem, k_pack_ReadText_0]
  refine wc_ite (b := false) (by simp only [go_sem] <;> rfl) (fun h => by cases h) (fun _ => ?_)
  have w1 : IntKind.i64.wrap ((bs.length : Int) - ((p + k : Nat) : Int)) = ((bs.length - (p + k) : Nat) : Int) := by rw [w64 (by omega) (by omega)]; omega
  have cv : V.conv S (.int .u64) (.int .i64 ((bs.length - (p + k) : Nat) : Int)) = some (.int .u64 ((bs.length - (p + k) : Nat) : Int)) := by
   simp only [V.conv]; rw [wu64 (by omega) (by omega)]
  simp only [go_sem, w1, cv]
  refine wc_ite (b := decide ((n : Int) > ((bs.length - (p + k) : Nat) : Int))) (by simp only [go_sem]) (fun hc => ?_) (fun hc => ?_)
  ·have h := of_decide_eq_true hc
   simp only [go_sem]
   rw [if_pos (by omega)] at hQ'
   exact hQ' 3 rfl
  ·have h := of_decide_eq_false hc
   rw [if_neg (by omega)] at hQ hQ'
   have cv2 : V.conv S (.int .u64) (.int .i64 (most : Int)) = some (.int .u64 (most : Int)) := by
    simp only [V.conv]; rw [wu64 (by omega) (by omega)]
   have e0 : decide ((most : Int) < 0) = false := decide_eq_false (by omega)
   simp only [go_sem, e0, cv2]
   refine wc_ite (b := decide ((n : Int) > (most : Int))) (by simp only [go_sem]) (fun hc => ?_) (fun hc => ?_)
   ·have h := of_decide_eq_true hc
    simp only [go_sem]
    rw [if_pos (by omega)] at hQ'
    exact hQ' 2 rfl
   ·have h2 := of_decide_eq_false hc
    rw [if_neg (by omega)] at hQ
    have cv3 : V.conv S (.int .i64) (.int .u64 (n : Int)) = some (.int .i64 (n : Int)) := by
     simp only [V.conv]; rw [w64 (by omega) (by omega)]
    have w2 : IntKind.i64.wrap (((p + k : Nat) : Int) + (n : Int)) = ((p + (k + n) : Nat) : Int) := by rw [w64 (by omega) (by omega)]; omega
    have hk0 := ruv_pos hr
    have htn : (t = .nil) = False := eq_false fun h => by have := ht h; subst this; simp at hk; omega
    have hA : (p + k ≤ p + (k + n)) = True := eq_true (by omega)
    have hB : (p + (k + n) ≤ bs.length) = True := eq_true (by omega)
    have cb : ∀ T, T ≠ .nil → V.conv S .bytesStr (.sl (List.take ((p + (k + n) - (p + k)) * 1) (List.drop ((p + k) * 1) (bs.map u8V))) (p + (k + n) - (p + k)) 1 T) = some (.str (mkS ((bs.drop (p + k)).take n))) := fun T hT => by
     refine IsBytes.conv ⟨T, ?_, fun h => absurd h hT⟩ S
     rw [Nat.mul_one, Nat.mul_one, show p + (k + n) - (p + k) = n by omega, List.map_take, List.map_drop, List.length_take, List.length_drop, Nat.min_eq_left (by omega)]
    have cb1 := cb t (by simpa using htn)
    have cb2 := cb .no (by simp)
    have hq := hQ _ _ rfl (by omega) (by rw [List.length_take]; omega)
    rw [List.drop_drop] at hq
    by_cases hC : p + (k + n) = bs.length
    ·have hC' : (p + (k + n) = bs.length) = True := eq_true hC
     simp only [go_sem, s_pack_ReadText_0, cv3, w2, htn, hA, hB, hC', cb1]
     exact hq
    ·have hC' : (p + (k + n) = bs.length) = False := eq_false hC
     simp only [go_sem, s_pack_ReadText_0, cv3, w2, htn, hA, hB, hC', cb2]
     exact hq
 ·have := hQ0 3 (by unfold readT; rw [hr])
  simp only [go_sem, k_pack_ReadText_0]
  refine wc_ite (b := true) (by simp only [go_sem] <;> rfl) (fun _ => ?_) (fun h => by cases h)
  simp only [go_sem]
  exact this
end Go.VM
namespace Go.VM
open Go Go.Proofs
abbrev n_wal_Log_Append : Nat := 49
def b_wal_Log_Append : Cd := (.seq (.reg [] [fi 4 (.mv (.c (.int .i64 0)))])
 (.seq (.seq (.reg [] [fi 8 (.mv (.t 0)),
  fi 9 (.eq false .ptr (.t 8) (.c (.ptr none)))])
 (.ite (.t 9)
 (.seq (.reg [] [fi 4 (.mv (.c (.int .i64 8)))])
 .ret)
 .skip))
 (.seq (.reg [] [fi 11 (.mv (.t 1)),
  ei 12 (.call 67 [(.t 11)]),
  fi 10 (.mv (.t 12)),
  fi 13 (.extract (.t 10) 0),
  fi 14 (.extract (.t 10) 1),
  fi 5 (.mv (.t 13)),
  fi 6 (.mv (.t 14))])
 (.seq (.seq (.reg [] [fi 15 (.mv (.t 6)),
  fi 16 (.bin .neq (.t 15) (.c (.int .i64 0)))])
 (.ite (.t 16)
 (.seq (.reg [] [fi 17 (.mv (.t 6)),
  fi 4 (.mv (.t 17))])
 .ret)
 .skip))
 (.seq (.seq (.reg [0, 1, 2, 3, 4, 5, 6, 7, 8, 9, 10] [fi 18 (.mv (.t 0)),
  fi 19 (.nilCheck (.t 18)),
  fi 20 (.fieldAddr 0 (.t 19)),
  fi 21 (.load false 1 (.t 20)),
  fi 22 (.mv (.t 0)),
  fi 23 (.nilCheck (.t 22)),
  fi 24 (.fieldAddr 1 (.t 23)),
  fi 25 (.load false 1 (.t 24)),
  fi 26 (.mv (.t 5)),
  ei 27 (.call 71 [(.t 21), (.t 25), (.t 26)]),
  fi 7 (.mv (.t 27))])
 (.seq (.reg [] [fi 28 (.mv (.t 7)),
  fi 29 (.bin .neq (.t 28) (.c (.int .i64 0)))])
 (.ite (.t 29)
 (.seq (.reg [] [fi 30 (.mv (.t 7)),
  fi 4 (.mv (.t 30))])
 .ret)
 .skip)))
 (.seq (.reg [0, 1, 2, 3, 4, 5, 6, 4, 7, 4, 8, 9, 10, 11] [fi 31 (.mv (.t 0)),
  fi 32 (.mv (.t 0)),
  fi 33 (.nilCheck (.t 32)),
  fi 34 (.fieldAddr 2 (.t 33)),
  fi 35 (.load false 1 (.t 34)),
  fi 36 (.mv (.t 1)),
  ei 37 (.append 1 1 false (.c (.sl [] 0 1 .nil)) (.t 36)),
  .chk 35 none (.load false 1 (.t 34)),
  ei 38 (.buildSlice 1 1 0 [(.sl [] 0 1 .nil)] [(0, 1, (.t 37))]),
  .chk 35 none (.load false 1 (.t 34)),
  ei 39 (.append 1 24 false (.t 35) (.t 38)),
  fi 40 (.nilCheck (.t 31)),
  fi 41 (.fieldAddr 2 (.t 40)),
  st (.store 1 (.t 41) (.t 39))])
 (.seq (.reg [] [fi 4 (.mv (.c (.int .i64 0)))])
 .ret)))))))
theorem k_wal_Log_Append : chkFn Try.prog n_wal_Log_Append ⟨b_wal_Log_Append, [.tmp 4], 42⟩ = true := by kernel_rfl
abbrev n_wal_Log_At : Nat := 25
def b_wal_Log_At : Cd := (.seq (.reg [] [fi 4 (.mv (.c (.sl [] 0 1 .nil))),
  fi 5 (.mv (.c (.int .i64 0)))])
 (.seq (.seq (.reg [] [fi 6 (.mv (.t 1)),
  fi 7 (.bin .lss (.t 6) (.c (.int .i64 0))),
  fi 8 (.mv (.t 7)),
  .run ⟨(some 9), (some (8, false)), .f (.mv (.t 1))⟩,
  .run ⟨(some 10), (some (8, false)), .f (.mv (.t 0))⟩,
  .run ⟨(some 11), (some (8, false)), .e (.call 24 [(.t 10)])⟩,
  .run ⟨(some 12), (some (8, false)), .f (.bin .geq (.t 9) (.t 11))⟩,
  fi 13 (.pick (.t 8) (.c (.bool true)) (.t 12))])
 (.ite (.t 13)
 (.seq (.reg [] [fi 4 (.mv (.c (.sl [] 0 1 .nil))),
  fi 5 (.mv (.c (.int .i64 8)))])
 .ret)
 .skip))
 (.seq (.reg [] [fi 14 (.mv (.t 0)),
  fi 15 (.nilCheck (.t 14)),
  fi 16 (.fieldAddr 2 (.t 15)),
  fi 17 (.load false 1 (.t 16)),
  fi 18 (.mv (.t 1)),
  fi 19 (.indexAddr 1 (.t 17) (.t 18)),
  fi 20 (.load false 1 (.t 19)),
  ei 21 (.append 1 1 false (.c (.sl [] 0 1 .nil)) (.t 20)),
  fi 4 (.mv (.t 21)),
  fi 5 (.mv (.c (.int .i64 0)))])
 .ret)))
theorem k_wal_Log_At : chkFn Try.prog n_wal_Log_At ⟨b_wal_Log_At, [.tmp 4, .tmp 5], 22⟩ = true := by kernel_rfl
abbrev n_wal_Log_Len : Nat := 24
def b_wal_Log_Len : Cd := (.seq (.reg [] [fi 2 (.mv (.c (.int .i64 0)))])
 (.seq (.seq (.reg [] [fi 3 (.mv (.t 0)),
  fi 4 (.eq false .ptr (.t 3) (.c (.ptr none)))])
 (.ite (.t 4)
 (.seq (.reg [] [fi 2 (.mv (.c (.int .i64 0)))])
 .ret)
 .skip))
 (.seq (.reg [] [fi 5 (.mv (.t 0)),
  fi 6 (.nilCheck (.t 5)),
  fi 7 (.fieldAddr 2 (.t 6)),
  fi 8 (.load false 1 (.t 7)),
  fi 9 (.len .sl (.t 8)),
  fi 2 (.mv (.t 9))])
 .ret)))
theorem k_wal_Log_Len : chkFn Try.prog n_wal_Log_Len ⟨b_wal_Log_Len, [.tmp 2], 10⟩ = true := by kernel_rfl
abbrev n_wal_Log_Sync : Nat := 51
def b_wal_Log_Sync : Cd := (.seq (.reg [] [fi 2 (.mv (.c (.int .i64 0)))])
 (.seq (.seq (.reg [] [fi 4 (.mv (.t 0)),
  fi 5 (.eq false .ptr (.t 4) (.c (.ptr none)))])
 (.ite (.t 5)
 (.seq (.reg [] [fi 2 (.mv (.c (.int .i64 8)))])
 .ret)
 .skip))
 (.seq (.reg [0, 1, 2, 3, 4, 5, 6, 7, 8, 9] [fi 6 (.mv (.t 0)),
  fi 7 (.nilCheck (.t 6)),
  fi 8 (.fieldAddr 0 (.t 7)),
  fi 9 (.load false 1 (.t 8)),
  fi 10 (.mv (.t 0)),
  fi 11 (.nilCheck (.t 10)),
  fi 12 (.fieldAddr 1 (.t 11)),
  fi 13 (.load false 1 (.t 12)),
  ei 14 (.call 69 [(.t 9), (.t 13)]),
  fi 3 (.mv (.t 14))])
 (.seq (.seq (.reg [] [fi 15 (.mv (.t 3)),
  fi 16 (.bin .eql (.t 15) (.c (.int .i64 8))),
  fi 17 (.mv (.t 16)),
  .run ⟨(some 18), (some (17, true)), .f (.mv (.t 0))⟩,
  .run ⟨(some 19), (some (17, true)), .f (.nilCheck (.t 18))⟩,
  .run ⟨(some 20), (some (17, true)), .f (.fieldAddr 2 (.t 19))⟩,
  .run ⟨(some 21), (some (17, true)), .f (.load false 1 (.t 20))⟩,
  .run ⟨(some 22), (some (17, true)), .f (.len .sl (.t 21))⟩,
  .run ⟨(some 23), (some (17, true)), .f (.bin .eql (.t 22) (.c (.int .i64 0)))⟩,
  fi 24 (.pick (.t 17) (.t 23) (.c (.bool false)))])
 (.ite (.t 24)
 (.seq (.reg [] [fi 2 (.mv (.c (.int .i64 0)))])
 .ret)
 .skip))
 (.seq (.reg [] [fi 25 (.mv (.t 3)),
  fi 2 (.mv (.t 25))])
 .ret)))))
theorem k_wal_Log_Sync : chkFn Try.prog n_wal_Log_Sync ⟨b_wal_Log_Sync, [.tmp 2], 26⟩ = true := by kernel_rfl
abbrev n_wal_Log_write : Nat := 46
def r_wal_Log_write_0 : Cd := (.seq (.blk 1 (.seq (.reg [] [fi 15 (.indexAddr 1 (.t 11) (.t 13)),
  fi 16 (.load false 1 (.t 15)),
  fi 7 (.mv (.t 16))])
 (.seq (.reg [] [fi 18 (.mv (.t 7)),
  ei 19 (.call 67 [(.t 18)]),
  fi 17 (.mv (.t 19)),
  fi 20 (.extract (.t 17) 0),
  fi 21 (.extract (.t 17) 1),
  fi 8 (.mv (.t 20)),
  fi 9 (.mv (.t 21))])
 (.seq (.seq (.reg [] [fi 22 (.mv (.t 9)),
  fi 23 (.bin .neq (.t 22) (.c (.int .i64 0)))])
 (.ite (.t 23)
 (.seq (.reg [] [fi 24 (.mv (.t 9)),
  fi 4 (.mv (.t 24))])
 .ret)
 .skip))
 (.reg [] [fi 25 (.mv (.t 5)),
  fi 26 (.mv (.t 8)),
  ei 27 (.append 1 1 false (.t 25) (.t 26)),
  fi 5 (.mv (.t 27))])))))
 (.reg [] [fi 28 (.bin .add (.t 13) (.c (.int .i64 1))),
  fi 13 (.mv (.t 28))]))
def l_wal_Log_write_0 : Cd := (.seq (.reg [] [fi 14 (.bin .lss (.t 13) (.t 12))])
 (.seq (.ite (.t 14)
 .skip
 (.exit 0))
 r_wal_Log_write_0))
def r_wal_Log_write_1 : Cd := (.seq (.seq (.reg [] [fi 68 (.mv (.t 10)),
  fi 69 (.bin .neq (.t 68) (.c (.int .i64 0))),
  fi 70 (.mv (.t 69)),
  .run ⟨(some 71), (some (70, true)), .f (.mv (.t 10))⟩,
  .run ⟨(some 72), (some (70, true)), .f (.bin .neq (.t 71) (.c (.int .i64 10)))⟩,
  fi 73 (.pick (.t 70) (.t 72) (.c (.bool false)))])
 (.ite (.t 73)
 (.reg [0, 1, 2, 3, 4, 5, 6, 7, 8, 9] [fi 74 (.mv (.t 0)),
  fi 75 (.nilCheck (.t 74)),
  fi 76 (.fieldAddr 0 (.t 75)),
  fi 77 (.load false 1 (.t 76)),
  fi 78 (.mv (.t 0)),
  fi 79 (.nilCheck (.t 78)),
  fi 80 (.fieldAddr 1 (.t 79)),
  fi 81 (.load false 1 (.t 80)),
  fi 82 (.bin .add (.t 81) (.c (.str (mkS [46, 110, 101, 119])))),
  ei 83 (.call 43 [(.t 77), (.t 82)])])
 .skip))
 (.seq (.reg [] [fi 84 (.mv (.t 10)),
  fi 4 (.mv (.t 84))])
 .ret))
def r_wal_Log_write_2 : Cd := (.seq (.seq (.reg [] [fi 52 (.mv (.t 10)),
  fi 53 (.bin .eql (.t 52) (.c (.int .i64 0)))])
 (.ite (.t 53)
 (.reg [0, 1, 2, 3, 4, 5, 6, 7, 8, 9, 10, 11, 12, 13, 14] [fi 54 (.mv (.t 0)),
  fi 55 (.nilCheck (.t 54)),
  fi 56 (.fieldAddr 0 (.t 55)),
  fi 57 (.load false 1 (.t 56)),
  fi 58 (.mv (.t 0)),
  fi 59 (.nilCheck (.t 58)),
  fi 60 (.fieldAddr 1 (.t 59)),
  fi 61 (.load false 1 (.t 60)),
  fi 62 (.bin .add (.t 61) (.c (.str (mkS [46, 110, 101, 119])))),
  fi 63 (.mv (.t 0)),
  fi 64 (.nilCheck (.t 63)),
  fi 65 (.fieldAddr 1 (.t 64)),
  fi 66 (.load false 1 (.t 65)),
  ei 67 (.call 70 [(.t 57), (.t 62), (.t 66)]),
  fi 10 (.mv (.t 67))])
 .skip))
 r_wal_Log_write_1)
def s_wal_Log_write_0 : Cd := (.seq (.reg [0, 1, 2, 3, 4, 5, 6, 7, 8, 9, 10, 11] [fi 29 (.mv (.t 0)),
  fi 30 (.nilCheck (.t 29)),
  fi 31 (.fieldAddr 0 (.t 30)),
  fi 32 (.load false 1 (.t 31)),
  fi 33 (.mv (.t 0)),
  fi 34 (.nilCheck (.t 33)),
  fi 35 (.fieldAddr 1 (.t 34)),
  fi 36 (.load false 1 (.t 35)),
  fi 37 (.bin .add (.t 36) (.c (.str (mkS [46, 110, 101, 119])))),
  fi 38 (.mv (.t 5)),
  ei 39 (.call 68 [(.t 32), (.t 37), (.t 38)]),
  fi 10 (.mv (.t 39))])
 (.seq (.seq (.reg [] [fi 40 (.mv (.t 10)),
  fi 41 (.bin .eql (.t 40) (.c (.int .i64 0)))])
 (.ite (.t 41)
 (.reg [0, 1, 2, 3, 4, 5, 6, 7, 8, 9, 10] [fi 42 (.mv (.t 0)),
  fi 43 (.nilCheck (.t 42)),
  fi 44 (.fieldAddr 0 (.t 43)),
  fi 45 (.load false 1 (.t 44)),
  fi 46 (.mv (.t 0)),
  fi 47 (.nilCheck (.t 46)),
  fi 48 (.fieldAddr 1 (.t 47)),
  fi 49 (.load false 1 (.t 48)),
  fi 50 (.bin .add (.t 49) (.c (.str (mkS [46, 110, 101, 119])))),
  ei 51 (.call 69 [(.t 45), (.t 50)]),
  fi 10 (.mv (.t 51))])
 .skip))
 r_wal_Log_write_2))
def b_wal_Log_write : Cd := (.seq (.reg [] [fi 4 (.mv (.c (.int .i64 0)))])
 (.seq (.reg [] [fi 5 (.mv (.c (.sl [] 0 1 .nil)))])
 (.seq (.seq (.reg [] [fi 11 (.mv (.t 1)),
  fi 12 (.len .sl (.t 11)),
  fi 13 (.mv (.c (.int .i64 0)))])
 (.blk 0 (.loop l_wal_Log_write_0)))
 s_wal_Log_write_0)))
theorem k_wal_Log_write : chkFn Try.prog n_wal_Log_write ⟨b_wal_Log_write, [.tmp 4], 85⟩ = true := by kernel_rfl
abbrev n_wal_Open : Nat := 23
def r_wal_Open_0 : Cd := (.seq (.reg [] [fi 48 (.mv (.t 7)),
  ei 49 (.call 45 [(.t 48)]),
  fi 47 (.mv (.t 49)),
  fi 50 (.extract (.t 47) 0),
  fi 51 (.extract (.t 47) 1),
  fi 9 (.mv (.t 50)),
  fi 10 (.mv (.t 51))])
 (.seq (.reg [] [fi 52 (.mv (.t 0)),
  fi 53 (.mv (.t 1)),
  fi 54 (.mv (.t 9)),
  fi 55 (.build [(.ptr none), (.str (mkS [])), (.sl [] 0 1 .nil)] [(0, 1, (.t 52)), (1, 1, (.t 53)), (2, 1, (.t 54))]),
  ei 56 (.box (.t 55)),
  fi 11 (.mv (.t 56))])
 (.seq (.seq (.reg [] [fi 57 (.mv (.t 10)),
  fi 58 (.mv (.t 7)),
  fi 59 (.len .sl (.t 58)),
  fi 60 (.bin .lss (.t 57) (.t 59))])
 (.ite (.t 60)
 (.seq (.reg [] [fi 61 (.mv (.t 11)),
  fi 62 (.mv (.t 9)),
  ei 63 (.call 46 [(.t 61), (.t 62)]),
  fi 12 (.mv (.t 63))])
 (.seq (.reg [] [fi 64 (.mv (.t 12)),
  fi 65 (.bin .neq (.t 64) (.c (.int .i64 0)))])
 (.ite (.t 65)
 (.seq (.reg [] [fi 66 (.mv (.t 12)),
  fi 4 (.mv (.c (.ptr none))),
  fi 5 (.mv (.t 66))])
 .ret)
 .skip)))
 .skip))
 (.seq (.reg [] [fi 67 (.mv (.t 11)),
  fi 4 (.mv (.t 67)),
  fi 5 (.mv (.c (.int .i64 0)))])
 .ret))))
def r_wal_Open_1 : Cd := (.seq (.reg [] [fi 35 (.mv (.t 0)),
  fi 36 (.mv (.t 1)),
  ei 37 (.call 44 [(.t 35), (.t 36)]),
  fi 34 (.mv (.t 37)),
  fi 38 (.extract (.t 34) 0),
  fi 39 (.extract (.t 34) 1),
  fi 7 (.mv (.t 38)),
  fi 8 (.mv (.t 39))])
 (.seq (.seq (.reg [] [fi 40 (.mv (.t 8)),
  fi 41 (.bin .neq (.t 40) (.c (.int .i64 0))),
  fi 42 (.mv (.t 41)),
  .run ⟨(some 43), (some (42, true)), .f (.mv (.t 8))⟩,
  .run ⟨(some 44), (some (42, true)), .f (.bin .neq (.t 43) (.c (.int .i64 8)))⟩,
  fi 45 (.pick (.t 42) (.t 44) (.c (.bool false)))])
 (.ite (.t 45)
 (.seq (.reg [] [fi 46 (.mv (.t 8)),
  fi 4 (.mv (.c (.ptr none))),
  fi 5 (.mv (.t 46))])
 .ret)
 .skip))
 r_wal_Open_0))
def r_wal_Open_2 : Cd := (.seq (.seq (.reg [] [fi 23 (.mv (.t 0)),
  fi 24 (.mv (.t 1)),
  fi 25 (.bin .add (.t 24) (.c (.str (mkS [46, 110, 101, 119])))),
  ei 26 (.call 43 [(.t 23), (.t 25)]),
  fi 6 (.mv (.t 26))])
 (.seq (.reg [] [fi 27 (.mv (.t 6)),
  fi 28 (.bin .neq (.t 27) (.c (.int .i64 0))),
  fi 29 (.mv (.t 28)),
  .run ⟨(some 30), (some (29, true)), .f (.mv (.t 6))⟩,
  .run ⟨(some 31), (some (29, true)), .f (.bin .neq (.t 30) (.c (.int .i64 8)))⟩,
  fi 32 (.pick (.t 29) (.t 31) (.c (.bool false)))])
 (.ite (.t 32)
 (.seq (.reg [] [fi 33 (.mv (.t 6)),
  fi 4 (.mv (.c (.ptr none))),
  fi 5 (.mv (.t 33))])
 .ret)
 .skip)))
 r_wal_Open_1)
def b_wal_Open : Cd := (.seq (.reg [] [fi 4 (.mv (.c (.ptr none))),
  fi 5 (.mv (.c (.int .i64 0)))])
 (.seq (.seq (.reg [] [fi 13 (.mv (.t 0)),
  fi 14 (.eq false .ptr (.t 13) (.c (.ptr none)))])
 (.ite (.t 14)
 (.seq (.reg [] [fi 4 (.mv (.c (.ptr none))),
  fi 5 (.mv (.c (.int .i64 8)))])
 .ret)
 .skip))
 (.seq (.seq (.reg [] [fi 15 (.mv (.t 1)),
  ei 16 (.call 42 [(.t 15)]),
  fi 17 (.un .not (.t 16)),
  fi 18 (.mv (.t 17)),
  .run ⟨(some 19), (some (18, false)), .f (.mv (.t 1))⟩,
  .run ⟨(some 20), (some (18, false)), .f (.len .str (.t 19))⟩,
  .run ⟨(some 21), (some (18, false)), .f (.bin .gtr (.t 20) (.c (.int .i64 28)))⟩,
  fi 22 (.pick (.t 18) (.c (.bool true)) (.t 21))])
 (.ite (.t 22)
 (.seq (.reg [] [fi 4 (.mv (.c (.ptr none))),
  fi 5 (.mv (.c (.int .i64 1)))])
 .ret)
 .skip))
 r_wal_Open_2)))
theorem k_wal_Open : chkFn Try.prog n_wal_Open ⟨b_wal_Open, [.tmp 4, .tmp 5], 68⟩ = true := by kernel_rfl
abbrev n_wal_Scan : Nat := 45
def l_wal_Scan_0 : Cd := (.blk 1 (.seq (.reg [] [fi 10 (.mv (.t 0)),
  fi 11 (.mv (.t 5)),
  ei 12 (.call 66 [(.t 10), (.t 11)]),
  fi 9 (.mv (.t 12)),
  fi 13 (.extract (.t 9) 0),
  fi 14 (.extract (.t 9) 1),
  fi 15 (.extract (.t 9) 2),
  fi 6 (.mv (.t 13)),
  fi 7 (.mv (.t 14)),
  fi 8 (.mv (.t 15))])
 (.seq (.seq (.reg [] [fi 16 (.mv (.t 8)),
  fi 17 (.bin .neq (.t 16) (.c (.int .i64 0)))])
 (.ite (.t 17)
 (.seq (.reg [] [fi 18 (.mv (.t 4)),
  fi 19 (.mv (.t 5)),
  fi 2 (.mv (.t 18)),
  fi 3 (.mv (.t 19))])
 .ret)
 .skip))
 (.reg [] [fi 20 (.mv (.t 4)),
  fi 21 (.mv (.t 6)),
  ei 22 (.buildSlice 1 1 0 [(.sl [] 0 1 .nil)] [(0, 1, (.t 21))]),
  ei 23 (.append 1 24 false (.t 20) (.t 22)),
  fi 24 (.mv (.t 7)),
  fi 4 (.mv (.t 23)),
  fi 5 (.mv (.t 24))]))))
def b_wal_Scan : Cd := (.seq (.reg [] [fi 2 (.mv (.c (.sl [] 0 1 .nil))),
  fi 3 (.mv (.c (.int .i64 0)))])
 (.seq (.reg [] [fi 4 (.mv (.c (.sl [] 0 1 .nil)))])
 (.seq (.reg [] [fi 5 (.mv (.c (.int .i64 0)))])
 (.blk 0 (.loop l_wal_Scan_0)))))
theorem k_wal_Scan : chkFn Try.prog n_wal_Scan ⟨b_wal_Scan, [.tmp 2, .tmp 3], 25⟩ = true := by kernel_rfl
end Go.VM
namespace Go.VM
open Go Go.RowKit Go.Proofs
def BytesR (c : List V) (l : List UInt8) : Prop := ∃ v, c = [v] ∧ IsBytes v l
inductive Scans : List UInt8 → List (List UInt8) → Nat → Prop
 | stop {l : List UInt8} {e : Int} (h : readF l = .inl e) : Scans l [] 0
 | step {l q : List UInt8} {k n : Nat} {L : List (List UInt8)} (h : readF l = .inr (q, k)) (r : Scans (l.drop k) L n) : Scans l (q :: L) (k + n)
theorem Scans.det {l : List UInt8} {L L' : List (List UInt8)} {n n' : Nat} (h : Scans l L n) (h' : Scans l L' n') : L = L' ∧ n = n' := by
 induction h generalizing L' n' with
 | stop h => cases h' with
  | stop h' => exact ⟨rfl, rfl⟩
  | step h' r => rw [h] at h'; cases h'
 | step h r ih => cases h' with
  | stop h' => rw [h] at h'; cases h'
  | step h' r' =>
   rw [h] at h'; injection h' with h'; injection h' with h1 h2
   subst h1; subst h2
   obtain ⟨rfl, rfl⟩ := ih r'
   exact ⟨rfl, rfl⟩
theorem wi_appendR {α : Type} {R : List V → α → Prop} {cl : Cl} {fr : Fr} {S : St} {K : Fr → St → Prop} {Kp : V → St → Prop} {dst : Option Nat} {sz bytes : Nat} {s x : Arg} {r : List Item} {v : V} {l : List α} {y : α} {c : List V} {t : Tok}
  (hs : s.ev fr = v) (hv : IsSlice R sz v l t) (hx : (x.ev fr).elems S sz = some (1, c)) (hc : c.length = sz) (hy : R c y) (hr : (l.length + 1) * bytes ≤ 140737488355328) (ht : TokOk S t)
  (hK : ∀ t' S' v', IsSlice R sz v' (l ++ [y]) t' → Keeps (tokOwn t) S S' → TokOk S' t' → (∀ j, t' = .at j → S.n ≤ j) → t' ≠ .nil → wItems cl r (fr.put dst v') S' K Kp) :
  wItems cl (.run ⟨dst, none, .e (.append sz bytes false s x)⟩ :: r) fr S K Kp := by
 obtain ⟨cs, rfl⟩ := hv.len
 refine wi_append (n := l.length) (cs := cs) (t := t) (m := 1) (xs := c) hs hx (by omega) (by simp only [roomOk, decide_eq_true_eq]; exact hr) ht (fun e => ?_) fun t' S' k' ht' hn' hz => ?_
 ·subst e; obtain ⟨L, e, hn, _, hl, _⟩ := hv.ex
  injection e with e1 e2
  have := hn rfl
  subst this
  have : L = [] := List.eq_nil_of_length_eq_zero hl
  subst this
  exact ⟨e1, rfl⟩
 ·have hn : t' ≠ .nil := fun e => absurd (hz e).1 (by decide)
  exact hK t' S' _ (hv.app hc hy hn) k' ht' hn' hn
theorem readF_err {l : List UInt8} {e : Int} (h : readF l = .inl e) : e ≠ 0 := by
 unfold readF at h
 split at h
 ·injection h with h; subst h; decide
 ·split at h
  ·injection h with h; subst h; decide
  ·split at h
   ·injection h with h; subst h; decide
   ·split at h
    ·injection h with h; subst h; decide
    ·cases h
theorem IsBytes.cells {v : V} {bs : List UInt8} (h : IsBytes v bs) : v.cells = [v] := by obtain ⟨t, rfl, _⟩ := h; rfl
theorem elems1 (S : St) (v : V) (t : Tok) (ht : t ≠ .nil) : (V.sl [v] 1 1 t).elems S 1 = some (1, [v]) := by
 simp [V.elems, ht]
theorem scan_runs {w0 : World} {S : St} {Q : AEnd → St → Prop} {v : V} {bs : List UInt8} (hv : IsBytes v bs) (hl : bs.length ≤ 10000000000000)
  (hQ : ∀ S' v' L n t', Scans bs L n → IsSlice BytesR 1 v' L t' → TokOk S' t' → (∀ j, t' = .at j → S.n ≤ j) → n ≤ bs.length → Keeps (fun _ => False) S S' → Q (.ret (.tup [v', .int .i64 (n : Int)])) S') :
  RSim Try.prog w0 n_wal_Scan [v] S Q := by
 refine RSim.run mixed k_wal_Scan ?_ (by simp)
 simp only [b_wal_Scan, go_sem]
 refine loop_rule RSim.le (k := bs.length) (fun m fr S1 => ∃ (p : Nat) (L : List (List UInt8)) (v' : V) (t' : Tok), m = bs.length - p ∧ p ≤ bs.length ∧ 7 * L.length ≤ p ∧ fr 0 = v ∧ fr 4 = v' ∧ fr 5 = .int .i64 p ∧ IsSlice BytesR 1 v' L t' ∧ TokOk S1 t' ∧ (∀ j, t' = .at j → S.n ≤ j) ∧ Keeps (fun _ => False) S S1 ∧ ∀ L' n', Scans (bs.drop p) L' n' → Scans bs (L ++ L') (p + n')) ?_
  ⟨0, [], _, .nil, rfl, by omega, by simp, by simp only [go_sem], by simp only [go_sem], by simp only [go_sem]; rfl, isSlice_nil BytesR 1, trivial, fun j h => (by cases h), Keeps.refl _ _, fun L' n' h => by simpa using h⟩
 rintro m fr S1 ⟨p, L, v', t', hm, hp, h7, f0, f4, f5, hs, ht', ho', k1, hsc⟩
 simp only [l_wal_Scan_0, go_sem, f0, f4, f5]
 refine wi_call ?_
 simp only [go_sem]
 refine readFrame_runs hv hp (by omega) (fun e S2 he k2 => ?_) fun q k S2 vq hq hvq hk hpk k2 => ?_
 ·have he0 : (e != 0) = true := by simpa using readF_err he
  simp only [go_sem, he0]
  refine wc_ite (b := true) (by simp only [go_sem] <;> rfl) (fun _ => ?_) (fun h => by cases h)
  simp only [go_sem, f4, f5]
  have := hsc [] 0 (.stop he)
  rw [List.append_nil, Nat.add_zero] at this
  exact hQ S2 v' L p t' this hs (ht'.keep k2 fun _ _ => id) ho' hp (k1.trans k2 fun _ _ h => h)
 ·simp only [go_sem]
  refine wc_ite (b := false) (by simp only [go_sem] <;> rfl) (fun h => by cases h) (fun _ => ?_)
  simp only [go_sem, f4, hvq.one, hvq.cells]
  refine wi_appendR (R := BytesR) (v := v') (l := L) (y := q) (c := [vq]) (t := t') (by simp only [go_sem, f4]) hs (by simp only [go_sem]; exact elems1 _ _ _ (by simp)) rfl ⟨vq, rfl, hvq⟩ (by omega) (ht'.keep k2 fun _ _ => id) fun t2 S3 v2 hs2 k3 ht2 hn2 hz2 => ?_
  simp only [go_sem]
  refine ⟨bs.length - (p + k), by omega, p + k, L ++ [q], v2, t2, rfl, hpk, by simp; omega, by simp only [go_sem, f0], by simp only [go_sem], by simp only [go_sem], hs2, ht2, fun j hj => Nat.le_trans (Nat.le_trans k1.n k2.n) (hn2 j hj), keeps_new (k1.trans k2 fun _ _ h => h) k3 ho', fun L' n' h' => ?_⟩
  have := hsc (q :: L') (k + n') (.step hq (by rw [List.drop_drop]; exact h'))
  rw [List.append_assoc, Nat.add_assoc]
  exact this
end Go.VM
namespace Go.VM
open Go Go.RowKit Go.Proofs
structure After (S : St) (i : Nat) (D : Dk) (S' : St) (D' : Dk) : Prop where
 d : DiskAt S' i D'
 k : Keeps (ownD i D) S S'
 o : ∀ j, ownD i D' j → ownD i D j ∨ S.n ≤ j
theorem After.refl {S : St} {i : Nat} {D : Dk} (h : DiskAt S i D) : After S i D S D := ⟨h, Keeps.refl _ _, fun _ h => .inl h⟩
theorem After.trans {S S1 S2 : St} {i : Nat} {D D1 D2 : Dk} (h : After S i D S1 D1) (h' : After S1 i D1 S2 D2) : After S i D S2 D2 :=
 ⟨h'.d, h.k.trans h'.k fun j hj ho => (h.o j ho).elim id fun h => by omega, fun j hj => (h'.o j hj).elim (h.o j) fun h1 => .inr (Nat.le_trans h.k.n h1)⟩
theorem After.new {S S1 : St} {i : Nat} {D : Dk} (h : DiskAt S i D) (k : Keeps (fun _ => False) S S1) : After S i D S1 D := ⟨h.stay k, k.mono fun _ _ h => h.elim, fun _ h => .inl h⟩
theorem After.cells {S S' : St} {i : Nat} {D D' : Dk} (h : After S i D S' D') {g : Nat} {cs : List V} (hc : S.cells g = some cs) (hg : g < S.n) (hn : ¬ ownD i D g) : S'.cells g = some cs := h.k.cells hc hg hn
theorem After.no {S S' : St} {i : Nat} {D D' : Dk} (h : After S i D S' D') {g : Nat} (hg : g < S.n) (hn : ¬ ownD i D g) : ¬ ownD i D' g := fun h' => (h.o g h').elim hn fun h => by omega
def newN (s : List UInt8) : List UInt8 := s ++ [46, 110, 101, 119]
def fileB (L : List (List UInt8)) : List UInt8 := L.flatMap frameB
def longL (L : List (List UInt8)) : Bool := L.any fun r => decide (65535 < r.length)
def DS.write3 (c : Int × DS) (n : List UInt8) : Int × DS := if c.1 ≠ 0 ∧ c.1 ≠ 10 then (c.1, (c.2.remove n).2) else c
def DS.write2 (b : Int × DS) (s : List UInt8) : Int × DS := DS.write3 (if b.1 = 0 then b.2.rename (newN s) s else b) (newN s)
def DS.write1 (a : Int × DS) (s : List UInt8) : Int × DS := DS.write2 (if a.1 = 0 then a.2.sync (newN s) else a) s
def DS.writeL (D : DS) (s : List UInt8) (L : List (List UInt8)) : Int × DS := if longL L = true then (2, D) else DS.write1 (D.grow (newN s) (fileB L) true) s
theorem write_end {w0 : World} {fr : Fr} {S : St} {Q : AEnd → St → Prop} {i g : Nat} {D : Dk} {s : List UInt8} {x : V} {e : Int} (d : DiskAt S i D) (hc : S.cells g = some [.ptr (some (i, 0)), .str (mkS s), x]) (hs : s.length ≤ 1000)
  (g0 : fr 0 = .ptr (some (g, 0))) (g10 : fr 10 = .int .i64 e)
  (hQ : ∀ S' D', After S i D S' D' → D'.abs = (DS.write3 (e, D.abs) (newN s)).2 → Q (.ret (.int .i64 (DS.write3 (e, D.abs) (newN s)).1)) S') :
  wCode (RSim Try.prog w0) r_wal_Log_write_1 fr S (resQ [.tmp 4] Q) := by
 have hadd : binStr .add (mkS s) (mkS [46, 110, 101, 119]) = some (.str (mkS (newN s))) := str_add' (by simp; omega)
 have hnl : (newN s).length ≤ 1000000000000000 := by simp [newN]; omega
 simp only [r_wal_Log_write_1, go_sem, g0, g10]
 have stay : ¬ (e ≠ 0 ∧ e ≠ 10) → Q (.ret (.int .i64 e)) S := fun h => by
  have := hQ S D (After.refl d)
  simp only [DS.write3] at this
  rw [if_neg h] at this
  exact this rfl
 by_cases h1 : e ≠ 0
 ·have q1 : (e != 0) = true := by simpa using h1
  by_cases h2 : e ≠ 10
  ·have hq := hQ
   have q2 : (e != 10) = true := by simpa using h2
   simp only [DS.write3] at hq
   rw [if_pos ⟨h1, h2⟩] at hq
   simp only [go_sem, q1, q2, g10]
   refine wc_ite (b := true) (by simp only [go_sem] <;> rfl) (fun _ => ?_) (fun h => by cases h)
   simp only [go_sem, g0, hc, hadd]
   refine wi_call ?_
   simp only [go_sem]
   refine remove_runs d hnl fun S1 D1 d1 a1 k1 o1 => ?_
   simp only [go_sem, g10]
   exact hq S1 D1 ⟨d1, k1, fun j hj => .inl (o1 j hj)⟩ a1
  ·have := stay fun h => h2 h.2
   have q2 : (e != 10) = false := by simpa using h2
   simp only [go_sem, q1, q2, g10]
   refine wc_ite (b := false) (by simp only [go_sem] <;> rfl) (fun h => by cases h) (fun _ => ?_)
   simp only [go_sem, g10]
   exact this
 ·have := stay fun h => h1 h.1
  have q1 : (e != 0) = false := by simpa using h1
  simp only [go_sem, q1]
  refine wc_ite (b := false) (by simp only [go_sem] <;> rfl) (fun h => by cases h) (fun _ => ?_)
  simp only [go_sem, g10]
  exact this
theorem write_mid {w0 : World} {fr : Fr} {S : St} {Q : AEnd → St → Prop} {i g : Nat} {D : Dk} {s : List UInt8} {x : V} {e : Int} (d : DiskAt S i D) (hc : S.cells g = some [.ptr (some (i, 0)), .str (mkS s), x]) (hg : g < S.n) (hn : ¬ ownD i D g) (hs : s.length ≤ 1000)
  (g0 : fr 0 = .ptr (some (g, 0))) (g10 : fr 10 = .int .i64 e)
  (hQ : ∀ S' D', After S i D S' D' → D'.abs = (DS.write2 (e, D.abs) s).2 → Q (.ret (.int .i64 (DS.write2 (e, D.abs) s).1)) S') :
  wCode (RSim Try.prog w0) r_wal_Log_write_2 fr S (resQ [.tmp 4] Q) := by
 have hadd : binStr .add (mkS s) (mkS [46, 110, 101, 119]) = some (.str (mkS (newN s))) := str_add' (by simp; omega)
 have hnl : (newN s).length ≤ 1000000000000000 := by simp [newN]; omega
 simp only [r_wal_Log_write_2, go_sem, g0, g10]
 unfold DS.write2 at hQ
 by_cases h1 : e = 0
 ·have q1 : (e == 0) = true := by simpa using h1
  rw [if_pos h1] at hQ
  simp only [go_sem, q1]
  refine wc_ite (b := true) (by simp only [go_sem] <;> rfl) (fun _ => ?_) (fun h => by cases h)
  simp only [go_sem, g0, hc, hadd]
  refine wi_call ?_
  simp only [go_sem]
  refine rename_runs d hnl (by omega) fun S1 D1 d1 a1 k1 o1 => ?_
  have A1 : After S i D S1 D1 := ⟨d1, k1, fun j hj => .inl (o1 j hj)⟩
  simp only [go_sem]
  refine write_end (e := (D.abs.rename (newN s) s).1) d1 (A1.cells hc hg hn) hs (by simp only [go_sem, g0]) (by simp only [go_sem]) fun S2 D2 A2 a2 => ?_
  rw [a1] at a2 ⊢
  exact hQ S2 D2 (A1.trans A2) a2
 ·have q1 : (e == 0) = false := by simpa using h1
  rw [if_neg h1] at hQ
  simp only [go_sem, q1]
  refine wc_ite (b := false) (by simp only [go_sem] <;> rfl) (fun h => by cases h) (fun _ => ?_)
  simp only [wc_skip, seqQ_normal]
  exact write_end d hc hs (by simp only [go_sem, g0]) (by simp only [go_sem, g10]) hQ
theorem write_put {w0 : World} {fr : Fr} {S : St} {Q : AEnd → St → Prop} {i g : Nat} {D : Dk} {s p : List UInt8} {x pv : V} (d : DiskAt S i D) (hc : S.cells g = some [.ptr (some (i, 0)), .str (mkS s), x]) (hg : g < S.n) (hn : ¬ ownD i D g) (hs : s.length ≤ 1000)
  (g0 : fr 0 = .ptr (some (g, 0))) (g5 : fr 5 = pv) (hp : IsBytes pv p) (hpl : p.length ≤ 1000000000000000)
  (hQ : ∀ S' D', After S i D S' D' → D'.abs = (DS.write1 (D.abs.grow (newN s) p true) s).2 → Q (.ret (.int .i64 (DS.write1 (D.abs.grow (newN s) p true) s).1)) S') :
  wCode (RSim Try.prog w0) s_wal_Log_write_0 fr S (resQ [.tmp 4] Q) := by
 have hadd : binStr .add (mkS s) (mkS [46, 110, 101, 119]) = some (.str (mkS (newN s))) := str_add' (by simp; omega)
 have hnl : (newN s).length ≤ 1000000000000000 := by simp [newN]; omega
 simp only [s_wal_Log_write_0, go_sem, g0, g5, hc, hadd]
 refine wi_call ?_
 simp only [go_sem]
 refine put_runs d hnl (hp.into _ _) hpl fun S1 D1 d1 a1 k1 o1 => ?_
 have A1 : After S i D S1 D1 := ⟨d1, k1, o1⟩
 have hc1 := A1.cells hc hg hn
 have hg1 := k1.lt hg
 have hn1 := A1.no hg hn
 unfold DS.write1 at hQ
 generalize he : D.abs.grow (newN s) p true = a at *
 obtain ⟨e, E⟩ := a
 simp only [go_sem, g0]
 simp only at a1 hQ
 by_cases h1 : e = 0
 ·have q1 : (e == 0) = true := by simpa using h1
  rw [if_pos h1] at hQ
  simp only [go_sem, q1]
  refine wc_ite (b := true) (by simp only [go_sem] <;> rfl) (fun _ => ?_) (fun h => by cases h)
  simp only [go_sem, g0, hc1, hadd]
  refine wi_call ?_
  simp only [go_sem]
  refine sync_runs d1 hnl fun S2 D2 d2 a2 k2 o2 => ?_
  have A2 : After S1 i D1 S2 D2 := ⟨d2, k2, o2⟩
  simp only [go_sem]
  refine write_mid (e := (D1.abs.sync (newN s)).1) d2 (A2.cells hc1 hg1 hn1) (k2.lt hg1) (A2.no hg1 hn1) hs (by simp only [go_sem, g0]) (by simp only [go_sem]) fun S3 D3 A3 a3 => ?_
  rw [a2] at a3 ⊢
  rw [a1] at a3 ⊢
  exact hQ S3 D3 (A1.trans (A2.trans A3)) a3
 ·have q1 : (e == 0) = false := by simpa using h1
  rw [if_neg h1] at hQ
  simp only [go_sem, q1]
  refine wc_ite (b := false) (by simp only [go_sem] <;> rfl) (fun h => by cases h) (fun _ => ?_)
  simp only [wc_skip, seqQ_normal]
  refine write_mid (e := e) d1 hc1 hg1 hn1 hs (by simp only [go_sem, g0]) (by simp only [go_sem]) fun S3 D3 A3 a3 => ?_
  rw [a1] at a3 ⊢
  exact hQ S3 D3 (A1.trans A3) a3
end Go.VM
namespace Go.VM
open Go Go.RowKit Go.Proofs
theorem IsSlice.get {cs : List V} {n : Nat} {L : List (List UInt8)} {t : Tok} (h : IsSlice BytesR 1 (.sl cs n 1 t) L t) {j : Nat} {r : List UInt8} (hr : L[j]? = some r) :
  ∃ v rest, cs.drop (j * 1) = v :: rest ∧ IsBytes v r ∧ (t = .nil) = False ∧ (j < n) = True := by
 obtain ⟨cs', c, e, ht, hj, hl, hc, _, v, rfl, hv⟩ := h.at2 hr
 injection e with e1 e2
 subst e1; subst e2
 match hd : cs.drop (j * 1), hl with
 | x :: rest, _ =>
  rw [hd] at hc
  simp at hc
  subst hc
  exact ⟨x, rest, rfl, hv, eq_false ht, eq_true hj⟩
theorem fileB_snoc (L : List (List UInt8)) (r : List UInt8) : fileB (L ++ [r]) = fileB L ++ frameB r := by simp [fileB]
theorem fileB_append (L M : List (List UInt8)) : fileB (L ++ M) = fileB L ++ fileB M := by simp [fileB]
theorem fileB_take_le (L : List (List UInt8)) (j : Nat) : (fileB (L.take j)).length ≤ (fileB L).length := by
 have := fileB_append (L.take j) (L.drop j)
 rw [List.take_append_drop] at this
 rw [this, List.length_append]; omega
theorem take_snoc {α : Type} {L : List α} {j : Nat} {r : α} (h : L[j]? = some r) : L.take (j + 1) = L.take j ++ [r] := by
 rw [List.take_add_one, h]; rfl
theorem longL_mem {L : List (List UInt8)} {j : Nat} {r : List UInt8} (h : L[j]? = some r) (hl : 65535 < r.length) : longL L = true := by
 unfold longL; rw [List.any_eq_true]
 exact ⟨r, List.mem_of_getElem? h, by simpa using hl⟩
theorem write_runs {w0 : World} {S : St} {Q : AEnd → St → Prop} {i g : Nat} {D : Dk} {s : List UInt8} {L : List (List UInt8)} {x lv : V} {t : Tok} (d : DiskAt S i D) (hc : S.cells g = some [.ptr (some (i, 0)), .str (mkS s), x]) (hg : g < S.n) (hn : ¬ ownD i D g) (hs : s.length ≤ 1000)
  (hv : IsSlice BytesR 1 lv L t) (hb : (fileB L).length ≤ 10000000000000) (hll : L.length ≤ 10000000000000)
  (hQ : ∀ S' D', After S i D S' D' → D'.abs = (D.abs.writeL s L).2 → Q (.ret (.int .i64 (D.abs.writeL s L).1)) S') :
  RSim Try.prog w0 n_wal_Log_write [.ptr (some (g, 0)), lv] S Q := by
 obtain ⟨cs, rfl⟩ := hv.len
 refine RSim.run mixed k_wal_Log_write ?_ (by simp)
 simp only [b_wal_Log_write, go_sem]
 refine loop_rule RSim.le (k := L.length) (fun m fr S1 => ∃ (j : Nat) (t' : Tok), m = L.length - j ∧ j ≤ L.length ∧ fr 0 = .ptr (some (g, 0)) ∧ fr 5 = .sl ((fileB (L.take j)).map u8V) (fileB (L.take j)).length 1 t' ∧ fr 11 = .sl cs L.length 1 t ∧ fr 12 = .int .i64 L.length ∧ fr 13 = .int .i64 j ∧ longL (L.take j) = false ∧
   Keeps (fun _ => False) S S1 ∧ TokOk S1 t' ∧ (∀ j, t' = .at j → S.n ≤ j) ∧ (t' = .nil → fileB (L.take j) = [])) ?_
  ⟨0, .nil, rfl, by omega, by simp only [go_sem], by simp only [go_sem]; rfl, by simp only [go_sem], by simp only [go_sem], by simp only [go_sem]; rfl, rfl, Keeps.refl _ _, trivial, fun j h => (by cases h), fun _ => rfl⟩
 rintro m fr S1 ⟨j, t', hm, hj, f0, f5, f11, f12, f13, hlong, k1, ht', ho', hz'⟩
 simp only [l_wal_Log_write_0, go_sem, f0, f5, f11, f12, f13]
 have hfl := fileB_take_le L j
 refine wc_ite (b := decide ((j : Int) < (L.length : Int))) (by simp only [go_sem]) (fun hc => ?_) (fun hc => ?_)
 ·have hlt : j < L.length := by have := of_decide_eq_true hc; omega
  obtain ⟨r, hr⟩ : ∃ r, L[j]? = some r := ⟨L[j], List.getElem?_eq_getElem hlt⟩
  obtain ⟨v, rest, hd, hvr, htn, hjn⟩ := hv.get hr
  simp only [r_wal_Log_write_0, go_sem, f0, f5, f11, f12, f13, hd, htn, hjn, List.head?_cons]
  refine wi_call ?_
  simp only [go_sem]
  refine frame_runs hvr (fun hr65 S2 v' hv' k2 => ?_) fun hr65 => ?_
  ·simp only [go_sem]
   refine wc_ite (b := false) (by simp only [go_sem] <;> rfl) (fun h => by cases h) (fun _ => ?_)
   simp only [go_sem, f5]
   have htk := take_snoc hr
   have hft : fileB (L.take (j + 1)) = fileB (L.take j) ++ frameB r := by rw [htk, fileB_snoc]
   have hfl1 := fileB_take_le L (j + 1)
   rw [hft, List.length_append] at hfl1
   refine wi_appendB (S0 := S) (bs := fileB (L.take j)) (cs := frameB r) (t := t') (by simp only [go_sem, f5]) rfl (by simp only [go_sem]; exact hv'.elems _) (by omega) (k1.trans k2 fun _ _ h => h) (ht'.keep k2 fun _ _ => id) ho' hz' fun t2 S3 k3 ht2 ho2 hz2 => ?_
   have w1 : IntKind.i64.wrap ((j : Int) + 1) = ((j + 1 : Nat) : Int) := by rw [w64 (by omega) (by omega)]; omega
   simp only [go_sem, f13, w1]
   rw [← hft] at hz2
   refine ⟨L.length - (j + 1), by omega, j + 1, t2, rfl, by omega, by simp only [go_sem, f0], by simp only [go_sem, hft], by simp only [go_sem, f11], by simp only [go_sem, f12], by simp only [go_sem], ?_, k3, ht2, ho2, hz2⟩
   rw [htk]
   unfold longL at hlong ⊢
   rw [List.any_append, hlong]
   simp; omega
  ·have hL := longL_mem hr hr65
   simp only [go_sem]
   refine wc_ite (b := true) (by simp only [go_sem] <;> rfl) (fun _ => ?_) (fun h => by cases h)
   simp only [go_sem]
   have e : D.abs.writeL s L = (2, D.abs) := if_pos hL
   rw [e] at hQ
   exact hQ S1 D (After.new d k1) rfl
 ·have hje : j = L.length := by have := of_decide_eq_false hc; omega
  subst hje
  rw [List.take_length] at f5 hlong hz'
  simp only [go_sem]
  have e : D.abs.writeL s L = DS.write1 (D.abs.grow (newN s) (fileB L) true) s := if_neg (by rw [hlong]; decide)
  rw [e] at hQ
  have A1 := After.new d k1
  refine write_put (p := fileB L) A1.d (A1.cells ‹_› hg hn) (k1.lt hg) (A1.no hg hn) hs (by simp only [go_sem, f0]) (by simp only [go_sem, f5]) ⟨t', rfl, hz'⟩ (by omega) fun S2 D2 A2 a2 => ?_
  exact hQ S2 D2 (A1.trans A2) a2
end Go.VM
namespace Go.VM
open Go Go.RowKit Go.Proofs
def ownL (g : Nat) (t : Tok) : Nat → Prop := fun j => j = g ∨ t = .at j
structure WalAt (S : St) (i g : Nat) (D : Dk) (s : List UInt8) (L : List (List UInt8)) (t : Tok) : Prop where
 d : DiskAt S i D
 ex : ∃ v, S.cells g = some [.ptr (some (i, 0)), .str (mkS s), v] ∧ IsSlice BytesR 1 v L t
 lt : g < S.n
 tok : TokOk S t
 no : ∀ j, ownL g t j → ¬ ownD i D j
 sl : s.length ≤ 28
def ownW (i g : Nat) (D : Dk) (t : Tok) : Nat → Prop := fun j => ownD i D j ∨ ownL g t j
theorem WalAt.own_lt {S : St} {i g : Nat} {D : Dk} {s : List UInt8} {L : List (List UInt8)} {t : Tok} (h : WalAt S i g D s L t) {j : Nat} (hj : ownW i g D t j) : j < S.n := by
 rcases hj with hj | rfl | rfl
 ·exact h.d.own_lt hj
 ·exact h.lt
 ·exact h.tok.1
theorem WalAt.tok_ne {S : St} {i g : Nat} {D : Dk} {s : List UInt8} {L : List (List UInt8)} {t : Tok} (h : WalAt S i g D s L t) : t ≠ .at g := by
 obtain ⟨v, hc, _⟩ := h.ex
 exact tok_cells h.tok (hp_cells hc) (by simp)
theorem WalAt.keep {S S' : St} {i g : Nat} {D : Dk} {s : List UInt8} {L : List (List UInt8)} {t : Tok} {o : Nat → Prop} (h : WalAt S i g D s L t) (k : Keeps o S S') (ho : ∀ j, ownW i g D t j → ¬ o j) : WalAt S' i g D s L t := by
 obtain ⟨v, hc, hv⟩ := h.ex
 exact ⟨h.d.keep k fun j hj => ho j (.inl hj), ⟨v, k.cells hc h.lt (ho g (.inr (.inl rfl))), hv⟩, k.lt h.lt, h.tok.keep k fun j hj => ho j (.inr (.inr hj)), h.no, h.sl⟩
theorem WalAt.stay {S S' : St} {i g : Nat} {D : Dk} {s : List UInt8} {L : List (List UInt8)} {t : Tok} (h : WalAt S i g D s L t) (k : Keeps (fun _ => False) S S') : WalAt S' i g D s L t := h.keep k fun _ _ => id
theorem WalAt.after {S S' : St} {i g : Nat} {D D' : Dk} {s : List UInt8} {L : List (List UInt8)} {t : Tok} (h : WalAt S i g D s L t) (a : After S i D S' D') : WalAt S' i g D' s L t := by
 obtain ⟨v, hc, hv⟩ := h.ex
 refine ⟨a.d, ⟨v, a.cells hc h.lt (h.no g (.inl rfl)), hv⟩, a.k.lt h.lt, h.tok.keep a.k fun j hj => h.no j (.inr hj), fun j hj => ?_, h.sl⟩
 exact a.no (h.own_lt (.inr hj)) (h.no j hj)
structure WAfter (S : St) (i g : Nat) (D : Dk) (t : Tok) (S' : St) (D' : Dk) (t' : Tok) (s : List UInt8) (L' : List (List UInt8)) : Prop where
 w : WalAt S' i g D' s L' t'
 k : Keeps (ownW i g D t) S S'
 o : ∀ j, ownW i g D' t' j → ownW i g D t j ∨ S.n ≤ j
theorem WAfter.refl {S : St} {i g : Nat} {D : Dk} {s : List UInt8} {L : List (List UInt8)} {t : Tok} (h : WalAt S i g D s L t) : WAfter S i g D t S D t s L := ⟨h, Keeps.refl _ _, fun _ h => .inl h⟩
theorem WAfter.trans {S S1 S2 : St} {i g : Nat} {D D1 D2 : Dk} {s : List UInt8} {L1 L2 : List (List UInt8)} {t t1 t2 : Tok} (h : WAfter S i g D t S1 D1 t1 s L1) (h' : WAfter S1 i g D1 t1 S2 D2 t2 s L2) : WAfter S i g D t S2 D2 t2 s L2 :=
 ⟨h'.w, h.k.trans h'.k fun j hj ho => (h.o j ho).elim id fun h => by omega, fun j hj => (h'.o j hj).elim (h.o j) fun h1 => .inr (Nat.le_trans h.k.n h1)⟩
theorem WAfter.new {S S1 : St} {i g : Nat} {D : Dk} {s : List UInt8} {L : List (List UInt8)} {t : Tok} (h : WalAt S i g D s L t) (k : Keeps (fun _ => False) S S1) : WAfter S i g D t S1 D t s L := ⟨h.stay k, k.mono fun _ _ h => h.elim, fun _ h => .inl h⟩
theorem WAfter.disk {S S1 : St} {i g : Nat} {D D1 : Dk} {s : List UInt8} {L : List (List UInt8)} {t : Tok} (h : WalAt S i g D s L t) (a : After S i D S1 D1) : WAfter S i g D t S1 D1 t s L :=
 ⟨h.after a, a.k.mono fun _ _ h => .inl h, fun j hj => hj.elim (fun h => (a.o j h).elim (fun h => .inl (.inl h)) .inr) fun h => .inl (.inr h)⟩
theorem WalAt.put {S S4 : St} {i g : Nat} {D : Dk} {s : List UInt8} {L L' : List (List UInt8)} {t t4 : Tok} {v4 : V} {o : Nat → Prop} (h : WalAt S i g D s L t) (k : Keeps o S S4) (ho : ∀ j, j < S.n → o j → ownL g t j) (hv : IsSlice BytesR 1 v4 L' t4) (ht : TokOk S4 t4) (hn : ∀ j, t4 = .at j → S.n ≤ j) :
  WAfter S i g D t (S4.set g (.cells [.ptr (some (i, 0)), .str (mkS s), v4])) D t4 s L' := by
 have k5 : Keeps (fun j => j = g) S4 (S4.set g (.cells [.ptr (some (i, 0)), .str (mkS s), v4])) := Keeps.set1 _ _ _
 have hg := h.lt
 have kk : Keeps (ownL g t) S (S4.set g (.cells [.ptr (some (i, 0)), .str (mkS s), v4])) := (k.mono ho).set (.inl (.inl rfl)) _
 have hng : ∀ j, t4 = .at j → ¬ j = g := fun j hj e => by have := hn j hj; omega
 refine ⟨⟨h.d.keep kk fun j hj h' => h.no j h' hj, ⟨v4, by rw [cells_setc, if_pos rfl], hv⟩, kk.lt hg, ht.keep k5 hng, fun j hj hd => ?_, h.sl⟩, kk.mono fun _ _ h => .inr h, fun j hj => ?_⟩
 ·rcases hj with rfl | hj
  ·exact h.no _ (.inl rfl) hd
  ·have := h.d.own_lt hd
   have := hn j hj
   omega
 ·rcases hj with hj | rfl | hj
  ·exact .inl (.inl hj)
  ·exact .inl (.inr (.inl rfl))
  ·exact .inr (hn j hj)
theorem logLen_runs {w0 : World} {S : St} {Q : AEnd → St → Prop} {i g : Nat} {D : Dk} {s : List UInt8} {L : List (List UInt8)} {t : Tok} (h : WalAt S i g D s L t) (hQ : Q (.ret (.int .i64 L.length)) S) :
  RSim Try.prog w0 n_wal_Log_Len [.ptr (some (g, 0))] S Q := by
 obtain ⟨v, hc, hv⟩ := h.ex
 obtain ⟨cs, rfl⟩ := hv.len
 refine RSim.run mixed k_wal_Log_Len ?_ (by simp)
 simp only [b_wal_Log_Len, go_sem]
 refine wc_ite (b := false) (by simp only [go_sem] <;> rfl) (fun h => by cases h) (fun _ => ?_)
 simp only [go_sem, hc]
 exact hQ
theorem logAt_runs {w0 : World} {S : St} {Q : AEnd → St → Prop} {i g j : Nat} {D : Dk} {s : List UInt8} {L : List (List UInt8)} {t : Tok} {r : List UInt8} (h : WalAt S i g D s L t) (hr : L[j]? = some r) (hl : r.length ≤ 100000000000000)
  (hQ : ∀ S' v, IsBytes v r → Keeps (fun _ => False) S S' → Q (.ret (.tup [v, .int .i64 0])) S') : RSim Try.prog w0 n_wal_Log_At [.ptr (some (g, 0)), .int .i64 j] S Q := by
 obtain ⟨v, hc, hv⟩ := id h.ex
 obtain ⟨cs, rfl⟩ := hv.len
 have hj := (List.getElem?_eq_some_iff.1 hr).1
 obtain ⟨vr, rest, hd, hvr, htn, hjn⟩ := hv.get hr
 have e0 : decide ((j : Int) < 0) = false := decide_eq_false (by omega)
 have e1 : decide ((j : Int) ≥ (L.length : Int)) = false := decide_eq_false (by omega)
 refine RSim.run mixed k_wal_Log_At ?_ (by simp)
 simp only [b_wal_Log_At, go_sem, e0]
 refine wi_call ?_
 simp only [go_sem]
 refine logLen_runs h ?_
 simp only [go_sem, e1]
 refine wc_ite (b := false) (by simp only [go_sem] <;> rfl) (fun h => by cases h) (fun _ => ?_)
 simp only [go_sem, hc, htn, hjn, hd]
 refine wi_appendB (S0 := S) (bs := []) (cs := r) (t := .nil) (by simp only [go_sem]) rfl (by simp only [go_sem]; exact hvr.elems _) (by simp; omega) (Keeps.refl _ _) trivial (fun j h => by cases h) (fun _ => rfl) fun t1 S1 k1 ht1 ho1 hz1 => ?_
 simp only [go_sem]
 exact hQ S1 _ ⟨t1, rfl, hz1⟩ k1
def DS.syncL (D : DS) (s : List UInt8) (L : List (List UInt8)) : Int × DS := (if (D.sync s).1 = 8 ∧ L = [] then 0 else (D.sync s).1, (D.sync s).2)
theorem logSync_runs {w0 : World} {S : St} {Q : AEnd → St → Prop} {i g : Nat} {D : Dk} {s : List UInt8} {L : List (List UInt8)} {t : Tok} (h : WalAt S i g D s L t)
  (hQ : ∀ S' D', WAfter S i g D t S' D' t s L → D'.abs = (D.abs.syncL s L).2 → Q (.ret (.int .i64 (D.abs.syncL s L).1)) S') : RSim Try.prog w0 n_wal_Log_Sync [.ptr (some (g, 0))] S Q := by
 obtain ⟨v, hc, hv⟩ := id h.ex
 obtain ⟨cs, rfl⟩ := hv.len
 have hsl := h.sl
 refine RSim.run mixed k_wal_Log_Sync ?_ (by simp)
 simp only [b_wal_Log_Sync, go_sem]
 refine wc_ite (b := false) (by simp only [go_sem] <;> rfl) (fun h => by cases h) (fun _ => ?_)
 simp only [go_sem, hc]
 refine wi_call ?_
 simp only [go_sem]
 refine sync_runs h.d (by omega) fun S1 D1 d1 a1 k1 o1 => ?_
 have A1 : After S i D S1 D1 := ⟨d1, k1, o1⟩
 have hc1 := A1.cells hc h.lt (h.no g (.inl rfl))
 have hq := hQ S1 D1 (WAfter.disk h A1) a1
 simp only [DS.syncL] at hq
 generalize (D.abs.sync s).1 = e at *
 by_cases h8 : e = 8
 ·have q8 : (e == 8) = true := by simpa using h8
  by_cases hL : L = []
  ·subst hL
   rw [if_pos ⟨h8, rfl⟩] at hq
   simp only [go_sem, q8, hc1, List.length_nil, Int.natCast_zero]
   refine wc_ite (b := true) (by simp only [go_sem] <;> rfl) (fun _ => ?_) (fun h => by cases h)
   simp only [go_sem]
   exact hq
  ·have ql : ((L.length : Int) == 0) = false := by
    have : L.length ≠ 0 := fun h => hL (List.eq_nil_of_length_eq_zero h)
    rw [beq_eq_false_iff_ne]; omega
   rw [if_neg (fun h => hL h.2)] at hq
   simp only [go_sem, q8, hc1, ql]
   refine wc_ite (b := false) (by simp only [go_sem] <;> rfl) (fun h => by cases h) (fun _ => ?_)
   simp only [go_sem]
   exact hq
 ·have q8 : (e == 8) = false := by simpa using h8
  rw [if_neg (fun h => h8 h.1)] at hq
  simp only [go_sem, q8]
  refine wc_ite (b := false) (by simp only [go_sem] <;> rfl) (fun h => by cases h) (fun _ => ?_)
  simp only [go_sem]
  exact hq
theorem logAppend_runs {w0 : World} {S : St} {Q : AEnd → St → Prop} {i g : Nat} {D : Dk} {s r : List UInt8} {L : List (List UInt8)} {t : Tok} {vr : V} (h : WalAt S i g D s L t) (hr : IsBytes vr r) (hLl : L.length ≤ 1000000000000)
  (hlong : 65535 < r.length → Q (.ret (.int .i64 2)) S)
  (hbad : ∀ S' D', r.length ≤ 65535 → WAfter S i g D t S' D' t s L → D'.abs = (D.abs.grow s (frameB r) false).2 → (D.abs.grow s (frameB r) false).1 ≠ 0 → Q (.ret (.int .i64 (D.abs.grow s (frameB r) false).1)) S')
  (hQ : ∀ S' D' t', r.length ≤ 65535 → WAfter S i g D t S' D' t' s (L ++ [r]) → D'.abs = (D.abs.grow s (frameB r) false).2 → (D.abs.grow s (frameB r) false).1 = 0 → Q (.ret (.int .i64 0)) S') :
  RSim Try.prog w0 n_wal_Log_Append [.ptr (some (g, 0)), vr] S Q := by
 obtain ⟨v, hc, hv⟩ := id h.ex
 obtain ⟨cs, rfl⟩ := hv.len
 have hsl := h.sl
 refine RSim.run mixed k_wal_Log_Append ?_ (by simp)
 simp only [b_wal_Log_Append, go_sem]
 refine wc_ite (b := false) (by simp only [go_sem] <;> rfl) (fun h => by cases h) (fun _ => ?_)
 simp only [go_sem]
 refine wi_call ?_
 simp only [go_sem]
 refine frame_runs hr (fun hr65 S1 v1 hv1 k1 => ?_) fun hr65 => ?_
 ·simp only [go_sem]
  refine wc_ite (b := false) (by simp only [go_sem] <;> rfl) (fun h => by cases h) (fun _ => ?_)
  have W1 := WAfter.new h k1
  have hc1 := k1.cells hc h.lt id
  have hfl : (frameB r).length ≤ 1000000 := by
   have := uvar_len10 (v := r.length) (by omega)
   simp [frameB, fourB_len]; omega
  simp only [go_sem, hc1]
  refine wi_call ?_
  simp only [go_sem]
  refine append_runs W1.w.d (by omega) (hv1.into _ _) (by omega) fun S2 D2 d2 a2 k2 o2 => ?_
  have W2 := WAfter.disk W1.w ⟨d2, k2, o2⟩
  have hb := fun hne => hbad S2 D2 hr65 (W1.trans W2) a2 hne
  have hq := hQ
  generalize he : (D.abs.grow s (frameB r) false).1 = e at *
  by_cases h0 : e ≠ 0
  ·have q0 : (e != 0) = true := by simpa using h0
   simp only [go_sem, q0]
   refine wc_ite (b := true) (by simp only [go_sem] <;> rfl) (fun _ => ?_) (fun h => by cases h)
   simp only [go_sem]
   exact hb h0
  ·have q0 : (e != 0) = false := by simpa using h0
   have hc2 := After.cells (S' := S2) (D' := D2) ⟨d2, k2, o2⟩ hc1 W1.w.lt (W1.w.no g (.inl rfl))
   simp only [go_sem, q0]
   refine wc_ite (b := false) (by simp only [go_sem] <;> rfl) (fun h => by cases h) (fun _ => ?_)
   simp only [go_sem, hc2]
   refine wi_appendB (S0 := S2) (bs := []) (cs := r) (t := .nil) (by simp only [go_sem]) rfl (by simp only [go_sem]; exact hr.elems _) (by simp; omega) (Keeps.refl _ _) trivial (fun j h => by cases h) (fun _ => rfl) fun t3 S3 k3 ht3 ho3 hz3 => ?_
   have W3 := WAfter.new W2.w k3
   have hc3 := k3.cells hc2 W2.w.lt id
   simp only [go_sem, hc3]
   refine wi_appendR (R := BytesR) (v := .sl cs L.length 1 t) (l := L) (y := r) (c := [_]) (t := t) (by simp only [go_sem]) hv (by simp only [go_sem]; exact elems1 _ _ _ (by simp)) rfl ⟨_, rfl, ⟨t3, rfl, hz3⟩⟩ (by omega) W3.w.tok fun t4 S4 v4 hs4 k4 ht4 hn4 hz4 => ?_
   have h1 := hs4.one
   have h2 : v4.cells = [v4] := by obtain ⟨cs4, rfl⟩ := hs4.len; rfl
   have hc4 := k4.cells hc3 W3.w.lt fun h' => (W3.w.tok_ne h')
   have hsp : splice [V.ptr (some (i, 0)), V.str (mkS s), V.sl cs L.length 1 t] 2 [v4] = [.ptr (some (i, 0)), .str (mkS s), v4] := rfl
   simp only [go_sem, hc4, h1, h2, hsp]
   have W5 := W3.w.put k4 (fun j _ h => .inr h) hs4 ht4 hn4
   exact hq _ D2 t4 hr65 (W1.trans (W2.trans (W3.trans W5))) a2 (by simpa using h0)
 ·simp only [go_sem]
  refine wc_ite (b := true) (by simp only [go_sem] <;> rfl) (fun _ => ?_) (fun h => by cases h)
  simp only [go_sem]
  exact hlong hr65
end Go.VM
namespace Go.VM
open Go Go.RowKit Go.Proofs
def DS.opened (D : DS) (s : List UInt8) : DS := (D.remove (newN s)).2
structure OAfter (S : St) (i : Nat) (D : Dk) (S' : St) (g : Nat) (D' : Dk) (t' : Tok) (s : List UInt8) (L : List (List UInt8)) : Prop where
 w : WalAt S' i g D' s L t'
 k : Keeps (ownD i D) S S'
 o : ∀ j, ownW i g D' t' j → ownD i D j ∨ S.n ≤ j
theorem open_runs {w0 : World} {S : St} {Q : AEnd → St → Prop} {i : Nat} {D : Dk} {s : List UInt8} (d : DiskAt S i D) (hs : nameOk s = true) (hsl : s.length ≤ 28)
  (hE1 : (D.abs.remove (newN s)).1 = 0 ∨ (D.abs.remove (newN s)).1 = 8) (hE2 : (D.abs.opened s).readE s = 0 ∨ (D.abs.opened s).readE s = 8) (hb : ((D.abs.opened s).bytes s).length ≤ 1000000000)
  (hfull : ∀ L n, Scans ((D.abs.opened s).bytes s) L n → n < ((D.abs.opened s).bytes s).length → ((D.abs.opened s).writeL s L).1 = 0 ∧ (fileB L).length ≤ 10000000000000 ∧ L.length ≤ 10000000000000)
  (hQ : ∀ S' D' g t L n, Scans ((D.abs.opened s).bytes s) L n → n ≤ ((D.abs.opened s).bytes s).length → OAfter S i D S' g D' t s L → D'.abs = (if n < ((D.abs.opened s).bytes s).length then ((D.abs.opened s).writeL s L).2 else D.abs.opened s) → Q (.ret (.tup [.ptr (some (g, 0)), .int .i64 0])) S') :
  RSim Try.prog w0 n_wal_Open [.ptr (some (i, 0)), .str (mkS s)] S Q := by
 have hadd : binStr .add (mkS s) (mkS [46, 110, 101, 119]) = some (.str (mkS (newN s))) := str_add' (by simp; omega)
 have hnl : (newN s).length ≤ 1000000000000000 := by simp [newN]; omega
 have e28 : decide ((s.length : Int) > 28) = false := decide_eq_false (by omega)
 refine RSim.run mixed k_wal_Open ?_ (by simp)
 simp only [b_wal_Open, go_sem]
 refine wc_ite (b := false) (by simp only [go_sem] <;> rfl) (fun h => by cases h) (fun _ => ?_)
 simp only [go_sem]
 refine wi_call ?_
 simp only [go_sem]
 refine diskName_runs (by omega) ?_
 rw [hs]
 simp only [go_sem, e28]
 refine wc_ite (b := false) (by simp only [go_sem] <;> rfl) (fun h => by cases h) (fun _ => ?_)
 simp only [r_wal_Open_2, go_sem, hadd]
 refine wi_call ?_
 simp only [go_sem]
 refine remove_runs d hnl fun S1 D1 d1 a1 k1 o1 => ?_
 have A1 : After S i D S1 D1 := ⟨d1, k1, fun j hj => .inl (o1 j hj)⟩
 have a1' : D1.abs = D.abs.opened s := a1
 have go : ∀ fr : Fr, fr 0 = .ptr (some (i, 0)) → fr 1 = .str (mkS s) → wCode (RSim Try.prog w0) r_wal_Open_1 fr S1 (resQ [.tmp 4, .tmp 5] Q) := fun fr f0 f1 => by
  simp only [r_wal_Open_1, go_sem, f0, f1]
  refine wi_call ?_
  simp only [go_sem]
  refine read_abs d1 (by omega) fun S2 p hp k2 => ?_
  rw [a1'] at hp ⊢
  have go2 : ∀ fr : Fr, fr 0 = .ptr (some (i, 0)) → fr 1 = .str (mkS s) → fr 7 = p → wCode (RSim Try.prog w0) r_wal_Open_0 fr S2 (resQ [.tmp 4, .tmp 5] Q) := fun fr f0 f1 f7 => by
   simp only [r_wal_Open_0, go_sem, f0, f1, f7]
   refine wi_call ?_
   simp only [go_sem]
   refine scan_runs hp (by omega) fun S3 v L n t hsc hv ht hn hle k3 => ?_
   have h1 := hv.one
   have h2 : v.cells = [v] := by obtain ⟨cs4, rfl⟩ := hv.len; rfl
   obtain ⟨tp, rfl, htp⟩ := id hp
   simp only [go_sem, f0, f1, f7, h1, h2]
   generalize hS4 : S3.add (.cells [.ptr (some (i, 0)), .str (mkS s), v]) = S4
   have c4 : S4.cells S3.n = some [.ptr (some (i, 0)), .str (mkS s), v] := by rw [← hS4]; simp only [go_sem]
   have k4 : Keeps (fun _ => False) S3 S4 := by rw [← hS4]; exact (Keeps.refl _ _).add _
   have n4 : S3.n < S4.n := by rw [← hS4]; simp only [go_sem]; omega
   have A4 : After S i D S4 D1 := (A1.trans (After.new d1 k2)).trans ((After.new (d1.stay k2) k3).trans (After.new ((d1.stay k2).stay k3) k4))
   have ht4 : TokOk S4 t := ht.keep k4 fun _ _ => id
   have hown : ∀ j, ownD i D1 j → j < S1.n := fun j hj => d1.own_lt hj
   have hn1 : S1.n ≤ S2.n := k2.n
   have hn2 : S2.n ≤ S3.n := k3.n
   have hn0 : S.n ≤ S1.n := k1.n
   have W4 : WalAt S4 i S3.n D1 s L t := ⟨A4.d, ⟨v, c4, hv⟩, n4, ht4, fun j hj hd => by
    have := hown j hd
    rcases hj with rfl | hj
    ·omega
    ·have := hn j hj; omega, hsl⟩
   have O4 : OAfter S i D S4 S3.n D1 t s L := ⟨W4, A4.k, fun j hj => by
    rcases hj with hj | rfl | hj
    ·exact A4.o j hj
    ·exact .inr (by omega)
    ·have := hn j hj; exact .inr (by omega)⟩
   by_cases hlt : n < ((D.abs.opened s).bytes s).length
   ·have q1 : decide ((n : Int) < (((D.abs.opened s).bytes s).length : Int)) = true := decide_eq_true (by omega)
    obtain ⟨hw, hb1, hb2⟩ := hfull L n hsc hlt
    simp only [go_sem, q1]
    refine wc_ite (b := true) (by simp only [go_sem] <;> rfl) (fun _ => ?_) (fun h => by cases h)
    simp only [go_sem]
    refine wi_call ?_
    simp only [go_sem]
    refine write_runs W4.d c4 n4 (W4.no _ (.inl rfl)) (by omega) hv hb1 hb2 fun S5 D5 A5 a5 => ?_
    rw [a1'] at a5 ⊢
    rw [hw]
    simp only [go_sem]
    refine wc_ite (b := false) (by simp only [go_sem] <;> rfl) (fun h => by cases h) (fun _ => ?_)
    simp only [go_sem]
    have W5 := W4.after A5
    refine hQ S5 D5 S3.n t L n hsc hle ⟨W5, (A4.trans A5).k, fun j hj => ?_⟩ (by rw [if_pos hlt]; exact a5)
    rcases hj with hj | hj
    ·exact (A4.trans A5).o j hj
    ·exact O4.o j (.inr hj)
   ·have q1 : decide ((n : Int) < (((D.abs.opened s).bytes s).length : Int)) = false := decide_eq_false (by omega)
    simp only [go_sem, q1]
    refine wc_ite (b := false) (by simp only [go_sem] <;> rfl) (fun h => by cases h) (fun _ => ?_)
    simp only [go_sem]
    exact hQ S4 D1 S3.n t L n hsc hle O4 (by rw [if_neg hlt]; exact a1')
  rcases hE2 with he | he
  ·rw [he]
   simp only [go_sem]
   refine wc_ite (b := false) (by simp only [go_sem] <;> rfl) (fun h => by cases h) (fun _ => ?_)
   simp only [wc_skip, seqQ_normal]
   exact go2 _ (by simp only [go_sem, f0]) (by simp only [go_sem, f1]) (by simp only [go_sem])
  ·rw [he]
   simp only [go_sem]
   refine wc_ite (b := false) (by simp only [go_sem] <;> rfl) (fun h => by cases h) (fun _ => ?_)
   simp only [wc_skip, seqQ_normal]
   exact go2 _ (by simp only [go_sem, f0]) (by simp only [go_sem, f1]) (by simp only [go_sem])
 rcases hE1 with he | he
 ·rw [he]
  simp only [go_sem]
  refine wc_ite (b := false) (by simp only [go_sem] <;> rfl) (fun h => by cases h) (fun _ => ?_)
  simp only [wc_skip, seqQ_normal]
  exact go _ (by simp only [go_sem]) (by simp only [go_sem])
 ·rw [he]
  simp only [go_sem]
  refine wc_ite (b := false) (by simp only [go_sem] <;> rfl) (fun h => by cases h) (fun _ => ?_)
  simp only [wc_skip, seqQ_normal]
  exact go _ (by simp only [go_sem]) (by simp only [go_sem])
end Go.VM
namespace Go.VM
open Go Go.RowKit Go.Proofs
theorem IsSlice.take {α : Type} {R : List V → α → Prop} {sz : Nat} {cs : List V} {n : Nat} {L : List α} {t : Tok} (h : IsSlice R sz (.sl cs n sz t) L t) {k : Nat} (hk : k ≤ L.length) (ht : t ≠ .nil) {t' : Tok} (ht' : t' ≠ .nil) :
  IsSlice R sz (.sl (cs.take (k * sz)) k sz t') (L.take k) t' := by
 obtain ⟨C, e, hn, hs, hl, hR⟩ := h.ex
 injection e with e1 e2
 subst e1; subst e2
 have key : ∀ (k : Nat) (C : List (List V)), (∀ c ∈ C, c.length = sz) → C.flatten.take (k * sz) = (C.take k).flatten := by
  intro k
  induction k with
  | zero => intro C _; simp
  | succ k ih =>
   intro C hC
   cases C with
   | nil => simp
   | cons c C =>
    have h1 := hC c (by simp)
    rw [List.flatten_cons, List.take_succ_cons, List.flatten_cons, ← ih C fun c hc => hC c (by simp [hc]), List.take_append, List.take_of_length_le (by rw [h1, Nat.succ_mul]; omega), h1, Nat.succ_mul, Nat.add_sub_cancel]
 have hkl : (L.take k).length = k := by rw [List.length_take]; omega
 refine ⟨C.take k, by rw [key k C hs, hkl], fun e => absurd e ht', fun c hc => hs c (List.mem_of_mem_take hc), by rw [List.length_take, List.length_take, hl], fun j c x hc hx => ?_⟩
 rw [List.getElem?_take] at hc hx
 split at hc
 ·rw [if_pos ‹_›] at hx; exact hR j c x hc hx
 ·cases hc
theorem IsSlice.nilTok {α : Type} {R : List V → α → Prop} {sz : Nat} {cs : List V} {n : Nat} {L : List α} {t : Tok} (h : IsSlice R sz (.sl cs n sz t) L t) (ht : t = .nil) : cs = [] ∧ n = 0 ∧ L = [] := by
 obtain ⟨C, e, hn, hs, hl, hR⟩ := h.ex
 injection e with e1 e2
 have := hn ht
 subst this
 have : C = [] := List.eq_nil_of_length_eq_zero hl
 subst this
 exact ⟨e1, e2, rfl⟩
end Go.VM
namespace Go.VM
open Go Go.RowKit Go.Proofs
theorem ofNat_toNat {x : Nat} (h : x < 256) : (UInt8.ofNat x).toNat = x := by simp; omega
theorem uvar_pos (x : Nat) : 1 ≤ (uvar x).length := by
 by_cases h : x < 128
 ·rw [uvar_lt h]; exact Nat.le_refl _
 ·rw [uvar_ge h, List.length_cons]; omega
theorem ruv_uvar (x : Nat) : ∀ (n v : Nat) (rest : List UInt8), n + (uvar x).length ≤ 9 → (n > 0 → x > 0) → ruv n v (uvar x ++ rest) = some (v + x * 2 ^ (7 * n), n + (uvar x).length) := by
 induction x using uvar.induct with
 | case1 x h =>
  intro n v rest hn hx
  rw [uvar_lt h] at hn ⊢
  have e := ofNat_toNat (x := x) (by omega)
  simp only [List.length_cons, List.length_nil] at hn
  rw [List.cons_append, ruv_end (by rw [e]; omega) (by rw [e]; exact h), e, Nat.mod_eq_of_lt h]
  rfl
 | case2 x h ih =>
  intro n v rest hn hx
  rw [uvar_ge h] at hn ⊢
  have e := ofNat_toNat (x := x % 128 + 128) (by omega)
  rw [List.length_cons] at hn
  have := uvar_pos (x / 128)
  rw [List.cons_append, ruv_more (by rw [e]; omega) (by rw [e]; omega), e, ih (n + 1) _ rest (by omega) (fun _ => by omega), List.length_cons]
  congr 1
  refine Prod.ext ?_ (by simp only; omega)
  simp only
  rw [show 7 * (n + 1) = 7 * n + 7 by omega, Nat.pow_add, show (x % 128 + 128) % 128 = x % 128 by omega, Nat.mul_comm (2 ^ (7 * n)) (2 ^ 7), ← Nat.mul_assoc, Nat.add_assoc, ← Nat.add_mul]
  congr 2
  omega
theorem ruv_short (x : Nat) : ∀ (n v m : Nat), m < (uvar x).length → n + (uvar x).length ≤ 9 → ruv n v ((uvar x).take m) = none := by
 induction x using uvar.induct with
 | case1 x h =>
  intro n v m hm _
  rw [uvar_lt h] at hm ⊢
  have : m = 0 := by simpa using hm
  subst this; rfl
 | case2 x h ih =>
  intro n v m hm hn
  rw [uvar_ge h] at hm hn ⊢
  rw [List.length_cons] at hm hn
  cases m with
  | zero => rfl
  | succ m =>
   have e := ofNat_toNat (x := x % 128 + 128) (by omega)
   have := uvar_pos (x / 128)
   rw [List.take_succ_cons, ruv_more (by rw [e]; omega) (by rw [e]; omega)]
   exact ih _ _ m (by omega) (by omega)
theorem uvar_len3 {x : Nat} (h : x ≤ 65535) : (uvar x).length ≤ 3 := uvar_len x 3 (by omega) (by decide)
theorem frameB_len (r : List UInt8) : (frameB r).length = (uvar r.length).length + r.length + 6 := by simp [frameB, fourB_len]; omega
theorem readF_frame {r : List UInt8} (h : r.length ≤ 65535) (rest : List UInt8) : readF (frameB r ++ rest) = .inr (r, (frameB r).length) := by
 have hu := uvar_len3 h
 have e : frameB r ++ rest = 0xf1 :: (uvar r.length ++ (fourB (sumN r) ++ (r ++ (0x1f :: rest)))) := by simp [frameB]
 have hr := ruv_uvar r.length 0 0 (fourB (sumN r) ++ (r ++ (0x1f :: rest))) (by omega) (by omega)
 simp only [Nat.mul_zero, Nat.pow_zero, Nat.mul_one, Nat.zero_add] at hr
 generalize hk : (uvar r.length).length = k at *
 have d1 : (uvar r.length ++ (fourB (sumN r) ++ (r ++ (0x1f :: rest)))).drop k = fourB (sumN r) ++ (r ++ (0x1f :: rest)) := by rw [← hk, List.drop_left]
 have d2 : (uvar r.length ++ (fourB (sumN r) ++ (r ++ (0x1f :: rest)))).drop (k + 4) = r ++ (0x1f :: rest) := by
  rw [← List.drop_drop, d1]; rfl
 have t1 : (fourB (sumN r) ++ (r ++ (0x1f :: rest))).take 4 = fourB (sumN r) := rfl
 have t2 : (r ++ (0x1f :: rest)).take r.length = r := List.take_left
 have g1 : (uvar r.length ++ (fourB (sumN r) ++ (r ++ (0x1f :: rest))))[k + 4 + r.length]? = some 0x1f := by
  have : ((uvar r.length ++ (fourB (sumN r) ++ (r ++ (0x1f :: rest)))).drop (k + 4))[r.length]? = some 0x1f := by
   rw [d2, List.getElem?_append_right (Nat.le_refl _), Nat.sub_self]; rfl
  rw [List.getElem?_drop] at this; exact this
 have l1 : (uvar r.length ++ (fourB (sumN r) ++ (r ++ (0x1f :: rest)))).length = k + 4 + r.length + 1 + rest.length := by
  simp only [List.length_append, hk, fourB_len, List.length_cons]; omega
 rw [e]
 simp only [readF, hr, d1, d2, t1, t2]
 rw [if_neg (by
  rintro (h1 | h1 | h1 | h1)
  ·exact h1 rfl
  ·omega
  ·rw [l1] at h1; omega
  ·exact h1 g1), if_neg (by simp)]
 congr 2
 rw [frameB_len]; omega
theorem readF_cut {r : List UInt8} (h : r.length ≤ 65535) {m : Nat} (hm : m < (frameB r).length) : ∃ e, readF ((frameB r).take m) = .inl e := by
 have hu := uvar_len3 h
 rw [frameB_len] at hm
 cases m with
 | zero => exact ⟨8, rfl⟩
 | succ m =>
  have e : (frameB r).take (m + 1) = 0xf1 :: (uvar r.length ++ (fourB (sumN r) ++ r ++ [0x1f])).take m := by simp [frameB]
  rw [e]
  refine ⟨3, ?_⟩
  by_cases h1 : m < (uvar r.length).length
  ·have : (uvar r.length ++ (fourB (sumN r) ++ r ++ [0x1f])).take m = (uvar r.length).take m := by
    rw [List.take_append_of_le_length (by omega)]
   rw [this]
   simp only [readF, ruv_short r.length 0 0 m h1 (by omega)]
  ·have : (uvar r.length ++ (fourB (sumN r) ++ r ++ [0x1f])).take m = uvar r.length ++ (fourB (sumN r) ++ r ++ [0x1f]).take (m - (uvar r.length).length) := by
    rw [List.take_append, List.take_of_length_le (by omega)]
   have hl : ((uvar r.length ++ (fourB (sumN r) ++ r ++ [0x1f])).take m).length ≤ m := by rw [List.length_take]; omega
   rw [this] at hl ⊢
   have hr := ruv_uvar r.length 0 0 ((fourB (sumN r) ++ r ++ [0x1f]).take (m - (uvar r.length).length)) (by omega) (by omega)
   simp only [Nat.mul_zero, Nat.pow_zero, Nat.mul_one, Nat.zero_add] at hr
   simp only [readF, hr]
   rw [if_pos (.inr (.inr (.inl (by omega))))]
def shortL (L : List (List UInt8)) : Prop := ∀ r ∈ L, r.length ≤ 65535
theorem longL_not {L : List (List UInt8)} (h : shortL L) : longL L = false := by
 unfold longL
 rw [List.any_eq_false]
 intro r hr
 have := h r hr
 simp; omega
theorem scans_nil : Scans [] [] 0 := .stop (e := 8) rfl
theorem scans_cut : ∀ {L : List (List UInt8)} (m : Nat), shortL L → ∃ j, j ≤ L.length ∧ Scans ((fileB L).take m) (L.take j) (fileB (L.take j)).length ∧ (fileB (L.take j)).length ≤ m ∧ ∀ i, i ≤ L.length → (fileB (L.take i)).length ≤ m → i ≤ j
 | [], m, _ => ⟨0, by simp, by simpa [fileB] using scans_nil, by simp [fileB], fun i hi _ => by simpa using hi⟩
 | r :: L, m, h => by
  have hr := h r (by simp)
  have e0 : fileB (r :: L) = frameB r ++ fileB L := by simp [fileB]
  by_cases hm : m < (frameB r).length
  ·refine ⟨0, by simp, ?_, by simp [fileB], fun i hi hfi => ?_⟩
   ·have : (fileB (r :: L)).take m = (frameB r).take m := by rw [e0, List.take_append_of_le_length (by omega)]
    rw [this]
    obtain ⟨e, he⟩ := readF_cut hr hm
    exact .stop he
   ·cases i with
    | zero => exact Nat.le_refl _
    | succ i =>
     rw [List.take_succ_cons] at hfi
     have : fileB (r :: L.take i) = frameB r ++ fileB (L.take i) := by simp [fileB]
     rw [this, List.length_append] at hfi
     omega
  ·obtain ⟨j, hj, hs, hle, hmax⟩ := scans_cut (L := L) (m - (frameB r).length) fun x hx => h x (by simp [hx])
   have e1 : ∀ i, fileB ((r :: L).take (i + 1)) = frameB r ++ fileB (L.take i) := fun i => by simp [fileB]
   refine ⟨j + 1, by simp; omega, ?_, ?_, fun i hi hfi => ?_⟩
   ·have : (fileB (r :: L)).take m = frameB r ++ (fileB L).take (m - (frameB r).length) := by rw [e0, List.take_append, List.take_of_length_le (by omega)]
    rw [this, e1, List.length_append, List.take_succ_cons]
    exact .step (readF_frame hr _) (by rw [List.drop_left]; exact hs)
   ·rw [e1, List.length_append]; omega
   ·cases i with
    | zero => omega
    | succ i =>
     rw [e1, List.length_append] at hfi
     have := hmax i (by simpa using hi) (by omega)
     omega
end Go.VM
namespace Go.VM
open Go Go.RowKit Go.Proofs
theorem IsSlice.cut {cs : List V} {n : Nat} {L : List (List UInt8)} {t : Tok} (h : IsSlice BytesR 1 (.sl cs n 1 t) L t) {k : Nat} (hk : k ≤ L.length) :
  IsSlice BytesR 1 (if t = .nil then .sl cs n 1 t else .sl (cs.take ((k - 0) * 1)) (k - 0) 1 (if k = n then t else .no)) (L.take k) (if t = .nil then .nil else if k = n then t else .no) := by
 by_cases h0 : t = .nil
 ·obtain ⟨rfl, h1, rfl⟩ := h.nilTok h0
  subst h1
  rw [if_pos h0, if_pos h0, h0]
  simpa using isSlice_nil BytesR 1
 ·rw [if_neg h0, if_neg h0, Nat.sub_zero]
  exact h.take hk h0 (by split <;> simp [h0])
end Go.VM
namespace Go.VM
open Go Go.RowKit Go.Proofs
theorem findF_name {s : List UInt8} {x : File} : ∀ {l : List File}, findF s l = some x → x.name = s
 | y :: r, h => by
  unfold findF at h
  split at h
  ·injection h with h; subst h; assumption
  ·exact findF_name h
theorem findF_mem {s : List UInt8} {x : File} : ∀ {l : List File}, findF s l = some x → x ∈ l
 | y :: r, h => by
  unfold findF at h
  split at h
  ·injection h with h; subst h; simp
  ·exact List.mem_cons_of_mem _ (findF_mem h)
theorem findF_no {s : List UInt8} : ∀ {l : List File}, (∀ x ∈ l, x.name ≠ s) → findF s l = none
 | [], _ => rfl
 | y :: r, h => by
  unfold findF
  rw [if_neg (h y (by simp))]
  exact findF_no fun x hx => h x (by simp [hx])
theorem findF_put (x : File) (m : List UInt8) : ∀ l : List File, findF m (putF x l) = if x.name = m then some x else findF m l
 | [] => rfl
 | y :: r => by
  unfold putF
  by_cases h : y.name = x.name
  ·rw [if_pos h]
   by_cases h1 : x.name = m
   ·rw [if_pos h1]; unfold findF; rw [if_pos h1]
   ·rw [if_neg h1]; unfold findF; rw [if_neg h1, if_neg (by rw [h]; exact h1)]
  ·rw [if_neg h]
   unfold findF
   by_cases h2 : y.name = m
   ·rw [if_pos h2, if_neg (fun h1 => h (h2.trans h1.symm)), if_pos h2]
   ·rw [if_neg h2, findF_put x m r]
    by_cases h1 : x.name = m
    ·rw [if_pos h1, if_pos h1]
    ·rw [if_neg h1, if_neg h1, if_neg h2]
theorem findF_del {s : List UInt8} (m : List UInt8) : ∀ {l : List File}, (l.map (·.name)).Nodup → findF m (delF s l) = if m = s then none else findF m l
 | [], _ => by simp [delF, findF]
 | y :: r, h => by
  rw [List.map_cons, List.nodup_cons] at h
  unfold delF
  by_cases h1 : y.name = s
  ·rw [if_pos h1]
   by_cases h2 : m = s
   ·rw [if_pos h2]
    exact findF_no fun x hx e => h.1 (List.mem_map.2 ⟨x, hx, by rw [e, h2, h1]⟩)
   ·rw [if_neg h2]; conv => rhs; unfold findF
    rw [if_neg (fun e => h2 (by rw [← e, h1]))]
  ·rw [if_neg h1]
   conv => lhs; unfold findF
   conv => rhs; unfold findF
   by_cases h2 : y.name = m
   ·rw [if_pos h2, if_pos h2, if_neg (fun e => h1 (by rw [h2, e]))]
   ·rw [if_neg h2, if_neg h2, findF_del m h.2]
theorem mem_put {x y : File} : ∀ {l : List File}, y ∈ putF x l → y = x ∨ y ∈ l
 | [], h => by simp [putF] at h; exact .inl h
 | z :: r, h => by
  unfold putF at h
  split at h
  ·rcases List.mem_cons.1 h with h | h
   ·exact .inl h
   ·exact .inr (List.mem_cons_of_mem _ h)
  ·rcases List.mem_cons.1 h with h | h
   ·exact .inr (by simp [h])
   ·exact (mem_put h).imp id fun h => List.mem_cons_of_mem _ h
theorem mem_del {s : List UInt8} {y : File} : ∀ {l : List File}, y ∈ delF s l → y ∈ l
 | z :: r, h => by
  unfold delF at h
  split at h
  ·exact List.mem_cons_of_mem _ h
  ·rcases List.mem_cons.1 h with h | h
   ·simp [h]
   ·exact List.mem_cons_of_mem _ (mem_del h)
def sumF (l : List File) : Nat := (l.map fun x => x.p.length).sum
def con (D : DS) (s : List UInt8) : List UInt8 × Nat := match findF s D.files with | some x => (x.p, x.sure) | none => ([], 0)
theorem newN_ne (s : List UInt8) : newN s ≠ s := fun h => by have := congrArg List.length h; simp [newN] at this
theorem sum_two {a b : List UInt8} (hab : a ≠ b) : ∀ {l : List File}, (l.map (·.name)).Nodup → (∀ x ∈ l, x.name = a ∨ x.name = b) →
  sumF l = (match findF a l with | some x => x.p.length | none => 0) + (match findF b l with | some x => x.p.length | none => 0)
 | [], _, _ => rfl
 | y :: r, hn, ho => by
  rw [List.map_cons, List.nodup_cons] at hn
  have ih := sum_two hab hn.2 fun x hx => ho x (by simp [hx])
  have es : sumF (y :: r) = y.p.length + sumF r := by simp [sumF]
  rw [es, ih]
  have hno : findF y.name r = none := findF_no fun x hx e => hn.1 (List.mem_map.2 ⟨x, hx, e⟩)
  rcases ho y (by simp) with h | h
  ·have h2 : ¬ y.name = b := fun e => hab (h.symm.trans e)
   rw [h] at hno
   simp only [findF, h, if_true, if_neg hab, hno]; omega
  ·have h2 : ¬ b = a := fun e => hab e.symm
   rw [h] at hno
   simp only [findF, h, if_true, if_neg h2, hno]; omega
structure DS.Good (D : DS) : Prop where
 nd : (D.files.map (·.name)).Nodup
 used : D.used = sumF D.files
 room : D.room ≤ 67108864
 sure : ∀ x ∈ D.files, x.sure ≤ x.p.length
theorem DiskAt.good {S : St} {i : Nat} {D : Dk} (h : DiskAt S i D) : D.abs.Good := by
 refine ⟨by simpa [Dk.abs, List.map_map, Function.comp_def, Ent.file] using h.names, ?_, h.wf.room, fun x hx => ?_⟩
 ·have := h.wf.used
  simp only [Dk.abs, this, sumF, sumLen, List.map_map, Function.comp_def, Ent.file]
 ·obtain ⟨e, he, rfl⟩ := List.mem_map.1 hx
  exact h.wf.sure e he
structure WD (D : DS) (s p : List UInt8) (q : Nat) : Prop where
 nd : (D.files.map (·.name)).Nodup
 only : ∀ x ∈ D.files, x.name = s ∨ x.name = newN s
 con : con D s = (p, q)
def DS.clean (D : DS) (s : List UInt8) : Prop := findF (newN s) D.files = none
theorem nd_put {x : File} : ∀ {l : List File}, (l.map (·.name)).Nodup → ((putF x l).map (·.name)).Nodup
 | [], _ => by simp [putF]
 | y :: r, h => by
  rw [List.map_cons, List.nodup_cons] at h
  unfold putF
  by_cases h1 : y.name = x.name
  ·rw [if_pos h1, List.map_cons, List.nodup_cons, ← h1]; exact h
  ·rw [if_neg h1, List.map_cons, List.nodup_cons]
   refine ⟨fun hm => ?_, nd_put h.2⟩
   obtain ⟨z, hz, e⟩ := List.mem_map.1 hm
   rcases mem_put hz with rfl | hz
   ·exact h1 e.symm
   ·exact h.1 (List.mem_map.2 ⟨z, hz, e⟩)
theorem nd_del {s : List UInt8} : ∀ {l : List File}, (l.map (·.name)).Nodup → ((delF s l).map (·.name)).Nodup
 | [], _ => by simp [delF]
 | y :: r, h => by
  rw [List.map_cons, List.nodup_cons] at h
  unfold delF
  by_cases h1 : y.name = s
  ·rw [if_pos h1]; exact h.2
  ·rw [if_neg h1, List.map_cons, List.nodup_cons]
   refine ⟨fun hm => ?_, nd_del h.2⟩
   obtain ⟨z, hz, e⟩ := List.mem_map.1 hm
   exact h.1 (List.mem_map.2 ⟨z, mem_del hz, e⟩)
theorem WD.used {D : DS} {s p : List UInt8} {q : Nat} (h : WD D s p q) (g : D.Good) (hc : D.clean s) : D.used = (p.length : Int) := by
 rw [g.used, sum_two (newN_ne s).symm g.nd h.only, hc]
 have := h.con
 unfold Go.VM.con at this
 split at this <;> rename_i hx
 ·injection this with h1 h2
  simp [h1]
 ·injection this with h1 h2
  simp [← h1]
theorem WD.bytes {D : DS} {s p : List UInt8} {q : Nat} (h : WD D s p q) (hn : nameOk s = true) (ho : D.off = false) : D.bytes s = p ∧ (D.readE s = 0 ∨ D.readE s = 8) ∧ D.sureOf s = q := by
 have := h.con
 unfold Go.VM.con at this
 unfold DS.bytes DS.readE DS.sureOf
 rw [hn, ho]
 split at this <;> rename_i hx <;> injection this with h1 h2 <;> subst h1 <;> subst h2 <;> simp [hx]
theorem WD.put {D D' : DS} {s p p' : List UInt8} {q q' : Nat} (h : WD D s p q) (hf : D'.files = putF ⟨s, p', q'⟩ D.files) : WD D' s p' q' ∧ (D.clean s → D'.clean s) := by
 refine ⟨⟨by rw [hf]; exact nd_put h.nd, fun x hx => ?_, ?_⟩, fun hc => ?_⟩
 ·rw [hf] at hx
  rcases mem_put hx with rfl | hx
  ·exact .inl rfl
  ·exact h.only x hx
 ·unfold Go.VM.con; rw [hf, findF_put]; simp
 ·unfold DS.clean; rw [hf, findF_put, if_neg (newN_ne s).symm]; exact hc
theorem WD.putN {D D' : DS} {s p p' : List UInt8} {q q' : Nat} (h : WD D s p q) (hf : D'.files = putF ⟨newN s, p', q'⟩ D.files) : WD D' s p q ∧ findF (newN s) D'.files = some ⟨newN s, p', q'⟩ := by
 refine ⟨⟨by rw [hf]; exact nd_put h.nd, fun x hx => ?_, ?_⟩, by rw [hf, findF_put, if_pos rfl]⟩
 ·rw [hf] at hx
  rcases mem_put hx with rfl | hx
  ·exact .inr rfl
  ·exact h.only x hx
 ·have := h.con
  unfold Go.VM.con at this ⊢; rw [hf, findF_put, if_neg (newN_ne s)]; exact this
theorem WD.same {D D' : DS} {s p : List UInt8} {q : Nat} (h : WD D s p q) (hf : D'.files = D.files) : WD D' s p q ∧ (D.clean s → D'.clean s) := by
 refine ⟨⟨by rw [hf]; exact h.nd, by rw [hf]; exact h.only, ?_⟩, fun hc => by unfold DS.clean; rw [hf]; exact hc⟩
 have := h.con
 unfold Go.VM.con at this ⊢; rw [hf]; exact this
theorem begun_files (D : DS) : D.begun.files = D.files := rfl
theorem begun_calm {D : DS} (ha : D.arm = 0) : D.begun.off = false ∧ D.begun.arm = 0 := by
 unfold DS.begun; simp [ha]
theorem grow_eff {D : DS} {s p f : List UInt8} {q : Nat} (h : WD D s p q) (g : D.Good) (hc : D.clean s) (hn : nameOk s = true) (ho : D.off = false) (hr : (p.length : Int) + f.length ≤ D.room) :
  (D.grow s f false).1 = (if D.begun.off = true then 10 else 0) ∧ WD (D.grow s f false).2 s (p ++ f) q ∧ (D.grow s f false).2.clean s ∧ (D.grow s f false).2.off = D.begun.off ∧ (D.grow s f false).2.arm = D.begun.arm ∧ (D.grow s f false).2.room = D.room := by
 have hu := h.used g hc
 rw [grow_done hn ho (by simp) (by omega)]
 have hx : ({ ((findF s D.files).getD ⟨s, [], 0⟩) with p := ((findF s D.files).getD ⟨s, [], 0⟩).p ++ f } : File) = ⟨s, p ++ f, q⟩ := by
  have := h.con
  unfold Go.VM.con at this
  split at this <;> rename_i hx <;> injection this with h1 h2
  ·rw [hx, Option.getD_some, h1]; simp only [h2, findF_name hx]
  ·rw [hx, Option.getD_none, ← h1, ← h2]
 obtain ⟨h1, h2⟩ := h.put (D' := { D.begun with files := putF { ((findF s D.files).getD ⟨s, [], 0⟩) with p := ((findF s D.files).getD ⟨s, [], 0⟩).p ++ f } D.files, used := D.used + f.length }) (p' := p ++ f) (q' := q) (by rw [hx])
 exact ⟨rfl, h1, h2 hc, rfl, rfl, rfl⟩
theorem sync_eff {D : DS} {s p : List UInt8} {q : Nat} (h : WD D s p q) (hn : nameOk s = true) (ho : D.off = false) :
  ((D.sync s).1 = 8 ∧ (D.sync s).2 = D ∧ p = [] ∧ q = 0) ∨
  (D.begun.off = true ∧ (D.sync s).1 = 10 ∧ WD (D.sync s).2 s p q ∧ (D.clean s → (D.sync s).2.clean s) ∧ (D.sync s).2.off = true ∧ (D.sync s).2.room = D.room) ∨
  (D.begun.off = false ∧ (D.sync s).1 = 0 ∧ WD (D.sync s).2 s p p.length ∧ (D.clean s → (D.sync s).2.clean s) ∧ (D.sync s).2.off = false ∧ (D.sync s).2.arm = D.begun.arm ∧ (D.sync s).2.room = D.room) := by
 have hcon := h.con
 unfold Go.VM.con at hcon
 split at hcon <;> rename_i hx <;> injection hcon with h1 h2
 ·rename_i x
  right
  cases hb : D.begun.off
  ·right
   have e : D.sync s = (0, { D.begun with files := putF { x with sure := x.p.length } D.begun.files }) := by
    unfold DS.sync DS.change
    rw [if_neg (by simp [hn]), if_neg (by simp [ho]), hx]
    simp only [hb, Bool.false_eq_true, if_false]
   have hxe : ({ x with sure := x.p.length } : File) = ⟨s, p, p.length⟩ := by rw [← h1, findF_name hx]
   rw [e, begun_files, hxe]
   obtain ⟨k1, k2⟩ := h.put (D' := { D.begun with files := putF ⟨s, p, p.length⟩ D.files }) (p' := p) (q' := p.length) rfl
   exact ⟨rfl, rfl, k1, k2, hb, rfl, rfl⟩
  ·left
   have e : D.sync s = (10, D.begun) := by
    unfold DS.sync DS.change
    rw [if_neg (by simp [hn]), if_neg (by simp [ho]), hx]
    simp only [hb, if_true]
   rw [e]
   obtain ⟨k1, k2⟩ := h.same (D' := D.begun) rfl
   exact ⟨rfl, rfl, k1, k2, hb, rfl⟩
 ·left
  have e : D.sync s = (8, D) := by
   unfold DS.sync DS.change
   rw [if_neg (by simp [hn]), if_neg (by simp [ho]), hx]
  rw [e]; exact ⟨rfl, rfl, h1.symm, h2.symm⟩
theorem opened_eff {D : DS} {s p : List UInt8} {q : Nat} (h : WD D s p q) (hn : nameOk (newN s) = true) (ho : D.off = false) (ha : D.arm = 0) :
  ((D.remove (newN s)).1 = 0 ∨ (D.remove (newN s)).1 = 8) ∧ WD (D.opened s) s p q ∧ (D.opened s).clean s ∧ (D.opened s).off = false ∧ (D.opened s).arm = 0 ∧ (D.opened s).room = D.room := by
 obtain ⟨b1, b2⟩ := begun_calm ha
 cases hx : findF (newN s) D.files with
 | none =>
  have e : D.remove (newN s) = (8, D) := by
   unfold DS.remove DS.change
   rw [if_neg (by simp [hn]), if_neg (by simp [ho]), hx]
  unfold DS.opened
  rw [e]
  exact ⟨.inr rfl, h, hx, ho, ha, rfl⟩
 | some x =>
  have e : D.remove (newN s) = (0, { D.begun with files := delF (newN s) D.begun.files, used := D.begun.used - x.p.length }) := by
   unfold DS.remove DS.change
   rw [if_neg (by simp [hn]), if_neg (by simp [ho]), hx]
   simp only [b1, Bool.false_eq_true, if_false]
  unfold DS.opened
  rw [e]
  refine ⟨.inl rfl, ⟨nd_del h.nd, fun y hy => h.only y (mem_del hy), ?_⟩, ?_, b1, b2, rfl⟩
  ·have := h.con
   unfold Go.VM.con at this ⊢
   rw [show (D.begun.files) = D.files from rfl, findF_del s h.nd, if_neg (newN_ne s).symm]
   exact this
  ·unfold DS.clean
   rw [show (D.begun.files) = D.files from rfl, findF_del _ h.nd, if_pos rfl]
theorem write_eff {D : DS} {s p : List UInt8} {q : Nat} {L : List (List UInt8)} (h : WD D s p q) (g : D.Good) (hc : D.clean s) (hn : nameOk s = true) (hn' : nameOk (newN s) = true) (ho : D.off = false) (hL : shortL L) (hr : (p.length : Int) + (fileB L).length ≤ D.room) :
  ((D.writeL s L).1 = 0 ∧ WD (D.writeL s L).2 s (fileB L) (fileB L).length ∧ (D.writeL s L).2.clean s ∧ (D.writeL s L).2.off = false ∧ (D.arm = 0 → (D.writeL s L).2.arm = 0) ∧ (D.writeL s L).2.room = D.room ∧ (∃ x, (D.writeL s L).2.files.map (·.name) = x ∧ s ∈ x)) ∨
  ((D.writeL s L).1 = 10 ∧ D.arm ≠ 0 ∧ WD (D.writeL s L).2 s p q ∧ (D.writeL s L).2.off = true ∧ (D.writeL s L).2.room = D.room) := by
 have hu := h.used g hc
 have e0 : D.writeL s L = DS.write1 (D.grow (newN s) (fileB L) true) s := if_neg (by rw [longL_not hL]; decide)
 have calm : ∀ E : DS, E.arm = 0 → E.begun.off = false ∧ E.begun.arm = 0 := fun E => begun_calm
 have hgrow : D.grow (newN s) (fileB L) true = (if D.begun.off = true then 10 else 0, { D.begun with files := putF ⟨newN s, fileB L, 0⟩ D.files, used := D.used + (fileB L).length }) := by
  have hcn : findF (newN s) D.files = none := hc
  rw [grow_done hn' ho (by rw [hcn]; simp) (by omega), hcn]
  rfl
 rw [e0, hgrow]
 generalize hD1 : ({ D.begun with files := putF ⟨newN s, fileB L, 0⟩ D.files, used := D.used + (fileB L).length } : DS) = D1
 have f1 : D1.files = putF ⟨newN s, fileB L, 0⟩ D.files := by rw [← hD1]
 have o1 : D1.off = D.begun.off := by rw [← hD1]
 have a1 : D1.arm = D.begun.arm := by rw [← hD1]
 have r1 : D1.room = D.room := by rw [← hD1]; rfl
 obtain ⟨w1, n1⟩ := h.putN f1
 clear hD1
 by_cases hb : D.begun.off = true
 ·right
  rw [if_pos hb]
  have e : DS.write1 (10, D1) s = (10, D1) := by simp [DS.write1, DS.write2, DS.write3]
  rw [e]
  exact ⟨rfl, fun ha => (by rw [(calm D ha).1] at hb; cases hb), w1, o1.trans hb, r1⟩
 rw [if_neg hb]
 have hb : D.begun.off = false := by simpa using hb
 have hS : D1.sync (newN s) = if D1.begun.off = true then (10, D1.begun) else (0, { D1.begun with files := putF ⟨newN s, fileB L, (fileB L).length⟩ D1.files }) := by
  unfold DS.sync DS.change
  rw [if_neg (by simp [hn']), if_neg (by rw [o1, hb]; simp), n1]
  rfl
 by_cases hb1 : D1.begun.off = true
 ·right
  rw [if_pos hb1] at hS
  have e : DS.write1 (0, D1) s = (10, D1.begun) := by simp [DS.write1, hS, DS.write2, DS.write3]
  rw [e]
  obtain ⟨w2, _⟩ := w1.same (D' := D1.begun) rfl
  exact ⟨rfl, fun ha => (by rw [(calm D1 (a1.trans (calm D ha).2)).1] at hb1; cases hb1), w2, hb1, r1⟩
 rw [if_neg hb1] at hS
 have hb1 : D1.begun.off = false := by simpa using hb1
 generalize hD2 : ({ D1.begun with files := putF ⟨newN s, fileB L, (fileB L).length⟩ D1.files } : DS) = D2 at hS
 have f2 : D2.files = putF ⟨newN s, fileB L, (fileB L).length⟩ D1.files := by rw [← hD2]
 have o2 : D2.off = D1.begun.off := by rw [← hD2]
 have a2 : D2.arm = D1.begun.arm := by rw [← hD2]
 have r2 : D2.room = D1.room := by rw [← hD2]; rfl
 obtain ⟨w2, n2⟩ := w1.putN f2
 clear hD2
 have hR : D2.rename (newN s) s = if D2.begun.off = true then (10, D2.begun) else (0, renF (newN s) s D2.begun ⟨newN s, fileB L, (fileB L).length⟩) := by
  unfold DS.rename
  rw [if_neg (by simp [hn, hn']), if_neg (newN_ne s), if_neg (by
   rintro ⟨_, x, hx, hlt⟩
   rw [n2] at hx; injection hx with hx
   subst hx
   exact absurd hlt (by simp))]
  unfold DS.change
  rw [if_neg (by simp [hn']), if_neg (by rw [o2, hb1]; simp), n2]
 by_cases hb2 : D2.begun.off = true
 ·right
  rw [if_pos hb2] at hR
  have e : DS.write1 (0, D1) s = (10, D2.begun) := by simp [DS.write1, hS, DS.write2, hR, DS.write3]
  rw [e]
  obtain ⟨w3, _⟩ := w2.same (D' := D2.begun) rfl
  exact ⟨rfl, fun ha => (by rw [(calm D2 (a2.trans (calm D1 (a1.trans (calm D ha).2)).2)).1] at hb2; cases hb2), w3, hb2, r2.trans r1⟩
 ·left
  rw [if_neg hb2] at hR
  have hb2 : D2.begun.off = false := by simpa using hb2
  have e : DS.write1 (0, D1) s = (0, renF (newN s) s D2.begun ⟨newN s, fileB L, (fileB L).length⟩) := by simp [DS.write1, hS, DS.write2, hR, DS.write3]
  rw [e]
  have hfl : (renF (newN s) s D2.begun ⟨newN s, fileB L, (fileB L).length⟩).files = putF ⟨s, fileB L, (fileB L).length⟩ (delF (newN s) D2.files) := rfl
  have hnd := nd_del (s := newN s) w2.nd
  refine ⟨rfl, ⟨by rw [hfl]; exact nd_put hnd, fun x hx => ?_, ?_⟩, ?_, hb2, fun ha => (calm D2 (a2.trans (calm D1 (a1.trans (calm D ha).2)).2)).2, r2.trans r1, _, rfl, ?_⟩
  ·rw [hfl] at hx
   rcases mem_put hx with rfl | hx
   ·exact .inl rfl
   ·exact w2.only x (mem_del hx)
  ·unfold Go.VM.con; rw [hfl, findF_put]; simp
  ·unfold DS.clean; rw [hfl, findF_put, if_neg (newN_ne s).symm, findF_del _ w2.nd, if_pos rfl]
  ·have : findF s (renF (newN s) s D2.begun ⟨newN s, fileB L, (fileB L).length⟩).files = some ⟨s, fileB L, (fileB L).length⟩ := by rw [hfl, findF_put, if_pos rfl]
   exact List.mem_map.2 ⟨_, findF_mem this, rfl⟩
theorem stepR_find {keep : List Int} {D : DS} {j : Nat} {s : List UInt8} (m : List UInt8) : findF m (stepR keep D j s).files = if m = s then (findF m D.files).map (cutF keep j) else findF m D.files := by
 unfold stepR
 split
 ·rename_i x hx
  rw [findF_put]
  have hn : (cutF keep j x).name = s := (show (cutF keep j x).name = x.name from rfl).trans (findF_name hx)
  rw [hn]
  by_cases h : m = s
  ·rw [if_pos h.symm, if_pos h, h, hx]; rfl
  ·rw [if_neg (fun e => h e.symm), if_neg h]
 ·rename_i hx
  by_cases h : m = s
  ·rw [if_pos h, h, hx]; rfl
  ·rw [if_neg h]
theorem stepR_names {keep : List Int} {D : DS} {j : Nat} {s : List UInt8} (hn : (D.files.map (·.name)).Nodup) : ((stepR keep D j s).files.map (·.name)).Nodup ∧ (∀ y ∈ (stepR keep D j s).files, ∃ z ∈ D.files, z.name = y.name) := by
 unfold stepR
 split
 ·rename_i x hx
  refine ⟨nd_put hn, fun y hy => ?_⟩
  rcases mem_put hy with rfl | hy
  ·exact ⟨x, findF_mem hx, rfl⟩
  ·exact ⟨y, hy, rfl⟩
 ·exact ⟨hn, fun y hy => ⟨y, hy, rfl⟩⟩
theorem runR_find {keep : List Int} (m : List UInt8) : ∀ (ns : List (List UInt8)) (j : Nat) (D : DS), ns.Nodup → ∃ j', findF m (runR keep j ns D).files = if m ∈ ns then (findF m D.files).map (cutF keep j') else findF m D.files
 | [], j, D, _ => ⟨0, by simp [runR]⟩
 | s :: r, j, D, h => by
  rw [List.nodup_cons] at h
  obtain ⟨j', hj'⟩ := runR_find (keep := keep) m r (j + 1) (stepR keep D j s) h.2
  by_cases h1 : m = s
  ·refine ⟨j, ?_⟩
   rw [runR, hj', if_neg (by rw [h1]; exact h.1), stepR_find, if_pos h1, if_pos (by simp [h1])]
  ·refine ⟨j', ?_⟩
   rw [runR, hj', stepR_find, if_neg h1]
   simp [h1]
theorem runR_names {keep : List Int} : ∀ (ns : List (List UInt8)) (j : Nat) (D : DS), (D.files.map (·.name)).Nodup → ((runR keep j ns D).files.map (·.name)).Nodup ∧ (∀ y ∈ (runR keep j ns D).files, ∃ z ∈ D.files, z.name = y.name) ∧ (runR keep j ns D).room = D.room
 | [], j, D, h => ⟨h, fun y hy => ⟨y, hy, rfl⟩, rfl⟩
 | s :: r, j, D, h => by
  obtain ⟨h1, h2⟩ := stepR_names (keep := keep) (j := j) (s := s) h
  obtain ⟨h3, h4, h5⟩ := runR_names (keep := keep) r (j + 1) _ h1
  refine ⟨h3, fun y hy => ?_, h5.trans (by unfold stepR; split <;> rfl)⟩
  obtain ⟨z, hz, e⟩ := h4 y hy
  obtain ⟨z', hz', e'⟩ := h2 z hz
  exact ⟨z', hz', e'.trans e⟩
theorem keepI_most {keep : List Int} {j : Nat} {x : File} {b : Nat} (h : ∀ k ∈ keep, k ≤ (b : Int)) : keepI keep j x ≤ b := by
 unfold keepI
 split
 ·rename_i k hk
  have := h k (List.mem_of_getElem? hk)
  simp only
  split <;> split <;> omega
 ·omega
theorem restart_eff {D : DS} {s p : List UInt8} {q : Nat} (h : WD D s p q) (g : D.Good) (keep : List Int) :
  ∃ m, q ≤ m ∧ m ≤ p.length ∧ (∀ b : Nat, (∀ k ∈ keep, k ≤ (b : Int)) → m ≤ q + b) ∧ WD (D.restart keep) s (p.take m) m ∧ (D.restart keep).off = false ∧ (D.restart keep).arm = 0 ∧ (D.restart keep).room = D.room := by
 have hns : D.names.Nodup := (List.mergeSort_perm _ _).nodup_iff.mpr g.nd
 have hmem : ∀ m, m ∈ D.names ↔ m ∈ D.files.map (·.name) := fun m => (List.mergeSort_perm _ _).mem_iff
 obtain ⟨n1, n2, n3⟩ := runR_names (keep := keep) D.names 0 D g.nd
 obtain ⟨j', hj⟩ := runR_find (keep := keep) s D.names 0 D hns
 have hcon := h.con
 have only' : ∀ x ∈ (runR keep 0 D.names D).files, x.name = s ∨ x.name = newN s := fun x hx => by
  obtain ⟨z, hz, e⟩ := n2 x hx
  rw [← e]; exact h.only z hz
 unfold Go.VM.con at hcon
 split at hcon <;> rename_i hx <;> injection hcon with h1 h2
 ·rename_i x
  have hs := g.sure x (findF_mem hx)
  obtain ⟨k1, k2⟩ := keepI_le keep j' x hs
  rw [if_pos ((hmem s).2 (List.mem_map.2 ⟨x, findF_mem hx, findF_name hx⟩)), hx] at hj
  refine ⟨q + (keepI keep j' x).toNat, by omega, by rw [← h1, ← h2]; omega, fun b hb => (by have := keepI_most (j := j') (x := x) hb; omega), ⟨n1, only', ?_⟩, rfl, rfl, n3⟩
  unfold Go.VM.con DS.restart
  rw [hj]
  simp only [Option.map_some, cutF, h1, h2]
 ·subst h1; subst h2
  refine ⟨0, Nat.le_refl _, Nat.le_refl _, fun b _ => Nat.zero_le _, ⟨n1, only', ?_⟩, rfl, rfl, n3⟩
  have hj : findF s (runR keep 0 D.names D).files = none := by rw [hj, hx]; split <;> rfl
  unfold Go.VM.con DS.restart
  rw [hj]; rfl
end Go.VM
namespace Go.VM
open Go Go.RowKit Go.Proofs
structure Dg (S : St) (i : Nat) (D : Dk) (s p : List UInt8) (q : Nat) (room : Int) : Prop where
 d : DiskAt S i D
 v : WD D.abs s p q
 off : D.abs.off = false
 arm : D.abs.arm = 0
 room : D.abs.room = room
structure Lg (S : St) (i g : Nat) (D : Dk) (t : Tok) (s : List UInt8) (L : List (List UInt8)) (q : Nat) (room : Int) : Prop where
 w : WalAt S i g D s L t
 v : WD D.abs s (fileB L) q
 c : D.abs.clean s
 off : D.abs.off = false
 arm : D.abs.arm = 0
 room : D.abs.room = room
theorem Lg.keep {S S' : St} {i g : Nat} {D : Dk} {t : Tok} {s : List UInt8} {L : List (List UInt8)} {q : Nat} {room : Int} {o : Nat → Prop} (h : Lg S i g D t s L q room) (k : Keeps o S S') (ho : ∀ j, ownW i g D t j → ¬ o j) : Lg S' i g D t s L q room := ⟨h.w.keep k ho, h.v, h.c, h.off, h.arm, h.room⟩
theorem Lg.stay {S S' : St} {i g : Nat} {D : Dk} {t : Tok} {s : List UInt8} {L : List (List UInt8)} {q : Nat} {room : Int} (h : Lg S i g D t s L q room) (k : Keeps (fun _ => False) S S') : Lg S' i g D t s L q room := h.keep k fun _ _ => id
theorem Dg.stay {S S' : St} {i : Nat} {D : Dk} {s p : List UInt8} {q : Nat} {room : Int} (h : Dg S i D s p q room) (k : Keeps (fun _ => False) S S') : Dg S' i D s p q room := ⟨h.d.stay k, h.v, h.off, h.arm, h.room⟩
theorem frameB_le {r : List UInt8} (h : r.length ≤ 65535) : (frameB r).length ≤ r.length + 9 := by rw [frameB_len]; have := uvar_len3 h; omega
theorem frameB_pos (r : List UInt8) : 7 ≤ (frameB r).length := by rw [frameB_len]; have := uvar_pos r.length; omega
theorem fileB_nil {L : List (List UInt8)} (h : fileB L = []) : L = [] := by
 cases L with
 | nil => rfl
 | cons r L =>
  have := frameB_pos r
  have e : (fileB (r :: L)).length = (frameB r).length + (fileB L).length := by simp [fileB]
  rw [h] at e; simp at e; omega
theorem fileB_len (L : List (List UInt8)) : 7 * L.length ≤ (fileB L).length := by
 induction L with
 | nil => simp
 | cons r L ih =>
  have := frameB_pos r
  have e : (fileB (r :: L)).length = (frameB r).length + (fileB L).length := by simp [fileB]
  rw [e, List.length_cons]; omega
theorem new_ok {w0 : World} {S : St} {Q : AEnd → St → Prop} {n : Int} (s : List UInt8) (h0 : 0 ≤ n) (hn : n ≤ 67108864) (hQ : ∀ S' i D, Dg S' i D s [] 0 n → D.abs.clean s → (∀ j, ownD i D j → S.n ≤ j) → Keeps (fun _ => False) S S' → Q (.ret (.tup [.ptr (some (i, 0)), .int .i64 0])) S') :
  RSim Try.prog w0 n_disk_New [.int .i64 n] S Q := by
 refine new_runs (fun S1 i _ _ hi d1 k1 => ?_) (fun h => by omega)
 refine hQ S1 i _ ⟨d1, ⟨by simp [Dk.abs], fun x hx => (by cases hx), rfl⟩, rfl, rfl, rfl⟩ rfl (fun j hj => ?_) k1
 rcases hj with rfl | rfl | ⟨e, he, _⟩
 ·exact hi
 ·exact Nat.le_refl _
 ·cases he
theorem WD.few {D : Dk} {S : St} {i : Nat} {s p : List UInt8} {q : Nat} (h : WD D.abs s p q) : D.ents.length ≤ 2 := by
 have key : ∀ l : List File, (l.map (·.name)).Nodup → (∀ x ∈ l, x.name = s ∨ x.name = newN s) → l.length ≤ 2 := by
  intro l hn ho
  match l, hn, ho with
  | [], _, _ => simp
  | [_], _, _ => simp
  | [_, _], _, _ => simp
  | x :: y :: z :: r, hn, ho =>
   exfalso
   simp only [List.map_cons, List.nodup_cons, List.mem_cons, not_or] at hn
   obtain ⟨⟨h1, h2, _⟩, ⟨h3, _⟩, _⟩ := hn
   rcases ho x (by simp) with a | a <;> rcases ho y (by simp) with b | b <;> rcases ho z (by simp) with c | c <;> simp_all
 have := key D.abs.files h.nd h.only
 simpa [Dk.abs] using this
theorem scans_short {l : List UInt8} {L : List (List UInt8)} {n : Nat} (h : Scans l L n) : shortL L := by
 induction h with
 | stop _ => intro r hr; cases hr
 | step h _ ih =>
  intro r hr
  rcases List.mem_cons.1 hr with rfl | hr
  ·unfold readF at h
   split at h
   ·cases h
   ·split at h
    ·cases h
    ·split at h
     ·cases h
     ·rename_i hno
      split at h
      ·cases h
      ·injection h with h; injection h with h1 h2
       rw [← h1, List.length_take]
       have : ¬ _ > 65535 := fun h => hno (.inr (.inl h))
       omega
  ·exact ih r hr
theorem open_ok {w0 : World} {S : St} {Q : AEnd → St → Prop} {i : Nat} {D : Dk} {s p : List UInt8} {q : Nat} {room : Int} {L : List (List UInt8)} {n : Nat} (h : Dg S i D s p q room) (hs : nameOk s = true) (hs' : nameOk (newN s) = true) (hsl : s.length ≤ 28)
  (hq : q ≤ p.length) (hsc : Scans p L n) (hp : n = p.length → p = fileB L) (hroom : (p.length : Int) + (fileB L).length ≤ room)
  (hQ : ∀ S' D' g t, Lg S' i g D' t s L (if n < p.length then (fileB L).length else q) room → Keeps (ownD i D) S S' → (∀ j, ownW i g D' t j → ownD i D j ∨ S.n ≤ j) → (n < p.length → ∃ x, D'.abs.files.map (·.name) = x ∧ s ∈ x) → (¬ n < p.length → D'.abs = D.abs.opened s) → Q (.ret (.tup [.ptr (some (g, 0)), .int .i64 0])) S') :
  RSim Try.prog w0 n_wal_Open [.ptr (some (i, 0)), .str (mkS s)] S Q := by
 have g0 := h.d.good
 have hrm := g0.room
 have hro := h.room
 obtain ⟨e1, v1, c1, o1, a1, r1⟩ := opened_eff h.v hs' h.off h.arm
 obtain ⟨y1, y2, y3⟩ := v1.bytes hs o1
 have g1 : (D.abs.opened s).Good := by
  obtain ⟨b1, b2⟩ := begun_calm h.arm
  unfold DS.opened DS.remove DS.change
  rw [if_neg (by simp [hs']), if_neg (by simp [h.off])]
  split
  ·exact g0
  ·rename_i x hx
   simp only [b1, Bool.false_eq_true, if_false]
   refine ⟨nd_del g0.nd, ?_, hrm, fun y hy => g0.sure y (mem_del hy)⟩
   have hu : ∀ l : List File, (l.map (·.name)).Nodup → findF (newN s) l = some x → (sumF l : Int) - x.p.length = sumF (delF (newN s) l) := by
    intro l
    induction l with
    | nil => intro _ h; cases h
    | cons y r ih =>
     intro hn hf
     rw [List.map_cons, List.nodup_cons] at hn
     unfold findF at hf; unfold delF
     by_cases he : y.name = newN s
     ·rw [if_pos he] at hf ⊢
      injection hf with hf; subst hf
      simp [sumF]; omega
     ·rw [if_neg he] at hf ⊢
      have := ih hn.2 hf
      simp only [sumF, List.map_cons, List.sum_cons] at this ⊢
      omega
   show D.abs.begun.used - (x.p.length : Int) = _
   rw [show D.abs.begun.used = D.abs.used from rfl, g0.used]
   exact hu _ g0.nd hx
 have hL := scans_short hsc
 have hw := write_eff (L := L) v1 g1 c1 hs hs' o1 hL (by rw [r1, h.room]; exact hroom)
 have hw0 : ((D.abs.opened s).writeL s L).1 = 0 ∧ WD ((D.abs.opened s).writeL s L).2 s (fileB L) (fileB L).length ∧ ((D.abs.opened s).writeL s L).2.clean s ∧ ((D.abs.opened s).writeL s L).2.off = false ∧ ((D.abs.opened s).arm = 0 → ((D.abs.opened s).writeL s L).2.arm = 0) ∧ ((D.abs.opened s).writeL s L).2.room = (D.abs.opened s).room ∧ (∃ x, ((D.abs.opened s).writeL s L).2.files.map (·.name) = x ∧ s ∈ x) := by
  rcases hw with hw | ⟨_, hne, _⟩
  ·exact hw
  ·exact absurd a1 hne
 obtain ⟨w1, w2, w3, w4, w5, w6, w7⟩ := hw0
 have hLl := fileB_len L
 refine open_runs h.d hs hsl e1 y2 (by rw [y1]; omega) (fun L' n' hsc' hlt => ?_) fun S1 D1 g t L' n' hsc' hle O a => ?_
 ·rw [y1] at hsc'
  obtain ⟨rfl, rfl⟩ := hsc.det hsc'
  exact ⟨w1, by omega, by omega⟩
 ·rw [y1] at hsc' a hle
  obtain ⟨rfl, rfl⟩ := hsc.det hsc'
  by_cases hlt : n < p.length
  ·rw [if_pos hlt] at a
   rw [← a] at w2 w3 w4 w5 w6 w7
   refine hQ S1 D1 g t ⟨O.w, ?_, w3, w4, w5 a1, w6.trans (r1.trans h.room)⟩ O.k O.o (fun _ => w7) (fun hn => absurd hlt hn)
   rw [if_pos hlt]; exact w2
  ·rw [if_neg hlt] at a
   have hpe := hp (by omega)
   rw [← a] at v1 c1 o1 a1 r1
   refine hQ S1 D1 g t ⟨O.w, ?_, c1, o1, a1, r1.trans h.room⟩ O.k O.o (fun h => absurd h hlt) (fun _ => a)
   rw [if_neg hlt, ← hpe]; exact v1
end Go.VM
namespace Go.VM
open Go Go.RowKit Go.Proofs
theorem take_pre {L : List (List UInt8)} {j m : Nat} (h : (fileB (L.take j)).length = m) : (fileB L).take m = fileB (L.take j) := by
 have := fileB_append (L.take j) (L.drop j)
 rw [List.take_append_drop] at this
 rw [this, ← h, List.take_left]
theorem take_pre' {L : List (List UInt8)} {j m : Nat} (hm : m ≤ (fileB L).length) (h : (fileB (L.take j)).length = ((fileB L).take m).length) : (fileB L).take m = fileB (L.take j) := by
 rw [List.length_take, Nat.min_eq_left hm] at h
 exact take_pre h
end Go.VM

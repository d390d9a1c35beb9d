/-
  pack.four, pack.Frame.
  pack.ReadFrame. NEWPP
-/
import Derived.Test.YtegaflmefmlpgaaGreatDoorPBits
import Derived.Test.YtegaflmefmlpgaaGreatDoorDLastsRun
set_option maxRecDepth 20000
set_option linter.unusedVariables false
set_option linter.unusedSimpArgs false
namespace Go.VM
open Go Go.RowKit Go.Proofs

/-- Append of bytes to a slice of the walk's own. -/
theorem wi_appendB {cl : Cl} {fr : Fr} {S S0 : St} {K : Fr → St → Prop} {Kp : V → St → Prop} {dst : Option Nat} {s x : Arg} {r : List Item} {bs cs : List UInt8} {n : Nat} {t : Tok}
    (hs : s.ev fr = .sl (bs.map u8V) n 1 t) (hn : n = bs.length) (hx : (x.ev fr).elems S 1 = some (cs.length, cs.map u8V)) (hr : bs.length + cs.length ≤ 140000000000000)
    (k : Keeps (fun _ => False) S0 S) (ht : TokOk S t) (htn : ∀ j, t = .at j → S0.n ≤ j) (hnil : t = .nil → bs = [])
    (hK : ∀ t' S', Keeps (fun _ => False) S0 S' → TokOk S' t' → (∀ j, t' = .at j → S0.n ≤ j) → (t' = .nil → bs ++ cs = []) → wItems cl r (fr.put dst (.sl ((bs ++ cs).map u8V) (bs ++ cs).length 1 t')) S' K Kp) :
    wItems cl (.run ⟨dst, none, .e (.append 1 1 false s x)⟩ :: r) fr S K Kp := by
  subst hn
  refine wi_append (n := bs.length) (cs := bs.map u8V) (t := t) (m := cs.length) (xs := cs.map u8V) hs hx (by simp) (by simp [roomOk]; omega) ht (fun e => by rw [hnil e]; exact ⟨rfl, rfl⟩) fun t' S' k' ht' hn' hz => ?_
  rw [← List.map_append, ← List.length_append]
  refine hK t' S' (keeps_new k k' htn) ht' (fun j hj => Nat.le_trans k.n (hn' j hj)) fun e => ?_
  obtain ⟨h1, h2⟩ := hz e
  rw [hnil h2, List.eq_nil_of_length_eq_zero h1]; rfl

def fourB (v : Nat) : List UInt8 := [UInt8.ofNat (v / 16777216), UInt8.ofNat (v / 65536), UInt8.ofNat (v / 256), UInt8.ofNat v]
theorem fourB_len (v : Nat) : (fourB v).length = 4 := rfl
theorem four_runs {w0 : World} {S : St} {Q : AEnd → St → Prop} {v : Nat} (hv : v < 4294967296)
    (hQ : Q (.ret (.sl ((fourB v).map u8V) 4 1 .cap)) S) : RSim Tryz.prog w0 n_pack_four [.int .u32 v] S Q := by
  have fd : ∀ d : Nat, (v : Int).fdiv (d : Int) = ((v / d : Nat) : Int) := fun d => by
    rw [Int.fdiv_eq_ediv_of_nonneg _ (by omega)]; exact (Int.natCast_ediv v d).symm
  have h1 : (v : Int).fdiv (2 ^ (min (Int.toNat 24) 32)) = ((v / 16777216 : Nat) : Int) := fd 16777216
  have h2 : (v : Int).fdiv (2 ^ (min (Int.toNat 16) 32)) = ((v / 65536 : Nat) : Int) := fd 65536
  have h3 : (v : Int).fdiv (2 ^ (min (Int.toNat 8) 32)) = ((v / 256 : Nat) : Int) := fd 256
  have cv : ∀ x : Nat, V.conv S (.int .u8) (.int .u32 (x : Int)) = some (u8V (UInt8.ofNat x)) := fun x => by
    simp only [V.conv, IntKind.wrap_u8, u8V_ofNat]; congr 2
  refine RSim.run mixed k_pack_four ?_ (by simp)
  simp only [b_pack_four, go_sem, h1, h2, h3, cv]
  exact hQ

def frameB (p : List UInt8) : List UInt8 := 0xf1 :: (uvar p.length ++ fourB (sumN p) ++ p ++ [0x1f])
theorem frame_runs {w0 : World} {S : St} {Q : AEnd → St → Prop} {v : V} {p : List UInt8} (hp : IsBytes v p)
    (hQ : p.length ≤ 65535 → ∀ S' v', IsBytes v' (frameB p) → Keeps (fun _ => False) S S' → Q (.ret (.tup [v', .int .i64 0])) S') (hQ' : 65535 < p.length → Q (.ret (.tup [.sl [] 0 1 .nil, .int .i64 2])) S) :
    RSim Tryz.prog w0 n_pack_Frame [v] S Q := by
  obtain ⟨t, rfl, ht⟩ := id hp
  refine RSim.run mixed k_pack_Frame ?_ (by simp)
  simp only [b_pack_Frame, go_sem]
  refine wc_ite (b := decide ((p.length : Int) > 65535)) (by simp only [go_sem]) (fun hc => ?_) (fun hc => ?_)
  · simp only [go_sem]
    exact hQ' (by have := of_decide_eq_true hc; omega)
  · have hle : p.length ≤ 65535 := by have := of_decide_eq_false hc; omega
    have hq := hQ hle
    have cv : ∀ S, V.conv S (.int .u64) (.int .i64 (p.length : Int)) = some (.int .u64 (p.length : Int)) := fun S => by
      simp only [V.conv, wu64 (show (0 : Int) ≤ (p.length : Int) by omega) (show (p.length : Int) < 18446744073709551616 by omega)]
    simp only [go_sem, cv]
    refine wi_call ?_
    simp only [go_sem]
    refine uvarint_runs (v := p.length) (by omega) fun S1 t1 ht1 hn1 ho1 k1 => ?_
    have hu := uvar_len10 (v := p.length) (by omega)
    simp only [go_sem]
    refine wi_appendB (bs := [0xf1]) (cs := uvar p.length) (t := .cap) (by simp only [go_sem]; rfl) rfl (by simp only [go_sem]; exact (isBytes_mk _ hn1).elems _) (by simp; omega) k1 trivial (fun j h => by cases h) (fun h => by cases h) fun t2 S2 k2 ht2 ho2 hz2 => ?_
    simp only [go_sem]
    refine wi_call ?_
    simp only [go_sem]
    refine sum_runs (by omega) ht ?_
    simp only [go_sem]
    refine wi_call ?_
    simp only [go_sem]
    refine four_runs (sumN_lt p) ?_
    simp only [go_sem]
    refine wi_appendB (cs := fourB (sumN p)) (t := t2) (by simp only [go_sem]) rfl (by simp only [go_sem]; exact (isBytes_mk (fourB (sumN p)) (t := .cap) (by simp)).elems _) (by simp [fourB_len]; omega) k2 ht2 ho2 hz2 fun t3 S3 k3 ht3 ho3 hz3 => ?_
    simp only [go_sem]
    refine wi_appendB (cs := p) (t := t3) (by simp only [go_sem]) rfl (by simp only [go_sem]; exact hp.elems _) (by simp [fourB_len]; omega) k3 ht3 ho3 hz3 fun t4 S4 k4 ht4 ho4 hz4 => ?_
    simp only [go_sem]
    refine wi_appendB (bs := [0xf1] ++ uvar p.length ++ fourB (sumN p) ++ p) (cs := [0x1f]) (t := t4) (by simp only [go_sem]) rfl (by simp only [go_sem]; exact (isBytes_mk [0x1f] (t := .cap) (by simp)).elems _) (by simp [fourB_len]; omega) k4 ht4 ho4 hz4 fun t5 S5 k5 ht5 ho5 hz5 => ?_
    simp only [go_sem]
    have e : [0xf1] ++ uvar p.length ++ fourB (sumN p) ++ p ++ [0x1f] = frameB p := by simp [frameB]
    rw [e] at hz5
    exact hq S5 _ ⟨t5, rfl, hz5⟩ k5
end Go.VM

namespace Go.VM
open Go Go.RowKit Go.Proofs

/-- The frame at the front of bytes: what is wrong, or the payload and how many bytes the frame has. -/
def readF : List UInt8 → Int ⊕ (List UInt8 × Nat)
  | [] => .inl 8
  | b :: l => match ruv 0 0 l with
    | none => .inl 3
    | some (n, k) => if b ≠ 0xf1 ∨ n > 65535 ∨ l.length < k + 5 + n ∨ l[k + 4 + n]? ≠ some 0x1f then .inl 3
      else if (l.drop k).take 4 ≠ fourB (sumN ((l.drop (k + 4)).take n)) then .inl 5 else .inr ((l.drop (k + 4)).take n, k + 6 + n)

theorem IsBytes.cut_lh {v : V} {bs : List UInt8} (h : IsBytes v bs) {a n : Nat} (hn : a + n ≤ bs.length) (x y : Nat) : ∃ v', (∀ fr : Fr, (fr x).idx = some a → (fr y).idx = some (a + n) → sliceV fr 1 (some (.t x)) (some (.t y)) none v = some v') ∧ IsBytes v' ((bs.drop a).take n) := by
  obtain ⟨t, rfl, ht⟩ := h
  by_cases h0 : t = .nil
  · have := ht h0
    subst this; subst h0
    have h1 : a = 0 := by simp at hn; omega
    have h2 : n = 0 := by simp at hn; omega
    subst h1; subst h2
    refine ⟨.sl [] 0 1 .nil, fun fr hf hg => ?_, by simpa using isBytes_nil⟩
    simp only [sliceV, bounds_lh, Arg.ev, hf, hg, Option.bind_some, List.length_nil, Nat.le_refl, Nat.add_zero, and_self, if_true, List.map_nil, Option.isSome_none, Bool.false_eq_true, if_false]
  · have hle : a ≤ a + n ∧ a + n ≤ bs.length := ⟨by omega, hn⟩
    refine ⟨.sl (((bs.drop a).take n).map u8V) n 1 (if a + n = bs.length then t else .no), fun fr hf hg => ?_, ?_⟩
    · simp only [sliceV, bounds_lh, Arg.ev, hf, hg, Option.bind_some, hle, and_self, if_true, if_false, h0, ne_eq, not_true_eq_false, Nat.mul_one, List.map_take, List.map_drop, Nat.add_sub_cancel_left]
    · have e : ((bs.drop a).take n).length = n := by rw [List.length_take, List.length_drop]; omega
      have := isBytes_mk ((bs.drop a).take n) (t := if a + n = bs.length then t else .no) (by split <;> simp [h0])
      rw [e] at this
      exact this
theorem ruv_pos {l : List UInt8} : ∀ {n v : Nat} {x k : Nat}, ruv n v l = some (x, k) → n < k := by
  induction l with
  | nil => intro n v x k h; cases h
  | cons b l ih =>
    intro n v x k h
    rw [ruv] at h
    split at h
    · cases h
    · split at h
      · injection h with h; injection h with h1 h2; omega
      · have := ih h; omega
theorem drop_get {bs : List UInt8} {j : Nat} {b : UInt8} (hb : bs[j]? = some b) : (bs.map u8V).drop (j * 1) = .int .u8 b.toNat :: (bs.drop (j + 1)).map u8V := by
  have hlt : j < bs.length := by rcases Nat.lt_or_ge j bs.length with h | h
                                 · exact h
                                 · rw [List.getElem?_eq_none h] at hb; cases hb
  have hd : bs.drop j = b :: bs.drop (j + 1) := by
    rw [List.drop_eq_getElem_cons hlt]; congr 1
    rw [List.getElem?_eq_getElem hlt] at hb; injection hb
  rw [Nat.mul_one, ← List.map_drop, hd]; rfl

theorem readFrame_runs {w0 : World} {S : St} {Q : AEnd → St → Prop} {v : V} {bs : List UInt8} {p : Nat} (hv : IsBytes v bs) (hp : p ≤ bs.length) (hl : bs.length ≤ 100000000000000)
    (hQ : ∀ e S', readF (bs.drop p) = .inl e → Keeps (fun _ => False) S S' → Q (.ret (.tup [.sl [] 0 1 .nil, .int .i64 0, .int .i64 e])) S')
    (hQ' : ∀ q k S' v', readF (bs.drop p) = .inr (q, k) → IsBytes v' q → 7 ≤ k → p + k ≤ bs.length → Keeps (fun _ => False) S S' → Q (.ret (.tup [v', .int .i64 ((p + k : Nat) : Int), .int .i64 0])) S') :
    RSim Tryz.prog w0 n_pack_ReadFrame [v, .int .i64 p] S Q := by
  obtain ⟨t, rfl, ht⟩ := id hv
  have e1 : decide ((p : Int) > (bs.length : Int)) = false := decide_eq_false (by omega)
  have e0 : decide ((p : Int) < 0) = false := decide_eq_false (by omega)
  refine RSim.run mixed k_pack_ReadFrame ?_ (by simp)
  simp only [b_pack_ReadFrame, go_sem, e1, e0]
  refine wc_ite (b := false) (by simp only [go_sem] <;> rfl) (fun h => by cases h) (fun _ => ?_)
  have e2 : ((p : Int) == (bs.length : Int)) = decide (p = bs.length) := by rw [Bool.eq_iff_iff, beq_iff_eq, decide_eq_true_iff]; omega
  simp only [go_sem, e2]
  refine wc_ite (b := decide (p = bs.length)) (by simp only [go_sem]) (fun hc => ?_) (fun hc => ?_)
  · have := of_decide_eq_true hc
    have hq := hQ 8 S (by rw [List.drop_eq_nil_of_le (by omega)]; rfl) (Keeps.refl _ S)
    simp only [go_sem]
    exact hq
  have hlt : p < bs.length := by have := of_decide_eq_false hc; omega
  obtain ⟨b, hb⟩ : ∃ b, bs[p]? = some b := ⟨bs[p], List.getElem?_eq_getElem hlt⟩
  have hd : bs.drop p = b :: bs.drop (p + 1) := by
    rw [List.drop_eq_getElem_cons hlt]; congr 1
    rw [List.getElem?_eq_getElem hlt] at hb; injection hb
  rw [hd] at hQ hQ'
  have w1 : IntKind.i64.wrap ((p : Int) + 1) = ((p + 1 : Nat) : Int) := by rw [w64 (by omega) (by omega)]; omega
  have hb' := drop_get hb
  have hlt' : (p < bs.length) = True := eq_true hlt
  have htn : (t = .nil) = False := eq_false fun h => by rw [ht h] at hlt; simp at hlt
  have hbl := b.toNat_lt
  simp only [go_sem, w1]
  refine wi_call ?_
  simp only [go_sem]
  have neq : ∀ (x c : UInt8), ((x.toNat : Int) != (c.toNat : Int)) = decide (x ≠ c) := fun x c => by
    rw [Bool.eq_iff_iff, bne_iff_ne, decide_eq_true_iff]; constructor
    · intro h h'; exact h (by rw [h'])
    · intro h h'; exact h (UInt8.toNat_inj.mp (by omega))
  have q1 : ((b.toNat : Int) != 241) = decide (b ≠ 0xf1) := neq b 0xf1
  refine readUvarint_runs (by omega) (by omega) ht (fun n k hr hn hk => ?_) fun hr => ?_
  · have q2 : decide ((n : Int) > 65535) = decide (n > 65535) := decide_eq_decide.mpr (by omega)
    have hll : (bs.drop (p + 1)).length = bs.length - (p + 1) := List.length_drop
    have cv : n ≤ 65535 → ∀ S, V.conv S (.int .i64) (.int .u64 (n : Int)) = some (.int .i64 (n : Int)) := fun h S => by
      simp only [V.conv, w64 (show (-9223372036854775808 : Int) ≤ (n : Int) by omega) (show (n : Int) < 9223372036854775808 by omega)]
    have w2 : IntKind.i64.wrap ((bs.length : Int) - ((p + 1 + k : Nat) : Int)) = ((bs.length - (p + 1 + k) : Nat) : Int) := by rw [w64 (by omega) (by omega)]; omega
    have w3 : IntKind.i64.wrap (((bs.length - (p + 1 + k) : Nat) : Int) - 5) = ((bs.length - (p + 1 + k) : Nat) : Int) - 5 := w64 (by omega) (by omega)
    have q3 : decide ((n : Int) > ((bs.length - (p + 1 + k) : Nat) : Int) - 5) = decide (bs.length < p + 1 + k + 5 + n) := decide_eq_decide.mpr (by omega)
    by_cases hb1 : b ≠ 0xf1
    · have hq := hQ 3 S (by simp only [readF, hr]; rw [if_pos (.inl hb1)]) (Keeps.refl _ S)
      have q1' := q1.trans (decide_eq_true hb1)
      simp only [go_sem, hlt', htn, hb', List.head?_cons, q1']
      refine wc_ite (b := true) (by simp only [go_sem] <;> rfl) (fun _ => ?_) (fun h => by cases h)
      simp only [go_sem]
      exact hq
    have q1' := q1.trans (decide_eq_false hb1)
    by_cases hb2 : n > 65535
    · have hq := hQ 3 S (by simp only [readF, hr]; rw [if_pos (.inr (.inl hb2))]) (Keeps.refl _ S)
      have q2' := q2.trans (decide_eq_true hb2)
      simp only [go_sem, hlt', htn, hb', List.head?_cons, q1', q2']
      refine wc_ite (b := true) (by simp only [go_sem] <;> rfl) (fun _ => ?_) (fun h => by cases h)
      simp only [go_sem]
      exact hq
    have q2' := q2.trans (decide_eq_false hb2)
    have cv := cv (by omega)
    by_cases hb3 : bs.length < p + 1 + k + 5 + n
    · have hq := hQ 3 S (by simp only [readF, hr]; rw [if_pos (.inr (.inr (.inl (by rw [hll]; omega))))]) (Keeps.refl _ S)
      have q3' := q3.trans (decide_eq_true hb3)
      simp only [go_sem, hlt', htn, hb', List.head?_cons, q1', q2', cv, w2, w3, q3']
      refine wc_ite (b := true) (by simp only [go_sem] <;> rfl) (fun _ => ?_) (fun h => by cases h)
      simp only [go_sem]
      exact hq
    have q3' := q3.trans (decide_eq_false hb3)
    have hlt2 : p + 1 + k + 4 + n < bs.length := by omega
    obtain ⟨c, hcb⟩ : ∃ c, bs[p + 1 + k + 4 + n]? = some c := ⟨_, List.getElem?_eq_getElem hlt2⟩
    have hcb' := drop_get hcb
    have hlt2' : (p + 1 + k + 4 + n < bs.length) = True := eq_true hlt2
    have w4 : IntKind.i64.wrap (((p + 1 + k : Nat) : Int) + 4) = ((p + 1 + k + 4 : Nat) : Int) := by rw [w64 (by omega) (by omega)]; omega
    have w5 : IntKind.i64.wrap (((p + 1 + k + 4 : Nat) : Int) + (n : Int)) = ((p + 1 + k + 4 + n : Nat) : Int) := by rw [w64 (by omega) (by omega)]; omega
    have q4 : ((c.toNat : Int) != 31) = decide (c ≠ 0x1f) := neq c 0x1f
    have hget : (bs.drop (p + 1))[k + 4 + n]? = some c := by rw [List.getElem?_drop, ← hcb]; congr 1; omega
    by_cases hb4 : c ≠ 0x1f
    · have hq := hQ 3 S (by simp only [readF, hr]; rw [if_pos (.inr (.inr (.inr (by rw [hget]; intro h; injection h with h; exact hb4 h))))]) (Keeps.refl _ S)
      have q4' := q4.trans (decide_eq_true hb4)
      simp only [go_sem, hlt', htn, hb', List.head?_cons, q1', q2', cv, w2, w3, q3', w4, w5, hlt2', hcb', q4']
      refine wc_ite (b := true) (by simp only [go_sem] <;> rfl) (fun _ => ?_) (fun h => by cases h)
      simp only [go_sem]
      exact hq
    have q4' := q4.trans (decide_eq_false hb4)
    simp only [go_sem, hlt', htn, hb', List.head?_cons, q1', q2', cv, w2, w3, q3', w4, w5, hlt2', hcb', q4']
    refine wc_ite (b := false) (by simp only [go_sem] <;> rfl) (fun h => by cases h) (fun _ => ?_)
    have hA : (p + 1 + k + 4 ≤ p + 1 + k + 4 + n) = True := eq_true (by omega)
    have hB : (p + 1 + k + 4 + n ≤ bs.length) = True := eq_true (by omega)
    have hC : (p + 1 + k + 4 + n = bs.length) = False := eq_false (by omega)
    have hA2 : (p + 1 + k ≤ p + 1 + k + 4) = True := eq_true (by omega)
    have hB2 : (p + 1 + k + 4 ≤ bs.length) = True := eq_true (by omega)
    have hC2 : (p + 1 + k + 4 = bs.length) = False := eq_false (by omega)
    have eq1 : ((bs.map u8V).drop (p + 1 + k + 4)).take n = ((bs.drop (p + 1 + k + 4)).take n).map u8V := by rw [← List.map_drop, ← List.map_take]
    have eq2 : ((bs.map u8V).drop (p + 1 + k)).take 4 = ((bs.drop (p + 1 + k)).take 4).map u8V := by rw [← List.map_drop, ← List.map_take]
    have l1 : ((bs.drop (p + 1 + k + 4)).take n).length = n := by rw [List.length_take, List.length_drop]; omega
    have l2 : ((bs.drop (p + 1 + k)).take 4).length = 4 := by rw [List.length_take, List.length_drop]; omega
    have r1 : ((bs.drop (p + 1)).drop (k + 4)).take n = (bs.drop (p + 1 + k + 4)).take n := by rw [List.drop_drop]; congr 2
    have r2 : ((bs.drop (p + 1)).drop k).take 4 = (bs.drop (p + 1 + k)).take 4 := by rw [List.drop_drop]
    have hF : readF (b :: bs.drop (p + 1)) = if (bs.drop (p + 1 + k)).take 4 ≠ fourB (sumN ((bs.drop (p + 1 + k + 4)).take n)) then .inl 5 else .inr ((bs.drop (p + 1 + k + 4)).take n, k + 6 + n) := by
      simp only [readF, hr]
      rw [if_neg (by
        rintro (h | h | h | h)
        · exact hb1 h
        · exact hb2 h
        · rw [hll] at h; omega
        · rw [hget] at h; exact h (by rw [Decidable.not_not.mp hb4])), r1, r2]
    rw [hF] at hQ hQ'
    generalize hq : (bs.drop (p + 1 + k + 4)).take n = q at *
    generalize hq2 : (bs.drop (p + 1 + k)).take 4 = q2 at *
    simp only [go_sem, cv, w4, w5, hA, hB, hC, htn, Nat.add_sub_cancel_left, Nat.mul_one, eq1]
    refine wi_appendB (bs := []) (cs := q) (t := .nil) (by simp only [go_sem]) rfl (by simp only [go_sem, V.elems, List.length_map, l1]) (by simp; omega) (Keeps.refl _ S) trivial (fun j h => by cases h) (fun _ => rfl) fun t1 S1 k1 ht1 ho1 hz1 => ?_
    have cvb : ∀ S, V.conv S .bytesStr (.sl (q2.map u8V) 4 1 .no) = some (.str (mkS q2)) := fun S => by
      have := (isBytes_mk q2 (t := .no) (by simp)).convS S
      rwa [l2] at this
    simp only [go_sem, hA2, hB2, hC2, htn, Nat.add_sub_cancel_left, Nat.mul_one, eq2, cvb, w4]
    refine wi_call ?_
    simp only [go_sem]
    refine sum_runs (by omega) hz1 ?_
    simp only [go_sem, hA2, hB2, hC2, htn, Nat.add_sub_cancel_left, Nat.mul_one, eq2, cvb, w4]
    refine wi_call ?_
    simp only [go_sem]
    refine four_runs (sumN_lt _) ?_
    have cvf : ∀ S, V.conv S .bytesStr (.sl ((fourB (sumN q)).map u8V) 4 1 .cap) = some (.str (mkS (fourB (sumN q)))) := fun S => (isBytes_mk (fourB (sumN q)) (t := .cap) (by simp)).convS S
    simp only [go_sem, hA2, hB2, hC2, htn, Nat.add_sub_cancel_left, Nat.mul_one, eq2, cvb, cvf, w4]
    refine wc_ite (b := !decide (q2 = fourB (sumN q))) (by simp only [go_sem]) (fun hc => ?_) (fun hc => ?_)
    · have : q2 ≠ fourB (sumN q) := by simpa using hc
      have hq := hQ 5 S1 (if_pos this) k1
      simp only [go_sem]
      exact hq
    · have : ¬ q2 ≠ fourB (sumN q) := by simpa using hc
      have w6 : IntKind.i64.wrap (((p + 1 + k : Nat) : Int) + 5) = ((p + 1 + k + 5 : Nat) : Int) := by rw [w64 (by omega) (by omega)]; omega
      have w7 : IntKind.i64.wrap (((p + 1 + k + 5 : Nat) : Int) + (n : Int)) = ((p + (k + 6 + n) : Nat) : Int) := by rw [w64 (by omega) (by omega)]; omega
      have hq := hQ' q (k + 6 + n) S1 (.sl (q.map u8V) q.length 1 t1) (if_neg this) ⟨t1, rfl, hz1⟩ (by have := ruv_pos hr; omega) (by omega) k1
      simp only [go_sem, cv, w6, w7]
      exact hq
  · have hq := hQ 3 S (by simp only [readF, hr]) (Keeps.refl _ S)
    by_cases hb1 : b ≠ 0xf1
    · have q1' := q1.trans (decide_eq_true hb1)
      simp only [go_sem, hlt', htn, hb', List.head?_cons, q1']
      refine wc_ite (b := true) (by simp only [go_sem] <;> rfl) (fun _ => ?_) (fun h => by cases h)
      simp only [go_sem]
      exact hq
    · have q1' := q1.trans (decide_eq_false hb1)
      simp only [go_sem, hlt', htn, hb', List.head?_cons, q1']
      refine wc_ite (b := true) (by simp only [go_sem] <;> rfl) (fun _ => ?_) (fun h => by cases h)
      simp only [go_sem]
      exact hq
end Go.VM

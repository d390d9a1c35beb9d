/-
  Frames and what is read of them: plain.
  The laws' helpers: all, Same, long, beginning. NEWPP
-/
import Derived.Test.YtddjanglghgoeaaWLog
set_option maxRecDepth 20000
set_option linter.unusedVariables false
set_option linter.unusedSimpArgs false
namespace Go.VM
open Go Go.RowKit Go.Proofs

theorem ofNat_toNat {x : Nat} (h : x < 256) : (UInt8.ofNat x).toNat = x := by simp; omega
theorem uvar_pos (x : Nat) : 1 ≤ (uvar x).length := by
  by_cases h : x < 128
  · rw [uvar_lt h]; exact Nat.le_refl _
  · rw [uvar_ge h, List.length_cons]; omega
theorem ruv_uvar (x : Nat) : ∀ (n v : Nat) (rest : List UInt8), n + (uvar x).length ≤ 9 → (n > 0 → x > 0) → ruv n v (uvar x ++ rest) = some (v + x * 2 ^ (7 * n), n + (uvar x).length) := by
  induction x using uvar.induct with
  | case1 x h =>
    intro n v rest hn hx
    rw [uvar_lt h] at hn ⊢
    have e := ofNat_toNat (x := x) (by omega)
    simp only [List.length_cons, List.length_nil] at hn
    rw [List.cons_append, ruv_end (by rw [e]; omega) (by rw [e]; exact h), e, Nat.mod_eq_of_lt h]
    rfl
  | case2 x h ih =>
    intro n v rest hn hx
    rw [uvar_ge h] at hn ⊢
    have e := ofNat_toNat (x := x % 128 + 128) (by omega)
    rw [List.length_cons] at hn
    have := uvar_pos (x / 128)
    rw [List.cons_append, ruv_more (by rw [e]; omega) (by rw [e]; omega), e, ih (n + 1) _ rest (by omega) (fun _ => by omega), List.length_cons]
    congr 1
    refine Prod.ext ?_ (by simp only; omega)
    simp only
    rw [show 7 * (n + 1) = 7 * n + 7 by omega, Nat.pow_add, show (x % 128 + 128) % 128 = x % 128 by omega, Nat.mul_comm (2 ^ (7 * n)) (2 ^ 7), ← Nat.mul_assoc, Nat.add_assoc, ← Nat.add_mul]
    congr 2
    omega
theorem ruv_short (x : Nat) : ∀ (n v m : Nat), m < (uvar x).length → n + (uvar x).length ≤ 9 → ruv n v ((uvar x).take m) = none := by
  induction x using uvar.induct with
  | case1 x h =>
    intro n v m hm _
    rw [uvar_lt h] at hm ⊢
    have : m = 0 := by simpa using hm
    subst this; rfl
  | case2 x h ih =>
    intro n v m hm hn
    rw [uvar_ge h] at hm hn ⊢
    rw [List.length_cons] at hm hn
    cases m with
    | zero => rfl
    | succ m =>
      have e := ofNat_toNat (x := x % 128 + 128) (by omega)
      have := uvar_pos (x / 128)
      rw [List.take_succ_cons, ruv_more (by rw [e]; omega) (by rw [e]; omega)]
      exact ih _ _ m (by omega) (by omega)
theorem uvar_len3 {x : Nat} (h : x ≤ 65535) : (uvar x).length ≤ 3 := uvar_len x 3 (by omega) (by decide)
theorem frameB_len (r : List UInt8) : (frameB r).length = (uvar r.length).length + r.length + 6 := by simp [frameB, fourB_len]; omega
theorem readF_frame {r : List UInt8} (h : r.length ≤ 65535) (rest : List UInt8) : readF (frameB r ++ rest) = .inr (r, (frameB r).length) := by
  have hu := uvar_len3 h
  have e : frameB r ++ rest = 0xf1 :: (uvar r.length ++ (fourB (sumN r) ++ (r ++ (0x1f :: rest)))) := by simp [frameB]
  have hr := ruv_uvar r.length 0 0 (fourB (sumN r) ++ (r ++ (0x1f :: rest))) (by omega) (by omega)
  simp only [Nat.mul_zero, Nat.pow_zero, Nat.mul_one, Nat.zero_add] at hr
  generalize hk : (uvar r.length).length = k at *
  have d1 : (uvar r.length ++ (fourB (sumN r) ++ (r ++ (0x1f :: rest)))).drop k = fourB (sumN r) ++ (r ++ (0x1f :: rest)) := by rw [← hk, List.drop_left]
  have d2 : (uvar r.length ++ (fourB (sumN r) ++ (r ++ (0x1f :: rest)))).drop (k + 4) = r ++ (0x1f :: rest) := by
    rw [← List.drop_drop, d1]; rfl
  have t1 : (fourB (sumN r) ++ (r ++ (0x1f :: rest))).take 4 = fourB (sumN r) := rfl
  have t2 : (r ++ (0x1f :: rest)).take r.length = r := List.take_left
  have g1 : (uvar r.length ++ (fourB (sumN r) ++ (r ++ (0x1f :: rest))))[k + 4 + r.length]? = some 0x1f := by
    have : ((uvar r.length ++ (fourB (sumN r) ++ (r ++ (0x1f :: rest)))).drop (k + 4))[r.length]? = some 0x1f := by
      rw [d2, List.getElem?_append_right (Nat.le_refl _), Nat.sub_self]; rfl
    rw [List.getElem?_drop] at this; exact this
  have l1 : (uvar r.length ++ (fourB (sumN r) ++ (r ++ (0x1f :: rest)))).length = k + 4 + r.length + 1 + rest.length := by
    simp only [List.length_append, hk, fourB_len, List.length_cons]; omega
  rw [e]
  simp only [readF, hr, d1, d2, t1, t2]
  rw [if_neg (by
    rintro (h1 | h1 | h1 | h1)
    · exact h1 rfl
    · omega
    · rw [l1] at h1; omega
    · exact h1 g1), if_neg (by simp)]
  congr 2
  rw [frameB_len]; omega
theorem readF_cut {r : List UInt8} (h : r.length ≤ 65535) {m : Nat} (hm : m < (frameB r).length) : ∃ e, readF ((frameB r).take m) = .inl e := by
  have hu := uvar_len3 h
  rw [frameB_len] at hm
  cases m with
  | zero => exact ⟨8, rfl⟩
  | succ m =>
    have e : (frameB r).take (m + 1) = 0xf1 :: (uvar r.length ++ (fourB (sumN r) ++ r ++ [0x1f])).take m := by simp [frameB]
    rw [e]
    refine ⟨3, ?_⟩
    by_cases h1 : m < (uvar r.length).length
    · have : (uvar r.length ++ (fourB (sumN r) ++ r ++ [0x1f])).take m = (uvar r.length).take m := by
        rw [List.take_append_of_le_length (by omega)]
      rw [this]
      simp only [readF, ruv_short r.length 0 0 m h1 (by omega)]
    · have : (uvar r.length ++ (fourB (sumN r) ++ r ++ [0x1f])).take m = uvar r.length ++ (fourB (sumN r) ++ r ++ [0x1f]).take (m - (uvar r.length).length) := by
        rw [List.take_append, List.take_of_length_le (by omega)]
      have hl : ((uvar r.length ++ (fourB (sumN r) ++ r ++ [0x1f])).take m).length ≤ m := by rw [List.length_take]; omega
      rw [this] at hl ⊢
      have hr := ruv_uvar r.length 0 0 ((fourB (sumN r) ++ r ++ [0x1f]).take (m - (uvar r.length).length)) (by omega) (by omega)
      simp only [Nat.mul_zero, Nat.pow_zero, Nat.mul_one, Nat.zero_add] at hr
      simp only [readF, hr]
      rw [if_pos (.inr (.inr (.inl (by omega))))]

def shortL (L : List (List UInt8)) : Prop := ∀ r ∈ L, r.length ≤ 65535
theorem longL_not {L : List (List UInt8)} (h : shortL L) : longL L = false := by
  unfold longL
  rw [List.any_eq_false]
  intro r hr
  have := h r hr
  simp; omega
theorem shortL_of {L : List (List UInt8)} (h : longL L = false) : shortL L := fun r hr => by
  unfold longL at h
  rw [List.any_eq_false] at h
  have := h r hr
  simp at this; exact this
theorem scans_frames {tail : List UInt8} {M : List (List UInt8)} {n : Nat} (ht : Scans tail M n) : ∀ {L : List (List UInt8)}, shortL L → Scans (fileB L ++ tail) (L ++ M) ((fileB L).length + n)
  | [], _ => by simpa [fileB] using ht
  | r :: L, h => by
    have ih := scans_frames ht (L := L) fun x hx => h x (by simp [hx])
    have hr := readF_frame (h r (by simp)) (fileB L ++ tail)
    have e : fileB (r :: L) ++ tail = frameB r ++ (fileB L ++ tail) := by simp [fileB]
    have el : (fileB (r :: L)).length + n = (frameB r).length + ((fileB L).length + n) := by simp [fileB]; omega
    rw [e, el, List.cons_append]
    exact .step hr (by rw [List.drop_left]; exact ih)
theorem scans_nil : Scans [] [] 0 := .stop (e := 8) rfl
theorem scans_file {L : List (List UInt8)} (h : shortL L) : Scans (fileB L) L (fileB L).length := by
  have := scans_frames scans_nil h
  simpa using this
/-- Of a beginning of records' bytes just the whole ones are read. -/
theorem scans_cut : ∀ {L : List (List UInt8)} (m : Nat), shortL L → ∃ j, j ≤ L.length ∧ Scans ((fileB L).take m) (L.take j) (fileB (L.take j)).length ∧ (fileB (L.take j)).length ≤ m ∧ ∀ i, i ≤ L.length → (fileB (L.take i)).length ≤ m → i ≤ j
  | [], m, _ => ⟨0, by simp, by simpa [fileB] using scans_nil, by simp [fileB], fun i hi _ => by simpa using hi⟩
  | r :: L, m, h => by
    have hr := h r (by simp)
    have e0 : fileB (r :: L) = frameB r ++ fileB L := by simp [fileB]
    by_cases hm : m < (frameB r).length
    · refine ⟨0, by simp, ?_, by simp [fileB], fun i hi hfi => ?_⟩
      · have : (fileB (r :: L)).take m = (frameB r).take m := by rw [e0, List.take_append_of_le_length (by omega)]
        rw [this]
        obtain ⟨e, he⟩ := readF_cut hr hm
        exact .stop he
      · cases i with
        | zero => exact Nat.le_refl _
        | succ i =>
          rw [List.take_succ_cons] at hfi
          have : fileB (r :: L.take i) = frameB r ++ fileB (L.take i) := by simp [fileB]
          rw [this, List.length_append] at hfi
          omega
    · obtain ⟨j, hj, hs, hle, hmax⟩ := scans_cut (L := L) (m - (frameB r).length) fun x hx => h x (by simp [hx])
      have e1 : ∀ i, fileB ((r :: L).take (i + 1)) = frameB r ++ fileB (L.take i) := fun i => by simp [fileB]
      refine ⟨j + 1, by simp; omega, ?_, ?_, fun i hi hfi => ?_⟩
      · have : (fileB (r :: L)).take m = frameB r ++ (fileB L).take (m - (frameB r).length) := by rw [e0, List.take_append, List.take_of_length_le (by omega)]
        rw [this, e1, List.length_append, List.take_succ_cons]
        exact .step (readF_frame hr _) (by rw [List.drop_left]; exact hs)
      · rw [e1, List.length_append]; omega
      · cases i with
        | zero => omega
        | succ i =>
          rw [e1, List.length_append] at hfi
          have := hmax i (by simpa using hi) (by omega)
          omega
end Go.VM

namespace Go.VM
open Go Go.RowKit Go.Proofs

theorem all_runs {w0 : World} {S : St} {Q : AEnd → St → Prop} {i g : Nat} {D : Dk} {s : List UInt8} {L : List (List UInt8)} {t : Tok} (h : WalAt S i g D s L t) (hl : ∀ r ∈ L, r.length ≤ 100000000000000) (hL : L.length ≤ 1000000000000)
    (hQ : ∀ S' v t', IsSlice BytesR 1 v L t' → Keeps (fun _ => False) S S' → Q (.ret v) S') : RSim Try.prog w0 n_l04_all [.ptr (some (g, 0))] S Q := by
  refine RSim.run mixed k_l04_all ?_ (by simp)
  simp only [b_l04_all, go_sem, Nat.reduceEqDiff, Nat.reduceAdd, Nat.reduceMul, Nat.reduceSub, Nat.reduceLeDiff, Int.reduceBEq, Int.reduceBNe, Int.reduceLT, Int.reduceLE, Int.reduceGT, Int.reduceGE, Int.reduceEq, ↓reduceIte, reduceCtorEq]
  refine loop_rule RSim.le (k := L.length) (fun m fr S1 => ∃ (j : Nat) (v' : V) (t' : Tok), m = L.length - j ∧ j ≤ L.length ∧ fr 0 = .ptr (some (g, 0)) ∧ fr 3 = v' ∧ fr 4 = .int .i64 j ∧ IsSlice BytesR 1 v' (L.take j) t' ∧ Keeps (fun _ => False) S S1 ∧ TokOk S1 t' ∧ (∀ j, t' = .at j → S.n ≤ j)) ?_
    ⟨0, .sl [] 0 1 .nil, .nil, rfl, by omega, by simp only [go_sem, Nat.reduceEqDiff, Nat.reduceAdd, Nat.reduceMul, Nat.reduceSub, Nat.reduceLeDiff, Int.reduceBEq, Int.reduceBNe, Int.reduceLT, Int.reduceLE, Int.reduceGT, Int.reduceGE, Int.reduceEq, ↓reduceIte, reduceCtorEq], by simp only [go_sem, Nat.reduceEqDiff, Nat.reduceAdd, Nat.reduceMul, Nat.reduceSub, Nat.reduceLeDiff, Int.reduceBEq, Int.reduceBNe, Int.reduceLT, Int.reduceLE, Int.reduceGT, Int.reduceGE, Int.reduceEq, ↓reduceIte, reduceCtorEq], by simp only [go_sem, Nat.reduceEqDiff, Nat.reduceAdd, Nat.reduceMul, Nat.reduceSub, Nat.reduceLeDiff, Int.reduceBEq, Int.reduceBNe, Int.reduceLT, Int.reduceLE, Int.reduceGT, Int.reduceGE, Int.reduceEq, ↓reduceIte, reduceCtorEq]; rfl, by simpa using isSlice_nil BytesR 1, Keeps.refl _ _, trivial, fun j h => (by cases h)⟩
  rintro m fr S1 ⟨j, v', t', hm, hj, f0, f3, f4, hv', k1, ht', ho'⟩
  have h1 := h.stay k1
  simp only [l_l04_all_0, go_sem, Nat.reduceEqDiff, Nat.reduceAdd, Nat.reduceMul, Nat.reduceSub, Nat.reduceLeDiff, Int.reduceBEq, Int.reduceBNe, Int.reduceLT, Int.reduceLE, Int.reduceGT, Int.reduceGE, Int.reduceEq, ↓reduceIte, reduceCtorEq, f0, f3, f4]
  refine wi_call ?_
  simp only [go_sem, Nat.reduceEqDiff, Nat.reduceAdd, Nat.reduceMul, Nat.reduceSub, Nat.reduceLeDiff, Int.reduceBEq, Int.reduceBNe, Int.reduceLT, Int.reduceLE, Int.reduceGT, Int.reduceGE, Int.reduceEq, ↓reduceIte, reduceCtorEq]
  refine logLen_runs h1 ?_
  simp only [go_sem, Nat.reduceEqDiff, Nat.reduceAdd, Nat.reduceMul, Nat.reduceSub, Nat.reduceLeDiff, Int.reduceBEq, Int.reduceBNe, Int.reduceLT, Int.reduceLE, Int.reduceGT, Int.reduceGE, Int.reduceEq, ↓reduceIte, reduceCtorEq, f4]
  refine wc_ite (b := decide ((j : Int) < (L.length : Int))) (by simp only [go_sem, Nat.reduceEqDiff, Nat.reduceAdd, Nat.reduceMul, Nat.reduceSub, Nat.reduceLeDiff, Int.reduceBEq, Int.reduceBNe, Int.reduceLT, Int.reduceLE, Int.reduceGT, Int.reduceGE, Int.reduceEq, ↓reduceIte, reduceCtorEq]) (fun hc => ?_) (fun hc => ?_)
  · have hlt : j < L.length := by have := of_decide_eq_true hc; omega
    obtain ⟨r, hr⟩ : ∃ r, L[j]? = some r := ⟨L[j], List.getElem?_eq_getElem hlt⟩
    have hrl := hl r (List.mem_of_getElem? hr)
    simp only [go_sem, Nat.reduceEqDiff, Nat.reduceAdd, Nat.reduceMul, Nat.reduceSub, Nat.reduceLeDiff, Int.reduceBEq, Int.reduceBNe, Int.reduceLT, Int.reduceLE, Int.reduceGT, Int.reduceGE, Int.reduceEq, ↓reduceIte, reduceCtorEq, f0, f4]
    refine wi_call ?_
    simp only [go_sem, Nat.reduceEqDiff, Nat.reduceAdd, Nat.reduceMul, Nat.reduceSub, Nat.reduceLeDiff, Int.reduceBEq, Int.reduceBNe, Int.reduceLT, Int.reduceLE, Int.reduceGT, Int.reduceGE, Int.reduceEq, ↓reduceIte, reduceCtorEq]
    refine logAt_runs h1 hr hrl fun S2 vr hvr k2 => ?_
    simp only [go_sem, Nat.reduceEqDiff, Nat.reduceAdd, Nat.reduceMul, Nat.reduceSub, Nat.reduceLeDiff, Int.reduceBEq, Int.reduceBNe, Int.reduceLT, Int.reduceLE, Int.reduceGT, Int.reduceGE, Int.reduceEq, ↓reduceIte, reduceCtorEq]
    refine wc_ite (b := false) (by simp only [go_sem, Nat.reduceEqDiff, Nat.reduceAdd, Nat.reduceMul, Nat.reduceSub, Nat.reduceLeDiff, Int.reduceBEq, Int.reduceBNe, Int.reduceLT, Int.reduceLE, Int.reduceGT, Int.reduceGE, Int.reduceEq, ↓reduceIte, reduceCtorEq] <;> rfl) (fun h => by cases h) (fun _ => ?_)
    have ho := hvr.one
    have hc2 := hvr.cells
    simp only [go_sem, Nat.reduceEqDiff, Nat.reduceAdd, Nat.reduceMul, Nat.reduceSub, Nat.reduceLeDiff, Int.reduceBEq, Int.reduceBNe, Int.reduceLT, Int.reduceLE, Int.reduceGT, Int.reduceGE, Int.reduceEq, ↓reduceIte, reduceCtorEq, f3, ho, hc2]
    have htl : (L.take j).length = j := by rw [List.length_take]; omega
    refine wi_appendR (R := BytesR) (v := v') (l := L.take j) (y := r) (c := [vr]) (t := t') (by simp only [go_sem, Nat.reduceEqDiff, Nat.reduceAdd, Nat.reduceMul, Nat.reduceSub, Nat.reduceLeDiff, Int.reduceBEq, Int.reduceBNe, Int.reduceLT, Int.reduceLE, Int.reduceGT, Int.reduceGE, Int.reduceEq, ↓reduceIte, reduceCtorEq]) hv' (by simp only [go_sem, Nat.reduceEqDiff, Nat.reduceAdd, Nat.reduceMul, Nat.reduceSub, Nat.reduceLeDiff, Int.reduceBEq, Int.reduceBNe, Int.reduceLT, Int.reduceLE, Int.reduceGT, Int.reduceGE, Int.reduceEq, ↓reduceIte, reduceCtorEq]; exact elems1 _ _ _ (by simp)) rfl ⟨_, rfl, hvr⟩ (by rw [htl]; omega) (ht'.keep k2 fun _ _ => id) fun t4 S4 v4 hs4 k4 ht4 hn4 hz4 => ?_
    have w1 : IntKind.i64.wrap ((j : Int) + 1) = ((j + 1 : Nat) : Int) := by rw [w64 (by omega) (by omega)]; omega
    simp only [go_sem, Nat.reduceEqDiff, Nat.reduceAdd, Nat.reduceMul, Nat.reduceSub, Nat.reduceLeDiff, Int.reduceBEq, Int.reduceBNe, Int.reduceLT, Int.reduceLE, Int.reduceGT, Int.reduceGE, Int.reduceEq, ↓reduceIte, reduceCtorEq, f4, w1]
    rw [← take_snoc hr] at hs4
    exact ⟨L.length - (j + 1), by omega, j + 1, v4, t4, rfl, by omega, by simp only [go_sem, Nat.reduceEqDiff, Nat.reduceAdd, Nat.reduceMul, Nat.reduceSub, Nat.reduceLeDiff, Int.reduceBEq, Int.reduceBNe, Int.reduceLT, Int.reduceLE, Int.reduceGT, Int.reduceGE, Int.reduceEq, ↓reduceIte, reduceCtorEq, f0], by simp only [go_sem, Nat.reduceEqDiff, Nat.reduceAdd, Nat.reduceMul, Nat.reduceSub, Nat.reduceLeDiff, Int.reduceBEq, Int.reduceBNe, Int.reduceLT, Int.reduceLE, Int.reduceGT, Int.reduceGE, Int.reduceEq, ↓reduceIte, reduceCtorEq], by simp only [go_sem, Nat.reduceEqDiff, Nat.reduceAdd, Nat.reduceMul, Nat.reduceSub, Nat.reduceLeDiff, Int.reduceBEq, Int.reduceBNe, Int.reduceLT, Int.reduceLE, Int.reduceGT, Int.reduceGE, Int.reduceEq, ↓reduceIte, reduceCtorEq], hs4, keeps_new (k1.trans k2 fun _ _ h => h) k4 ho', ht4, fun j hj => Nat.le_trans (Nat.le_trans k1.n k2.n) (hn4 j hj)⟩
  · have hje : j = L.length := by have := of_decide_eq_false hc; omega
    subst hje
    rw [List.take_length] at hv'
    simp only [go_sem, Nat.reduceEqDiff, Nat.reduceAdd, Nat.reduceMul, Nat.reduceSub, Nat.reduceLeDiff, Int.reduceBEq, Int.reduceBNe, Int.reduceLT, Int.reduceLE, Int.reduceGT, Int.reduceGE, Int.reduceEq, ↓reduceIte, reduceCtorEq, f3]
    exact hQ S1 v' t' hv' k1

theorem same_runs {w0 : World} {S : St} {Q : AEnd → St → Prop} {va vb : V} {A B : List (List UInt8)} {ta tb : Tok} (ha : IsSlice BytesR 1 va A ta) (hb : IsSlice BytesR 1 vb B tb) (hA : A.length ≤ 1000000000000000)
    (hQ : Q (.ret (.bool (decide (A = B)))) S) : RSim Try.prog w0 n_r04_Same [va, vb] S Q := by
  obtain ⟨xs, rfl⟩ := ha.len
  obtain ⟨bs, rfl⟩ := hb.len
  refine RSim.run mixed k_r04_Same ?_ (by simp)
  simp only [b_r04_Same, go_sem, Nat.reduceEqDiff, Nat.reduceAdd, Nat.reduceMul, Nat.reduceSub, Nat.reduceLeDiff, Int.reduceBEq, Int.reduceBNe, Int.reduceLT, Int.reduceLE, Int.reduceGT, Int.reduceGE, Int.reduceEq, ↓reduceIte, reduceCtorEq]
  have e1 : ((A.length : Int) != (B.length : Int)) = decide (A.length ≠ B.length) := by rw [Bool.eq_iff_iff, bne_iff_ne, decide_eq_true_iff]; omega
  by_cases hne : A.length ≠ B.length
  · have q1 := e1.trans (decide_eq_true hne)
    rw [decide_eq_false (fun h => hne (by rw [h]))] at hQ
    simp only [go_sem, Nat.reduceEqDiff, Nat.reduceAdd, Nat.reduceMul, Nat.reduceSub, Nat.reduceLeDiff, Int.reduceBEq, Int.reduceBNe, Int.reduceLT, Int.reduceLE, Int.reduceGT, Int.reduceGE, Int.reduceEq, ↓reduceIte, reduceCtorEq, q1]
    refine wc_ite (b := true) (by simp only [go_sem, Nat.reduceEqDiff, Nat.reduceAdd, Nat.reduceMul, Nat.reduceSub, Nat.reduceLeDiff, Int.reduceBEq, Int.reduceBNe, Int.reduceLT, Int.reduceLE, Int.reduceGT, Int.reduceGE, Int.reduceEq, ↓reduceIte, reduceCtorEq] <;> rfl) (fun _ => ?_) (fun h => by cases h)
    simp only [go_sem, Nat.reduceEqDiff, Nat.reduceAdd, Nat.reduceMul, Nat.reduceSub, Nat.reduceLeDiff, Int.reduceBEq, Int.reduceBNe, Int.reduceLT, Int.reduceLE, Int.reduceGT, Int.reduceGE, Int.reduceEq, ↓reduceIte, reduceCtorEq]
    exact hQ
  have q1 := e1.trans (decide_eq_false hne)
  have hAB : A.length = B.length := by omega
  simp only [go_sem, Nat.reduceEqDiff, Nat.reduceAdd, Nat.reduceMul, Nat.reduceSub, Nat.reduceLeDiff, Int.reduceBEq, Int.reduceBNe, Int.reduceLT, Int.reduceLE, Int.reduceGT, Int.reduceGE, Int.reduceEq, ↓reduceIte, reduceCtorEq, q1]
  refine wc_ite (b := false) (by simp only [go_sem, Nat.reduceEqDiff, Nat.reduceAdd, Nat.reduceMul, Nat.reduceSub, Nat.reduceLeDiff, Int.reduceBEq, Int.reduceBNe, Int.reduceLT, Int.reduceLE, Int.reduceGT, Int.reduceGE, Int.reduceEq, ↓reduceIte, reduceCtorEq] <;> rfl) (fun h => by cases h) (fun _ => ?_)
  simp only [go_sem, Nat.reduceEqDiff, Nat.reduceAdd, Nat.reduceMul, Nat.reduceSub, Nat.reduceLeDiff, Int.reduceBEq, Int.reduceBNe, Int.reduceLT, Int.reduceLE, Int.reduceGT, Int.reduceGE, Int.reduceEq, ↓reduceIte, reduceCtorEq]
  refine loop_rule RSim.le (k := A.length) (fun m fr S1 => ∃ (j : Nat), m = A.length - j ∧ j ≤ A.length ∧ S1 = S ∧ fr 0 = .sl xs A.length 1 ta ∧ fr 1 = .sl bs B.length 1 tb ∧ fr 5 = .int .i64 j ∧ A.take j = B.take j) ?_
    ⟨0, rfl, by omega, rfl, by simp only [go_sem, Nat.reduceEqDiff, Nat.reduceAdd, Nat.reduceMul, Nat.reduceSub, Nat.reduceLeDiff, Int.reduceBEq, Int.reduceBNe, Int.reduceLT, Int.reduceLE, Int.reduceGT, Int.reduceGE, Int.reduceEq, ↓reduceIte, reduceCtorEq], by simp only [go_sem, Nat.reduceEqDiff, Nat.reduceAdd, Nat.reduceMul, Nat.reduceSub, Nat.reduceLeDiff, Int.reduceBEq, Int.reduceBNe, Int.reduceLT, Int.reduceLE, Int.reduceGT, Int.reduceGE, Int.reduceEq, ↓reduceIte, reduceCtorEq], by simp only [go_sem, Nat.reduceEqDiff, Nat.reduceAdd, Nat.reduceMul, Nat.reduceSub, Nat.reduceLeDiff, Int.reduceBEq, Int.reduceBNe, Int.reduceLT, Int.reduceLE, Int.reduceGT, Int.reduceGE, Int.reduceEq, ↓reduceIte, reduceCtorEq]; rfl, rfl⟩
  rintro m fr S1 ⟨j, hm, hj, rfl, f0, f1, f5, hAj⟩
  simp only [l_r04_Same_0, go_sem, Nat.reduceEqDiff, Nat.reduceAdd, Nat.reduceMul, Nat.reduceSub, Nat.reduceLeDiff, Int.reduceBEq, Int.reduceBNe, Int.reduceLT, Int.reduceLE, Int.reduceGT, Int.reduceGE, Int.reduceEq, ↓reduceIte, reduceCtorEq, f0, f1, f5]
  refine wc_ite (b := decide ((j : Int) < (A.length : Int))) (by simp only [go_sem, Nat.reduceEqDiff, Nat.reduceAdd, Nat.reduceMul, Nat.reduceSub, Nat.reduceLeDiff, Int.reduceBEq, Int.reduceBNe, Int.reduceLT, Int.reduceLE, Int.reduceGT, Int.reduceGE, Int.reduceEq, ↓reduceIte, reduceCtorEq]) (fun hc => ?_) (fun hc => ?_)
  · have hlt : j < A.length := by have := of_decide_eq_true hc; omega
    obtain ⟨a, hra⟩ : ∃ r, A[j]? = some r := ⟨A[j], List.getElem?_eq_getElem hlt⟩
    obtain ⟨b, hrb⟩ : ∃ r, B[j]? = some r := ⟨B[j], List.getElem?_eq_getElem (by omega)⟩
    obtain ⟨v, rest, hd, hvr, htn, hjn⟩ := ha.get hra
    obtain ⟨v', rest', hd', hvr', htn', hjn'⟩ := hb.get hrb
    have c1 := fun S => hvr.convS S
    have c2 := fun S => hvr'.convS S
    have w1 : IntKind.i64.wrap ((j : Int) + 1) = ((j + 1 : Nat) : Int) := by rw [w64 (by omega) (by omega)]; omega
    simp only [go_sem, Nat.reduceEqDiff, Nat.reduceAdd, Nat.reduceMul, Nat.reduceSub, Nat.reduceLeDiff, Int.reduceBEq, Int.reduceBNe, Int.reduceLT, Int.reduceLE, Int.reduceGT, Int.reduceGE, Int.reduceEq, ↓reduceIte, reduceCtorEq, f0, f1, f5, hd, hd', htn, htn', hjn, hjn', List.head?_cons, c1, c2]
    refine wc_ite (b := !decide (a = b)) (by simp only [go_sem, Nat.reduceEqDiff, Nat.reduceAdd, Nat.reduceMul, Nat.reduceSub, Nat.reduceLeDiff, Int.reduceBEq, Int.reduceBNe, Int.reduceLT, Int.reduceLE, Int.reduceGT, Int.reduceGE, Int.reduceEq, ↓reduceIte, reduceCtorEq]) (fun hc => ?_) (fun hc => ?_)
    · have hab : ¬ a = b := by simpa using hc
      rw [decide_eq_false (fun h => hab (by rw [h, hrb] at hra; injection hra with h; exact h.symm))] at hQ
      simp only [go_sem, Nat.reduceEqDiff, Nat.reduceAdd, Nat.reduceMul, Nat.reduceSub, Nat.reduceLeDiff, Int.reduceBEq, Int.reduceBNe, Int.reduceLT, Int.reduceLE, Int.reduceGT, Int.reduceGE, Int.reduceEq, ↓reduceIte, reduceCtorEq]
      exact hQ
    · have hab : a = b := by simpa using hc
      simp only [go_sem, Nat.reduceEqDiff, Nat.reduceAdd, Nat.reduceMul, Nat.reduceSub, Nat.reduceLeDiff, Int.reduceBEq, Int.reduceBNe, Int.reduceLT, Int.reduceLE, Int.reduceGT, Int.reduceGE, Int.reduceEq, ↓reduceIte, reduceCtorEq, f0, f1, f5, w1]
      exact ⟨A.length - (j + 1), by omega, j + 1, rfl, by omega, rfl, by rw [take_snoc hra, take_snoc hrb, hAj, hab]⟩
  · have hje : j = A.length := by have := of_decide_eq_false hc; omega
    subst hje
    rw [List.take_length, hAB, List.take_length] at hAj
    rw [decide_eq_true hAj] at hQ
    simp only [go_sem, Nat.reduceEqDiff, Nat.reduceAdd, Nat.reduceMul, Nat.reduceSub, Nat.reduceLeDiff, Int.reduceBEq, Int.reduceBNe, Int.reduceLT, Int.reduceLE, Int.reduceGT, Int.reduceGE, Int.reduceEq, ↓reduceIte, reduceCtorEq]
    exact hQ

theorem long_runs {w0 : World} {S : St} {Q : AEnd → St → Prop} {v : V} {L : List (List UInt8)} {t : Tok} (hv : IsSlice BytesR 1 v L t) (hL : L.length ≤ 1000000000000000)
    (hQ : Q (.ret (.bool (longL L))) S) : RSim Try.prog w0 n_l04_long [v] S Q := by
  obtain ⟨cs, rfl⟩ := hv.len
  refine RSim.run mixed k_l04_long ?_ (by simp)
  simp only [b_l04_long, go_sem, Nat.reduceEqDiff, Nat.reduceAdd, Nat.reduceMul, Nat.reduceSub, Nat.reduceLeDiff, Int.reduceBEq, Int.reduceBNe, Int.reduceLT, Int.reduceLE, Int.reduceGT, Int.reduceGE, Int.reduceEq, ↓reduceIte, reduceCtorEq]
  refine loop_rule RSim.le (k := L.length) (fun m fr S1 => ∃ (j : Nat), m = L.length - j ∧ j ≤ L.length ∧ S1 = S ∧ fr 0 = .sl cs L.length 1 t ∧ fr 3 = .int .i64 j ∧ longL (L.take j) = false) ?_
    ⟨0, rfl, by omega, rfl, by simp only [go_sem, Nat.reduceEqDiff, Nat.reduceAdd, Nat.reduceMul, Nat.reduceSub, Nat.reduceLeDiff, Int.reduceBEq, Int.reduceBNe, Int.reduceLT, Int.reduceLE, Int.reduceGT, Int.reduceGE, Int.reduceEq, ↓reduceIte, reduceCtorEq], by simp only [go_sem, Nat.reduceEqDiff, Nat.reduceAdd, Nat.reduceMul, Nat.reduceSub, Nat.reduceLeDiff, Int.reduceBEq, Int.reduceBNe, Int.reduceLT, Int.reduceLE, Int.reduceGT, Int.reduceGE, Int.reduceEq, ↓reduceIte, reduceCtorEq]; rfl, rfl⟩
  rintro m fr S1 ⟨j, hm, hj, rfl, f0, f3, hlj⟩
  simp only [l_l04_long_0, go_sem, Nat.reduceEqDiff, Nat.reduceAdd, Nat.reduceMul, Nat.reduceSub, Nat.reduceLeDiff, Int.reduceBEq, Int.reduceBNe, Int.reduceLT, Int.reduceLE, Int.reduceGT, Int.reduceGE, Int.reduceEq, ↓reduceIte, reduceCtorEq, f0, f3]
  refine wc_ite (b := decide ((j : Int) < (L.length : Int))) (by simp only [go_sem, Nat.reduceEqDiff, Nat.reduceAdd, Nat.reduceMul, Nat.reduceSub, Nat.reduceLeDiff, Int.reduceBEq, Int.reduceBNe, Int.reduceLT, Int.reduceLE, Int.reduceGT, Int.reduceGE, Int.reduceEq, ↓reduceIte, reduceCtorEq]) (fun hc => ?_) (fun hc => ?_)
  · have hlt : j < L.length := by have := of_decide_eq_true hc; omega
    obtain ⟨r, hr⟩ : ∃ r, L[j]? = some r := ⟨L[j], List.getElem?_eq_getElem hlt⟩
    obtain ⟨v, rest, hd, hvr, htn, hjn⟩ := hv.get hr
    obtain ⟨tr, rfl, htr⟩ := hvr
    have w1 : IntKind.i64.wrap ((j : Int) + 1) = ((j + 1 : Nat) : Int) := by rw [w64 (by omega) (by omega)]; omega
    simp only [go_sem, Nat.reduceEqDiff, Nat.reduceAdd, Nat.reduceMul, Nat.reduceSub, Nat.reduceLeDiff, Int.reduceBEq, Int.reduceBNe, Int.reduceLT, Int.reduceLE, Int.reduceGT, Int.reduceGE, Int.reduceEq, ↓reduceIte, reduceCtorEq, f0, f3, hd, htn, hjn, List.head?_cons]
    refine wc_ite (b := decide ((r.length : Int) > 65535)) (by simp only [go_sem, Nat.reduceEqDiff, Nat.reduceAdd, Nat.reduceMul, Nat.reduceSub, Nat.reduceLeDiff, Int.reduceBEq, Int.reduceBNe, Int.reduceLT, Int.reduceLE, Int.reduceGT, Int.reduceGE, Int.reduceEq, ↓reduceIte, reduceCtorEq]) (fun hc => ?_) (fun hc => ?_)
    · have := of_decide_eq_true hc
      rw [longL_mem hr (by omega)] at hQ
      simp only [go_sem, Nat.reduceEqDiff, Nat.reduceAdd, Nat.reduceMul, Nat.reduceSub, Nat.reduceLeDiff, Int.reduceBEq, Int.reduceBNe, Int.reduceLT, Int.reduceLE, Int.reduceGT, Int.reduceGE, Int.reduceEq, ↓reduceIte, reduceCtorEq]
      exact hQ
    · have := of_decide_eq_false hc
      simp only [go_sem, Nat.reduceEqDiff, Nat.reduceAdd, Nat.reduceMul, Nat.reduceSub, Nat.reduceLeDiff, Int.reduceBEq, Int.reduceBNe, Int.reduceLT, Int.reduceLE, Int.reduceGT, Int.reduceGE, Int.reduceEq, ↓reduceIte, reduceCtorEq, f0, f3, w1]
      refine ⟨L.length - (j + 1), by omega, j + 1, rfl, by omega, rfl, ?_⟩
      rw [take_snoc hr]
      unfold longL at hlj ⊢
      rw [List.any_append, hlj]
      simp; omega
  · have hje : j = L.length := by have := of_decide_eq_false hc; omega
    subst hje
    rw [List.take_length] at hlj
    rw [hlj] at hQ
    simp only [go_sem, Nat.reduceEqDiff, Nat.reduceAdd, Nat.reduceMul, Nat.reduceSub, Nat.reduceLeDiff, Int.reduceBEq, Int.reduceBNe, Int.reduceLT, Int.reduceLE, Int.reduceGT, Int.reduceGE, Int.reduceEq, ↓reduceIte, reduceCtorEq]
    exact hQ

theorem IsSlice.cut {cs : List V} {n : Nat} {L : List (List UInt8)} {t : Tok} (h : IsSlice BytesR 1 (.sl cs n 1 t) L t) {k : Nat} (hk : k ≤ L.length) :
    IsSlice BytesR 1 (if t = .nil then .sl cs n 1 t else .sl (cs.take ((k - 0) * 1)) (k - 0) 1 (if k = n then t else .no)) (L.take k) (if t = .nil then .nil else if k = n then t else .no) := by
  by_cases h0 : t = .nil
  · obtain ⟨rfl, h1, rfl⟩ := h.nilTok h0
    subst h1
    rw [if_pos h0, if_pos h0, h0]
    simpa using isSlice_nil BytesR 1
  · rw [if_neg h0, if_neg h0, Nat.sub_zero]
    exact h.take hk h0 (by split <;> simp [h0])
theorem beginning_runs {w0 : World} {S : St} {Q : AEnd → St → Prop} {va vb : V} {A B : List (List UInt8)} {ta tb : Tok} {least : Int} (ha : IsSlice BytesR 1 va A ta) (hb : IsSlice BytesR 1 vb B tb) (hA : A.length ≤ 1000000000000000)
    (hQ : Q (.ret (.bool (decide (least ≤ A.length ∧ A.length ≤ B.length ∧ A = B.take A.length)))) S) : RSim Try.prog w0 n_l04_beginning [va, vb, .int .i64 least] S Q := by
  obtain ⟨xs, rfl⟩ := ha.len
  obtain ⟨bs, rfl⟩ := hb.len
  refine RSim.run mixed k_l04_beginning ?_ (by simp)
  simp only [b_l04_beginning, go_sem, Nat.reduceEqDiff, Nat.reduceAdd, Nat.reduceMul, Nat.reduceSub, Nat.reduceLeDiff, Int.reduceBEq, Int.reduceBNe, Int.reduceLT, Int.reduceLE, Int.reduceGT, Int.reduceGE, Int.reduceEq, ↓reduceIte, reduceCtorEq]
  by_cases h1 : least ≤ A.length
  · have q1 : decide ((A.length : Int) ≥ least) = true := decide_eq_true h1
    by_cases h2 : A.length ≤ B.length
    · have q2 : decide ((A.length : Int) ≤ (B.length : Int)) = true := decide_eq_true (by omega)
      have hkt : (A.length ≤ B.length) = True := eq_true h2
      simp only [go_sem, Nat.reduceEqDiff, Nat.reduceAdd, Nat.reduceMul, Nat.reduceSub, Nat.reduceLeDiff, Int.reduceBEq, Int.reduceBNe, Int.reduceLT, Int.reduceLE, Int.reduceGT, Int.reduceGE, Int.reduceEq, ↓reduceIte, reduceCtorEq, q1, q2, hkt]
      refine wi_call ?_
      simp only [go_sem, Nat.reduceEqDiff, Nat.reduceAdd, Nat.reduceMul, Nat.reduceSub, Nat.reduceLeDiff, Int.reduceBEq, Int.reduceBNe, Int.reduceLT, Int.reduceLE, Int.reduceGT, Int.reduceGE, Int.reduceEq, ↓reduceIte, reduceCtorEq]
      refine same_runs ha (hb.cut h2) hA ?_
      simp only [go_sem, Nat.reduceEqDiff, Nat.reduceAdd, Nat.reduceMul, Nat.reduceSub, Nat.reduceLeDiff, Int.reduceBEq, Int.reduceBNe, Int.reduceLT, Int.reduceLE, Int.reduceGT, Int.reduceGE, Int.reduceEq, ↓reduceIte, reduceCtorEq]
      have : decide (least ≤ A.length ∧ A.length ≤ B.length ∧ A = B.take A.length) = decide (A = B.take A.length) := decide_eq_decide.mpr ⟨fun h => h.2.2, fun h => ⟨h1, h2, h⟩⟩
      rw [this] at hQ
      exact hQ
    · have q2 : decide ((A.length : Int) ≤ (B.length : Int)) = false := decide_eq_false (by omega)
      rw [decide_eq_false (fun h => h2 h.2.1)] at hQ
      simp only [go_sem, Nat.reduceEqDiff, Nat.reduceAdd, Nat.reduceMul, Nat.reduceSub, Nat.reduceLeDiff, Int.reduceBEq, Int.reduceBNe, Int.reduceLT, Int.reduceLE, Int.reduceGT, Int.reduceGE, Int.reduceEq, ↓reduceIte, reduceCtorEq, q1, q2]
      exact hQ
  · have q1 : decide ((A.length : Int) ≥ least) = false := decide_eq_false h1
    rw [decide_eq_false (fun h => h1 h.1)] at hQ
    simp only [go_sem, Nat.reduceEqDiff, Nat.reduceAdd, Nat.reduceMul, Nat.reduceSub, Nat.reduceLeDiff, Int.reduceBEq, Int.reduceBNe, Int.reduceLT, Int.reduceLE, Int.reduceGT, Int.reduceGE, Int.reduceEq, ↓reduceIte, reduceCtorEq, q1]
    exact hQ
end Go.VM

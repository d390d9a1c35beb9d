/-
  Frames and what is read of them: plain.
  The laws' helpers: all, Same, long, beginning. NEWPP
-/
import Derived.Test.YtegaflmefmlpgaaGreatDoorWLog
set_option maxRecDepth 20000
set_option linter.unusedVariables false
set_option linter.unusedSimpArgs false
namespace Go.VM
open Go Go.RowKit Go.Proofs

theorem ofNat_toNat {x : Nat} (h : x < 256) : (UInt8.ofNat x).toNat = x := by simp; omega
theorem uvar_pos (x : Nat) : 1 ≤ (uvar x).length := by
  by_cases h : x < 128
  · rw [uvar_lt h]; exact Nat.le_refl _
  · rw [uvar_ge h, List.length_cons]; omega
theorem ruv_uvar (x : Nat) : ∀ (n v : Nat) (rest : List UInt8), n + (uvar x).length ≤ 9 → (n > 0 → x > 0) → ruv n v (uvar x ++ rest) = some (v + x * 2 ^ (7 * n), n + (uvar x).length) := by
  induction x using uvar.induct with
  | case1 x h =>
    intro n v rest hn hx
    rw [uvar_lt h] at hn ⊢
    have e := ofNat_toNat (x := x) (by omega)
    simp only [List.length_cons, List.length_nil] at hn
    rw [List.cons_append, ruv_end (by rw [e]; omega) (by rw [e]; exact h), e, Nat.mod_eq_of_lt h]
    rfl
  | case2 x h ih =>
    intro n v rest hn hx
    rw [uvar_ge h] at hn ⊢
    have e := ofNat_toNat (x := x % 128 + 128) (by omega)
    rw [List.length_cons] at hn
    have := uvar_pos (x / 128)
    rw [List.cons_append, ruv_more (by rw [e]; omega) (by rw [e]; omega), e, ih (n + 1) _ rest (by omega) (fun _ => by omega), List.length_cons]
    congr 1
    refine Prod.ext ?_ (by simp only; omega)
    simp only
    rw [show 7 * (n + 1) = 7 * n + 7 by omega, Nat.pow_add, show (x % 128 + 128) % 128 = x % 128 by omega, Nat.mul_comm (2 ^ (7 * n)) (2 ^ 7), ← Nat.mul_assoc, Nat.add_assoc, ← Nat.add_mul]
    congr 2
    omega
theorem ruv_short (x : Nat) : ∀ (n v m : Nat), m < (uvar x).length → n + (uvar x).length ≤ 9 → ruv n v ((uvar x).take m) = none := by
  induction x using uvar.induct with
  | case1 x h =>
    intro n v m hm _
    rw [uvar_lt h] at hm ⊢
    have : m = 0 := by simpa using hm
    subst this; rfl
  | case2 x h ih =>
    intro n v m hm hn
    rw [uvar_ge h] at hm hn ⊢
    rw [List.length_cons] at hm hn
    cases m with
    | zero => rfl
    | succ m =>
      have e := ofNat_toNat (x := x % 128 + 128) (by omega)
      have := uvar_pos (x / 128)
      rw [List.take_succ_cons, ruv_more (by rw [e]; omega) (by rw [e]; omega)]
      exact ih _ _ m (by omega) (by omega)
theorem uvar_len3 {x : Nat} (h : x ≤ 65535) : (uvar x).length ≤ 3 := uvar_len x 3 (by omega) (by decide)
theorem frameB_len (r : List UInt8) : (frameB r).length = (uvar r.length).length + r.length + 6 := by simp [frameB, fourB_len]; omega
theorem readF_frame {r : List UInt8} (h : r.length ≤ 65535) (rest : List UInt8) : readF (frameB r ++ rest) = .inr (r, (frameB r).length) := by
  have hu := uvar_len3 h
  have e : frameB r ++ rest = 0xf1 :: (uvar r.length ++ (fourB (sumN r) ++ (r ++ (0x1f :: rest)))) := by simp [frameB]
  have hr := ruv_uvar r.length 0 0 (fourB (sumN r) ++ (r ++ (0x1f :: rest))) (by omega) (by omega)
  simp only [Nat.mul_zero, Nat.pow_zero, Nat.mul_one, Nat.zero_add] at hr
  generalize hk : (uvar r.length).length = k at *
  have d1 : (uvar r.length ++ (fourB (sumN r) ++ (r ++ (0x1f :: rest)))).drop k = fourB (sumN r) ++ (r ++ (0x1f :: rest)) := by rw [← hk, List.drop_left]
  have d2 : (uvar r.length ++ (fourB (sumN r) ++ (r ++ (0x1f :: rest)))).drop (k + 4) = r ++ (0x1f :: rest) := by
    rw [← List.drop_drop, d1]; rfl
  have t1 : (fourB (sumN r) ++ (r ++ (0x1f :: rest))).take 4 = fourB (sumN r) := rfl
  have t2 : (r ++ (0x1f :: rest)).take r.length = r := List.take_left
  have g1 : (uvar r.length ++ (fourB (sumN r) ++ (r ++ (0x1f :: rest))))[k + 4 + r.length]? = some 0x1f := by
    have : ((uvar r.length ++ (fourB (sumN r) ++ (r ++ (0x1f :: rest)))).drop (k + 4))[r.length]? = some 0x1f := by
      rw [d2, List.getElem?_append_right (Nat.le_refl _), Nat.sub_self]; rfl
    rw [List.getElem?_drop] at this; exact this
  have l1 : (uvar r.length ++ (fourB (sumN r) ++ (r ++ (0x1f :: rest)))).length = k + 4 + r.length + 1 + rest.length := by
    simp only [List.length_append, hk, fourB_len, List.length_cons]; omega
  rw [e]
  simp only [readF, hr, d1, d2, t1, t2]
  rw [if_neg (by
    rintro (h1 | h1 | h1 | h1)
    · exact h1 rfl
    · omega
    · rw [l1] at h1; omega
    · exact h1 g1), if_neg (by simp)]
  congr 2
  rw [frameB_len]; omega
theorem readF_cut {r : List UInt8} (h : r.length ≤ 65535) {m : Nat} (hm : m < (frameB r).length) : ∃ e, readF ((frameB r).take m) = .inl e := by
  have hu := uvar_len3 h
  rw [frameB_len] at hm
  cases m with
  | zero => exact ⟨8, rfl⟩
  | succ m =>
    have e : (frameB r).take (m + 1) = 0xf1 :: (uvar r.length ++ (fourB (sumN r) ++ r ++ [0x1f])).take m := by simp [frameB]
    rw [e]
    refine ⟨3, ?_⟩
    by_cases h1 : m < (uvar r.length).length
    · have : (uvar r.length ++ (fourB (sumN r) ++ r ++ [0x1f])).take m = (uvar r.length).take m := by
        rw [List.take_append_of_le_length (by omega)]
      rw [this]
      simp only [readF, ruv_short r.length 0 0 m h1 (by omega)]
    · have : (uvar r.length ++ (fourB (sumN r) ++ r ++ [0x1f])).take m = uvar r.length ++ (fourB (sumN r) ++ r ++ [0x1f]).take (m - (uvar r.length).length) := by
        rw [List.take_append, List.take_of_length_le (by omega)]
      have hl : ((uvar r.length ++ (fourB (sumN r) ++ r ++ [0x1f])).take m).length ≤ m := by rw [List.length_take]; omega
      rw [this] at hl ⊢
      have hr := ruv_uvar r.length 0 0 ((fourB (sumN r) ++ r ++ [0x1f]).take (m - (uvar r.length).length)) (by omega) (by omega)
      simp only [Nat.mul_zero, Nat.pow_zero, Nat.mul_one, Nat.zero_add] at hr
      simp only [readF, hr]
      rw [if_pos (.inr (.inr (.inl (by omega))))]

def shortL (L : List (List UInt8)) : Prop := ∀ r ∈ L, r.length ≤ 65535
theorem longL_not {L : List (List UInt8)} (h : shortL L) : longL L = false := by
  unfold longL
  rw [List.any_eq_false]
  intro r hr
  have := h r hr
  simp; omega
theorem shortL_of {L : List (List UInt8)} (h : longL L = false) : shortL L := fun r hr => by
  unfold longL at h
  rw [List.any_eq_false] at h
  have := h r hr
  simp at this; exact this
theorem scans_frames {tail : List UInt8} {M : List (List UInt8)} {n : Nat} (ht : Scans tail M n) : ∀ {L : List (List UInt8)}, shortL L → Scans (fileB L ++ tail) (L ++ M) ((fileB L).length + n)
  | [], _ => by simpa [fileB] using ht
  | r :: L, h => by
    have ih := scans_frames ht (L := L) fun x hx => h x (by simp [hx])
    have hr := readF_frame (h r (by simp)) (fileB L ++ tail)
    have e : fileB (r :: L) ++ tail = frameB r ++ (fileB L ++ tail) := by simp [fileB]
    have el : (fileB (r :: L)).length + n = (frameB r).length + ((fileB L).length + n) := by simp [fileB]; omega
    rw [e, el, List.cons_append]
    exact .step hr (by rw [List.drop_left]; exact ih)
theorem scans_nil : Scans [] [] 0 := .stop (e := 8) rfl
theorem scans_file {L : List (List UInt8)} (h : shortL L) : Scans (fileB L) L (fileB L).length := by
  have := scans_frames scans_nil h
  simpa using this
/-- Of a beginning of records' bytes just the whole ones are read. -/
theorem scans_cut : ∀ {L : List (List UInt8)} (m : Nat), shortL L → ∃ j, j ≤ L.length ∧ Scans ((fileB L).take m) (L.take j) (fileB (L.take j)).length ∧ (fileB (L.take j)).length ≤ m ∧ ∀ i, i ≤ L.length → (fileB (L.take i)).length ≤ m → i ≤ j
  | [], m, _ => ⟨0, by simp, by simpa [fileB] using scans_nil, by simp [fileB], fun i hi _ => by simpa using hi⟩
  | r :: L, m, h => by
    have hr := h r (by simp)
    have e0 : fileB (r :: L) = frameB r ++ fileB L := by simp [fileB]
    by_cases hm : m < (frameB r).length
    · refine ⟨0, by simp, ?_, by simp [fileB], fun i hi hfi => ?_⟩
      · have : (fileB (r :: L)).take m = (frameB r).take m := by rw [e0, List.take_append_of_le_length (by omega)]
        rw [this]
        obtain ⟨e, he⟩ := readF_cut hr hm
        exact .stop he
      · cases i with
        | zero => exact Nat.le_refl _
        | succ i =>
          rw [List.take_succ_cons] at hfi
          have : fileB (r :: L.take i) = frameB r ++ fileB (L.take i) := by simp [fileB]
          rw [this, List.length_append] at hfi
          omega
    · obtain ⟨j, hj, hs, hle, hmax⟩ := scans_cut (L := L) (m - (frameB r).length) fun x hx => h x (by simp [hx])
      have e1 : ∀ i, fileB ((r :: L).take (i + 1)) = frameB r ++ fileB (L.take i) := fun i => by simp [fileB]
      refine ⟨j + 1, by simp; omega, ?_, ?_, fun i hi hfi => ?_⟩
      · have : (fileB (r :: L)).take m = frameB r ++ (fileB L).take (m - (frameB r).length) := by rw [e0, List.take_append, List.take_of_length_le (by omega)]
        rw [this, e1, List.length_append, List.take_succ_cons]
        exact .step (readF_frame hr _) (by rw [List.drop_left]; exact hs)
      · rw [e1, List.length_append]; omega
      · cases i with
        | zero => omega
        | succ i =>
          rw [e1, List.length_append] at hfi
          have := hmax i (by simpa using hi) (by omega)
          omega
end Go.VM

namespace Go.VM
open Go Go.RowKit Go.Proofs

theorem IsSlice.cut {cs : List V} {n : Nat} {L : List (List UInt8)} {t : Tok} (h : IsSlice BytesR 1 (.sl cs n 1 t) L t) {k : Nat} (hk : k ≤ L.length) :
    IsSlice BytesR 1 (if t = .nil then .sl cs n 1 t else .sl (cs.take ((k - 0) * 1)) (k - 0) 1 (if k = n then t else .no)) (L.take k) (if t = .nil then .nil else if k = n then t else .no) := by
  by_cases h0 : t = .nil
  · obtain ⟨rfl, h1, rfl⟩ := h.nilTok h0
    subst h1
    rw [if_pos h0, if_pos h0, h0]
    simpa using isSlice_nil BytesR 1
  · rw [if_neg h0, if_neg h0, Nat.sub_zero]
    exact h.take hk h0 (by split <;> simp [h0])
end Go.VM

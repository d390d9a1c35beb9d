/-
  DiskLasts: the run. NEWPP
-/
import Derived.Test.YtegaflmefmlpgaaGreatDoorDLasts
set_option linter.unusedVariables false
set_option linter.unusedSimpArgs false
namespace Go.VM
open Go Go.RowKit Go.Proofs

theorem IsBytes.cut_hi {v : V} {bs : List UInt8} (h : IsBytes v bs) {n : Nat} (hn : n ≤ bs.length) (k : Nat) : ∃ v', (∀ fr : Fr, (fr k).idx = some n → sliceV fr 1 none (some (.t k)) none v = some v') ∧ IsBytes v' (bs.take n) := by
  obtain ⟨t, rfl, ht⟩ := h
  by_cases h0 : t = .nil
  · have := ht h0
    subst this; subst h0
    have hn : n ≤ 0 := by simpa using hn
    refine ⟨.sl [] 0 1 .nil, fun fr hf => ?_, by simpa using isBytes_nil⟩
    simp only [sliceV, bounds_hi, Arg.ev, hf, Option.bind_some, List.length_nil, hn, if_true, List.map_nil, Option.isSome_none, Bool.false_eq_true, if_false]
  · refine ⟨.sl ((bs.take n).map u8V) n 1 (if n = bs.length then t else .no), fun fr hf => ?_, ?_⟩
    · simp only [sliceV, bounds_hi, Arg.ev, hf, Option.bind_some, hn, if_true, if_false, h0, ne_eq, not_true_eq_false, Nat.zero_mul, List.drop_zero, Nat.sub_zero, Nat.mul_one, List.map_take]
    · have e : (bs.take n).length = n := by rw [List.length_take]; omega
      have := isBytes_mk (bs.take n) (t := if n = bs.length then t else .no) (by split <;> simp [h0])
      rw [e] at this
      exact this
theorem IsBytes.cut_lo {v : V} {bs : List UInt8} (h : IsBytes v bs) {n : Nat} (hn : n ≤ bs.length) (k : Nat) : ∃ v', (∀ fr : Fr, (fr k).idx = some n → sliceV fr 1 (some (.t k)) none none v = some v') ∧ IsBytes v' (bs.drop n) := by
  obtain ⟨t, rfl, ht⟩ := h
  by_cases h0 : t = .nil
  · have := ht h0
    subst this; subst h0
    have hn : n ≤ 0 := by simpa using hn
    refine ⟨.sl [] 0 1 .nil, fun fr hf => ?_, by simpa using isBytes_nil⟩
    simp only [sliceV, bounds_lo, Arg.ev, hf, Option.bind_some, List.length_nil, hn, if_true, List.map_nil, Option.isSome_none, Bool.false_eq_true, if_false]
  · refine ⟨.sl ((bs.drop n).map u8V) (bs.length - n) 1 t, fun fr hf => ?_, ?_⟩
    · simp only [sliceV, bounds_lo, Arg.ev, hf, Option.bind_some, hn, if_true, if_false, h0, ne_eq, not_true_eq_false, Nat.mul_one, List.map_drop]
      rw [List.take_of_length_le (by simp)]
    · have := isBytes_mk (bs.drop n) (t := t) h0
      rw [List.length_drop] at this
      exact this

theorem lasts_all (f s t : List UInt8) (keep : List Int) (hl : f.length + s.length + t.length ≤ 3000) (k : Nat) (hk : k < 7) : LastsOk f s t keep ⟨[⟨[97], f, f.length⟩], 10000, 0 + (f.length : Int), 2, k, false⟩ := by
  rcases (show k = 0 ∨ k = 1 ∨ k = 2 ∨ k = 3 ∨ k = 4 ∨ k = 5 ∨ k = 6 by omega) with rfl | rfl | rfl | rfl | rfl | rfl | rfl
  · exact lasts0 f s t keep hl
  · exact lasts1 f s t keep hl
  · exact lasts2 f s t keep hl
  · exact lasts3 f s t keep hl
  · exact lasts4 f s t keep hl
  · exact lasts5 f s t keep hl
  · exact lasts6 f s t keep hl

theorem u8_rem7 (k : Int) (h : 0 ≤ k) : (IntKind.i64.wrap k) = k → k.tmod 7 = ((k.toNat % 7 : Nat) : Int) := fun _ => by
  rw [Int.tmod_eq_emod_of_nonneg h]; omega

end Go.VM

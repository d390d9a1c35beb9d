/-
  disk.Name and the reference's Name: which names a file may have: NEWPP
-/
import Derived.Test.YtegaflmefmlpgaaGreatDoorDSort
import Derived.Test.YtegaflmefmlpgaaGreatDoorDCodes
import Derived.Test.YtegaflmefmlpgaaGreatDoorVmSet
set_option linter.unusedVariables false
set_option linter.unusedSimpArgs false
namespace Go.VM
open Go Go.RowKit Go.Proofs

def nameB (b : UInt8) : Bool := (97 ≤ b && b ≤ 122) || (48 ≤ b && b ≤ 57) || b == 46 || b == 45
def nameOk (s : List UInt8) : Bool := s.all nameB && decide (1 ≤ s.length) && decide (s.length ≤ 32)

theorem u8_ge (b c : UInt8) : decide ((b.toNat : Int) ≥ (c.toNat : Int)) = decide (c ≤ b) := by
  simp only [UInt8.le_iff_toNat_le]; congr 1; simp
theorem u8_le (b c : UInt8) : decide ((b.toNat : Int) ≤ (c.toNat : Int)) = decide (b ≤ c) := by
  simp only [UInt8.le_iff_toNat_le]; congr 1; simp
theorem u8_eq (b c : UInt8) : ((b.toNat : Int) == (c.toNat : Int)) = (b == c) := by
  rw [Bool.eq_iff_iff]; simp [UInt8.toNat_inj, Int.ofNat_inj]

theorem diskName_body {w0 : World} {fr : Fr} {S : St} {Q : CPost} {s : List UInt8} {j : Nat} {b : UInt8} (f0 : fr 0 = .str (mkS s)) (f6 : fr 6 = .int .i64 j) (hb : s[j]? = some b)
    (hQ : ∀ fr', fr' 0 = fr 0 → fr' 5 = fr 5 → fr' 6 = fr 6 → fr' 2 = fr 2 → nameB b = true → Q .normal fr' S) (hQ' : ∀ fr', fr' 2 = .bool false → nameB b = false → Q .ret fr' S) : wCode (RSim Tryz.prog w0) k_disk_Name_0 fr S Q := by
  obtain ⟨c1, h1⟩ : ∃ c, decide (97 ≤ b) = c := ⟨_, rfl⟩
  obtain ⟨c2, h2⟩ : ∃ c, decide (b ≤ 122) = c := ⟨_, rfl⟩
  obtain ⟨c3, h3⟩ : ∃ c, decide (48 ≤ b) = c := ⟨_, rfl⟩
  obtain ⟨c4, h4⟩ : ∃ c, decide (b ≤ 57) = c := ⟨_, rfl⟩
  obtain ⟨c5, h5⟩ : ∃ c, (b == 46) = c := ⟨_, rfl⟩
  obtain ⟨c6, h6⟩ : ∃ c, (b == 45) = c := ⟨_, rfl⟩
  have hn : nameB b = (c1 && c2 || c3 && c4 || c5 || c6) := by simp only [nameB, h1, h2, h3, h4, h5, h6]
  have e1 : decide ((b.toNat : Int) ≥ 97) = c1 := (u8_ge b 97).trans h1
  have e2 : decide ((b.toNat : Int) ≤ 122) = c2 := (u8_le b 122).trans h2
  have e3 : decide ((b.toNat : Int) ≥ 48) = c3 := (u8_ge b 48).trans h3
  have e4 : decide ((b.toNat : Int) ≤ 57) = c4 := (u8_le b 57).trans h4
  have e5 : ((b.toNat : Int) == 46) = c5 := (u8_eq b 46).trans h5
  have e6 : ((b.toNat : Int) == 45) = c6 := (u8_eq b 45).trans h6
  rw [hn] at hQ hQ'
  clear hn h1 h2 h3 h4 h5 h6
  simp only [k_disk_Name_0, go_sem, f0, f6, hb, e1, e2, e3, e4, e5, e6]
  cases c1
  all_goals (try simp only [go_sem, f0, f6, hb, e1, e2, e3, e4, e5, e6])
  all_goals (try ((refine wc_ite (b := false) (by simp only [go_sem] <;> rfl) (fun h => by cases h) (fun _ => ?_); simp only [go_sem]; exact hQ _ (by simp only [go_sem]) (by simp only [go_sem]) (by simp only [go_sem, f6]) (by simp only [go_sem]) rfl); done))
  all_goals (try ((refine wc_ite (b := true) (by simp only [go_sem] <;> rfl) (fun _ => ?_) (fun h => by cases h); simp only [go_sem]; exact hQ' _ (by simp only [go_sem]) rfl); done))
  all_goals cases c2
  all_goals (try simp only [go_sem, f0, f6, hb, e1, e2, e3, e4, e5, e6])
  all_goals (try ((refine wc_ite (b := false) (by simp only [go_sem] <;> rfl) (fun h => by cases h) (fun _ => ?_); simp only [go_sem]; exact hQ _ (by simp only [go_sem]) (by simp only [go_sem]) (by simp only [go_sem, f6]) (by simp only [go_sem]) rfl); done))
  all_goals (try ((refine wc_ite (b := true) (by simp only [go_sem] <;> rfl) (fun _ => ?_) (fun h => by cases h); simp only [go_sem]; exact hQ' _ (by simp only [go_sem]) rfl); done))
  all_goals cases c3
  all_goals (try simp only [go_sem, f0, f6, hb, e1, e2, e3, e4, e5, e6])
  all_goals (try ((refine wc_ite (b := false) (by simp only [go_sem] <;> rfl) (fun h => by cases h) (fun _ => ?_); simp only [go_sem]; exact hQ _ (by simp only [go_sem]) (by simp only [go_sem]) (by simp only [go_sem, f6]) (by simp only [go_sem]) rfl); done))
  all_goals (try ((refine wc_ite (b := true) (by simp only [go_sem] <;> rfl) (fun _ => ?_) (fun h => by cases h); simp only [go_sem]; exact hQ' _ (by simp only [go_sem]) rfl); done))
  all_goals cases c4
  all_goals (try simp only [go_sem, f0, f6, hb, e1, e2, e3, e4, e5, e6])
  all_goals (try ((refine wc_ite (b := false) (by simp only [go_sem] <;> rfl) (fun h => by cases h) (fun _ => ?_); simp only [go_sem]; exact hQ _ (by simp only [go_sem]) (by simp only [go_sem]) (by simp only [go_sem, f6]) (by simp only [go_sem]) rfl); done))
  all_goals (try ((refine wc_ite (b := true) (by simp only [go_sem] <;> rfl) (fun _ => ?_) (fun h => by cases h); simp only [go_sem]; exact hQ' _ (by simp only [go_sem]) rfl); done))
  all_goals cases c5
  all_goals (try simp only [go_sem, f0, f6, hb, e1, e2, e3, e4, e5, e6])
  all_goals (try ((refine wc_ite (b := false) (by simp only [go_sem] <;> rfl) (fun h => by cases h) (fun _ => ?_); simp only [go_sem]; exact hQ _ (by simp only [go_sem]) (by simp only [go_sem]) (by simp only [go_sem, f6]) (by simp only [go_sem]) rfl); done))
  all_goals (try ((refine wc_ite (b := true) (by simp only [go_sem] <;> rfl) (fun _ => ?_) (fun h => by cases h); simp only [go_sem]; exact hQ' _ (by simp only [go_sem]) rfl); done))
  all_goals cases c6
  all_goals (try simp only [go_sem, f0, f6, hb, e1, e2, e3, e4, e5, e6])
  all_goals (try ((refine wc_ite (b := false) (by simp only [go_sem] <;> rfl) (fun h => by cases h) (fun _ => ?_); simp only [go_sem]; exact hQ _ (by simp only [go_sem]) (by simp only [go_sem]) (by simp only [go_sem, f6]) (by simp only [go_sem]) rfl); done))
  all_goals (try ((refine wc_ite (b := true) (by simp only [go_sem] <;> rfl) (fun _ => ?_) (fun h => by cases h); simp only [go_sem]; exact hQ' _ (by simp only [go_sem]) rfl); done))

theorem diskName_runs {w0 : World} {S : St} {Q : AEnd → St → Prop} {s : List UInt8} (hs : s.length ≤ 1000000000000000) (hQ : Q (.ret (.bool (nameOk s))) S) : RSim Tryz.prog w0 n_disk_Name [.str (mkS s)] S Q := by
  refine RSim.run mixed k_disk_Name ?_ (by simp)
  simp only [b_disk_Name, go_sem]
  refine loop_rule RSim.le (k := s.length) (fun m fr S1 => ∃ j : Nat, m = s.length - j ∧ j ≤ s.length ∧ S1 = S ∧ fr 0 = .str (mkS s) ∧ fr 5 = .int .i64 s.length ∧ fr 6 = .int .i64 j ∧ (s.take j).all nameB = true) ?_
    ⟨0, rfl, Nat.zero_le _, rfl, by simp only [go_sem], by simp only [go_sem], by simp only [go_sem, Int.natCast_zero], by simp⟩
  rintro m fr S1 ⟨j, hm, hj, hS, f0, f5, f6, ha⟩
  subst hm; subst hS
  simp only [l_disk_Name_0, go_sem, f5, f6]
  refine wc_ite (b := decide ((j : Int) < s.length)) (by simp only [go_sem]) (fun hc => ?_) (fun hc => ?_)
  · have hj2 : j < s.length := by have := of_decide_eq_true hc; omega
    have hb : s[j]? = some (s[j]'hj2) := List.getElem?_eq_getElem hj2
    have hw : IntKind.i64.wrap ((j : Int) + 1) = ((j + 1 : Nat) : Int) := by rw [w64 (by omega) (by omega)]; omega
    simp only [go_sem]
    refine diskName_body (j := j) (s := s) (by simp only [go_sem]; exact f0) (by simp only [go_sem]; exact f6) hb (fun fr' g0 g5 g6 _ hn => ?_) (fun fr' g2 hn => ?_)
    · simp only [go_sem] at g0 g5 g6
      simp only [go_sem, g6, f6, hw]
      refine ⟨_, by omega, j + 1, rfl, by omega, by simp only [go_sem, g0, f0], by simp only [go_sem, g5, f5], by simp only [go_sem], ?_⟩
      rw [List.take_add_one, List.all_append, ha, hb]
      simpa using hn
    · simp only [go_sem, g2]
      have : nameOk s = false := by
        have : s.all nameB = false := by
          rw [Bool.eq_false_iff]
          intro h
          rw [List.all_eq_true] at h
          rw [h _ (List.getElem_mem hj2)] at hn
          cases hn
        simp [nameOk, this]
      rw [this] at hQ
      exact hQ
  · have hje : j = s.length := by have := of_decide_eq_false hc; omega
    subst hje
    rw [List.take_length] at ha
    have e1 : decide ((s.length : Int) ≥ 1) = decide (1 ≤ s.length) := by congr 1; simp; omega
    have e2 : decide ((s.length : Int) ≤ 32) = decide (s.length ≤ 32) := by congr 1; simp; omega
    have e : nameOk s = (decide (1 ≤ s.length) && decide (s.length ≤ 32)) := by simp [nameOk, ha]
    rw [e] at hQ
    simp only [go_sem, s_disk_Name_0, go_sem, f0, e1, e2]
    cases h1 : decide (1 ≤ s.length) <;> simp only [go_sem, f0, e2] <;> simpa only [h1, Bool.false_and, Bool.true_and] using hQ

theorem u8_ne (b c : UInt8) : ((b.toNat : Int) != (c.toNat : Int)) = !(b == c) := by
  rw [bne, u8_eq]

end Go.VM

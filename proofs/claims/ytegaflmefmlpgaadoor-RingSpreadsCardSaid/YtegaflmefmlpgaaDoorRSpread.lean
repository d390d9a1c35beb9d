/-
  Ring: of many ids each shard has some: plain, by the tables. NEWPP
-/
import Derived.Test.YtegaflmefmlpgaaDoorRTab
import Derived.KernelRfl
set_option maxRecDepth 100000
set_option linter.unusedVariables false
set_option linter.unusedSimpArgs false
namespace Go.VM
open Go Go.RowKit

def idB (f i : Nat) : List UInt8 := [UInt8.ofNat (97 + f), UInt8.ofNat (97 + i % 20), UInt8.ofNat (97 + i / 20)]
/-- The nearest of places; the shard is the place's number by 16. -/
def bestT (h : Nat) : List Nat → Nat → Nat → Nat → Nat
  | [], k, w, s => s
  | a :: r, k, w, s =>
    let d := cond (Nat.ble h a) (a - h) (a + 18446744073709551616 - h)
    cond (Nat.blt d w) (bestT h r (k + 1) d (k / 16)) (bestT h r (k + 1) w s)
theorem way_cond (h : Nat) (p : Pt) : cond (Nat.ble h p.at_) (p.at_ - h) (p.at_ + 18446744073709551616 - h) = way h p := by
  unfold way
  by_cases hh : h ≤ p.at_
  · rw [if_pos hh, Nat.ble_eq_true_of_le hh]; rfl
  · have : Nat.ble h p.at_ = false := by
      rw [Bool.eq_false_iff]; intro e; exact hh (Nat.le_of_ble_eq_true e)
    rw [if_neg hh, this]; rfl
theorem bestT_fold {h : Nat} : ∀ (l : List Pt) (k w s : Nat), (∀ (j : Nat) (p : Pt), l[j]? = some p → p.sh.val = (k + j) / 16) → ∃ w', l.foldl (stepB h) (some (w, s)) = some (w', bestT h (l.map (·.at_)) k w s)
  | [], k, w, s, _ => ⟨w, rfl⟩
  | p :: l, k, w, s, hk => by
    have h0 : p.sh.val = k / 16 := by simpa using hk 0 p rfl
    have hr : ∀ (j : Nat) (q : Pt), l[j]? = some q → q.sh.val = (k + 1 + j) / 16 := fun j q hq => by
      have := hk (j + 1) q (by simpa using hq)
      rw [this]; congr 1; omega
    rw [List.foldl_cons, List.map_cons, bestT]
    simp only [way_cond, stepB]
    by_cases hw : way h p < w
    · have e : Nat.blt (way h p) w = true := by
        unfold Nat.blt; exact Nat.ble_eq_true_of_le hw
      rw [if_pos hw, e, h0]
      exact bestT_fold l (k + 1) _ _ hr
    · have e : Nat.blt (way h p) w = false := by
        unfold Nat.blt
        rw [Bool.eq_false_iff]; intro e; exact hw (Nat.le_of_ble_eq_true e)
      rw [if_neg hw, e]
      exact bestT_fold l (k + 1) _ _ hr
theorem pts_sh : ∀ (n : Nat), n ≤ 8 → ∀ (k : Nat) (p : Pt), (pts n)[k]? = some p → p.sh.val = k / 16
  | 0, _, k, p, h => by simp [pts] at h
  | n + 1, hn, k, p, h => by
    rw [pts_succ] at h
    by_cases hk : k < n * 16
    · rw [List.getElem?_append_left (by rw [pts_len]; exact hk)] at h
      exact pts_sh n (by omega) k p h
    · rw [List.getElem?_append_right (by rw [pts_len]; omega), pts_len] at h
      have h1 := (List.getElem?_eq_some_iff.1 h).1
      rw [row1_len] at h1
      rw [row1_sh (List.mem_of_getElem? h)]
      show n % 8 = k / 16
      omega
theorem way_lt {h : Nat} {p : Pt} (hp : p.at_ < 18446744073709551616) : way h p < 36893488147419103232 := by
  unfold way; split <;> omega
theorem bestT_is {h n : Nat} (hn : n ≤ 8) (h1 : 1 ≤ n) : IsBest h (pts n) (bestT h ((pts n).map (·.at_)) 0 36893488147419103232 0) := by
  have hsh := pts_sh n hn
  have hat := fun p (hp : p ∈ pts n) => pts_at hp
  have hri := (pts_rising n hn).1
  have hne : pts n ≠ [] := fun e => by have := pts_len n; rw [e] at this; simp at this; omega
  generalize pts n = l at *
  cases l with
  | nil => exact absurd rfl hne
  | cons p l =>
    obtain ⟨w', hw⟩ := bestT_fold (h := h) (p :: l) 0 36893488147419103232 0 (fun j q hq => by rw [hsh j q hq, Nat.zero_add])
    have e : bestO h (p :: l) = (p :: l).foldl (stepB h) (some (36893488147419103232, 0)) := by
      unfold bestO
      rw [List.foldl_cons, List.foldl_cons]
      have : stepB h none p = stepB h (some (36893488147419103232, 0)) p := by
        simp only [stepB, way_lt (hat p (by simp)), if_true]
      rw [this]
    exact bestO_is hri (e.trans hw)
theorem tabP_is : (pts 8).map (·.at_) = tabP := by kernel_rfl
theorem pts_pre : ∀ (m n : Nat), ∃ r, pts (n + m) = pts n ++ r
  | 0, n => ⟨[], by simp⟩
  | m + 1, n => by
    obtain ⟨r, h⟩ := pts_pre m n
    exact ⟨r ++ row1 (n + m) 16, by rw [← Nat.add_assoc, pts_succ, h, List.append_assoc]⟩
theorem tabP_take {n : Nat} (hn : n ≤ 8) : (pts n).map (·.at_) = tabP.take (n * 16) := by
  obtain ⟨r, h⟩ := pts_pre (8 - n) n
  rw [show n + (8 - n) = 8 by omega] at h
  have e := tabP_is
  rw [h, List.map_append] at e
  rw [← e, List.take_left' (by rw [List.length_map, pts_len])]

def chkE (f n1 s : Nat) (e : Nat × Nat) : Bool := Nat.blt e.1 400 && Nat.beq (hashN (idB f e.1)) e.2 && Nat.beq (bestT e.2 (tabP.take ((n1 + 1) * 16)) 0 36893488147419103232 0) s
def chkR (f n1 : Nat) : Nat → List (Nat × Nat) → Bool
  | _, [] => true
  | s, e :: r => chkE f n1 s e && chkR f n1 (s + 1) r
def chkN (f : Nat) : Nat → List (List (Nat × Nat)) → Bool
  | _, [] => true
  | n1, r :: t => Nat.beq r.length (n1 + 1) && chkR f n1 0 r && chkN f (n1 + 1) t
def chkF : Nat → List (List (List (Nat × Nat))) → Bool
  | _, [] => true
  | f, t :: r => Nat.beq t.length 8 && chkN f 0 t && chkF (f + 1) r
theorem chkR_at {f n1 : Nat} : ∀ {s : Nat} {r : List (Nat × Nat)}, chkR f n1 s r = true → ∀ (j : Nat) (e : Nat × Nat), r[j]? = some e → chkE f n1 (s + j) e = true
  | s, x :: r, h, 0, e, he => by
    simp only [chkR, Bool.and_eq_true] at h
    simp at he; subst he; exact h.1
  | s, x :: r, h, j + 1, e, he => by
    simp only [chkR, Bool.and_eq_true] at h
    have := chkR_at h.2 j e (by simpa using he)
    rwa [show s + (j + 1) = s + 1 + j by omega]
theorem chkN_at {f : Nat} : ∀ {n1 : Nat} {t : List (List (Nat × Nat))}, chkN f n1 t = true → ∀ (j : Nat) (r : List (Nat × Nat)), t[j]? = some r → r.length = n1 + j + 1 ∧ chkR f (n1 + j) 0 r = true
  | n1, x :: t, h, 0, r, hr => by
    simp only [chkN, Bool.and_eq_true] at h
    simp at hr; subst hr
    exact ⟨Nat.eq_of_beq_eq_true h.1.1, h.1.2⟩
  | n1, x :: t, h, j + 1, r, hr => by
    simp only [chkN, Bool.and_eq_true] at h
    have := chkN_at h.2 j r (by simpa using hr)
    rwa [show n1 + (j + 1) = n1 + 1 + j by omega]
theorem chkF_at : ∀ {f : Nat} {t : List (List (List (Nat × Nat)))}, chkF f t = true → ∀ (j : Nat) (r : List (List (Nat × Nat))), t[j]? = some r → r.length = 8 ∧ chkN (f + j) 0 r = true
  | f, x :: t, h, 0, r, hr => by
    simp only [chkF, Bool.and_eq_true] at h
    simp at hr; subst hr
    exact ⟨Nat.eq_of_beq_eq_true h.1.1, h.1.2⟩
  | f, x :: t, h, j + 1, r, hr => by
    simp only [chkF, Bool.and_eq_true] at h
    have := chkF_at h.2 j r (by simpa using hr)
    rwa [show f + (j + 1) = f + 1 + j by omega]
theorem chk_all : chkF 0 tabI = true := by kernel_rfl
/-- Each shard has some id. -/
theorem spreads {f n s : Nat} (hf : f < 26) (h1 : 1 ≤ n) (h8 : n ≤ 8) (hs : s < n) : ∃ i, i < 400 ∧ IsBest (hashN (idB f i)) (pts n) s := by
  have hlen : tabI.length = 26 := rfl
  obtain ⟨a1, a2⟩ := chkF_at chk_all f (tabI[f]'(by omega)) (List.getElem?_eq_getElem _)
  generalize tabI[f]'(by omega) = t at a1 a2
  rw [Nat.zero_add] at a2
  obtain ⟨b1, b2⟩ := chkN_at a2 (n - 1) (t[n - 1]'(by omega)) (List.getElem?_eq_getElem _)
  generalize t[n - 1]'(by omega) = r at b1 b2
  have c := chkR_at b2 s (r[s]'(by omega)) (List.getElem?_eq_getElem _)
  generalize r[s]'(by omega) = e at c
  rw [Nat.zero_add, Nat.zero_add] at c
  unfold chkE at c
  simp only [Bool.and_eq_true] at c
  obtain ⟨⟨c1, c2⟩, c3⟩ := c
  have d1 : e.1 < 400 := Nat.le_of_ble_eq_true c1
  have d2 := Nat.eq_of_beq_eq_true c2
  have d3 := Nat.eq_of_beq_eq_true c3
  refine ⟨e.1, d1, ?_⟩
  have := bestT_is (h := e.2) h8 h1
  rw [tabP_take h8] at this
  rw [show (n - 1 + 1) * 16 = n * 16 by omega] at d3
  rw [d3] at this
  rw [d2]; exact this
end Go.VM

/-
  Ring: the points; the nearest one: plain. NEWPP
-/
import Derived.Test.YtegaflmefmlpgaaDoorRHash
set_option maxRecDepth 20000
set_option linter.unusedVariables false
set_option linter.unusedSimpArgs false
namespace Go.VM
open Go Go.RowKit Go.Proofs

/-- A point of the ring: where it is, whose. -/
structure Pt where
  at_ : Nat
  sh : Fin 8
  deriving Inhabited
def Pt.cell (p : Pt) : List V := [.int .u64 (p.at_ : Nat), .int .i64 (p.sh.val : Nat)]
theorem Pt.len (p : Pt) : p.cell.length = 2 := rfl
def nameP (s k : Nat) : List UInt8 := [115, 104, 97, 114, 100, 45] ++ decS s ++ [45] ++ decS k
def ptOf (s k : Nat) : Pt := ⟨hashN (nameP s k), Fin.ofNat 8 s⟩
def row1 (s j : Nat) : List Pt := (List.range j).map (ptOf s)
def pts (n : Nat) : List Pt := (List.range n).flatMap fun s => row1 s 16
theorem pts_succ (n : Nat) : pts (n + 1) = pts n ++ row1 n 16 := by
  unfold pts
  rw [List.range_succ, List.flatMap_append]
  simp
theorem row1_succ (s j : Nat) : row1 s (j + 1) = row1 s j ++ [ptOf s j] := by
  unfold row1
  rw [List.range_succ, List.map_append]
  rfl
theorem row1_len (s j : Nat) : (row1 s j).length = j := by simp [row1]
theorem pts_len : ∀ n : Nat, (pts n).length = n * 16
  | 0 => rfl
  | n + 1 => by rw [pts_succ, List.length_append, pts_len n, row1_len]; omega
theorem row1_sh {s j : Nat} {p : Pt} (h : p ∈ row1 s j) : p.sh = Fin.ofNat 8 s := by
  obtain ⟨k, _, rfl⟩ := List.mem_map.1 h
  rfl
theorem pts_at {n : Nat} {p : Pt} (h : p ∈ pts n) : p.at_ < 18446744073709551616 := by
  obtain ⟨s, _, h⟩ := List.mem_flatMap.1 h
  obtain ⟨k, _, rfl⟩ := List.mem_map.1 h
  exact hashN_lt _

/-- How far a point is from a place, going up. -/
def way (h : Nat) (p : Pt) : Nat := if h ≤ p.at_ then p.at_ - h else p.at_ + 18446744073709551616 - h
/-- The shard of the nearest point; of two the one of the first shard. -/
def IsBest (h : Nat) (l : List Pt) (s : Nat) : Prop := ∃ p, p ∈ l ∧ p.sh.val = s ∧ ∀ q ∈ l, way h p < way h q ∨ (way h p = way h q ∧ p.sh.val ≤ q.sh.val)
theorem IsBest.uniq {h : Nat} {l : List Pt} {s s' : Nat} (a : IsBest h l s) (b : IsBest h l s') : s = s' := by
  obtain ⟨p, hp, rfl, h1⟩ := a
  obtain ⟨q, hq, rfl, h2⟩ := b
  have := h1 q hq
  have := h2 p hp
  omega
theorem IsBest.perm {h : Nat} {l l' : List Pt} {s : Nat} (a : IsBest h l s) (hp : l.Perm l') : IsBest h l' s := by
  obtain ⟨p, hm, e, h1⟩ := a
  exact ⟨p, hp.mem_iff.1 hm, e, fun q hq => h1 q (hp.mem_iff.2 hq)⟩
theorem best_grows {h n a b : Nat} (hn : n < 8) (ha : IsBest h (pts n) a) (hb : IsBest h (pts (n + 1)) b) : a = b ∨ b = n := by
  obtain ⟨p, hp, e, h1⟩ := hb
  rw [pts_succ] at hp h1
  rcases List.mem_append.1 hp with hp | hp
  · exact .inl (ha.uniq ⟨p, hp, e, fun q hq => h1 q (List.mem_append_left _ hq)⟩)
  · refine .inr ?_
    rw [← e, row1_sh hp]
    show n % 8 = n
    omega

/-- Less, on the ring. -/
def ltP (p q : Pt) : Bool := decide (p.at_ < q.at_) || (p.at_ == q.at_ && decide (p.sh.val < q.sh.val))
/-- What stands first in a row that rises, from a place on. -/
theorem best_sorted {h : Nat} (hh : h < 18446744073709551616) {l : List Pt} (hs : ∀ (i j : Nat) (p q : Pt), i < j → l[i]? = some p → l[j]? = some q → ltP q p = false) (hat : ∀ p ∈ l, p.at_ < 18446744073709551616) {k : Nat} {p : Pt}
    (hk : (l[k]? = some p ∧ h ≤ p.at_ ∧ ∀ (i : Nat) (q : Pt), i < k → l[i]? = some q → q.at_ < h) ∨ (k = 0 ∧ l[0]? = some p ∧ ∀ q ∈ l, q.at_ < h)) : IsBest h l p.sh.val := by
  have hle : ∀ (i j : Nat) (p q : Pt), i < j → l[i]? = some p → l[j]? = some q → p.at_ < q.at_ ∨ (p.at_ = q.at_ ∧ p.sh.val ≤ q.sh.val) := fun i j p q hij hp hq => by
    have := hs i j p q hij hp hq
    unfold ltP at this
    simp only [Bool.or_eq_false_iff, Bool.and_eq_false_iff, decide_eq_false_iff_not, beq_eq_false_iff_ne] at this
    omega
  rcases hk with ⟨h1, h2, h3⟩ | ⟨rfl, h1, h2⟩
  · refine ⟨p, List.mem_of_getElem? h1, rfl, fun q hq => ?_⟩
    obtain ⟨j, hj⟩ := List.mem_iff_getElem?.1 hq
    have a1 := hat p (List.mem_of_getElem? h1)
    have a2 := hat q hq
    rcases Nat.lt_trichotomy j k with hjk | rfl | hjk
    · have := h3 j q hjk hj
      left; unfold way; rw [if_pos h2, if_neg (by omega)]; omega
    · rw [h1] at hj; injection hj with hj; subst hj
      right; exact ⟨rfl, Nat.le_refl _⟩
    · have := hle k j p q hjk h1 hj
      unfold way
      rw [if_pos h2, if_pos (by omega)]
      omega
  · refine ⟨p, List.mem_of_getElem? h1, rfl, fun q hq => ?_⟩
    obtain ⟨j, hj⟩ := List.mem_iff_getElem?.1 hq
    have b1 := h2 p (List.mem_of_getElem? h1)
    have b2 := h2 q hq
    rcases Nat.eq_zero_or_pos j with rfl | hj0
    · rw [h1] at hj; injection hj with hj; subst hj
      right; exact ⟨rfl, Nat.le_refl _⟩
    · have := hle 0 j p q hj0 h1 hj
      unfold way
      rw [if_neg (by omega), if_neg (by omega)]
      omega

theorem snoc_ind {α : Type} {P : List α → Prop} (h0 : P []) (h1 : ∀ l x, P l → P (l ++ [x])) (l : List α) : P l := by
  have h : ∀ r : List α, P r.reverse := fun r => by
    induction r with
    | nil => exact h0
    | cons x r ih => rw [List.reverse_cons]; exact h1 _ _ ih
  have := h l.reverse
  rwa [List.reverse_reverse] at this

/-! ### The document's way: one behind the other -/
def stepB (h : Nat) (a : Option (Nat × Nat)) (p : Pt) : Option (Nat × Nat) :=
  match a with
  | none => some (way h p, p.sh.val)
  | some (w, s) => if way h p < w then some (way h p, p.sh.val) else some (w, s)
def bestO (h : Nat) (l : List Pt) : Option (Nat × Nat) := l.foldl (stepB h) none
theorem bestO_snoc (h : Nat) (l : List Pt) (p : Pt) : bestO h (l ++ [p]) = stepB h (bestO h l) p := foldl_snoc _ _ _ _
/-- The shards do not fall. -/
def Rising (l : List Pt) : Prop := l.Pairwise fun p q => p.sh.val ≤ q.sh.val
theorem bestO_spec {h : Nat} : ∀ (l : List Pt), Rising l → (l = [] ∧ bestO h l = none) ∨ ∃ w s, bestO h l = some (w, s) ∧ ∃ p, p ∈ l ∧ p.sh.val = s ∧ way h p = w ∧ ∀ q ∈ l, w < way h q ∨ (w = way h q ∧ s ≤ q.sh.val) := by
  intro l
  induction l using snoc_ind with
  | h0 => intro _; exact .inl ⟨rfl, rfl⟩
  | h1 l p ih =>
    intro hr
    refine .inr ?_
    rw [bestO_snoc]
    rw [Rising, List.pairwise_append] at hr
    rcases ih hr.1 with ⟨rfl, e⟩ | ⟨w, s, e, q, hq, e1, e2, h1⟩
    · rw [e]
      refine ⟨_, _, rfl, p, by simp, rfl, rfl, fun q hq => ?_⟩
      simp at hq; subst hq
      exact .inr ⟨rfl, Nat.le_refl _⟩
    · rw [e]
      unfold stepB
      by_cases hw : way h p < w
      · simp only [hw, if_true]
        refine ⟨_, _, rfl, p, by simp, rfl, rfl, fun r hr' => ?_⟩
        rcases List.mem_append.1 hr' with hr' | hr'
        · have := h1 r hr'; left; omega
        · simp at hr'; subst hr'; exact .inr ⟨rfl, Nat.le_refl _⟩
      · simp only [hw, if_false]
        refine ⟨_, _, rfl, q, List.mem_append_left _ hq, e1, e2, fun r hr' => ?_⟩
        rcases List.mem_append.1 hr' with hr' | hr'
        · exact h1 r hr'
        · simp at hr'; subst hr'
          have := hr.2.2 q hq r (by simp)
          omega
theorem bestO_is {h : Nat} {l : List Pt} {w s : Nat} (hr : Rising l) (e : bestO h l = some (w, s)) : IsBest h l s := by
  rcases bestO_spec (h := h) l hr with ⟨_, e'⟩ | ⟨w', s', e', p, hp, e1, e2, h1⟩
  · rw [e] at e'; cases e'
  · rw [e] at e'; injection e' with e'; injection e' with e3 e4
    subst e3; subst e4
    exact ⟨p, hp, e1, fun q hq => by rw [e2, e1]; exact h1 q hq⟩
theorem row1_rising (s j : Nat) : Rising (row1 s j) := by
  unfold Rising
  refine List.pairwise_iff_forall_sublist.2 fun {a b} hab => ?_
  have ha : a ∈ row1 s j := hab.subset (by simp)
  have hb : b ∈ row1 s j := hab.subset (by simp)
  rw [row1_sh ha, row1_sh hb]
  exact Nat.le_refl _
theorem pts_rising : ∀ n, n ≤ 8 → Rising (pts n) ∧ ∀ p ∈ pts n, p.sh.val < n
  | 0, _ => ⟨List.Pairwise.nil, fun p hp => by cases hp⟩
  | n + 1, hn => by
    obtain ⟨h1, h2⟩ := pts_rising n (by omega)
    rw [pts_succ]
    have e : (Fin.ofNat 8 n).val = n := by show n % 8 = n; omega
    refine ⟨List.pairwise_append.2 ⟨h1, row1_rising _ _, fun a ha b hb => ?_⟩, fun p hp => ?_⟩
    · have := h2 a ha
      rw [row1_sh hb, e]; omega
    · rcases List.mem_append.1 hp with hp | hp
      · have := h2 p hp; omega
      · rw [row1_sh hp, e]; omega
theorem mixed_rising (n j : Nat) (hn : n < 8) : Rising (pts n ++ row1 n j) := by
  obtain ⟨h1, h2⟩ := pts_rising n (by omega)
  have e : (Fin.ofNat 8 n).val = n := by show n % 8 = n; omega
  refine List.pairwise_append.2 ⟨h1, row1_rising _ _, fun a ha b hb => ?_⟩
  have := h2 a ha
  rw [row1_sh hb, e]; omega
end Go.VM

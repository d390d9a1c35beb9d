/-
  The value machine, in use: rows of things of so many cells; a slice that is a row of cells of its own. NEWPP
-/
import Derived.Test.YtegaflmefmlpgaaGreatDoorVmSet
set_option maxRecDepth 20000
set_option linter.unusedVariables false
set_option linter.unusedSimpArgs false
namespace Go.VM
open Go Go.RowKit

section
variable {α β : Type} {cell : α → List β} {sz : Nat}
theorem fm_len (h : ∀ x, (cell x).length = sz) : ∀ l : List α, (l.flatMap cell).length = l.length * sz
  | [] => by simp
  | x :: l => by rw [List.flatMap_cons, List.length_append, h, fm_len h l, List.length_cons, Nat.succ_mul]; omega
theorem fm_drop (h : ∀ x, (cell x).length = sz) : ∀ (l : List α) (j : Nat), (l.flatMap cell).drop (j * sz) = (l.drop j).flatMap cell
  | l, 0 => by simp
  | [], j + 1 => by simp
  | x :: l, j + 1 => by
    rw [List.flatMap_cons, Nat.succ_mul, Nat.add_comm, ← List.drop_drop, List.drop_left' (h x), List.drop_succ_cons]
    exact fm_drop h l j
theorem fm_take (h : ∀ x, (cell x).length = sz) : ∀ (l : List α) (j : Nat), (l.flatMap cell).take (j * sz) = (l.take j).flatMap cell
  | l, 0 => by simp
  | [], j + 1 => by simp
  | x :: l, j + 1 => by
    rw [List.flatMap_cons, Nat.succ_mul, List.take_append, List.take_of_length_le (by rw [h]; omega), h, Nat.add_sub_cancel, fm_take h l j, List.take_succ_cons, List.flatMap_cons]
theorem fm_at (h : ∀ x, (cell x).length = sz) {l : List α} {j : Nat} {x : α} (hx : l[j]? = some x) : (l.flatMap cell).drop (j * sz) = cell x ++ (l.drop (j + 1)).flatMap cell := by
  obtain ⟨hj, rfl⟩ := List.getElem?_eq_some_iff.1 hx
  rw [fm_drop h, List.drop_eq_getElem_cons hj, List.flatMap_cons]
end
theorem splice_right (A C vs : List V) (k : Nat) : splice (A ++ C) (A.length + k) vs = A ++ splice C k vs := by
  simp only [splice, List.take_append, List.drop_append, List.append_assoc]
  rw [List.take_of_length_le (by omega), Nat.add_sub_cancel_left, List.drop_eq_nil_of_le (by omega), List.nil_append, show A.length + k + vs.length - A.length = k + vs.length by omega]
theorem splice_left (C B vs : List V) (k : Nat) (h : k + vs.length ≤ C.length) : splice (C ++ B) k vs = splice C k vs ++ B := by
  simp only [splice, List.append_assoc]
  rw [List.take_append_of_le_length (by omega), List.drop_append_of_le_length h]
theorem fm_set {α : Type} {cell : α → List V} {sz : Nat} (h : ∀ x, (cell x).length = sz) {l : List α} {j k : Nat} {x y : α} {vs : List V} (hx : l[j]? = some x) (hy : splice (cell x) k vs = cell y) (hk : k + vs.length ≤ sz) :
    splice (l.flatMap cell) (j * sz + k) vs = (l.set j y).flatMap cell := by
  obtain ⟨hj, rfl⟩ := List.getElem?_eq_some_iff.1 hx
  have e : l.flatMap cell = (l.take j).flatMap cell ++ (cell l[j] ++ (l.drop (j + 1)).flatMap cell) := by
    conv => lhs; rw [← List.take_append_drop j l, List.flatMap_append, List.drop_eq_getElem_cons hj, List.flatMap_cons]
  have hl : j * sz = ((l.take j).flatMap cell).length := by rw [fm_len h, List.length_take, Nat.min_eq_left (by omega)]
  rw [e, hl, splice_right, splice_left _ _ _ _ (by rw [h]; exact hk), hy, List.set_eq_take_append_cons_drop, if_pos hj, List.flatMap_append, List.flatMap_cons]

/-- A slice that is a row of cells of its own, or nil. -/
def RowAt (S : St) (v : V) (cs : List V) (n sz o : Nat) : Prop := (n = 0 ∧ v = .sl [] 0 sz .nil ∧ cs = []) ∨ (n ≠ 0 ∧ v = .msl o 0 n sz ∧ S.cells o = some cs ∧ cs.length = n * sz ∧ o < S.n)
theorem RowAt.nil (S : St) (sz o : Nat) : RowAt S (.sl [] 0 sz .nil) [] 0 sz o := .inl ⟨rfl, rfl, rfl⟩
theorem RowAt.keep {S S' : St} {v : V} {cs : List V} {n sz o : Nat} {p : Nat → Prop} (h : RowAt S v cs n sz o) (k : Keeps p S S') (hp : n ≠ 0 → ¬ p o) : RowAt S' v cs n sz o := by
  rcases h with h | ⟨h0, h1, h2, h3, h4⟩
  · exact .inl h
  · exact .inr ⟨h0, h1, k.cells h2 h4 (hp h0), h3, k.lt h4⟩
theorem RowAt.elems {S : St} {v : V} {cs : List V} {n sz o : Nat} (h : RowAt S v cs n sz o) : v.elems S sz = some (n, cs) := by
  rcases h with ⟨rfl, rfl, rfl⟩ | ⟨h0, rfl, h2, h3, h4⟩
  · simp [V.elems]
  · simp only [V.elems, if_true, h2, Option.bind_some, Nat.zero_add, h3, Nat.le_refl, List.drop_zero, Option.some.injEq, Prod.mk.injEq, true_and]
    exact List.take_of_length_le (by omega)
theorem RowAt.one {S : St} {v : V} {cs : List V} {n sz o : Nat} (h : RowAt S v cs n sz o) : v.one = true := by
  rcases h with ⟨rfl, rfl, rfl⟩ | ⟨h0, rfl, h2, h3, h4⟩ <;> rfl
theorem RowAt.own {S : St} {v : V} {cs : List V} {n sz o : Nat} (h : RowAt S v cs n sz o) : v.cells = [v] := cells_one h.one
theorem RowAt.cut_hi {S : St} {v : V} {cs : List V} {n sz o k : Nat} (h : RowAt S v cs n sz o) (hk : k ≤ n) (t : Nat) :
    ∃ v', (∀ fr : Fr, (fr t).idx = some k → sliceV fr sz none (some (.t t)) none v = some v') ∧ v'.elems S sz = some (k, cs.take (k * sz)) := by
  rcases h with ⟨rfl, rfl, rfl⟩ | ⟨h0, rfl, h2, h3, h4⟩
  · have : k = 0 := by omega
    subst this
    refine ⟨.sl [] 0 sz .nil, fun fr hf => ?_, by simp [V.elems]⟩
    simp [sliceV, bounds_hi, Arg.ev, hf]
  · by_cases hk0 : k = 0
    · subst hk0
      refine ⟨.sl [] 0 sz .no, fun fr hf => ?_, by simp [V.elems]⟩
      simp [sliceV, bounds_hi, Arg.ev, hf]
    · refine ⟨.msl o (0 + 0 * sz) (k - 0) sz, fun fr hf => ?_, ?_⟩
      · simp [sliceV, bounds_hi, Arg.ev, hf, hk, hk0]
      · have : k * sz ≤ cs.length := by rw [h3]; exact Nat.mul_le_mul_right _ hk
        simp only [V.elems, if_true, h2, Option.bind_some, Nat.zero_mul, Nat.zero_add, Nat.sub_zero, this, List.drop_zero]
theorem RowAt.cut_lo {S : St} {v : V} {cs : List V} {n sz o k : Nat} (h : RowAt S v cs n sz o) (hk : k ≤ n) (t : Nat) :
    ∃ v', (∀ fr : Fr, (fr t).idx = some k → sliceV fr sz (some (.t t)) none none v = some v') ∧ v'.elems S sz = some (n - k, cs.drop (k * sz)) := by
  rcases h with ⟨rfl, rfl, rfl⟩ | ⟨h0, rfl, h2, h3, h4⟩
  · have : k = 0 := by omega
    subst this
    refine ⟨.sl [] 0 sz .nil, fun fr hf => ?_, by simp [V.elems]⟩
    simp [sliceV, bounds_lo, Arg.ev, hf]
  · by_cases hk0 : k = n
    · subst hk0
      refine ⟨.sl [] 0 sz .no, fun fr hf => ?_, ?_⟩
      · simp [sliceV, bounds_lo, Arg.ev, hf]
      · simp only [V.elems, reduceCtorEq, if_false, if_true, Nat.sub_self, List.drop_eq_nil_of_le (show cs.length ≤ k * sz by omega)]
    · refine ⟨.msl o (0 + k * sz) (n - k) sz, fun fr hf => ?_, ?_⟩
      · have : ¬ n = k := fun e => hk0 e.symm
        simp [sliceV, bounds_lo, Arg.ev, hf, hk, this]
      · have e : k * sz + (n - k) * sz = cs.length := by rw [h3, ← Nat.add_mul, Nat.add_sub_cancel' hk]
        simp only [V.elems, if_true, h2, Option.bind_some, Nat.zero_add]
        rw [if_pos (by omega), List.take_of_length_le (by rw [List.length_drop]; omega)]
theorem wi_append_row {cl : Cl} {fr : Fr} {S : St} {K : Fr → St → Prop} {Kp : V → St → Prop} {dst : Option Nat} {sz bytes : Nat} {s x : Arg} {r : List Item} {v : V} {cs xs : List V} {n m o : Nat}
    (hs : s.ev fr = v) (hv : RowAt S v cs n sz o) (hx : (x.ev fr).elems S sz = some (m, xs)) (hl : xs.length = m * sz) (hr : roomOk (n + m) bytes = true)
    (hK : ∀ v' S' o', RowAt S' v' (cs ++ xs) (n + m) sz o' → (n + m ≠ 0 → S.n ≤ o') → Keeps (fun j => n ≠ 0 ∧ j = o) S S' → wItems cl r (fr.put dst v') S' K Kp) :
    wItems cl (.run ⟨dst, none, .e (.append sz bytes true s x)⟩ :: r) fr S K Kp := by
  refine wi_e ?_
  rcases hv with ⟨rfl, rfl, rfl⟩ | ⟨h0, rfl, h2, h3, h4⟩
  · simp only [Nat.zero_add] at hr hK
    by_cases hm : m = 0
    · subst hm
      have : xs = [] := List.eq_nil_of_length_eq_zero (by simpa using hl)
      subst this
      simp only [wE, hx, hs, appendTo, hl, hr, ne_eq, not_true_eq_false, false_and, Nat.zero_add, Bool.true_eq_false, or_self, ↓reduceIte]
      exact hK _ S 0 (RowAt.nil _ _ _) (fun h => absurd rfl h) ((Keeps.refl (fun _ => False) S).mono fun _ _ h => h.elim)
    · simp only [wE, hx, hs, appendTo, hl, hr, ne_eq, not_true_eq_false, false_and, Nat.zero_add, Bool.true_eq_false, or_self, ↓reduceIte, hm, grown, List.nil_append]
      refine hK _ _ S.n (.inr ⟨hm, rfl, by rw [cells_addc, if_pos rfl, List.nil_append], by simpa using hl, by simp [St.add_n]⟩) (fun _ => Nat.le_refl _) ((Keeps.refl _ S).add _)
  · have hb : n * sz ≤ cs.length := by omega
    have ht : cs.take (n * sz) = cs := List.take_of_length_le (by omega)
    simp only [wE, hx, hs, appendTo, hl, hr, h2, ne_eq, not_true_eq_false, Bool.true_eq_false, or_self, ↓reduceIte, Option.bind_some, Nat.zero_add, hb, grown, List.drop_zero, ht]
    refine hK _ _ S.n (.inr ⟨by omega, rfl, by rw [cells_addc]; simp [St.kill], by rw [List.length_append, h3, hl, Nat.add_mul], by simp [St.add, St.kill]⟩) (fun _ => Nat.le_refl _) ?_
    exact ((Keeps.refl _ S).kill (.inl ⟨h0, rfl⟩)).add _
theorem hp_cells' {S : St} {i : Nat} {cs : List V} (h : S.cells i = some cs) : S.hp i = some (.cells cs) := by
  unfold St.cells at h
  split at h
  · rename_i x hx; injection h with h; rw [hx, h]
  · cases h
end Go.VM

/-
  The document's disk in the store: rows of cells that grow; Used, op, there, drop. NEWPP
-/
import Derived.Test.YtddjanglghgoeaaDRef
set_option maxRecDepth 20000
set_option linter.unusedVariables false
set_option linter.unusedSimpArgs false
namespace Go.VM
open Go Go.RowKit Go.Proofs

/-- A slice that is a row of cells of its own, or nil. -/
def RowAt (S : St) (v : V) (cs : List V) (n sz o : Nat) : Prop := (n = 0 ∧ v = .sl [] 0 sz .nil ∧ cs = []) ∨ (n ≠ 0 ∧ v = .msl o 0 n sz ∧ S.cells o = some cs ∧ cs.length = n * sz ∧ o < S.n)
theorem RowAt.nil (S : St) (sz o : Nat) : RowAt S (.sl [] 0 sz .nil) [] 0 sz o := .inl ⟨rfl, rfl, rfl⟩
theorem RowAt.keep {S S' : St} {v : V} {cs : List V} {n sz o : Nat} {p : Nat → Prop} (h : RowAt S v cs n sz o) (k : Keeps p S S') (hp : n ≠ 0 → ¬ p o) : RowAt S' v cs n sz o := by
  rcases h with h | ⟨h0, h1, h2, h3, h4⟩
  · exact .inl h
  · exact .inr ⟨h0, h1, k.cells h2 h4 (hp h0), h3, k.lt h4⟩
theorem RowAt.elems {S : St} {v : V} {cs : List V} {n sz o : Nat} (h : RowAt S v cs n sz o) : v.elems S sz = some (n, cs) := by
  rcases h with ⟨rfl, rfl, rfl⟩ | ⟨h0, rfl, h2, h3, h4⟩
  · simp [V.elems]
  · simp only [V.elems, if_true, h2, Option.bind_some, Nat.zero_add, h3, Nat.le_refl, List.drop_zero, Option.some.injEq, Prod.mk.injEq, true_and]
    exact List.take_of_length_le (by omega)
theorem RowAt.one {S : St} {v : V} {cs : List V} {n sz o : Nat} (h : RowAt S v cs n sz o) : v.one = true := by
  rcases h with ⟨rfl, rfl, rfl⟩ | ⟨h0, rfl, h2, h3, h4⟩ <;> rfl
theorem RowAt.own {S : St} {v : V} {cs : List V} {n sz o : Nat} (h : RowAt S v cs n sz o) : v.cells = [v] := cells_one h.one
theorem RowAt.cut_hi {S : St} {v : V} {cs : List V} {n sz o k : Nat} (h : RowAt S v cs n sz o) (hk : k ≤ n) (t : Nat) :
    ∃ v', (∀ fr : Fr, (fr t).idx = some k → sliceV fr sz none (some (.t t)) none v = some v') ∧ v'.elems S sz = some (k, cs.take (k * sz)) := by
  rcases h with ⟨rfl, rfl, rfl⟩ | ⟨h0, rfl, h2, h3, h4⟩
  · have : k = 0 := by omega
    subst this
    refine ⟨.sl [] 0 sz .nil, fun fr hf => ?_, by simp [V.elems]⟩
    simp [sliceV, bounds_hi, Arg.ev, hf]
  · by_cases hk0 : k = 0
    · subst hk0
      refine ⟨.sl [] 0 sz .no, fun fr hf => ?_, by simp [V.elems]⟩
      simp [sliceV, bounds_hi, Arg.ev, hf]
    · refine ⟨.msl o (0 + 0 * sz) (k - 0) sz, fun fr hf => ?_, ?_⟩
      · simp [sliceV, bounds_hi, Arg.ev, hf, hk, hk0]
      · have : k * sz ≤ cs.length := by rw [h3]; exact Nat.mul_le_mul_right _ hk
        simp only [V.elems, if_true, h2, Option.bind_some, Nat.zero_mul, Nat.zero_add, Nat.sub_zero, this, List.drop_zero]
theorem RowAt.cut_lo {S : St} {v : V} {cs : List V} {n sz o k : Nat} (h : RowAt S v cs n sz o) (hk : k ≤ n) (t : Nat) :
    ∃ v', (∀ fr : Fr, (fr t).idx = some k → sliceV fr sz (some (.t t)) none none v = some v') ∧ v'.elems S sz = some (n - k, cs.drop (k * sz)) := by
  rcases h with ⟨rfl, rfl, rfl⟩ | ⟨h0, rfl, h2, h3, h4⟩
  · have : k = 0 := by omega
    subst this
    refine ⟨.sl [] 0 sz .nil, fun fr hf => ?_, by simp [V.elems]⟩
    simp [sliceV, bounds_lo, Arg.ev, hf]
  · by_cases hk0 : k = n
    · subst hk0
      refine ⟨.sl [] 0 sz .no, fun fr hf => ?_, ?_⟩
      · simp [sliceV, bounds_lo, Arg.ev, hf]
      · simp only [V.elems, reduceCtorEq, if_false, if_true, Nat.sub_self, List.drop_eq_nil_of_le (show cs.length ≤ k * sz by omega)]
    · refine ⟨.msl o (0 + k * sz) (n - k) sz, fun fr hf => ?_, ?_⟩
      · have : ¬ n = k := fun e => hk0 e.symm
        simp [sliceV, bounds_lo, Arg.ev, hf, hk, this]
      · have e : k * sz + (n - k) * sz = cs.length := by rw [h3, ← Nat.add_mul, Nat.add_sub_cancel' hk]
        simp only [V.elems, if_true, h2, Option.bind_some, Nat.zero_add]
        rw [if_pos (by omega), List.take_of_length_le (by rw [List.length_drop]; omega)]
theorem wi_append_row {cl : Cl} {fr : Fr} {S : St} {K : Fr → St → Prop} {Kp : V → St → Prop} {dst : Option Nat} {sz bytes : Nat} {s x : Arg} {r : List Item} {v : V} {cs xs : List V} {n m o : Nat}
    (hs : s.ev fr = v) (hv : RowAt S v cs n sz o) (hx : (x.ev fr).elems S sz = some (m, xs)) (hl : xs.length = m * sz) (hr : roomOk (n + m) bytes = true)
    (hK : ∀ v' S' o', RowAt S' v' (cs ++ xs) (n + m) sz o' → (n + m ≠ 0 → S.n ≤ o') → Keeps (fun j => n ≠ 0 ∧ j = o) S S' → wItems cl r (fr.put dst v') S' K Kp) :
    wItems cl (.run ⟨dst, none, .e (.append sz bytes true s x)⟩ :: r) fr S K Kp := by
  refine wi_e ?_
  rcases hv with ⟨rfl, rfl, rfl⟩ | ⟨h0, rfl, h2, h3, h4⟩
  · simp only [Nat.zero_add] at hr hK
    by_cases hm : m = 0
    · subst hm
      have : xs = [] := List.eq_nil_of_length_eq_zero (by simpa using hl)
      subst this
      simp only [wE, hx, hs, appendTo, hl, hr, ne_eq, not_true_eq_false, false_and, Nat.zero_add, Bool.true_eq_false, or_self, ↓reduceIte]
      exact hK _ S 0 (RowAt.nil _ _ _) (fun h => absurd rfl h) ((Keeps.refl (fun _ => False) S).mono fun _ _ h => h.elim)
    · simp only [wE, hx, hs, appendTo, hl, hr, ne_eq, not_true_eq_false, false_and, Nat.zero_add, Bool.true_eq_false, or_self, ↓reduceIte, hm, grown, List.nil_append]
      refine hK _ _ S.n (.inr ⟨hm, rfl, by rw [cells_addc, if_pos rfl, List.nil_append], by simpa using hl, by simp [St.add_n]⟩) (fun _ => Nat.le_refl _) ((Keeps.refl _ S).add _)
  · have hb : n * sz ≤ cs.length := by omega
    have ht : cs.take (n * sz) = cs := List.take_of_length_le (by omega)
    simp only [wE, hx, hs, appendTo, hl, hr, h2, ne_eq, not_true_eq_false, Bool.true_eq_false, or_self, ↓reduceIte, Option.bind_some, Nat.zero_add, hb, grown, List.drop_zero, ht]
    refine hK _ _ S.n (.inr ⟨by omega, rfl, by rw [cells_addc]; simp [St.kill], by rw [List.length_append, h3, hl, Nat.add_mul], by simp [St.add, St.kill]⟩) (fun _ => Nat.le_refl _) ?_
    exact ((Keeps.refl _ S).kill (.inl ⟨h0, rfl⟩)).add _

theorem IsBytes.cutHi {v : V} {bs : List UInt8} (h : IsBytes v bs) {n : Nat} (hn : n ≤ bs.length) (k : Nat) : ∃ v', (∀ fr : Fr, (fr k).idx = some n → sliceV fr 1 none (some (.t k)) none v = some v') ∧ IsBytes v' (bs.take n) := by
  obtain ⟨t, rfl, ht⟩ := h
  by_cases h0 : t = .nil
  · have := ht h0
    subst this; subst h0
    have hn : n ≤ 0 := by simpa using hn
    refine ⟨.sl [] 0 1 .nil, fun fr hf => ?_, by simpa using isBytes_nil⟩
    simp only [sliceV, bounds_hi, Arg.ev, hf, Option.bind_some, List.length_nil, hn, if_true, List.map_nil, Option.isSome_none, Bool.false_eq_true, if_false]
  · refine ⟨.sl ((bs.take n).map u8V) n 1 (if n = bs.length then t else .no), fun fr hf => ?_, ?_⟩
    · simp only [sliceV, bounds_hi, Arg.ev, hf, Option.bind_some, hn, if_true, if_false, h0, ne_eq, not_true_eq_false, Nat.zero_mul, List.drop_zero, Nat.sub_zero, Nat.mul_one, List.map_take]
    · have e : (bs.take n).length = n := by rw [List.length_take]; omega
      have := isBytes_mk (bs.take n) (t := if n = bs.length then t else .no) (by split <;> simp [h0])
      rw [e] at this
      exact this

theorem RefAt.rowAt {S : St} {x o : Nat} {R : RS} (h : RefAt S x o R) : RowAt S (rowV o R.l.length) (R.l.flatMap RF.cell) R.l.length 3 o := by
  by_cases h0 : R.l = []
  · exact .inl ⟨by simp [h0], by simp [rowV, h0], by simp [h0]⟩
  · have : R.l.length ≠ 0 := fun e => h0 (List.eq_nil_of_length_eq_zero e)
    exact .inr ⟨this, by simp [rowV, this], h.row h0, fm_len RF.len _, h.olt h0⟩
/-- The row is another one. -/
theorem RefAt.put {S S' : St} {x o o' : Nat} {R : RS} {l : List RF} {v : V} {p : Nat → Prop} (h : RefAt S x o R) (k : Keeps p S S') (hx : ¬ p x) (hv : RowAt S' v (l.flatMap RF.cell) l.length 3 o') (ho : l.length ≠ 0 → o' ≠ x) (hok : ∀ f ∈ l, IsBytes f.v f.p) :
    S'.cells x = some (R.cells o) ∧ RefAt (S'.set x (.cells (({ R with l := l } : RS).cells o'))) x o' { R with l := l } ∧ v = rowV o' l.length := by
  have hc := k.cells h.head h.lt hx
  have hvv : v = rowV o' l.length := by
    rcases hv with ⟨e, rfl, _⟩ | ⟨e, rfl, _⟩
    · simp [rowV, e]
    · simp [rowV, e]
  refine ⟨hc, ⟨by rw [cells_setc, if_pos rfl], k.lt h.lt, fun e => ?_, fun e => ?_, fun e => ?_, hok⟩, hvv⟩
  all_goals
    have e : l ≠ [] := e
    have e0 : l.length ≠ 0 := fun h => e (List.eq_nil_of_length_eq_zero h)
    rcases hv with ⟨e1, _⟩ | ⟨_, _, h2, h3, h4⟩
    · exact absurd e1 e0
  · rw [cells_setc, if_neg (ho e0)]; exact h2
  · exact h4
  · exact ho e0

def sumR (l : List RF) : Nat := (l.map fun f => f.p.length).sum
theorem IsBytes.cells1 {v : V} {bs : List UInt8} (h : IsBytes v bs) : v.cells = [v] := by obtain ⟨t, rfl, _⟩ := h; rfl
theorem IsBytes.lenE {v : V} {bs : List UInt8} (h : IsBytes v bs) : ∃ cs t, v = .sl cs bs.length 1 t := h.len
theorem refUsed_runs {w0 : World} {S : St} {Q : AEnd → St → Prop} {x o : Nat} {R : RS} (h : RefAt S x o R) (hl : R.l.length ≤ 1000000) (hs : sumR R.l ≤ 1000000000) (hQ : Q (.ret (.int .i64 (sumR R.l : Nat))) S) :
    RSim Try.prog w0 n_r02_Disk_Used [.ptr (some (x, 0))] S Q := by
  refine RSim.run mixed k_r02_Disk_Used ?_ (by simp)
  simp only [b_r02_Disk_Used, go_sem, Nat.reduceEqDiff, Nat.reduceAdd, Nat.reduceMul, Nat.reduceSub, Nat.reduceLeDiff, Int.reduceBEq, Int.reduceBNe, Int.reduceLT, Int.reduceLE, Int.reduceGT, Int.reduceGE, Int.reduceEq, ↓reduceIte, reduceCtorEq]
  refine loop_rule RSim.le (k := R.l.length) (fun m fr S1 => ∃ j : Nat, m = R.l.length - j ∧ j ≤ R.l.length ∧ S1 = S ∧ fr 0 = .ptr (some (x, 0)) ∧ fr 4 = .int .i64 j ∧ fr 3 = .int .i64 (sumR (R.l.take j) : Nat)) ?_
    ⟨0, rfl, Nat.zero_le _, rfl, by simp only [go_sem, Nat.reduceEqDiff, Nat.reduceAdd, Nat.reduceMul, Nat.reduceSub, Nat.reduceLeDiff, Int.reduceBEq, Int.reduceBNe, Int.reduceLT, Int.reduceLE, Int.reduceGT, Int.reduceGE, Int.reduceEq, ↓reduceIte, reduceCtorEq], by simp only [go_sem, Nat.reduceEqDiff, Nat.reduceAdd, Nat.reduceMul, Nat.reduceSub, Nat.reduceLeDiff, Int.reduceBEq, Int.reduceBNe, Int.reduceLT, Int.reduceLE, Int.reduceGT, Int.reduceGE, Int.reduceEq, ↓reduceIte, reduceCtorEq]; rfl, by simp only [go_sem, Nat.reduceEqDiff, Nat.reduceAdd, Nat.reduceMul, Nat.reduceSub, Nat.reduceLeDiff, Int.reduceBEq, Int.reduceBNe, Int.reduceLT, Int.reduceLE, Int.reduceGT, Int.reduceGE, Int.reduceEq, ↓reduceIte, reduceCtorEq]; rfl⟩
  rintro m fr S1 ⟨j, hm, hj, rfl, f0, f4, f3⟩
  by_cases hlt : j < R.l.length
  · have hf : R.l[j]? = some (R.l[j]'hlt) := List.getElem?_eq_getElem hlt
    generalize R.l[j]'hlt = f at hf
    obtain ⟨r, hn0, hrow, hcs, _, _, hd1, _⟩ := h.nth hf
    obtain ⟨cs, t, hfv⟩ := (h.ok f (List.mem_of_getElem? hf)).lenE
    have hsum : sumR (R.l.take (j + 1)) = sumR (R.l.take j) + f.p.length := by
      unfold sumR
      rw [List.take_add_one, hf]
      simp
    have hle : sumR (R.l.take (j + 1)) ≤ sumR R.l := by
      unfold sumR
      rw [List.map_take]
      conv => rhs; rw [← List.take_append_drop (j + 1) (R.l.map fun f => f.p.length), List.sum_append]
      omega
    have w1 : IntKind.i64.wrap ((j : Int) + 1) = ((j + 1 : Nat) : Int) := by rw [w64 (by omega) (by omega)]; omega
    have w2 : IntKind.i64.wrap ((sumR (R.l.take j) : Nat) + (f.p.length : Int)) = ((sumR (R.l.take (j + 1)) : Nat) : Int) := by rw [w64 (by omega) (by omega), hsum]; omega
    have hjt : (j < R.l.length) = True := eq_true hlt
    rw [hfv] at hd1
    simp only [l_r02_Disk_Used_0, go_sem, Nat.reduceEqDiff, Nat.reduceAdd, Nat.reduceMul, Nat.reduceSub, Nat.reduceLeDiff, Int.reduceBEq, Int.reduceBNe, Int.reduceLT, Int.reduceLE, Int.reduceGT, Int.reduceGE, Int.reduceEq, ↓reduceIte, reduceCtorEq, f0, f3, f4, h.head, RS.cells, hrow]
    refine wc_ite (b := decide ((j : Int) < (R.l.length : Int))) (by simp only [go_sem, Nat.reduceEqDiff, Nat.reduceAdd, Nat.reduceMul, Nat.reduceSub, Nat.reduceLeDiff, Int.reduceBEq, Int.reduceBNe, Int.reduceLT, Int.reduceLE, Int.reduceGT, Int.reduceGE, Int.reduceEq, ↓reduceIte, reduceCtorEq]) (fun hc => ?_) (fun hc => ?_)
    · simp only [go_sem, Nat.reduceEqDiff, Nat.reduceAdd, Nat.reduceMul, Nat.reduceSub, Nat.reduceLeDiff, Int.reduceBEq, Int.reduceBNe, Int.reduceLT, Int.reduceLE, Int.reduceGT, Int.reduceGE, Int.reduceEq, ↓reduceIte, reduceCtorEq, f0, f3, f4, h.head, RS.cells, hrow, hcs, hjt, hd1, List.cons_append, w1, w2]
      exact ⟨R.l.length - (j + 1), by omega, j + 1, rfl, by omega, rfl, rfl⟩
    · have := of_decide_eq_false hc; omega
  · have e : j = R.l.length := by omega
    subst e
    rw [List.take_length] at f3
    have hcond : decide ((R.l.length : Int) < (R.l.length : Int)) = false := decide_eq_false (by omega)
    have hlen := rowV_len o R.l.length S1
    by_cases h0 : R.l.length = 0
    · simp only [l_r02_Disk_Used_0, go_sem, Nat.reduceEqDiff, Nat.reduceAdd, Nat.reduceMul, Nat.reduceSub, Nat.reduceLeDiff, Int.reduceBEq, Int.reduceBNe, Int.reduceLT, Int.reduceLE, Int.reduceGT, Int.reduceGE, Int.reduceEq, ↓reduceIte, reduceCtorEq, f0, f3, f4, h.head, RS.cells, h0, rowV]
      refine wc_ite (b := false) (by simp only [go_sem, Nat.reduceEqDiff, Nat.reduceAdd, Nat.reduceMul, Nat.reduceSub, Nat.reduceLeDiff, Int.reduceBEq, Int.reduceBNe, Int.reduceLT, Int.reduceLE, Int.reduceGT, Int.reduceGE, Int.reduceEq, ↓reduceIte, reduceCtorEq] <;> rfl) (fun h => by cases h) (fun _ => ?_)
      simp only [go_sem, Nat.reduceEqDiff, Nat.reduceAdd, Nat.reduceMul, Nat.reduceSub, Nat.reduceLeDiff, Int.reduceBEq, Int.reduceBNe, Int.reduceLT, Int.reduceLE, Int.reduceGT, Int.reduceGE, Int.reduceEq, ↓reduceIte, reduceCtorEq, f3]
      exact hQ
    · simp only [l_r02_Disk_Used_0, go_sem, Nat.reduceEqDiff, Nat.reduceAdd, Nat.reduceMul, Nat.reduceSub, Nat.reduceLeDiff, Int.reduceBEq, Int.reduceBNe, Int.reduceLT, Int.reduceLE, Int.reduceGT, Int.reduceGE, Int.reduceEq, ↓reduceIte, reduceCtorEq, f0, f3, f4, h.head, RS.cells, h0, rowV]
      refine wc_ite (b := decide ((R.l.length : Int) < (R.l.length : Int))) (by simp only [go_sem, Nat.reduceEqDiff, Nat.reduceAdd, Nat.reduceMul, Nat.reduceSub, Nat.reduceLeDiff, Int.reduceBEq, Int.reduceBNe, Int.reduceLT, Int.reduceLE, Int.reduceGT, Int.reduceGE, Int.reduceEq, ↓reduceIte, reduceCtorEq]) (fun hc => ?_) (fun hc => ?_)
      · rw [hcond] at hc; cases hc
      · simp only [go_sem, Nat.reduceEqDiff, Nat.reduceAdd, Nat.reduceMul, Nat.reduceSub, Nat.reduceLeDiff, Int.reduceBEq, Int.reduceBNe, Int.reduceLT, Int.reduceLE, Int.reduceGT, Int.reduceGE, Int.reduceEq, ↓reduceIte, reduceCtorEq, f3]
        exact hQ

def RS.begun (R : RS) : RS := { R with ops := IntKind.i64.wrap (R.ops + 1), arm := if R.arm > 0 then IntKind.i64.wrap (R.arm - 1) else R.arm, off := decide (R.arm > 0) && IntKind.i64.wrap (R.arm - 1) == 0 }
theorem RefAt.head' {S : St} {x o : Nat} {R R' : RS} (h : RefAt S x o R) (hl : R'.l = R.l) : RefAt (S.set x (.cells (R'.cells o))) x o R' := by
  refine ⟨by rw [cells_setc, if_pos rfl], h.lt, fun e => ?_, fun e => h.olt (hl ▸ e), fun e => h.ne (hl ▸ e), fun f hf => h.ok f (hl ▸ hf)⟩
  rw [cells_setc, if_neg (h.ne (hl ▸ e)), hl]
  exact h.row (hl ▸ e)
theorem refOp_runs {w0 : World} {S : St} {Q : AEnd → St → Prop} {x o : Nat} {R : RS} (h : RefAt S x o R) (hoff : R.off = false)
    (hQ : ∀ S', RefAt S' x o R.begun → Keeps (fun j => j = x) S S' → Q (.ret (.bool R.begun.off)) S') : RSim Try.prog w0 n_r02_Disk_op [.ptr (some (x, 0))] S Q := by
  have h1 := h.head
  have hb := h.head' (R' := R.begun) rfl
  have kb := Keeps.set1 S x (.cells (R.begun.cells o))
  refine RSim.run mixed k_r02_Disk_op ?_ (by simp)
  simp only [b_r02_Disk_op, go_sem, Nat.reduceEqDiff, Nat.reduceAdd, Nat.reduceMul, Nat.reduceSub, Nat.reduceLeDiff, Int.reduceBEq, Int.reduceBNe, Int.reduceLT, Int.reduceLE, Int.reduceGT, Int.reduceGE, Int.reduceEq, ↓reduceIte, reduceCtorEq, h1, RS.cells]
  by_cases ha : R.arm > 0
  · simp only [ha, go_sem, Nat.reduceEqDiff, Nat.reduceAdd, Nat.reduceMul, Nat.reduceSub, Nat.reduceLeDiff, Int.reduceBEq, Int.reduceBNe, Int.reduceLT, Int.reduceLE, Int.reduceGT, Int.reduceGE, Int.reduceEq, ↓reduceIte, reduceCtorEq]
    refine wc_ite (b := true) (by simp only [go_sem, Nat.reduceEqDiff, Nat.reduceAdd, Nat.reduceMul, Nat.reduceSub, Nat.reduceLeDiff, Int.reduceBEq, Int.reduceBNe, Int.reduceLT, Int.reduceLE, Int.reduceGT, Int.reduceGE, Int.reduceEq, ↓reduceIte, reduceCtorEq] <;> rfl) (fun _ => ?_) (fun h => by cases h)
    simp only [go_sem, Nat.reduceEqDiff, Nat.reduceAdd, Nat.reduceMul, Nat.reduceSub, Nat.reduceLeDiff, Int.reduceBEq, Int.reduceBNe, Int.reduceLT, Int.reduceLE, Int.reduceGT, Int.reduceGE, Int.reduceEq, ↓reduceIte, reduceCtorEq]
    by_cases hz : IntKind.i64.wrap (R.arm - 1) = 0
    · have e : (IntKind.i64.wrap (R.arm - 1) == 0) = true := by simpa using hz
      simp only [hz, go_sem, Nat.reduceEqDiff, Nat.reduceAdd, Nat.reduceMul, Nat.reduceSub, Nat.reduceLeDiff, Int.reduceBEq, Int.reduceBNe, Int.reduceLT, Int.reduceLE, Int.reduceGT, Int.reduceGE, Int.reduceEq, ↓reduceIte, reduceCtorEq]
      refine wc_ite (b := true) (by simp only [go_sem, Nat.reduceEqDiff, Nat.reduceAdd, Nat.reduceMul, Nat.reduceSub, Nat.reduceLeDiff, Int.reduceBEq, Int.reduceBNe, Int.reduceLT, Int.reduceLE, Int.reduceGT, Int.reduceGE, Int.reduceEq, ↓reduceIte, reduceCtorEq] <;> rfl) (fun _ => ?_) (fun h => by cases h)
      simp only [go_sem, Nat.reduceEqDiff, Nat.reduceAdd, Nat.reduceMul, Nat.reduceSub, Nat.reduceLeDiff, Int.reduceBEq, Int.reduceBNe, Int.reduceLT, Int.reduceLE, Int.reduceGT, Int.reduceGE, Int.reduceEq, ↓reduceIte, reduceCtorEq]
      have hq := hQ _ hb kb
      simp only [RS.cells, RS.begun, ha, decide_true, Bool.true_and, if_true, e, hz] at hq
      exact hq
    · have e : (IntKind.i64.wrap (R.arm - 1) == 0) = false := by simpa using hz
      simp only [e, go_sem, Nat.reduceEqDiff, Nat.reduceAdd, Nat.reduceMul, Nat.reduceSub, Nat.reduceLeDiff, Int.reduceBEq, Int.reduceBNe, Int.reduceLT, Int.reduceLE, Int.reduceGT, Int.reduceGE, Int.reduceEq, ↓reduceIte, reduceCtorEq]
      refine wc_ite (b := false) (by simp only [go_sem, Nat.reduceEqDiff, Nat.reduceAdd, Nat.reduceMul, Nat.reduceSub, Nat.reduceLeDiff, Int.reduceBEq, Int.reduceBNe, Int.reduceLT, Int.reduceLE, Int.reduceGT, Int.reduceGE, Int.reduceEq, ↓reduceIte, reduceCtorEq] <;> rfl) (fun h => by cases h) (fun _ => ?_)
      simp only [go_sem, Nat.reduceEqDiff, Nat.reduceAdd, Nat.reduceMul, Nat.reduceSub, Nat.reduceLeDiff, Int.reduceBEq, Int.reduceBNe, Int.reduceLT, Int.reduceLE, Int.reduceGT, Int.reduceGE, Int.reduceEq, ↓reduceIte, reduceCtorEq]
      have hq := hQ _ hb kb
      simp only [RS.cells, RS.begun, ha, decide_true, Bool.true_and, if_true, e] at hq
      simp only [hoff]
      exact hq
  · simp only [ha, go_sem, Nat.reduceEqDiff, Nat.reduceAdd, Nat.reduceMul, Nat.reduceSub, Nat.reduceLeDiff, Int.reduceBEq, Int.reduceBNe, Int.reduceLT, Int.reduceLE, Int.reduceGT, Int.reduceGE, Int.reduceEq, ↓reduceIte, reduceCtorEq]
    refine wc_ite (b := false) (by simp only [go_sem, Nat.reduceEqDiff, Nat.reduceAdd, Nat.reduceMul, Nat.reduceSub, Nat.reduceLeDiff, Int.reduceBEq, Int.reduceBNe, Int.reduceLT, Int.reduceLE, Int.reduceGT, Int.reduceGE, Int.reduceEq, ↓reduceIte, reduceCtorEq] <;> rfl) (fun h => by cases h) (fun _ => ?_)
    simp only [go_sem, Nat.reduceEqDiff, Nat.reduceAdd, Nat.reduceMul, Nat.reduceSub, Nat.reduceLeDiff, Int.reduceBEq, Int.reduceBNe, Int.reduceLT, Int.reduceLE, Int.reduceGT, Int.reduceGE, Int.reduceEq, ↓reduceIte, reduceCtorEq]
    have hq := hQ _ hb kb
    simp only [RS.cells, RS.begun, ha, hoff, decide_false, Bool.false_and, if_false] at hq
    simp only [hoff]
    exact hq

def RS.thereE (R : RS) (s : List UInt8) : Int := if nameOk s = false then 1 else if R.off = true then 10 else 8
theorem refThere_runs {w0 : World} {S : St} {Q : AEnd → St → Prop} {x o : Nat} {R : RS} {s : List UInt8} (h : RefAt S x o R) (hl : R.l.length ≤ 1000000) (hs : s.length ≤ 1000000000000000)
    (hQ : ∀ (j : Nat) (f : RF), nameOk s = true → R.off = false → R.l[j]? = some f → f.name = s → (∀ (i : Nat) (g : RF), i < j → R.l[i]? = some g → g.name ≠ s) → Q (.ret (.int .i64 0)) S)
    (hQ' : (nameOk s = false ∨ R.off = true ∨ ∀ f ∈ R.l, f.name ≠ s) → Q (.ret (.int .i64 (R.thereE s))) S) : RSim Try.prog w0 n_r02_Disk_there [.ptr (some (x, 0)), .str (mkS s)] S Q := by
  have h1 := h.head
  refine RSim.run mixed k_r02_Disk_there ?_ (by simp)
  simp only [b_r02_Disk_there, go_sem, Nat.reduceEqDiff, Nat.reduceAdd, Nat.reduceMul, Nat.reduceSub, Nat.reduceLeDiff, Int.reduceBEq, Int.reduceBNe, Int.reduceLT, Int.reduceLE, Int.reduceGT, Int.reduceGE, Int.reduceEq, ↓reduceIte, reduceCtorEq]
  refine wi_call ?_
  simp only [go_sem, Nat.reduceEqDiff, Nat.reduceAdd, Nat.reduceMul, Nat.reduceSub, Nat.reduceLeDiff, Int.reduceBEq, Int.reduceBNe, Int.reduceLT, Int.reduceLE, Int.reduceGT, Int.reduceGE, Int.reduceEq, ↓reduceIte, reduceCtorEq]
  refine refName_runs hs ?_
  simp only [go_sem, Nat.reduceEqDiff, Nat.reduceAdd, Nat.reduceMul, Nat.reduceSub, Nat.reduceLeDiff, Int.reduceBEq, Int.reduceBNe, Int.reduceLT, Int.reduceLE, Int.reduceGT, Int.reduceGE, Int.reduceEq, ↓reduceIte, reduceCtorEq]
  by_cases hn : nameOk s = true
  · simp only [RS.thereE, hn, if_false, reduceCtorEq] at hQ'
    simp only [hn, go_sem, Nat.reduceEqDiff, Nat.reduceAdd, Nat.reduceMul, Nat.reduceSub, Nat.reduceLeDiff, Int.reduceBEq, Int.reduceBNe, Int.reduceLT, Int.reduceLE, Int.reduceGT, Int.reduceGE, Int.reduceEq, ↓reduceIte, reduceCtorEq]
    refine wc_ite (b := false) (by simp only [go_sem, Nat.reduceEqDiff, Nat.reduceAdd, Nat.reduceMul, Nat.reduceSub, Nat.reduceLeDiff, Int.reduceBEq, Int.reduceBNe, Int.reduceLT, Int.reduceLE, Int.reduceGT, Int.reduceGE, Int.reduceEq, ↓reduceIte, reduceCtorEq] <;> rfl) (fun h => by cases h) (fun _ => ?_)
    simp only [go_sem, Nat.reduceEqDiff, Nat.reduceAdd, Nat.reduceMul, Nat.reduceSub, Nat.reduceLeDiff, Int.reduceBEq, Int.reduceBNe, Int.reduceLT, Int.reduceLE, Int.reduceGT, Int.reduceGE, Int.reduceEq, ↓reduceIte, reduceCtorEq, h1, RS.cells]
    refine wc_ite (b := R.off) (by simp only [go_sem, Nat.reduceEqDiff, Nat.reduceAdd, Nat.reduceMul, Nat.reduceSub, Nat.reduceLeDiff, Int.reduceBEq, Int.reduceBNe, Int.reduceLT, Int.reduceLE, Int.reduceGT, Int.reduceGE, Int.reduceEq, ↓reduceIte, reduceCtorEq]) (fun hc => ?_) (fun hc => ?_)
    · simp only [go_sem, Nat.reduceEqDiff, Nat.reduceAdd, Nat.reduceMul, Nat.reduceSub, Nat.reduceLeDiff, Int.reduceBEq, Int.reduceBNe, Int.reduceLT, Int.reduceLE, Int.reduceGT, Int.reduceGE, Int.reduceEq, ↓reduceIte, reduceCtorEq]
      rw [if_pos hc] at hQ'
      exact hQ' (.inr (.inl hc))
    · have hoff : R.off = false := hc
      rw [if_neg (by rw [hc]; simp)] at hQ'
      simp only [go_sem, Nat.reduceEqDiff, Nat.reduceAdd, Nat.reduceMul, Nat.reduceSub, Nat.reduceLeDiff, Int.reduceBEq, Int.reduceBNe, Int.reduceLT, Int.reduceLE, Int.reduceGT, Int.reduceGE, Int.reduceEq, ↓reduceIte, reduceCtorEq]
      refine wi_call ?_
      simp only [go_sem, Nat.reduceEqDiff, Nat.reduceAdd, Nat.reduceMul, Nat.reduceSub, Nat.reduceLeDiff, Int.reduceBEq, Int.reduceBNe, Int.reduceLT, Int.reduceLE, Int.reduceGT, Int.reduceGE, Int.reduceEq, ↓reduceIte, reduceCtorEq]
      refine refAt_runs h hl (fun j f hf hfs hno => ?_) fun hno => ?_
      · simp only [go_sem, Nat.reduceEqDiff, Nat.reduceAdd, Nat.reduceMul, Nat.reduceSub, Nat.reduceLeDiff, Int.reduceBEq, Int.reduceBNe, Int.reduceLT, Int.reduceLE, Int.reduceGT, Int.reduceGE, Int.reduceEq, ↓reduceIte, reduceCtorEq]
        refine wc_ite (b := decide ((j : Int) < 0)) (by simp only [go_sem, Nat.reduceEqDiff, Nat.reduceAdd, Nat.reduceMul, Nat.reduceSub, Nat.reduceLeDiff, Int.reduceBEq, Int.reduceBNe, Int.reduceLT, Int.reduceLE, Int.reduceGT, Int.reduceGE, Int.reduceEq, ↓reduceIte, reduceCtorEq]) (fun hc => ?_) (fun hc => ?_)
        · have := of_decide_eq_true hc; omega
        · simp only [go_sem, Nat.reduceEqDiff, Nat.reduceAdd, Nat.reduceMul, Nat.reduceSub, Nat.reduceLeDiff, Int.reduceBEq, Int.reduceBNe, Int.reduceLT, Int.reduceLE, Int.reduceGT, Int.reduceGE, Int.reduceEq, ↓reduceIte, reduceCtorEq]
          exact hQ j f hn hoff hf hfs hno
      · simp only [go_sem, Nat.reduceEqDiff, Nat.reduceAdd, Nat.reduceMul, Nat.reduceSub, Nat.reduceLeDiff, Int.reduceBEq, Int.reduceBNe, Int.reduceLT, Int.reduceLE, Int.reduceGT, Int.reduceGE, Int.reduceEq, ↓reduceIte, reduceCtorEq]
        refine wc_ite (b := true) (by simp only [go_sem, Nat.reduceEqDiff, Nat.reduceAdd, Nat.reduceMul, Nat.reduceSub, Nat.reduceLeDiff, Int.reduceBEq, Int.reduceBNe, Int.reduceLT, Int.reduceLE, Int.reduceGT, Int.reduceGE, Int.reduceEq, ↓reduceIte, reduceCtorEq] <;> rfl) (fun _ => ?_) (fun h => by cases h)
        simp only [go_sem, Nat.reduceEqDiff, Nat.reduceAdd, Nat.reduceMul, Nat.reduceSub, Nat.reduceLeDiff, Int.reduceBEq, Int.reduceBNe, Int.reduceLT, Int.reduceLE, Int.reduceGT, Int.reduceGE, Int.reduceEq, ↓reduceIte, reduceCtorEq]
        exact hQ' (.inr (.inr hno))
  · have hn : nameOk s = false := by simpa using hn
    simp only [RS.thereE, hn, if_true] at hQ'
    simp only [hn, go_sem, Nat.reduceEqDiff, Nat.reduceAdd, Nat.reduceMul, Nat.reduceSub, Nat.reduceLeDiff, Int.reduceBEq, Int.reduceBNe, Int.reduceLT, Int.reduceLE, Int.reduceGT, Int.reduceGE, Int.reduceEq, ↓reduceIte, reduceCtorEq]
    refine wc_ite (b := true) (by simp only [go_sem, Nat.reduceEqDiff, Nat.reduceAdd, Nat.reduceMul, Nat.reduceSub, Nat.reduceLeDiff, Int.reduceBEq, Int.reduceBNe, Int.reduceLT, Int.reduceLE, Int.reduceGT, Int.reduceGE, Int.reduceEq, ↓reduceIte, reduceCtorEq] <;> rfl) (fun _ => ?_) (fun h => by cases h)
    simp only [go_sem, Nat.reduceEqDiff, Nat.reduceAdd, Nat.reduceMul, Nat.reduceSub, Nat.reduceLeDiff, Int.reduceBEq, Int.reduceBNe, Int.reduceLT, Int.reduceLE, Int.reduceGT, Int.reduceGE, Int.reduceEq, ↓reduceIte, reduceCtorEq]
    exact hQ' (.inl trivial)

def dropR (s : List UInt8) (l : List RF) : List RF := l.filter fun f => decide (f.name ≠ s)
theorem refDrop_runs {w0 : World} {S : St} {Q : AEnd → St → Prop} {x o : Nat} {R : RS} {s : List UInt8} (h : RefAt S x o R) (hl : R.l.length ≤ 1000000)
    (hQ : ∀ S' o', RefAt S' x o' { R with l := dropR s R.l } → Keeps (fun j => j = x) S S' → (dropR s R.l ≠ [] → S.n ≤ o') → Q (.ret (.tup [])) S') : RSim Try.prog w0 n_r02_Disk_drop [.ptr (some (x, 0)), .str (mkS s)] S Q := by
  refine RSim.run mixed k_r02_Disk_drop ?_ (by simp)
  simp only [b_r02_Disk_drop, go_sem, Nat.reduceEqDiff, Nat.reduceAdd, Nat.reduceMul, Nat.reduceSub, Nat.reduceLeDiff, Int.reduceBEq, Int.reduceBNe, Int.reduceLT, Int.reduceLE, Int.reduceGT, Int.reduceGE, Int.reduceEq, ↓reduceIte, reduceCtorEq]
  refine loop_rule RSim.le (k := R.l.length) (fun m fr S1 => ∃ (j o1 : Nat) (v : V), m = R.l.length - j ∧ j ≤ R.l.length ∧ fr 0 = .ptr (some (x, 0)) ∧ fr 1 = .str (mkS s) ∧ fr 5 = .int .i64 j ∧ fr 4 = v ∧
      RowAt S1 v ((dropR s (R.l.take j)).flatMap RF.cell) (dropR s (R.l.take j)).length 3 o1 ∧ ((dropR s (R.l.take j)).length ≠ 0 → S.n ≤ o1) ∧ Keeps (fun _ => False) S S1) ?_
    ⟨0, 0, _, rfl, Nat.zero_le _, by simp only [go_sem, Nat.reduceEqDiff, Nat.reduceAdd, Nat.reduceMul, Nat.reduceSub, Nat.reduceLeDiff, Int.reduceBEq, Int.reduceBNe, Int.reduceLT, Int.reduceLE, Int.reduceGT, Int.reduceGE, Int.reduceEq, ↓reduceIte, reduceCtorEq], by simp only [go_sem, Nat.reduceEqDiff, Nat.reduceAdd, Nat.reduceMul, Nat.reduceSub, Nat.reduceLeDiff, Int.reduceBEq, Int.reduceBNe, Int.reduceLT, Int.reduceLE, Int.reduceGT, Int.reduceGE, Int.reduceEq, ↓reduceIte, reduceCtorEq], by simp only [go_sem, Nat.reduceEqDiff, Nat.reduceAdd, Nat.reduceMul, Nat.reduceSub, Nat.reduceLeDiff, Int.reduceBEq, Int.reduceBNe, Int.reduceLT, Int.reduceLE, Int.reduceGT, Int.reduceGE, Int.reduceEq, ↓reduceIte, reduceCtorEq]; rfl, by simp only [go_sem, Nat.reduceEqDiff, Nat.reduceAdd, Nat.reduceMul, Nat.reduceSub, Nat.reduceLeDiff, Int.reduceBEq, Int.reduceBNe, Int.reduceLT, Int.reduceLE, Int.reduceGT, Int.reduceGE, Int.reduceEq, ↓reduceIte, reduceCtorEq], RowAt.nil _ _ _, fun h => absurd rfl h, Keeps.refl _ _⟩
  rintro m fr S1 ⟨j, o1, v, hm, hj, f0, f1, f5, f4, hv, ho1, k1⟩
  have h1 := h.stay k1
  by_cases hlt : j < R.l.length
  · have hf : R.l[j]? = some (R.l[j]'hlt) := List.getElem?_eq_getElem hlt
    generalize R.l[j]'hlt = f at hf
    obtain ⟨r, hn0, hrow, hcs, _, hd0, _, _⟩ := h1.nth hf
    have hfv := h.ok f (List.mem_of_getElem? hf)
    have w1 : IntKind.i64.wrap ((j : Int) + 1) = ((j + 1 : Nat) : Int) := by rw [w64 (by omega) (by omega)]; omega
    have hjt : (j < R.l.length) = True := eq_true hlt
    have htk : R.l.take (j + 1) = R.l.take j ++ [f] := by rw [List.take_add_one, hf]; rfl
    simp only [l_r02_Disk_drop_0, go_sem, Nat.reduceEqDiff, Nat.reduceAdd, Nat.reduceMul, Nat.reduceSub, Nat.reduceLeDiff, Int.reduceBEq, Int.reduceBNe, Int.reduceLT, Int.reduceLE, Int.reduceGT, Int.reduceGE, Int.reduceEq, ↓reduceIte, reduceCtorEq, f0, f1, f5, h1.head, RS.cells, hrow]
    refine wc_ite (b := decide ((j : Int) < (R.l.length : Int))) (by simp only [go_sem, Nat.reduceEqDiff, Nat.reduceAdd, Nat.reduceMul, Nat.reduceSub, Nat.reduceLeDiff, Int.reduceBEq, Int.reduceBNe, Int.reduceLT, Int.reduceLE, Int.reduceGT, Int.reduceGE, Int.reduceEq, ↓reduceIte, reduceCtorEq]) (fun hc => ?_) (fun hc => ?_)
    · simp only [go_sem, Nat.reduceEqDiff, Nat.reduceAdd, Nat.reduceMul, Nat.reduceSub, Nat.reduceLeDiff, Int.reduceBEq, Int.reduceBNe, Int.reduceLT, Int.reduceLE, Int.reduceGT, Int.reduceGE, Int.reduceEq, ↓reduceIte, reduceCtorEq, f0, f1, f5, h1.head, RS.cells, hrow, hcs, hjt, hd0, List.cons_append]
      refine wc_ite (b := !decide (f.name = s)) (by simp only [go_sem, Nat.reduceEqDiff, Nat.reduceAdd, Nat.reduceMul, Nat.reduceSub, Nat.reduceLeDiff, Int.reduceBEq, Int.reduceBNe, Int.reduceLT, Int.reduceLE, Int.reduceGT, Int.reduceGE, Int.reduceEq, ↓reduceIte, reduceCtorEq]) (fun hc => ?_) (fun hc => ?_)
      · have hne : f.name ≠ s := by simpa using hc
        have hdr : dropR s (R.l.take (j + 1)) = dropR s (R.l.take j) ++ [f] := by
          rw [htk]; unfold dropR; rw [List.filter_append]; simp [hne]
        have h3 : (3 ≤ r.length + 1 + 1 + 1) = True := eq_true (by omega)
        have hlen : (dropR s (R.l.take j)).length ≤ j := Nat.le_trans (List.length_filter_le _ _) (by rw [List.length_take]; omega)
        simp only [go_sem, Nat.reduceEqDiff, Nat.reduceAdd, Nat.reduceMul, Nat.reduceSub, Nat.reduceLeDiff, Int.reduceBEq, Int.reduceBNe, Int.reduceLT, Int.reduceLE, Int.reduceGT, Int.reduceGE, Int.reduceEq, ↓reduceIte, reduceCtorEq, f0, f1, f4, f5, h1.head, RS.cells, hrow, hcs, hjt, hd0, List.cons_append, List.nil_append, h3, hfv.one, V.cells_agg]
        refine wi_append_row (v := v) (xs := f.cell) (m := 1) (by simp only [go_sem, Nat.reduceEqDiff, Nat.reduceAdd, Nat.reduceMul, Nat.reduceSub, Nat.reduceLeDiff, Int.reduceBEq, Int.reduceBNe, Int.reduceLT, Int.reduceLE, Int.reduceGT, Int.reduceGE, Int.reduceEq, ↓reduceIte, reduceCtorEq, f4]) hv (by simp only [go_sem, Nat.reduceEqDiff, Nat.reduceAdd, Nat.reduceMul, Nat.reduceSub, Nat.reduceLeDiff, Int.reduceBEq, Int.reduceBNe, Int.reduceLT, Int.reduceLE, Int.reduceGT, Int.reduceGE, Int.reduceEq, ↓reduceIte, reduceCtorEq, V.elems, reduceCtorEq, if_false]; rfl) rfl (by simp [roomOk]; omega) fun v2 S2 o2 hv2 ho2 k2 => ?_
        simp only [go_sem, Nat.reduceEqDiff, Nat.reduceAdd, Nat.reduceMul, Nat.reduceSub, Nat.reduceLeDiff, Int.reduceBEq, Int.reduceBNe, Int.reduceLT, Int.reduceLE, Int.reduceGT, Int.reduceGE, Int.reduceEq, ↓reduceIte, reduceCtorEq, f5, w1]
        have e : (dropR s (R.l.take j)).flatMap RF.cell ++ f.cell = (dropR s (R.l.take (j + 1))).flatMap RF.cell := by rw [hdr, List.flatMap_append]; simp
        have e2 : (dropR s (R.l.take j)).length + 1 = (dropR s (R.l.take (j + 1))).length := by rw [hdr]; simp
        rw [e, e2] at hv2
        refine ⟨R.l.length - (j + 1), by omega, j + 1, o2, v2, rfl, by omega, by simp only [go_sem, Nat.reduceEqDiff, Nat.reduceAdd, Nat.reduceMul, Nat.reduceSub, Nat.reduceLeDiff, Int.reduceBEq, Int.reduceBNe, Int.reduceLT, Int.reduceLE, Int.reduceGT, Int.reduceGE, Int.reduceEq, ↓reduceIte, reduceCtorEq, f0], by simp only [go_sem, Nat.reduceEqDiff, Nat.reduceAdd, Nat.reduceMul, Nat.reduceSub, Nat.reduceLeDiff, Int.reduceBEq, Int.reduceBNe, Int.reduceLT, Int.reduceLE, Int.reduceGT, Int.reduceGE, Int.reduceEq, ↓reduceIte, reduceCtorEq, f1], by simp only [go_sem, Nat.reduceEqDiff, Nat.reduceAdd, Nat.reduceMul, Nat.reduceSub, Nat.reduceLeDiff, Int.reduceBEq, Int.reduceBNe, Int.reduceLT, Int.reduceLE, Int.reduceGT, Int.reduceGE, Int.reduceEq, ↓reduceIte, reduceCtorEq], by simp only [go_sem, Nat.reduceEqDiff, Nat.reduceAdd, Nat.reduceMul, Nat.reduceSub, Nat.reduceLeDiff, Int.reduceBEq, Int.reduceBNe, Int.reduceLT, Int.reduceLE, Int.reduceGT, Int.reduceGE, Int.reduceEq, ↓reduceIte, reduceCtorEq], hv2, fun hh => Nat.le_trans k1.n (ho2 (by omega)), ?_⟩
        exact k1.trans k2 fun q hq hq' => by have := ho1 hq'.1; have := hq'.2; omega
      · have heq : f.name = s := by simpa using hc
        have hdr : dropR s (R.l.take (j + 1)) = dropR s (R.l.take j) := by
          rw [htk]; unfold dropR; rw [List.filter_append]; simp [heq]
        simp only [go_sem, Nat.reduceEqDiff, Nat.reduceAdd, Nat.reduceMul, Nat.reduceSub, Nat.reduceLeDiff, Int.reduceBEq, Int.reduceBNe, Int.reduceLT, Int.reduceLE, Int.reduceGT, Int.reduceGE, Int.reduceEq, ↓reduceIte, reduceCtorEq, f5, w1]
        refine ⟨R.l.length - (j + 1), by omega, j + 1, o1, v, rfl, by omega, by simp only [go_sem, Nat.reduceEqDiff, Nat.reduceAdd, Nat.reduceMul, Nat.reduceSub, Nat.reduceLeDiff, Int.reduceBEq, Int.reduceBNe, Int.reduceLT, Int.reduceLE, Int.reduceGT, Int.reduceGE, Int.reduceEq, ↓reduceIte, reduceCtorEq, f0], by simp only [go_sem, Nat.reduceEqDiff, Nat.reduceAdd, Nat.reduceMul, Nat.reduceSub, Nat.reduceLeDiff, Int.reduceBEq, Int.reduceBNe, Int.reduceLT, Int.reduceLE, Int.reduceGT, Int.reduceGE, Int.reduceEq, ↓reduceIte, reduceCtorEq, f1], by simp only [go_sem, Nat.reduceEqDiff, Nat.reduceAdd, Nat.reduceMul, Nat.reduceSub, Nat.reduceLeDiff, Int.reduceBEq, Int.reduceBNe, Int.reduceLT, Int.reduceLE, Int.reduceGT, Int.reduceGE, Int.reduceEq, ↓reduceIte, reduceCtorEq], by simp only [go_sem, Nat.reduceEqDiff, Nat.reduceAdd, Nat.reduceMul, Nat.reduceSub, Nat.reduceLeDiff, Int.reduceBEq, Int.reduceBNe, Int.reduceLT, Int.reduceLE, Int.reduceGT, Int.reduceGE, Int.reduceEq, ↓reduceIte, reduceCtorEq, f4], by rw [hdr]; exact hv, by rw [hdr]; exact ho1, k1⟩
    · have := of_decide_eq_false hc; omega
  · have e : j = R.l.length := by omega
    subst e
    rw [List.take_length] at hv ho1
    have hcond : decide ((R.l.length : Int) < (R.l.length : Int)) = false := decide_eq_false (by omega)
    have hoky : ∀ f ∈ dropR s R.l, IsBytes f.v f.p := fun f hf => h.ok f (List.mem_filter.1 hf).1
    obtain ⟨hc1, hr1, hvv⟩ := h.put (p := fun _ => False) k1 id hv (fun hh => by have := ho1 hh; have := h.lt; omega) hoky
    have k2 : Keeps (fun j => j = x) S (S1.set x (.cells (({ R with l := dropR s R.l } : RS).cells o1))) := Keeps.set (o := fun j => j = x) (k1.mono fun _ _ h => h.elim) (.inl rfl) _
    have hq := hQ _ o1 hr1 k2 fun hh => ho1 fun e => hh (List.eq_nil_of_length_eq_zero e)
    by_cases h0 : R.l.length = 0
    · simp only [l_r02_Disk_drop_0, go_sem, Nat.reduceEqDiff, Nat.reduceAdd, Nat.reduceMul, Nat.reduceSub, Nat.reduceLeDiff, Int.reduceBEq, Int.reduceBNe, Int.reduceLT, Int.reduceLE, Int.reduceGT, Int.reduceGE, Int.reduceEq, ↓reduceIte, reduceCtorEq, f0, f4, f5, h1.head, RS.cells, h0, rowV]
      refine wc_ite (b := false) (by simp only [go_sem, Nat.reduceEqDiff, Nat.reduceAdd, Nat.reduceMul, Nat.reduceSub, Nat.reduceLeDiff, Int.reduceBEq, Int.reduceBNe, Int.reduceLT, Int.reduceLE, Int.reduceGT, Int.reduceGE, Int.reduceEq, ↓reduceIte, reduceCtorEq] <;> rfl) (fun h => by cases h) (fun _ => ?_)
      simp only [go_sem, Nat.reduceEqDiff, Nat.reduceAdd, Nat.reduceMul, Nat.reduceSub, Nat.reduceLeDiff, Int.reduceBEq, Int.reduceBNe, Int.reduceLT, Int.reduceLE, Int.reduceGT, Int.reduceGE, Int.reduceEq, ↓reduceIte, reduceCtorEq, f0, f4, hc1, RS.cells, hv.one, hv.own]
      rw [hvv]
      exact hq
    · simp only [l_r02_Disk_drop_0, go_sem, Nat.reduceEqDiff, Nat.reduceAdd, Nat.reduceMul, Nat.reduceSub, Nat.reduceLeDiff, Int.reduceBEq, Int.reduceBNe, Int.reduceLT, Int.reduceLE, Int.reduceGT, Int.reduceGE, Int.reduceEq, ↓reduceIte, reduceCtorEq, f0, f4, f5, h1.head, RS.cells, h0, rowV]
      refine wc_ite (b := decide ((R.l.length : Int) < (R.l.length : Int))) (by simp only [go_sem, Nat.reduceEqDiff, Nat.reduceAdd, Nat.reduceMul, Nat.reduceSub, Nat.reduceLeDiff, Int.reduceBEq, Int.reduceBNe, Int.reduceLT, Int.reduceLE, Int.reduceGT, Int.reduceGE, Int.reduceEq, ↓reduceIte, reduceCtorEq]) (fun hc => ?_) (fun hc => ?_)
      · rw [hcond] at hc; cases hc
      · simp only [go_sem, Nat.reduceEqDiff, Nat.reduceAdd, Nat.reduceMul, Nat.reduceSub, Nat.reduceLeDiff, Int.reduceBEq, Int.reduceBNe, Int.reduceLT, Int.reduceLE, Int.reduceGT, Int.reduceGE, Int.reduceEq, ↓reduceIte, reduceCtorEq, f0, f4, hc1, RS.cells, hv.one, hv.own]
        rw [hvv]
        exact hq
end Go.VM

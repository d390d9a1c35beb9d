/-
  The document's disk: Grow. NEWPP
-/
import Derived.Test.YtddjanglghgoeaaDRefC
set_option maxRecDepth 20000
set_option linter.unusedVariables false
set_option linter.unusedSimpArgs false
namespace Go.VM
open Go Go.RowKit Go.Proofs

/-- Behind a call of the document's disk. -/
structure RAfter (S : St) (x o : Nat) (R : RS) (S' : St) (o' : Nat) (R' : RS) : Prop where
  r : RefAt S' x o' R'
  k : Keeps (ownR x o R) S S'
  o : ∀ j, ownR x o' R' j → ownR x o R j ∨ S.n ≤ j
theorem RAfter.refl {S : St} {x o : Nat} {R : RS} (h : RefAt S x o R) : RAfter S x o R S o R := ⟨h, Keeps.refl _ _, fun _ h => .inl h⟩
theorem RAfter.trans {S S1 S2 : St} {x o o1 o2 : Nat} {R R1 R2 : RS} (h : RAfter S x o R S1 o1 R1) (h' : RAfter S1 x o1 R1 S2 o2 R2) : RAfter S x o R S2 o2 R2 :=
  ⟨h'.r, h.k.trans h'.k fun j hj hj' => (h.o j hj').elim id fun h => by omega, fun j hj => (h'.o j hj).elim (h.o j) fun hh => .inr (Nat.le_trans h.k.n hh)⟩
theorem RAfter.head {S S' : St} {x o : Nat} {R R' : RS} (h : RefAt S' x o R') (k : Keeps (fun j => j = x) S S') (hl : R'.l = R.l) : RAfter S x o R S' o R' :=
  ⟨h, k.mono fun j _ e => .inl e, fun j hj => .inl (hj.imp id fun e => ⟨hl ▸ e.1, e.2⟩)⟩

/-- A thing in the row is another one. -/
theorem RefAt.store {S : St} {x o : Nat} {R : RS} (h : RefAt S x o R) {j k : Nat} {f f' : RF} {vs : List V} (hf : R.l[j]? = some f) (hy : splice f.cell k vs = f'.cell) (hk : k + vs.length ≤ 3) (hv : IsBytes f'.v f'.p) :
    splice (R.l.flatMap RF.cell) (j * 3 + k) vs = (R.l.set j f').flatMap RF.cell ∧ j * 3 + k + vs.length ≤ (R.l.flatMap RF.cell).length ∧ RAfter S x o R (S.set o (.cells ((R.l.set j f').flatMap RF.cell))) o { R with l := R.l.set j f' } := by
  have hj := (List.getElem?_eq_some_iff.1 hf).1
  have hne : R.l ≠ [] := fun e => by rw [e] at hj; simp at hj
  refine ⟨fm_set RF.len hf hy hk, by rw [fm_len RF.len]; omega, ⟨?_, h.lt, fun e => ?_, fun e => h.olt hne, fun e => h.ne hne, fun g hg => ?_⟩, (Keeps.set1 S o _).mono fun i _ e => .inr ⟨hne, e⟩, fun i hi => .inl (hi.imp id fun e => ⟨hne, e.2⟩)⟩
  · rw [cells_setc, if_neg (Ne.symm (h.ne hne)), h.head]
    simp only [RS.cells, List.length_set]
  · rw [cells_setc, if_pos rfl]
  · rcases List.mem_or_eq_of_mem_set hg with hg | rfl
    · exact h.ok g hg
    · exact hv

theorem refGrow_put {w0 : World} {fr : Fr} {S : St} {Q : AEnd → St → Prop} {x o j : Nat} {R : RS} {f : RF} {v : V} {p : List UInt8} {off : Bool} (h : RefAt S x o R) (hf : R.l[j]? = some f) (hv : IsBytes v p) (hpl : p.length + f.p.length ≤ 1000000000000)
    (f0 : fr 0 = .ptr (some (x, 0))) (f2 : fr 2 = v) (f9 : fr 9 = .int .i64 j) (f10 : fr 10 = .bool off)
    (hQ : ∀ S' v', IsBytes v' (f.p ++ p) → RAfter S x o R S' o { R with l := R.l.set j { f with v := v', p := f.p ++ p } } → Q (.ret (.int .i64 (if off = true then 10 else 0))) S') :
    wCode (RSim Try.prog w0) r_r02_Disk_Grow_0 fr S (resQ [.tmp 8] Q) := by
  obtain ⟨r, hn0, hrow, hcs, hjl, _, hd1, _⟩ := h.nth hf
  have hjt : (j < R.l.length) = True := eq_true hjl
  have hfv := h.ok f (List.mem_of_getElem? hf)
  simp only [r_r02_Disk_Grow_0, go_sem, Nat.reduceEqDiff, Nat.reduceAdd, Nat.reduceMul, Nat.reduceSub, Nat.reduceLeDiff, Int.reduceBEq, Int.reduceBNe, Int.reduceLT, Int.reduceLE, Int.reduceGT, Int.reduceGE, Int.reduceEq, ↓reduceIte, reduceCtorEq, f0, f9, h.head, RS.cells, hrow, hcs, hjt, hd1, List.cons_append]
  refine wi_append (n := 0) (cs := []) (t := .nil) (m := f.p.length) (xs := f.p.map u8V) (by simp only [go_sem, Nat.reduceEqDiff, Nat.reduceAdd, Nat.reduceMul, Nat.reduceSub, Nat.reduceLeDiff, Int.reduceBEq, Int.reduceBNe, Int.reduceLT, Int.reduceLE, Int.reduceGT, Int.reduceGE, Int.reduceEq, ↓reduceIte, reduceCtorEq]) (by simp only [go_sem, Nat.reduceEqDiff, Nat.reduceAdd, Nat.reduceMul, Nat.reduceSub, Nat.reduceLeDiff, Int.reduceBEq, Int.reduceBNe, Int.reduceLT, Int.reduceLE, Int.reduceGT, Int.reduceGE, Int.reduceEq, ↓reduceIte, reduceCtorEq]; exact hfv.elems _) (by simp) (by simp [roomOk]; omega) trivial (fun _ => ⟨rfl, rfl⟩) fun t1 S1 k1 ht1 ho1 hz1 => ?_
  rw [tokOwn_nil] at k1
  have h1 := h.stay k1
  simp only [go_sem, Nat.reduceEqDiff, Nat.reduceAdd, Nat.reduceMul, Nat.reduceSub, Nat.reduceLeDiff, Int.reduceBEq, Int.reduceBNe, Int.reduceLT, Int.reduceLE, Int.reduceGT, Int.reduceGE, Int.reduceEq, ↓reduceIte, reduceCtorEq, f2]
  refine wi_append (n := f.p.length) (cs := f.p.map u8V) (t := t1) (m := p.length) (xs := p.map u8V) (by simp only [go_sem, Nat.reduceEqDiff, Nat.reduceAdd, Nat.reduceMul, Nat.reduceSub, Nat.reduceLeDiff, Int.reduceBEq, Int.reduceBNe, Int.reduceLT, Int.reduceLE, Int.reduceGT, Int.reduceGE, Int.reduceEq, ↓reduceIte, reduceCtorEq]) (by simp only [go_sem, Nat.reduceEqDiff, Nat.reduceAdd, Nat.reduceMul, Nat.reduceSub, Nat.reduceLeDiff, Int.reduceBEq, Int.reduceBNe, Int.reduceLT, Int.reduceLE, Int.reduceGT, Int.reduceGE, Int.reduceEq, ↓reduceIte, reduceCtorEq, f2]; exact hv.elems _) (by simp) (by simp [roomOk]; omega) ht1 (fun e => by
    have := (hz1 e).1
    have : f.p = [] := List.eq_nil_of_length_eq_zero this
    simp [this]) fun t2 S2 k2 ht2 ho2 hz2 => ?_
  have k2' : Keeps (fun _ => False) S S2 := k1.trans k2 fun q hq e => by
    have := ho1 q e
    omega
  have h2 := h.stay k2'
  have hvq : IsBytes (.sl (f.p.map u8V ++ p.map u8V) (f.p.length + p.length) 1 t2) (f.p ++ p) := ⟨t2, by simp, fun e => by
    obtain ⟨e1, e2⟩ := hz2 e
    have h1 : p = [] := List.eq_nil_of_length_eq_zero e1
    have h2 : f.p = [] := List.eq_nil_of_length_eq_zero (hz1 e2).1
    simp [h1, h2]⟩
  generalize V.sl (f.p.map u8V ++ p.map u8V) (f.p.length + p.length) 1 t2 = vq at hvq ⊢
  obtain ⟨e1, e2, a⟩ := h2.store (f' := { f with v := vq, p := f.p ++ p }) (k := 1) (vs := [vq]) hf rfl (by simp) hvq
  have hq := hQ _ vq hvq ⟨a.r, k2'.mono (fun _ _ e => e.elim) |>.trans a.k fun _ _ h => h, fun q hq => (a.o q hq).imp id fun hh => Nat.le_trans k2'.n hh⟩
  have e2' : (j * 3 + 1 + 1 ≤ (R.l.flatMap RF.cell).length) = True := eq_true e2
  have hcs2 := h2.row (fun e => hn0 (by rw [e]; rfl))
  have hh2 := h2.head
  simp only [RS.cells] at hh2
  rw [hrow] at hh2
  simp only [go_sem, Nat.reduceEqDiff, Nat.reduceAdd, Nat.reduceMul, Nat.reduceSub, Nat.reduceLeDiff, Int.reduceBEq, Int.reduceBNe, Int.reduceLT, Int.reduceLE, Int.reduceGT, Int.reduceGE, Int.reduceEq, ↓reduceIte, reduceCtorEq, f0, f9, hh2, hrow, hcs2, hjt, hvq.one, hvq.cells1, e2', f10]
  simp only [splice, List.length_cons, List.length_nil, Nat.zero_add] at e1
  rw [e1]
  cases off
  · refine wc_ite (b := false) (by simp only [go_sem, Nat.reduceEqDiff, Nat.reduceAdd, Nat.reduceMul, Nat.reduceSub, Nat.reduceLeDiff, Int.reduceBEq, Int.reduceBNe, Int.reduceLT, Int.reduceLE, Int.reduceGT, Int.reduceGE, Int.reduceEq, ↓reduceIte, reduceCtorEq] <;> rfl) (fun h => by cases h) (fun _ => ?_)
    simp only [go_sem, Nat.reduceEqDiff, Nat.reduceAdd, Nat.reduceMul, Nat.reduceSub, Nat.reduceLeDiff, Int.reduceBEq, Int.reduceBNe, Int.reduceLT, Int.reduceLE, Int.reduceGT, Int.reduceGE, Int.reduceEq, ↓reduceIte, reduceCtorEq]
    exact hq
  · refine wc_ite (b := true) (by simp only [go_sem, Nat.reduceEqDiff, Nat.reduceAdd, Nat.reduceMul, Nat.reduceSub, Nat.reduceLeDiff, Int.reduceBEq, Int.reduceBNe, Int.reduceLT, Int.reduceLE, Int.reduceGT, Int.reduceGE, Int.reduceEq, ↓reduceIte, reduceCtorEq] <;> rfl) (fun _ => ?_) (fun h => by cases h)
    simp only [go_sem, Nat.reduceEqDiff, Nat.reduceAdd, Nat.reduceMul, Nat.reduceSub, Nat.reduceLeDiff, Int.reduceBEq, Int.reduceBNe, Int.reduceLT, Int.reduceLE, Int.reduceGT, Int.reduceGE, Int.reduceEq, ↓reduceIte, reduceCtorEq]
    exact hq

theorem lss_str (a b : List UInt8) : binStr .lss (mkS a) (mkS b) = some (.bool (decide (a < b))) := str_lss a b

/-- Where a new name comes: the walk of it. -/
theorem refPlaceG {w0 : World} {fr : Fr} {S : St} {x o : Nat} {R : RS} {s : List UInt8} {K : CPost} {D : DS} (h : RefAt S x o R) (a : Alike D R) (hl : R.l.length ≤ 1000000) (hno : ∀ f ∈ R.l, f.name ≠ s)
    (f0 : fr 0 = .ptr (some (x, 0))) (f2 : fr 1 = .str (mkS s)) (f9 : fr 12 = .int .i64 0)
    (hK : ∀ fr' k, (∀ i, i < 12 → fr' i = fr i) → fr' 12 = .int .i64 (k : Nat) → k ≤ R.l.length → (∀ g ∈ R.l.take k, g.name < s) → (∀ g ∈ R.l.drop k, s < g.name) → K .normal fr' S) :
    wCode (RSim Try.prog w0) (.loop l_r02_Disk_Grow_0) fr S (blkQ 0 K) := by
  refine loop_rule RSim.le (k := R.l.length) (fun m fr1 S1 => ∃ j : Nat, m = R.l.length - j ∧ j ≤ R.l.length ∧ S1 = S ∧ (∀ i, i < 12 → fr1 i = fr i) ∧ fr1 12 = .int .i64 j ∧ ∀ (i : Nat) (g : RF), i < j → R.l[i]? = some g → g.name < s) ?_
    ⟨0, rfl, Nat.zero_le _, rfl, fun _ _ => rfl, by rw [f9]; rfl, fun i g hi => by omega⟩
  rintro m fr1 S1 ⟨j, hm, hj, rfl, sm, g9, hlt'⟩
  have g0 := (sm 0 (by omega)).trans f0
  have g2 := (sm 1 (by omega)).trans f2
  have hh := h.head
  simp only [RS.cells] at hh
  by_cases hlt : j < R.l.length
  · have hf : R.l[j]? = some (R.l[j]'hlt) := List.getElem?_eq_getElem hlt
    generalize R.l[j]'hlt = f at hf
    obtain ⟨r, hn0, hrow, hcs, _, hd0, _, _⟩ := h.nth hf
    rw [hrow] at hh
    have w1 : IntKind.i64.wrap ((j : Int) + 1) = ((j + 1 : Nat) : Int) := by rw [w64 (by omega) (by omega)]; omega
    have hjt : (j < R.l.length) = True := eq_true hlt
    have hjb : decide ((j : Int) < (R.l.length : Int)) = true := decide_eq_true (by omega)
    simp only [l_r02_Disk_Grow_0, go_sem, Nat.reduceEqDiff, Nat.reduceAdd, Nat.reduceMul, Nat.reduceSub, Nat.reduceLeDiff, Int.reduceBEq, Int.reduceBNe, Int.reduceLT, Int.reduceLE, Int.reduceGT, Int.reduceGE, Int.reduceEq, ↓reduceIte, reduceCtorEq, g0, g2, g9, hh, hjb, hcs, hjt, hd0, List.cons_append, lss_str]
    refine wc_ite (b := decide (f.name < s)) (by simp only [go_sem, Nat.reduceEqDiff, Nat.reduceAdd, Nat.reduceMul, Nat.reduceSub, Nat.reduceLeDiff, Int.reduceBEq, Int.reduceBNe, Int.reduceLT, Int.reduceLE, Int.reduceGT, Int.reduceGE, Int.reduceEq, ↓reduceIte, reduceCtorEq]) (fun hc => ?_) (fun hc => ?_)
    · have hyes : f.name < s := of_decide_eq_true hc
      simp only [go_sem, Nat.reduceEqDiff, Nat.reduceAdd, Nat.reduceMul, Nat.reduceSub, Nat.reduceLeDiff, Int.reduceBEq, Int.reduceBNe, Int.reduceLT, Int.reduceLE, Int.reduceGT, Int.reduceGE, Int.reduceEq, ↓reduceIte, reduceCtorEq, g9, w1]
      refine ⟨R.l.length - (j + 1), by omega, j + 1, rfl, by omega, fun i hi => ?_, by simp only [go_sem, Nat.reduceEqDiff, Nat.reduceAdd, Nat.reduceMul, Nat.reduceSub, Nat.reduceLeDiff, Int.reduceBEq, Int.reduceBNe, Int.reduceLT, Int.reduceLE, Int.reduceGT, Int.reduceGE, Int.reduceEq, ↓reduceIte, reduceCtorEq], fun i g hi hg => ?_⟩
      · try simp only [put_some]
        repeat rw [if_neg (by omega)]
        exact sm i hi
      · rcases Nat.lt_or_ge i j with hi' | hi'
        · exact hlt' i g hi' hg
        · have : i = j := by omega
          subst this
          rw [hf] at hg; injection hg with hg; subst hg
          exact hyes
    · simp only [go_sem, Nat.reduceEqDiff, Nat.reduceAdd, Nat.reduceMul, Nat.reduceSub, Nat.reduceLeDiff, Int.reduceBEq, Int.reduceBNe, Int.reduceLT, Int.reduceLE, Int.reduceGT, Int.reduceGE, Int.reduceEq, ↓reduceIte, reduceCtorEq]
      obtain ⟨p1, p2⟩ := place a hno hlt' (fun g hg => by rw [hf] at hg; injection hg with hg; subst hg; exact of_decide_eq_false hc)
      refine hK _ j (fun i hi => ?_) (by simp only [go_sem, Nat.reduceEqDiff, Nat.reduceAdd, Nat.reduceMul, Nat.reduceSub, Nat.reduceLeDiff, Int.reduceBEq, Int.reduceBNe, Int.reduceLT, Int.reduceLE, Int.reduceGT, Int.reduceGE, Int.reduceEq, ↓reduceIte, reduceCtorEq, g9]) hj p1 p2
      try simp only [put_some]
      repeat rw [if_neg (by omega)]
      exact sm i hi
  · have e : j = R.l.length := by omega
    obtain ⟨p1, p2⟩ := place a hno hlt' (fun g hg => by rw [List.getElem?_eq_none (by omega)] at hg; cases hg)
    have hjb : decide ((j : Int) < (R.l.length : Int)) = false := decide_eq_false (by omega)
    have fin : ∀ fr2 : Fr, (∀ i, i < 12 → fr2 i = fr1 i) → fr2 12 = .int .i64 (j : Nat) → K .normal fr2 S1 := fun fr2 h2 h9 => hK fr2 j (fun i hi => (h2 i hi).trans (sm i hi)) h9 hj p1 p2
    by_cases h0 : R.l.length = 0
    · rw [h0] at hjb
      simp only [rowV, h0] at hh
      simp only [l_r02_Disk_Grow_0, go_sem, Nat.reduceEqDiff, Nat.reduceAdd, Nat.reduceMul, Nat.reduceSub, Nat.reduceLeDiff, Int.reduceBEq, Int.reduceBNe, Int.reduceLT, Int.reduceLE, Int.reduceGT, Int.reduceGE, Int.reduceEq, ↓reduceIte, reduceCtorEq, g0, g2, g9, hh, hjb]
      refine wc_ite (b := false) (by simp only [go_sem, Nat.reduceEqDiff, Nat.reduceAdd, Nat.reduceMul, Nat.reduceSub, Nat.reduceLeDiff, Int.reduceBEq, Int.reduceBNe, Int.reduceLT, Int.reduceLE, Int.reduceGT, Int.reduceGE, Int.reduceEq, ↓reduceIte, reduceCtorEq] <;> rfl) (fun h => by cases h) (fun _ => ?_)
      simp only [go_sem, Nat.reduceEqDiff, Nat.reduceAdd, Nat.reduceMul, Nat.reduceSub, Nat.reduceLeDiff, Int.reduceBEq, Int.reduceBNe, Int.reduceLT, Int.reduceLE, Int.reduceGT, Int.reduceGE, Int.reduceEq, ↓reduceIte, reduceCtorEq]
      exact fin _ (fun i hi => by (try simp only [put_some]); repeat rw [if_neg (by omega)]) (by simp only [go_sem, Nat.reduceEqDiff, Nat.reduceAdd, Nat.reduceMul, Nat.reduceSub, Nat.reduceLeDiff, Int.reduceBEq, Int.reduceBNe, Int.reduceLT, Int.reduceLE, Int.reduceGT, Int.reduceGE, Int.reduceEq, ↓reduceIte, reduceCtorEq, g9])
    · simp only [rowV, h0] at hh
      simp only [l_r02_Disk_Grow_0, go_sem, Nat.reduceEqDiff, Nat.reduceAdd, Nat.reduceMul, Nat.reduceSub, Nat.reduceLeDiff, Int.reduceBEq, Int.reduceBNe, Int.reduceLT, Int.reduceLE, Int.reduceGT, Int.reduceGE, Int.reduceEq, ↓reduceIte, reduceCtorEq, g0, g2, g9, hh, hjb]
      refine wc_ite (b := false) (by simp only [go_sem, Nat.reduceEqDiff, Nat.reduceAdd, Nat.reduceMul, Nat.reduceSub, Nat.reduceLeDiff, Int.reduceBEq, Int.reduceBNe, Int.reduceLT, Int.reduceLE, Int.reduceGT, Int.reduceGE, Int.reduceEq, ↓reduceIte, reduceCtorEq] <;> rfl) (fun h => by cases h) (fun _ => ?_)
      simp only [go_sem, Nat.reduceEqDiff, Nat.reduceAdd, Nat.reduceMul, Nat.reduceSub, Nat.reduceLeDiff, Int.reduceBEq, Int.reduceBNe, Int.reduceLT, Int.reduceLE, Int.reduceGT, Int.reduceGE, Int.reduceEq, ↓reduceIte, reduceCtorEq]
      exact fin _ (fun i hi => by (try simp only [put_some]); repeat rw [if_neg (by omega)]) (by simp only [go_sem, Nat.reduceEqDiff, Nat.reduceAdd, Nat.reduceMul, Nat.reduceSub, Nat.reduceLeDiff, Int.reduceBEq, Int.reduceBNe, Int.reduceLT, Int.reduceLE, Int.reduceGT, Int.reduceGE, Int.reduceEq, ↓reduceIte, reduceCtorEq, g9])

/-- The row that is made: an empty file more, in its place. -/
theorem refInsertG {w0 : World} {fr : Fr} {S : St} {K : CPost} {x o k : Nat} {R : RS} {s : List UInt8} (h : RefAt S x o R) (hl : R.l.length ≤ 1000000) (hk : k ≤ R.l.length)
    (f0 : fr 0 = .ptr (some (x, 0))) (f1 : fr 1 = .str (mkS s)) (f11 : fr 11 = .sl [] 0 3 .nil) (f12 : fr 12 = .int .i64 (k : Nat))
    (hK : ∀ fr' S' o', (∀ i, i < 9 ∨ i = 10 → fr' i = fr i) → fr' 9 = .int .i64 (k : Nat) → RAfter S x o R S' o' { R with l := R.l.take k ++ ⟨s, .sl [] 0 1 .nil, [], 0⟩ :: R.l.drop k } → K .normal fr' S') :
    wCode (RSim Try.prog w0) s_r02_Disk_Grow_0 fr S K := by
  have hh := h.head
  simp only [RS.cells] at hh
  obtain ⟨va, sa, ea⟩ := h.rowAt.cut_hi hk 69
  simp only [s_r02_Disk_Grow_0, go_sem, Nat.reduceEqDiff, Nat.reduceAdd, Nat.reduceMul, Nat.reduceSub, Nat.reduceLeDiff, Int.reduceBEq, Int.reduceBNe, Int.reduceLT, Int.reduceLE, Int.reduceGT, Int.reduceGE, Int.reduceEq, ↓reduceIte, reduceCtorEq, f0, f11, f12, hh, sa]
  refine wi_append_row (v := .sl [] 0 3 .nil) (o := 0) (by simp only [go_sem, Nat.reduceEqDiff, Nat.reduceAdd, Nat.reduceMul, Nat.reduceSub, Nat.reduceLeDiff, Int.reduceBEq, Int.reduceBNe, Int.reduceLT, Int.reduceLE, Int.reduceGT, Int.reduceGE, Int.reduceEq, ↓reduceIte, reduceCtorEq]) (RowAt.nil _ _ _) (by simp only [go_sem, Nat.reduceEqDiff, Nat.reduceAdd, Nat.reduceMul, Nat.reduceSub, Nat.reduceLeDiff, Int.reduceBEq, Int.reduceBNe, Int.reduceLT, Int.reduceLE, Int.reduceGT, Int.reduceGE, Int.reduceEq, ↓reduceIte, reduceCtorEq]; exact ea) (by rw [List.length_take, fm_len RF.len]; exact Nat.min_eq_left (Nat.mul_le_mul_right _ hk)) (by simp [roomOk]; omega) fun v1 S1 o1 hv1 ho1 k1 => ?_
  have k1' : Keeps (fun _ => False) S S1 := k1.mono fun _ _ e => e.1 rfl
  simp only [go_sem, Nat.reduceEqDiff, Nat.reduceAdd, Nat.reduceMul, Nat.reduceSub, Nat.reduceLeDiff, Int.reduceBEq, Int.reduceBNe, Int.reduceLT, Int.reduceLE, Int.reduceGT, Int.reduceGE, Int.reduceEq, ↓reduceIte, reduceCtorEq, f1, V.cells_agg]
  rw [List.nil_append, Nat.zero_add] at hv1
  refine wi_append_row (v := v1) (xs := [.str (mkS s), .sl [] 0 1 .nil, .int .i64 0]) (m := 1) (by simp only [go_sem, Nat.reduceEqDiff, Nat.reduceAdd, Nat.reduceMul, Nat.reduceSub, Nat.reduceLeDiff, Int.reduceBEq, Int.reduceBNe, Int.reduceLT, Int.reduceLE, Int.reduceGT, Int.reduceGE, Int.reduceEq, ↓reduceIte, reduceCtorEq]) hv1 (by simp only [go_sem, Nat.reduceEqDiff, Nat.reduceAdd, Nat.reduceMul, Nat.reduceSub, Nat.reduceLeDiff, Int.reduceBEq, Int.reduceBNe, Int.reduceLT, Int.reduceLE, Int.reduceGT, Int.reduceGE, Int.reduceEq, ↓reduceIte, reduceCtorEq, V.elems, reduceCtorEq, if_false]) rfl (by simp [roomOk]; omega) fun v2 S2 o2 hv2 ho2 k2 => ?_
  have k2' : Keeps (fun _ => False) S S2 := k1'.trans k2 fun q hq e => by
    have := ho1 (by omega); have := e.2; omega
  have h2 := h.stay k2'
  have hh2 := h2.head
  simp only [RS.cells] at hh2
  obtain ⟨vc, sc, ec⟩ := h2.rowAt.cut_lo hk 82
  simp only [go_sem, Nat.reduceEqDiff, Nat.reduceAdd, Nat.reduceMul, Nat.reduceSub, Nat.reduceLeDiff, Int.reduceBEq, Int.reduceBNe, Int.reduceLT, Int.reduceLE, Int.reduceGT, Int.reduceGE, Int.reduceEq, ↓reduceIte, reduceCtorEq, f0, f12, hh2, sc]
  refine wi_append_row (v := v2) (by simp only [go_sem, Nat.reduceEqDiff, Nat.reduceAdd, Nat.reduceMul, Nat.reduceSub, Nat.reduceLeDiff, Int.reduceBEq, Int.reduceBNe, Int.reduceLT, Int.reduceLE, Int.reduceGT, Int.reduceGE, Int.reduceEq, ↓reduceIte, reduceCtorEq]) hv2 (by simp only [go_sem, Nat.reduceEqDiff, Nat.reduceAdd, Nat.reduceMul, Nat.reduceSub, Nat.reduceLeDiff, Int.reduceBEq, Int.reduceBNe, Int.reduceLT, Int.reduceLE, Int.reduceGT, Int.reduceGE, Int.reduceEq, ↓reduceIte, reduceCtorEq]; exact ec) (by rw [List.length_drop, fm_len RF.len, ← Nat.sub_mul]) (by simp [roomOk]; omega) fun v3 S3 o3 hv3 ho3 k3 => ?_
  have k3' : Keeps (fun _ => False) S S3 := k2'.trans k3 fun q hq e => by
    have := ho2 (by omega); have := k1'.n; have := e.2; omega
  have e3 : (R.l.flatMap RF.cell).take (k * 3) ++ [.str (mkS s), .sl [] 0 1 .nil, .int .i64 0] ++ (R.l.flatMap RF.cell).drop (k * 3) = (R.l.take k ++ (⟨s, .sl [] 0 1 .nil, [], 0⟩ : RF) :: R.l.drop k).flatMap RF.cell := by
    rw [fm_take RF.len, fm_drop RF.len, List.flatMap_append, List.flatMap_cons, List.append_assoc]
    rfl
  have n3 : k + 1 + (R.l.length - k) = (R.l.take k ++ (⟨s, .sl [] 0 1 .nil, [], 0⟩ : RF) :: R.l.drop k).length := by
    rw [List.length_append, List.length_cons, List.length_take, List.length_drop]; omega
  rw [e3, n3] at hv3
  have hnew : S.n ≤ o3 := by have := ho3 (by omega); have := k2'.n; omega
  obtain ⟨hc3, hr3, hvv⟩ := h.put (p := fun _ => False) k3' id hv3 (fun _ => by have := h.lt; omega) (fun g hg => by
    rcases List.mem_append.1 hg with hg | hg
    · exact h.ok g (List.mem_of_mem_take hg)
    · rcases List.mem_cons.1 hg with rfl | hg
      · exact isBytes_nil
      · exact h.ok g (List.mem_of_mem_drop hg))
  have hA : RAfter S x o R _ o3 _ := ⟨hr3, Keeps.set (o := ownR x o R) (k3'.mono fun _ _ e => e.elim) (.inl (.inl rfl)) _, fun j hj => hj.elim (fun e => .inl (.inl e)) fun e => .inr (e.2 ▸ hnew)⟩
  simp only [RS.cells] at hc3
  simp only [RS.cells] at hA
  simp only [go_sem, Nat.reduceEqDiff, Nat.reduceAdd, Nat.reduceMul, Nat.reduceSub, Nat.reduceLeDiff, Int.reduceBEq, Int.reduceBNe, Int.reduceLT, Int.reduceLE, Int.reduceGT, Int.reduceGE, Int.reduceEq, ↓reduceIte, reduceCtorEq, f0, f12, hc3, RS.cells, hv3.one, hv3.own]
  rw [hvv]
  refine hK _ _ o3 (fun i hi => ?_) (by simp only [go_sem, Nat.reduceEqDiff, Nat.reduceAdd, Nat.reduceMul, Nat.reduceSub, Nat.reduceLeDiff, Int.reduceBEq, Int.reduceBNe, Int.reduceLT, Int.reduceLE, Int.reduceGT, Int.reduceGE, Int.reduceEq, ↓reduceIte, reduceCtorEq]) hA
  simp only [put_some]
  repeat rw [if_neg (by omega)]

theorem putF_cons (y x : File) (m : List File) : putF y (x :: m) = if x.name = y.name then y :: m else x :: putF y m := rfl
theorem putF_putF {y z : File} (h : y.name = z.name) : ∀ m : List File, putF y (putF z m) = putF y m
  | [] => by simp [putF, h]
  | x :: m => by
    rw [putF_cons z, putF_cons y x]
    by_cases e : x.name = z.name
    · rw [if_pos e, putF_cons, if_pos h.symm, if_pos (e.trans h.symm)]
    · have e2 : ¬ x.name = y.name := fun e' => e (e'.trans h)
      rw [if_neg e, putF_cons, if_neg e2, if_neg e2, putF_putF h m]
theorem le_sumL {x : Nat} : ∀ {l : List Nat}, x ∈ l → x ≤ l.sum
  | y :: l, h => by
    rw [List.sum_cons]
    rcases List.mem_cons.1 h with rfl | h
    · omega
    · have := le_sumL h; omega

theorem refGrow_runs {w0 : World} {S : St} {Q : AEnd → St → Prop} {x o : Nat} {R : RS} {D : DS} {s p : List UInt8} {v : V} {fresh : Bool} (h : RefAt S x o R) (a : Alike D R) (hn : (D.files.map (·.name)).Nodup) (hu : D.used = sumFl D.files) (hr0 : D.used ≤ D.room) (hr1 : D.room ≤ 67108864)
    (hl : R.l.length ≤ 1000000) (hs : s.length ≤ 1000000000000000) (hv : IsBytes v p) (hp : p.length ≤ 1000000000000000)
    (hQ : ∀ S' o' R', RAfter S x o R S' o' R' → Alike (D.grow s p fresh).2 R' → Q (.ret (.int .i64 (D.grow s p fresh).1)) S') : RSim Try.prog w0 n_r02_Disk_Grow [.ptr (some (x, 0)), .str (mkS s), v, .bool fresh] S Q := by
  have hh := h.head
  have hLp := (hv.into S (fun _ => False)).len
  simp only [aF, Arg.ev] at hLp
  have hsum := a.sum hn
  have hroom := a.room
  refine RSim.run mixed k_r02_Disk_Grow ?_ (by simp)
  simp only [b_r02_Disk_Grow, go_sem, Nat.reduceEqDiff, Nat.reduceAdd, Nat.reduceMul, Nat.reduceSub, Nat.reduceLeDiff, Int.reduceBEq, Int.reduceBNe, Int.reduceLT, Int.reduceLE, Int.reduceGT, Int.reduceGE, Int.reduceEq, ↓reduceIte, reduceCtorEq]
  refine wi_call ?_
  simp only [go_sem, Nat.reduceEqDiff, Nat.reduceAdd, Nat.reduceMul, Nat.reduceSub, Nat.reduceLeDiff, Int.reduceBEq, Int.reduceBNe, Int.reduceLT, Int.reduceLE, Int.reduceGT, Int.reduceGE, Int.reduceEq, ↓reduceIte, reduceCtorEq]
  refine refName_runs hs ?_
  cases hns : nameOk s
  · have e : D.grow s p fresh = (1, D) := by unfold DS.grow; rw [if_pos hns]
    rw [e] at hQ
    simp only [go_sem, Nat.reduceEqDiff, Nat.reduceAdd, Nat.reduceMul, Nat.reduceSub, Nat.reduceLeDiff, Int.reduceBEq, Int.reduceBNe, Int.reduceLT, Int.reduceLE, Int.reduceGT, Int.reduceGE, Int.reduceEq, ↓reduceIte, reduceCtorEq]
    refine wc_ite (b := true) (by simp only [go_sem, Nat.reduceEqDiff, Nat.reduceAdd, Nat.reduceMul, Nat.reduceSub, Nat.reduceLeDiff, Int.reduceBEq, Int.reduceBNe, Int.reduceLT, Int.reduceLE, Int.reduceGT, Int.reduceGE, Int.reduceEq, ↓reduceIte, reduceCtorEq] <;> rfl) (fun _ => ?_) (fun h => by cases h)
    simp only [go_sem, Nat.reduceEqDiff, Nat.reduceAdd, Nat.reduceMul, Nat.reduceSub, Nat.reduceLeDiff, Int.reduceBEq, Int.reduceBNe, Int.reduceLT, Int.reduceLE, Int.reduceGT, Int.reduceGE, Int.reduceEq, ↓reduceIte, reduceCtorEq]
    exact hQ S o R (RAfter.refl h) a
  simp only [go_sem, Nat.reduceEqDiff, Nat.reduceAdd, Nat.reduceMul, Nat.reduceSub, Nat.reduceLeDiff, Int.reduceBEq, Int.reduceBNe, Int.reduceLT, Int.reduceLE, Int.reduceGT, Int.reduceGE, Int.reduceEq, ↓reduceIte, reduceCtorEq, hh, RS.cells]
  refine wc_ite (b := false) (by simp only [go_sem, Nat.reduceEqDiff, Nat.reduceAdd, Nat.reduceMul, Nat.reduceSub, Nat.reduceLeDiff, Int.reduceBEq, Int.reduceBNe, Int.reduceLT, Int.reduceLE, Int.reduceGT, Int.reduceGE, Int.reduceEq, ↓reduceIte, reduceCtorEq] <;> rfl) (fun h => by cases h) (fun _ => ?_)
  simp only [go_sem, Nat.reduceEqDiff, Nat.reduceAdd, Nat.reduceMul, Nat.reduceSub, Nat.reduceLeDiff, Int.reduceBEq, Int.reduceBNe, Int.reduceLT, Int.reduceLE, Int.reduceGT, Int.reduceGE, Int.reduceEq, ↓reduceIte, reduceCtorEq, hh, RS.cells]
  refine wc_ite (b := R.off) (by simp only [go_sem, Nat.reduceEqDiff, Nat.reduceAdd, Nat.reduceMul, Nat.reduceSub, Nat.reduceLeDiff, Int.reduceBEq, Int.reduceBNe, Int.reduceLT, Int.reduceLE, Int.reduceGT, Int.reduceGE, Int.reduceEq, ↓reduceIte, reduceCtorEq]) (fun hc => ?_) (fun hc => ?_)
  · rw [grow_off hns (a.off ▸ hc)] at hQ
    simp only [go_sem, Nat.reduceEqDiff, Nat.reduceAdd, Nat.reduceMul, Nat.reduceSub, Nat.reduceLeDiff, Int.reduceBEq, Int.reduceBNe, Int.reduceLT, Int.reduceLE, Int.reduceGT, Int.reduceGE, Int.reduceEq, ↓reduceIte, reduceCtorEq]
    exact hQ S o R (RAfter.refl h) a
  have hoR : R.off = false := hc
  have hoff : D.off = false := a.off ▸ hc
  simp only [go_sem, Nat.reduceEqDiff, Nat.reduceAdd, Nat.reduceMul, Nat.reduceSub, Nat.reduceLeDiff, Int.reduceBEq, Int.reduceBNe, Int.reduceLT, Int.reduceLE, Int.reduceGT, Int.reduceGE, Int.reduceEq, ↓reduceIte, reduceCtorEq]
  simp only [r_r02_Disk_Grow_2, go_sem, Nat.reduceEqDiff, Nat.reduceAdd, Nat.reduceMul, Nat.reduceSub, Nat.reduceLeDiff, Int.reduceBEq, Int.reduceBNe, Int.reduceLT, Int.reduceLE, Int.reduceGT, Int.reduceGE, Int.reduceEq, ↓reduceIte, reduceCtorEq]
  have tail : ∀ (fr : Fr) (i : Int), fr 0 = .ptr (some (x, 0)) → fr 1 = .str (mkS s) → fr 2 = v → fr 9 = .int .i64 i → ¬ (fresh = true ∧ (findF s D.files).isSome = true) →
      ((∃ j : Nat, ∃ f : RF, i = j ∧ R.l[j]? = some f ∧ f.name = s) ∨ (i = -1 ∧ ∀ f ∈ R.l, f.name ≠ s)) → wCode (RSim Try.prog w0) r_r02_Disk_Grow_1 fr S (resQ [.tmp 8] Q) := by
    intro fr i f0 f1 f2 f9 hfr hi
    simp only [r_r02_Disk_Grow_1, go_sem, Nat.reduceEqDiff, Nat.reduceAdd, Nat.reduceMul, Nat.reduceSub, Nat.reduceLeDiff, Int.reduceBEq, Int.reduceBNe, Int.reduceLT, Int.reduceLE, Int.reduceGT, Int.reduceGE, Int.reduceEq, ↓reduceIte, reduceCtorEq, f0, f2, hLp, hh, RS.cells]
    refine wi_call ?_
    simp only [go_sem, Nat.reduceEqDiff, Nat.reduceAdd, Nat.reduceMul, Nat.reduceSub, Nat.reduceLeDiff, Int.reduceBEq, Int.reduceBNe, Int.reduceLT, Int.reduceLE, Int.reduceGT, Int.reduceGE, Int.reduceEq, ↓reduceIte, reduceCtorEq]
    refine refUsed_runs h hl (by omega) ?_
    have hw : IntKind.i64.wrap (R.room - ((sumR R.l : Nat) : Int)) = D.room - D.used := by rw [hroom, hsum, ← hu]; exact w64 (by omega) (by omega)
    simp only [go_sem, Nat.reduceEqDiff, Nat.reduceAdd, Nat.reduceMul, Nat.reduceSub, Nat.reduceLeDiff, Int.reduceBEq, Int.reduceBNe, Int.reduceLT, Int.reduceLE, Int.reduceGT, Int.reduceGE, Int.reduceEq, ↓reduceIte, reduceCtorEq, hh, RS.cells, hw]
    refine wc_ite (b := decide ((p.length : Int) > D.room - D.used)) (by simp only [go_sem, Nat.reduceEqDiff, Nat.reduceAdd, Nat.reduceMul, Nat.reduceSub, Nat.reduceLeDiff, Int.reduceBEq, Int.reduceBNe, Int.reduceLT, Int.reduceLE, Int.reduceGT, Int.reduceGE, Int.reduceEq, ↓reduceIte, reduceCtorEq]) (fun hc => ?_) (fun hc => ?_)
    · rw [grow_full hns hoff hfr (of_decide_eq_true hc)] at hQ
      simp only [go_sem, Nat.reduceEqDiff, Nat.reduceAdd, Nat.reduceMul, Nat.reduceSub, Nat.reduceLeDiff, Int.reduceBEq, Int.reduceBNe, Int.reduceLT, Int.reduceLE, Int.reduceGT, Int.reduceGE, Int.reduceEq, ↓reduceIte, reduceCtorEq]
      exact hQ S o R (RAfter.refl h) a
    have hfit : ¬ (p.length : Int) > D.room - D.used := of_decide_eq_false hc
    rw [grow_done hns hoff hfr hfit, ← begun_off a] at hQ
    simp only [go_sem, Nat.reduceEqDiff, Nat.reduceAdd, Nat.reduceMul, Nat.reduceSub, Nat.reduceLeDiff, Int.reduceBEq, Int.reduceBNe, Int.reduceLT, Int.reduceLE, Int.reduceGT, Int.reduceGE, Int.reduceEq, ↓reduceIte, reduceCtorEq, f0]
    refine wi_call ?_
    simp only [go_sem, Nat.reduceEqDiff, Nat.reduceAdd, Nat.reduceMul, Nat.reduceSub, Nat.reduceLeDiff, Int.reduceBEq, Int.reduceBNe, Int.reduceLT, Int.reduceLE, Int.reduceGT, Int.reduceGE, Int.reduceEq, ↓reduceIte, reduceCtorEq]
    refine refOp_runs h hoR fun S1 h1 k1 => ?_
    have A1 := RAfter.head (R := R) h1 k1 rfl
    rcases hi with ⟨j, f, rfl, hf, hfs⟩ | ⟨rfl, hno⟩
    · have hx : findF s D.files = some f.file := findF_of hn ((a.mem _).1 (List.mem_map.2 ⟨f, List.mem_of_getElem? hf, rfl⟩)) hfs
      have hfl : f.p.length ≤ sumR R.l := by
        unfold sumR
        exact le_sumL (List.mem_map.2 ⟨f, List.mem_of_getElem? hf, rfl⟩)
      rw [hx] at hQ
      have hneg : decide ((j : Int) < 0) = false := decide_eq_false (by omega)
      simp only [go_sem, Nat.reduceEqDiff, Nat.reduceAdd, Nat.reduceMul, Nat.reduceSub, Nat.reduceLeDiff, Int.reduceBEq, Int.reduceBNe, Int.reduceLT, Int.reduceLE, Int.reduceGT, Int.reduceGE, Int.reduceEq, ↓reduceIte, reduceCtorEq, f9, hneg]
      refine wc_ite (b := false) (by simp only [go_sem, Nat.reduceEqDiff, Nat.reduceAdd, Nat.reduceMul, Nat.reduceSub, Nat.reduceLeDiff, Int.reduceBEq, Int.reduceBNe, Int.reduceLT, Int.reduceLE, Int.reduceGT, Int.reduceGE, Int.reduceEq, ↓reduceIte, reduceCtorEq] <;> rfl) (fun h => by cases h) (fun _ => ?_)
      simp only [go_sem, Nat.reduceEqDiff, Nat.reduceAdd, Nat.reduceMul, Nat.reduceSub, Nat.reduceLeDiff, Int.reduceBEq, Int.reduceBNe, Int.reduceLT, Int.reduceLE, Int.reduceGT, Int.reduceGE, Int.reduceEq, ↓reduceIte, reduceCtorEq]
      refine refGrow_put (j := j) (f := f) (off := R.begun.off) h1 hf hv (by omega) (by simp only [go_sem, Nat.reduceEqDiff, Nat.reduceAdd, Nat.reduceMul, Nat.reduceSub, Nat.reduceLeDiff, Int.reduceBEq, Int.reduceBNe, Int.reduceLT, Int.reduceLE, Int.reduceGT, Int.reduceGE, Int.reduceEq, ↓reduceIte, reduceCtorEq, f0]) (by simp only [go_sem, Nat.reduceEqDiff, Nat.reduceAdd, Nat.reduceMul, Nat.reduceSub, Nat.reduceLeDiff, Int.reduceBEq, Int.reduceBNe, Int.reduceLT, Int.reduceLE, Int.reduceGT, Int.reduceGE, Int.reduceEq, ↓reduceIte, reduceCtorEq, f2]) (by simp only [go_sem, Nat.reduceEqDiff, Nat.reduceAdd, Nat.reduceMul, Nat.reduceSub, Nat.reduceLeDiff, Int.reduceBEq, Int.reduceBNe, Int.reduceLT, Int.reduceLE, Int.reduceGT, Int.reduceGE, Int.reduceEq, ↓reduceIte, reduceCtorEq, f9]) (by simp only [go_sem, Nat.reduceEqDiff, Nat.reduceAdd, Nat.reduceMul, Nat.reduceSub, Nat.reduceLeDiff, Int.reduceBEq, Int.reduceBNe, Int.reduceLT, Int.reduceLE, Int.reduceGT, Int.reduceGE, Int.reduceEq, ↓reduceIte, reduceCtorEq]) fun S2 v' hv' A2 => ?_
      have a2 := a.begun.set (u := D.used + p.length) (by exact hn) hf (f' := { f with v := v', p := f.p ++ p }) rfl
      exact hQ S2 o _ (A1.trans A2) a2
    · have hx : findF s D.files = none := by
        rcases a.find hn s with ⟨j, f, hf, hs, _, hx⟩ | ⟨_, hx⟩
        · exact absurd hs (hno f (List.mem_of_getElem? hf))
        · exact hx
      rw [hx] at hQ
      simp only [go_sem, Nat.reduceEqDiff, Nat.reduceAdd, Nat.reduceMul, Nat.reduceSub, Nat.reduceLeDiff, Int.reduceBEq, Int.reduceBNe, Int.reduceLT, Int.reduceLE, Int.reduceGT, Int.reduceGE, Int.reduceEq, ↓reduceIte, reduceCtorEq, f9]
      refine wc_ite (b := true) (by simp only [go_sem, Nat.reduceEqDiff, Nat.reduceAdd, Nat.reduceMul, Nat.reduceSub, Nat.reduceLeDiff, Int.reduceBEq, Int.reduceBNe, Int.reduceLT, Int.reduceLE, Int.reduceGT, Int.reduceGE, Int.reduceEq, ↓reduceIte, reduceCtorEq] <;> rfl) (fun _ => ?_) (fun h => by cases h)
      simp only [go_sem, Nat.reduceEqDiff, Nat.reduceAdd, Nat.reduceMul, Nat.reduceSub, Nat.reduceLeDiff, Int.reduceBEq, Int.reduceBNe, Int.reduceLT, Int.reduceLE, Int.reduceGT, Int.reduceGE, Int.reduceEq, ↓reduceIte, reduceCtorEq]
      refine refPlaceG h1 a.begun hl hno (by simp only [go_sem, Nat.reduceEqDiff, Nat.reduceAdd, Nat.reduceMul, Nat.reduceSub, Nat.reduceLeDiff, Int.reduceBEq, Int.reduceBNe, Int.reduceLT, Int.reduceLE, Int.reduceGT, Int.reduceGE, Int.reduceEq, ↓reduceIte, reduceCtorEq, f0]) (by simp only [go_sem, Nat.reduceEqDiff, Nat.reduceAdd, Nat.reduceMul, Nat.reduceSub, Nat.reduceLeDiff, Int.reduceBEq, Int.reduceBNe, Int.reduceLT, Int.reduceLE, Int.reduceGT, Int.reduceGE, Int.reduceEq, ↓reduceIte, reduceCtorEq, f1]) (by simp only [go_sem, Nat.reduceEqDiff, Nat.reduceAdd, Nat.reduceMul, Nat.reduceSub, Nat.reduceLeDiff, Int.reduceBEq, Int.reduceBNe, Int.reduceLT, Int.reduceLE, Int.reduceGT, Int.reduceGE, Int.reduceEq, ↓reduceIte, reduceCtorEq]) fun fr' k sm g12 hk p1 p2 => ?_
      have g0 := sm 0 (by omega)
      have g1 := sm 1 (by omega)
      have g2 := sm 2 (by omega)
      have g10 := sm 10 (by omega)
      have g11 := sm 11 (by omega)
      simp only [go_sem, Nat.reduceEqDiff, Nat.reduceAdd, Nat.reduceMul, Nat.reduceSub, Nat.reduceLeDiff, Int.reduceBEq, Int.reduceBNe, Int.reduceLT, Int.reduceLE, Int.reduceGT, Int.reduceGE, Int.reduceEq, ↓reduceIte, reduceCtorEq, f0, f1, f2] at g0 g1 g2 g10 g11
      simp only [go_sem, Nat.reduceEqDiff, Nat.reduceAdd, Nat.reduceMul, Nat.reduceSub, Nat.reduceLeDiff, Int.reduceBEq, Int.reduceBNe, Int.reduceLT, Int.reduceLE, Int.reduceGT, Int.reduceGE, Int.reduceEq, ↓reduceIte, reduceCtorEq]
      refine refInsertG h1 hl hk g0 g1 g11 g12 fun fr2 S2 o2 sm2 q9 A2 => ?_
      have q0 := (sm2 0 (by omega)).trans g0
      have q2 := (sm2 2 (by omega)).trans g2
      have q10 := (sm2 10 (by omega)).trans g10
      simp only [go_sem, Nat.reduceEqDiff, Nat.reduceAdd, Nat.reduceMul, Nat.reduceSub, Nat.reduceLeDiff, Int.reduceBEq, Int.reduceBNe, Int.reduceLT, Int.reduceLE, Int.reduceGT, Int.reduceGE, Int.reduceEq, ↓reduceIte, reduceCtorEq]
      have hk2 : (R.begun.l.take k ++ (⟨s, .sl [] 0 1 .nil, [], 0⟩ : RF) :: R.begun.l.drop k)[k]? = some ⟨s, .sl [] 0 1 .nil, [], 0⟩ := by
        rw [List.getElem?_append_right (by rw [List.length_take]; omega), List.length_take, Nat.min_eq_left hk, Nat.sub_self]; rfl
      refine refGrow_put (j := k) (f := ⟨s, .sl [] 0 1 .nil, [], 0⟩) (off := R.begun.off) A2.r hk2 hv (by simp only [List.length_nil]; omega) q0 q2 q9 q10 fun S3 v' hv' A3 => ?_
      have a2 := a.begun.insert (u := D.used) (by exact hn) (k := k) (f := ⟨s, .sl [] 0 1 .nil, [], 0⟩) p1 p2
      have a3 := a2.set (u := D.used + p.length) (nd_putF' hn) hk2 (f' := ⟨s, v', [] ++ p, 0⟩) rfl
      refine hQ S3 o2 _ ((A1.trans A2).trans A3) (a3.congr (fun z => ?_) rfl rfl rfl rfl)
      show z ∈ putF _ (putF _ D.files) ↔ z ∈ putF _ D.files
      rw [putF_putF (show (RF.file ⟨s, v', [] ++ p, 0⟩).name = (RF.file ⟨s, .sl [] 0 1 .nil, [], 0⟩).name from rfl)]
      exact Iff.rfl
  refine wi_call ?_
  simp only [go_sem, Nat.reduceEqDiff, Nat.reduceAdd, Nat.reduceMul, Nat.reduceSub, Nat.reduceLeDiff, Int.reduceBEq, Int.reduceBNe, Int.reduceLT, Int.reduceLE, Int.reduceGT, Int.reduceGE, Int.reduceEq, ↓reduceIte, reduceCtorEq]
  refine refAt_runs h hl (fun j f hf hfs hno => ?_) fun hno => ?_
  · have hx : findF s D.files = some f.file := findF_of hn ((a.mem _).1 (List.mem_map.2 ⟨f, List.mem_of_getElem? hf, rfl⟩)) hfs
    have hge : decide ((j : Int) ≥ 0) = true := decide_eq_true (by omega)
    cases fresh
    · simp only [go_sem, Nat.reduceEqDiff, Nat.reduceAdd, Nat.reduceMul, Nat.reduceSub, Nat.reduceLeDiff, Int.reduceBEq, Int.reduceBNe, Int.reduceLT, Int.reduceLE, Int.reduceGT, Int.reduceGE, Int.reduceEq, ↓reduceIte, reduceCtorEq]
      refine wc_ite (b := false) (by simp only [go_sem, Nat.reduceEqDiff, Nat.reduceAdd, Nat.reduceMul, Nat.reduceSub, Nat.reduceLeDiff, Int.reduceBEq, Int.reduceBNe, Int.reduceLT, Int.reduceLE, Int.reduceGT, Int.reduceGE, Int.reduceEq, ↓reduceIte, reduceCtorEq] <;> rfl) (fun h => by cases h) (fun _ => ?_)
      simp only [go_sem, Nat.reduceEqDiff, Nat.reduceAdd, Nat.reduceMul, Nat.reduceSub, Nat.reduceLeDiff, Int.reduceBEq, Int.reduceBNe, Int.reduceLT, Int.reduceLE, Int.reduceGT, Int.reduceGE, Int.reduceEq, ↓reduceIte, reduceCtorEq]
      exact tail _ j (by simp only [go_sem, Nat.reduceEqDiff, Nat.reduceAdd, Nat.reduceMul, Nat.reduceSub, Nat.reduceLeDiff, Int.reduceBEq, Int.reduceBNe, Int.reduceLT, Int.reduceLE, Int.reduceGT, Int.reduceGE, Int.reduceEq, ↓reduceIte, reduceCtorEq]) (by simp only [go_sem, Nat.reduceEqDiff, Nat.reduceAdd, Nat.reduceMul, Nat.reduceSub, Nat.reduceLeDiff, Int.reduceBEq, Int.reduceBNe, Int.reduceLT, Int.reduceLE, Int.reduceGT, Int.reduceGE, Int.reduceEq, ↓reduceIte, reduceCtorEq]) (by simp only [go_sem, Nat.reduceEqDiff, Nat.reduceAdd, Nat.reduceMul, Nat.reduceSub, Nat.reduceLeDiff, Int.reduceBEq, Int.reduceBNe, Int.reduceLT, Int.reduceLE, Int.reduceGT, Int.reduceGE, Int.reduceEq, ↓reduceIte, reduceCtorEq]) (by simp only [go_sem, Nat.reduceEqDiff, Nat.reduceAdd, Nat.reduceMul, Nat.reduceSub, Nat.reduceLeDiff, Int.reduceBEq, Int.reduceBNe, Int.reduceLT, Int.reduceLE, Int.reduceGT, Int.reduceGE, Int.reduceEq, ↓reduceIte, reduceCtorEq]) (by simp) (.inl ⟨j, f, rfl, hf, hfs⟩)
    · rw [grow_exists hns hoff ⟨rfl, by rw [hx]; rfl⟩] at hQ
      simp only [go_sem, Nat.reduceEqDiff, Nat.reduceAdd, Nat.reduceMul, Nat.reduceSub, Nat.reduceLeDiff, Int.reduceBEq, Int.reduceBNe, Int.reduceLT, Int.reduceLE, Int.reduceGT, Int.reduceGE, Int.reduceEq, ↓reduceIte, reduceCtorEq, hge]
      refine wc_ite (b := true) (by simp only [go_sem, Nat.reduceEqDiff, Nat.reduceAdd, Nat.reduceMul, Nat.reduceSub, Nat.reduceLeDiff, Int.reduceBEq, Int.reduceBNe, Int.reduceLT, Int.reduceLE, Int.reduceGT, Int.reduceGE, Int.reduceEq, ↓reduceIte, reduceCtorEq] <;> rfl) (fun _ => ?_) (fun h => by cases h)
      simp only [go_sem, Nat.reduceEqDiff, Nat.reduceAdd, Nat.reduceMul, Nat.reduceSub, Nat.reduceLeDiff, Int.reduceBEq, Int.reduceBNe, Int.reduceLT, Int.reduceLE, Int.reduceGT, Int.reduceGE, Int.reduceEq, ↓reduceIte, reduceCtorEq]
      exact hQ S o R (RAfter.refl h) a
  · have hx : findF s D.files = none := by
      rcases a.find hn s with ⟨j, f, hf, hs, _, hx⟩ | ⟨_, hx⟩
      · exact absurd hs (hno f (List.mem_of_getElem? hf))
      · exact hx
    cases fresh
    · simp only [go_sem, Nat.reduceEqDiff, Nat.reduceAdd, Nat.reduceMul, Nat.reduceSub, Nat.reduceLeDiff, Int.reduceBEq, Int.reduceBNe, Int.reduceLT, Int.reduceLE, Int.reduceGT, Int.reduceGE, Int.reduceEq, ↓reduceIte, reduceCtorEq]
      refine wc_ite (b := false) (by simp only [go_sem, Nat.reduceEqDiff, Nat.reduceAdd, Nat.reduceMul, Nat.reduceSub, Nat.reduceLeDiff, Int.reduceBEq, Int.reduceBNe, Int.reduceLT, Int.reduceLE, Int.reduceGT, Int.reduceGE, Int.reduceEq, ↓reduceIte, reduceCtorEq] <;> rfl) (fun h => by cases h) (fun _ => ?_)
      simp only [go_sem, Nat.reduceEqDiff, Nat.reduceAdd, Nat.reduceMul, Nat.reduceSub, Nat.reduceLeDiff, Int.reduceBEq, Int.reduceBNe, Int.reduceLT, Int.reduceLE, Int.reduceGT, Int.reduceGE, Int.reduceEq, ↓reduceIte, reduceCtorEq]
      exact tail _ (-1) (by simp only [go_sem, Nat.reduceEqDiff, Nat.reduceAdd, Nat.reduceMul, Nat.reduceSub, Nat.reduceLeDiff, Int.reduceBEq, Int.reduceBNe, Int.reduceLT, Int.reduceLE, Int.reduceGT, Int.reduceGE, Int.reduceEq, ↓reduceIte, reduceCtorEq]) (by simp only [go_sem, Nat.reduceEqDiff, Nat.reduceAdd, Nat.reduceMul, Nat.reduceSub, Nat.reduceLeDiff, Int.reduceBEq, Int.reduceBNe, Int.reduceLT, Int.reduceLE, Int.reduceGT, Int.reduceGE, Int.reduceEq, ↓reduceIte, reduceCtorEq]) (by simp only [go_sem, Nat.reduceEqDiff, Nat.reduceAdd, Nat.reduceMul, Nat.reduceSub, Nat.reduceLeDiff, Int.reduceBEq, Int.reduceBNe, Int.reduceLT, Int.reduceLE, Int.reduceGT, Int.reduceGE, Int.reduceEq, ↓reduceIte, reduceCtorEq]) (by simp only [go_sem, Nat.reduceEqDiff, Nat.reduceAdd, Nat.reduceMul, Nat.reduceSub, Nat.reduceLeDiff, Int.reduceBEq, Int.reduceBNe, Int.reduceLT, Int.reduceLE, Int.reduceGT, Int.reduceGE, Int.reduceEq, ↓reduceIte, reduceCtorEq]) (by rw [hx]; simp) (.inr ⟨rfl, hno⟩)
    · simp only [go_sem, Nat.reduceEqDiff, Nat.reduceAdd, Nat.reduceMul, Nat.reduceSub, Nat.reduceLeDiff, Int.reduceBEq, Int.reduceBNe, Int.reduceLT, Int.reduceLE, Int.reduceGT, Int.reduceGE, Int.reduceEq, ↓reduceIte, reduceCtorEq]
      refine wc_ite (b := false) (by simp only [go_sem, Nat.reduceEqDiff, Nat.reduceAdd, Nat.reduceMul, Nat.reduceSub, Nat.reduceLeDiff, Int.reduceBEq, Int.reduceBNe, Int.reduceLT, Int.reduceLE, Int.reduceGT, Int.reduceGE, Int.reduceEq, ↓reduceIte, reduceCtorEq] <;> rfl) (fun h => by cases h) (fun _ => ?_)
      simp only [go_sem, Nat.reduceEqDiff, Nat.reduceAdd, Nat.reduceMul, Nat.reduceSub, Nat.reduceLeDiff, Int.reduceBEq, Int.reduceBNe, Int.reduceLT, Int.reduceLE, Int.reduceGT, Int.reduceGE, Int.reduceEq, ↓reduceIte, reduceCtorEq]
      exact tail _ (-1) (by simp only [go_sem, Nat.reduceEqDiff, Nat.reduceAdd, Nat.reduceMul, Nat.reduceSub, Nat.reduceLeDiff, Int.reduceBEq, Int.reduceBNe, Int.reduceLT, Int.reduceLE, Int.reduceGT, Int.reduceGE, Int.reduceEq, ↓reduceIte, reduceCtorEq]) (by simp only [go_sem, Nat.reduceEqDiff, Nat.reduceAdd, Nat.reduceMul, Nat.reduceSub, Nat.reduceLeDiff, Int.reduceBEq, Int.reduceBNe, Int.reduceLT, Int.reduceLE, Int.reduceGT, Int.reduceGE, Int.reduceEq, ↓reduceIte, reduceCtorEq]) (by simp only [go_sem, Nat.reduceEqDiff, Nat.reduceAdd, Nat.reduceMul, Nat.reduceSub, Nat.reduceLeDiff, Int.reduceBEq, Int.reduceBNe, Int.reduceLT, Int.reduceLE, Int.reduceGT, Int.reduceGE, Int.reduceEq, ↓reduceIte, reduceCtorEq]) (by simp only [go_sem, Nat.reduceEqDiff, Nat.reduceAdd, Nat.reduceMul, Nat.reduceSub, Nat.reduceLeDiff, Int.reduceBEq, Int.reduceBNe, Int.reduceLT, Int.reduceLE, Int.reduceGT, Int.reduceGE, Int.reduceEq, ↓reduceIte, reduceCtorEq]) (by rw [hx]; simp) (.inr ⟨rfl, hno⟩)
end Go.VM
